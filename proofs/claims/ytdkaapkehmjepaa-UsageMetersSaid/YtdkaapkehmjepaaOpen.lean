/- An argument that is an entry, taken apart. No condition. -/
import Derived.Test.YtdkaapkehmjepaaRows
import Derived.WalkKit
import Derived.ProofKit
import Derived.OpenShut
namespace Go.Proofs.Ytdkaapkehmjepaa
open Go.ChangeShapes Go.WideShapes Go.ChangeAt Go.RowKit
set_option linter.unusedVariables false
set_option linter.unusedSimpArgs false

theorem wf64 {n : Int} (h : (Lit.int .i64 n).wf = true) : -9223372036854775808 ≤ n ∧ n ≤ 9223372036854775807 := by
  simp [Lit.wf] at h
  have e1 : IntKind.i64.min = -9223372036854775808 := by decide
  have e2 : IntKind.i64.max = 9223372036854775807 := by decide
  omega
theorem cells_3 : Try.prog.cellsOf 3 = 1 := by kernel_rfl
theorem cells_9 : Try.prog.cellsOf 9 = 1 := by kernel_rfl
theorem cells_23 : Try.prog.cellsOf 23 = 7 := by kernel_rfl
theorem open23 {H : Type} {enc : TypeId × Value → H} {base : Nat} {W : World} {v : Value} {d : DataW H} {p : List MemPlace} (o : Value.okWide Try.prog W .any base 23 v) (h : DataW.Trod enc Try.prog W 0 (fun _ => true) true 23 v d p) :
    ∃ (a0 : ByteArray) (a1 : Int) (a2 : Int) (a3 : Int) (a4 : Int) (a5 : Int) (a6 : Int), v = .agg #[.string a0, .int .i64 a1, .int .i64 a2, .int .i64 a3, .int .i64 a4, .int .i64 a5, .int .i64 a6] ∧ a0.size ≤ maxLen ∧ (Lit.int .i64 a1).wf = true ∧ (Lit.int .i64 a2).wf = true ∧ (Lit.int .i64 a3).wf = true ∧ (Lit.int .i64 a4).wf = true ∧ (Lit.int .i64 a5).wf = true ∧ (Lit.int .i64 a6).wf = true := by
  obtain ⟨cs, rfl, hs⟩ := okWide_struct Try.underlying23 o
  rw [cells_23] at hs
  obtain ⟨l⟩ := cs
  match l, hs with
  | [c0, c1, c2, c3, c4, c5, c6], _ =>
    obtain ⟨fuel, hf⟩ := h
    simp only [Value.cells] at hf
    obtain ⟨xs0, n0, _, _, _, l0, g0⟩ := DataW.trod_struct Try.underlying23 hf
    obtain ⟨y0_0, hy0_0⟩ : ∃ y, xs0[0]? = some y := ⟨_, List.getElem?_eq_getElem (by simp [l0])⟩
    have f0_0 := g0 0 _ rfl
    rw [hy0_0] at f0_0
    simp [cells_3, cells_9, cells_23] at f0_0
    obtain ⟨a0, e0, _, w0⟩ := DataW.trod_string Try.underlying9 f0_0
    simp at e0
    subst e0
    obtain ⟨y0_1, hy0_1⟩ : ∃ y, xs0[1]? = some y := ⟨_, List.getElem?_eq_getElem (by simp [l0])⟩
    have f0_1 := g0 1 _ rfl
    rw [hy0_1] at f0_1
    simp [cells_3, cells_9, cells_23] at f0_1
    obtain ⟨a1, e1, _, w1⟩ := DataW.trod_int Try.underlying3 f0_1
    simp at e1
    subst e1
    obtain ⟨y0_2, hy0_2⟩ : ∃ y, xs0[2]? = some y := ⟨_, List.getElem?_eq_getElem (by simp [l0])⟩
    have f0_2 := g0 2 _ rfl
    rw [hy0_2] at f0_2
    simp [cells_3, cells_9, cells_23] at f0_2
    obtain ⟨a2, e2, _, w2⟩ := DataW.trod_int Try.underlying3 f0_2
    simp at e2
    subst e2
    obtain ⟨y0_3, hy0_3⟩ : ∃ y, xs0[3]? = some y := ⟨_, List.getElem?_eq_getElem (by simp [l0])⟩
    have f0_3 := g0 3 _ rfl
    rw [hy0_3] at f0_3
    simp [cells_3, cells_9, cells_23] at f0_3
    obtain ⟨a3, e3, _, w3⟩ := DataW.trod_int Try.underlying3 f0_3
    simp at e3
    subst e3
    obtain ⟨y0_4, hy0_4⟩ : ∃ y, xs0[4]? = some y := ⟨_, List.getElem?_eq_getElem (by simp [l0])⟩
    have f0_4 := g0 4 _ rfl
    rw [hy0_4] at f0_4
    simp [cells_3, cells_9, cells_23] at f0_4
    obtain ⟨a4, e4, _, w4⟩ := DataW.trod_int Try.underlying3 f0_4
    simp at e4
    subst e4
    obtain ⟨y0_5, hy0_5⟩ : ∃ y, xs0[5]? = some y := ⟨_, List.getElem?_eq_getElem (by simp [l0])⟩
    have f0_5 := g0 5 _ rfl
    rw [hy0_5] at f0_5
    simp [cells_3, cells_9, cells_23] at f0_5
    obtain ⟨a5, e5, _, w5⟩ := DataW.trod_int Try.underlying3 f0_5
    simp at e5
    subst e5
    obtain ⟨y0_6, hy0_6⟩ : ∃ y, xs0[6]? = some y := ⟨_, List.getElem?_eq_getElem (by simp [l0])⟩
    have f0_6 := g0 6 _ rfl
    rw [hy0_6] at f0_6
    simp [cells_3, cells_9, cells_23] at f0_6
    obtain ⟨a6, e6, _, w6⟩ := DataW.trod_int Try.underlying3 f0_6
    simp at e6
    subst e6
    exact ⟨_, _, _, _, _, _, _, rfl, w0, w1, w2, w3, w4, w5, w6⟩
end Go.Proofs.Ytdkaapkehmjepaa
