/- Arguments that are structs and arrays of numbers and bools, taken apart. No condition. -/
import Derived.Test.YtgefcejolfikoabRows
import Derived.WalkKit
import Derived.ProofKit
import Derived.OpenShut
namespace Go.Proofs.Ytgefcejolfikoab
open Go.ChangeShapes Go.WideShapes Go.ChangeAt Go.RowKit
set_option linter.unusedVariables false
set_option linter.unusedSimpArgs false

theorem okWide_row {P : Program} {w : World} {r : Reach} {base : Nat} {t e : TypeId} {n : Nat} {v : Value} (ht : P.underlying t = some (.array n e)) (h : Value.okWide P w r base t v) : ∃ cs, v = .agg cs ∧ cs.size = P.cellsOf t := by
  simp only [Value.okWide, ht] at h
  exact ⟨h.choose, h.choose_spec.1, h.choose_spec.2.1⟩
theorem cells_3 : Try.prog.cellsOf 3 = 1 := by kernel_rfl
theorem cells_39 : Try.prog.cellsOf 39 = 3 := by kernel_rfl
theorem cells_41 : Try.prog.cellsOf 41 = 2 := by kernel_rfl
theorem open39 {H : Type} {enc : TypeId × Value → H} {base : Nat} {W : World} {v : Value} {d : DataW H} {p : List MemPlace} (o : Value.okWide Try.prog W .any base 39 v) (h : DataW.Trod enc Try.prog W 0 (fun _ => true) true 39 v d p) :
    ∃ (a0 : Int) (a1 : Int) (a2 : Int), v = .agg #[.int .i64 a0, .int .i64 a1, .int .i64 a2] ∧ (Lit.int .i64 a0).wf = true ∧ (Lit.int .i64 a1).wf = true ∧ (Lit.int .i64 a2).wf = true := by
  obtain ⟨cs, rfl, hs⟩ := okWide_struct Try.underlying39 o
  rw [cells_39] at hs
  obtain ⟨l⟩ := cs
  match l, hs with
  | [c0, c1, c2], _ =>
    obtain ⟨fuel, hf⟩ := h
    simp only [Value.cells] at hf
    obtain ⟨xs0, n0, _, _, _, l0, g0⟩ := DataW.trod_struct Try.underlying39 hf
    obtain ⟨y0_0, hy0_0⟩ : ∃ y, xs0[0]? = some y := ⟨_, List.getElem?_eq_getElem (by simp [l0])⟩
    have f0_0 := g0 0 _ rfl
    rw [hy0_0] at f0_0
    simp [cells_3, cells_39, cells_41] at f0_0
    obtain ⟨a0, e0, _, w0⟩ := DataW.trod_int Try.underlying3 f0_0
    simp at e0
    subst e0
    obtain ⟨y0_1, hy0_1⟩ : ∃ y, xs0[1]? = some y := ⟨_, List.getElem?_eq_getElem (by simp [l0])⟩
    have f0_1 := g0 1 _ rfl
    rw [hy0_1] at f0_1
    simp [cells_3, cells_39, cells_41] at f0_1
    obtain ⟨a1, e1, _, w1⟩ := DataW.trod_int Try.underlying3 f0_1
    simp at e1
    subst e1
    obtain ⟨y0_2, hy0_2⟩ : ∃ y, xs0[2]? = some y := ⟨_, List.getElem?_eq_getElem (by simp [l0])⟩
    have f0_2 := g0 2 _ rfl
    rw [hy0_2] at f0_2
    simp [cells_3, cells_39, cells_41] at f0_2
    obtain ⟨a2, e2, _, w2⟩ := DataW.trod_int Try.underlying3 f0_2
    simp at e2
    subst e2
    exact ⟨_, _, _, rfl, w0, w1, w2⟩
theorem open41 {H : Type} {enc : TypeId × Value → H} {base : Nat} {W : World} {v : Value} {d : DataW H} {p : List MemPlace} (o : Value.okWide Try.prog W .any base 41 v) (h : DataW.Trod enc Try.prog W 0 (fun _ => true) true 41 v d p) :
    ∃ (a0 : Int) (a1 : Int), v = .agg #[.int .i64 a0, .int .i64 a1] ∧ (Lit.int .i64 a0).wf = true ∧ (Lit.int .i64 a1).wf = true := by
  obtain ⟨cs, rfl, hs⟩ := okWide_struct Try.underlying41 o
  rw [cells_41] at hs
  obtain ⟨l⟩ := cs
  match l, hs with
  | [c0, c1], _ =>
    obtain ⟨fuel, hf⟩ := h
    simp only [Value.cells] at hf
    obtain ⟨xs0, n0, _, _, _, l0, g0⟩ := DataW.trod_struct Try.underlying41 hf
    obtain ⟨y0_0, hy0_0⟩ : ∃ y, xs0[0]? = some y := ⟨_, List.getElem?_eq_getElem (by simp [l0])⟩
    have f0_0 := g0 0 _ rfl
    rw [hy0_0] at f0_0
    simp [cells_3, cells_39, cells_41] at f0_0
    obtain ⟨a0, e0, _, w0⟩ := DataW.trod_int Try.underlying3 f0_0
    simp at e0
    subst e0
    obtain ⟨y0_1, hy0_1⟩ : ∃ y, xs0[1]? = some y := ⟨_, List.getElem?_eq_getElem (by simp [l0])⟩
    have f0_1 := g0 1 _ rfl
    rw [hy0_1] at f0_1
    simp [cells_3, cells_39, cells_41] at f0_1
    obtain ⟨a1, e1, _, w1⟩ := DataW.trod_int Try.underlying3 f0_1
    simp at e1
    subst e1
    exact ⟨_, _, rfl, w0, w1⟩
end Go.Proofs.Ytgefcejolfikoab
