/- Arguments that are rows of bytes and of slices of bytes, taken apart. No condition. -/
import Derived.Test.YtnieoaadhbcjiaaOpen
namespace Go.Proofs.Ytnieoaadhbcjiaa
open Go.ChangeShapes Go.WideShapes Go.ChangeAt Go.RowKit Go.Deep
set_option linter.unusedVariables false
set_option linter.unusedSimpArgs false

theorem okWide_row {P : Program} {w : World} {r : Reach} {base : Nat} {t e : TypeId} {n : Nat} {v : Value} (ht : P.underlying t = some (.array n e)) (h : Value.okWide P w r base t v) : ∃ cs, v = .agg cs ∧ cs.size = P.cellsOf t := by
  simp only [Value.okWide, ht] at h
  exact ⟨h.choose, h.choose_spec.1, h.choose_spec.2.1⟩
theorem open_bytes1 {H : Type} {enc : TypeId × Value → H} {fuel : Nat} {W : World} {c : Value} {x : DataW H × List MemPlace} (hf : DataW.trod enc Try.prog W 0 (fun _ => true) true fuel 23 [c] = some x) : ∃ l, IsB W c l := by
  have h : ∃ a len cap, c = .slice a len cap := by
    rcases open_slice1 Try.underlying23 cells_5 hf with ⟨h1, _⟩ | ⟨a', len', cap', m, n, V, D, Pl, h1, _⟩
    · simp only [List.cons.injEq, and_true] at h1
      exact ⟨_, _, _, h1⟩
    · simp only [List.cons.injEq, and_true] at h1
      exact ⟨_, _, _, h1⟩
  obtain ⟨a, len, cap, rfl⟩ := h
  exact open_bytes hf
theorem cells_23 : Try.prog.cellsOf 23 = 1 := by kernel_rfl
theorem cells_71 : Try.prog.cellsOf 71 = 2 := by kernel_rfl
theorem open71 {H : Type} {enc : TypeId × Value → H} {base : Nat} {W : World} {v : Value} {d : DataW H} {p : List MemPlace} (o : Value.okWide Try.prog W .any base 71 v) (h : DataW.Trod enc Try.prog W 0 (fun _ => true) true 71 v d p) :
    ∃ u1 u2 l1 l2, v = .agg #[u1, u2] ∧ IsB W u1 l1 ∧ IsB W u2 l2 := by
  obtain ⟨cs, rfl, hs⟩ := okWide_row Try.underlying71 o
  rw [cells_71] at hs
  obtain ⟨l⟩ := cs
  match l, hs with
  | [c0, c1], _ =>
    obtain ⟨fuel, hf⟩ := h
    simp only [Value.cells] at hf
    obtain ⟨xs0, n0, _, _, _, l0, g0⟩ := DataW.trod_array Try.underlying71 hf
    obtain ⟨y0, hy0⟩ : ∃ y, xs0[0]? = some y := ⟨_, List.getElem?_eq_getElem (by simp [l0])⟩
    obtain ⟨y1, hy1⟩ : ∃ y, xs0[1]? = some y := ⟨_, List.getElem?_eq_getElem (by simp [l0])⟩
    have f0 := g0 0 (by omega)
    have f1 := g0 1 (by omega)
    rw [hy0] at f0
    rw [hy1] at f1
    simp [cells_23] at f0 f1
    obtain ⟨l1, h1⟩ := open_bytes1 f0
    obtain ⟨l2, h2⟩ := open_bytes1 f1
    exact ⟨_, _, _, _, rfl, h1, h2⟩

theorem cells_73 : Try.prog.cellsOf 73 = 4 := by kernel_rfl
theorem open73 {H : Type} {enc : TypeId × Value → H} {base : Nat} {W : World} {v : Value} {d : DataW H} {p : List MemPlace} (o : Value.okWide Try.prog W .any base 73 v) (h : DataW.Trod enc Try.prog W 0 (fun _ => true) true 73 v d p) :
    ∃ (a0 : Int) (a1 : Int) (a2 : Int) (a3 : Int), v = .agg #[.int .u8 a0, .int .u8 a1, .int .u8 a2, .int .u8 a3] ∧ (Lit.int .u8 a0).wf = true ∧ (Lit.int .u8 a1).wf = true ∧ (Lit.int .u8 a2).wf = true ∧ (Lit.int .u8 a3).wf = true := by
  obtain ⟨cs, rfl, hs⟩ := okWide_row Try.underlying73 o
  rw [cells_73] at hs
  obtain ⟨l⟩ := cs
  match l, hs with
  | [c0, c1, c2, c3], _ =>
    obtain ⟨fuel, hf⟩ := h
    simp only [Value.cells] at hf
    obtain ⟨xs0, n0, _, _, _, l0, g0⟩ := DataW.trod_array Try.underlying73 hf
    obtain ⟨y0_0, hy0_0⟩ : ∃ y, xs0[0]? = some y := ⟨_, List.getElem?_eq_getElem (by simp [l0])⟩
    have f0_0 := g0 0 (by omega)
    rw [hy0_0] at f0_0
    simp [cells_5, cells_73] at f0_0
    obtain ⟨a0, e0, _, w0⟩ := DataW.trod_int Try.underlying5 f0_0
    simp at e0
    subst e0
    obtain ⟨y0_1, hy0_1⟩ : ∃ y, xs0[1]? = some y := ⟨_, List.getElem?_eq_getElem (by simp [l0])⟩
    have f0_1 := g0 1 (by omega)
    rw [hy0_1] at f0_1
    simp [cells_5, cells_73] at f0_1
    obtain ⟨a1, e1, _, w1⟩ := DataW.trod_int Try.underlying5 f0_1
    simp at e1
    subst e1
    obtain ⟨y0_2, hy0_2⟩ : ∃ y, xs0[2]? = some y := ⟨_, List.getElem?_eq_getElem (by simp [l0])⟩
    have f0_2 := g0 2 (by omega)
    rw [hy0_2] at f0_2
    simp [cells_5, cells_73] at f0_2
    obtain ⟨a2, e2, _, w2⟩ := DataW.trod_int Try.underlying5 f0_2
    simp at e2
    subst e2
    obtain ⟨y0_3, hy0_3⟩ : ∃ y, xs0[3]? = some y := ⟨_, List.getElem?_eq_getElem (by simp [l0])⟩
    have f0_3 := g0 3 (by omega)
    rw [hy0_3] at f0_3
    simp [cells_5, cells_73] at f0_3
    obtain ⟨a3, e3, _, w3⟩ := DataW.trod_int Try.underlying5 f0_3
    simp at e3
    subst e3
    exact ⟨_, _, _, _, rfl, w0, w1, w2, w3⟩
end Go.Proofs.Ytnieoaadhbcjiaa
