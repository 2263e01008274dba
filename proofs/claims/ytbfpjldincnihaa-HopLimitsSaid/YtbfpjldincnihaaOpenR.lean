/- Arguments that are rows of three bytes, taken apart. No condition. -/
import Derived.Test.YtbfpjldincnihaaOpenM
import Derived.Test.YtbfpjldincnihaaLawsI
namespace Go.Proofs.Ytbfpjldincnihaa
open Go.ChangeShapes Go.WideShapes Go.ChangeAt Go.RowKit Go.Deep
set_option linter.unusedVariables false
set_option linter.unusedSimpArgs false

theorem okWide_row {P : Program} {w : World} {r : Reach} {base : Nat} {t e : TypeId} {n : Nat} {v : Value} (ht : P.underlying t = some (.array n e)) (h : Value.okWide P w r base t v) : ∃ cs, v = .agg cs ∧ cs.size = P.cellsOf t := by
  simp only [Value.okWide, ht] at h
  exact ⟨h.choose, h.choose_spec.1, h.choose_spec.2.1⟩
theorem cells_51 : Try.prog.cellsOf 51 = 3 := by kernel_rfl
theorem open51 {H : Type} {enc : TypeId × Value → H} {base : Nat} {W : World} {v : Value} {d : DataW H} {p : List MemPlace} (o : Value.okWide Try.prog W .any base 51 v) (h : DataW.Trod enc Try.prog W 0 (fun _ => true) true 51 v d p) :
    ∃ (a0 : Int) (a1 : Int) (a2 : Int), v = .agg #[.int .u8 a0, .int .u8 a1, .int .u8 a2] ∧ (Lit.int .u8 a0).wf = true ∧ (Lit.int .u8 a1).wf = true ∧ (Lit.int .u8 a2).wf = true := by
  obtain ⟨cs, rfl, hs⟩ := okWide_row Try.underlying51 o
  rw [cells_51] at hs
  obtain ⟨l⟩ := cs
  match l, hs with
  | [c0, c1, c2], _ =>
    obtain ⟨fuel, hf⟩ := h
    simp only [Value.cells] at hf
    obtain ⟨xs0, n0, _, _, _, l0, g0⟩ := DataW.trod_array Try.underlying51 hf
    obtain ⟨y0_0, hy0_0⟩ : ∃ y, xs0[0]? = some y := ⟨_, List.getElem?_eq_getElem (by simp [l0])⟩
    have f0_0 := g0 0 (by omega)
    rw [hy0_0] at f0_0
    simp [cells_5, cells_51] at f0_0
    obtain ⟨a0, e0, _, w0⟩ := DataW.trod_int Try.underlying5 f0_0
    simp at e0
    subst e0
    obtain ⟨y0_1, hy0_1⟩ : ∃ y, xs0[1]? = some y := ⟨_, List.getElem?_eq_getElem (by simp [l0])⟩
    have f0_1 := g0 1 (by omega)
    rw [hy0_1] at f0_1
    simp [cells_5, cells_51] at f0_1
    obtain ⟨a1, e1, _, w1⟩ := DataW.trod_int Try.underlying5 f0_1
    simp at e1
    subst e1
    obtain ⟨y0_2, hy0_2⟩ : ∃ y, xs0[2]? = some y := ⟨_, List.getElem?_eq_getElem (by simp [l0])⟩
    have f0_2 := g0 2 (by omega)
    rw [hy0_2] at f0_2
    simp [cells_5, cells_51] at f0_2
    obtain ⟨a2, e2, _, w2⟩ := DataW.trod_int Try.underlying5 f0_2
    simp at e2
    subst e2
    exact ⟨_, _, _, rfl, w0, w1, w2⟩
end Go.Proofs.Ytbfpjldincnihaa
