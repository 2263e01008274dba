/- Arguments that are structs and arrays of numbers and bools, taken apart. No condition. -/
import Derived.Test.YtgefcejolfikoaaRows
import Derived.WalkKit
import Derived.ProofKit
import Derived.OpenShut
namespace Go.Proofs.Ytgefcejolfikoaa
open Go.ChangeShapes Go.WideShapes Go.ChangeAt Go.RowKit
set_option linter.unusedVariables false
set_option linter.unusedSimpArgs false

theorem okWide_row {P : Program} {w : World} {r : Reach} {base : Nat} {t e : TypeId} {n : Nat} {v : Value} (ht : P.underlying t = some (.array n e)) (h : Value.okWide P w r base t v) : ∃ cs, v = .agg cs ∧ cs.size = P.cellsOf t := by
  simp only [Value.okWide, ht] at h
  exact ⟨h.choose, h.choose_spec.1, h.choose_spec.2.1⟩
theorem cells_3 : Try.prog.cellsOf 3 = 1 := by kernel_rfl
theorem cells_4 : Try.prog.cellsOf 4 = 1 := by kernel_rfl
theorem cells_5 : Try.prog.cellsOf 5 = 1 := by kernel_rfl
theorem cells_28 : Try.prog.cellsOf 28 = 2 := by kernel_rfl
theorem cells_31 : Try.prog.cellsOf 31 = 3 := by kernel_rfl
theorem cells_43 : Try.prog.cellsOf 43 = 1 := by kernel_rfl
theorem cells_44 : Try.prog.cellsOf 44 = 2 := by kernel_rfl
theorem cells_47 : Try.prog.cellsOf 47 = 2 := by kernel_rfl
theorem cells_48 : Try.prog.cellsOf 48 = 2 := by kernel_rfl
theorem cells_50 : Try.prog.cellsOf 50 = 5 := by kernel_rfl
theorem cells_54 : Try.prog.cellsOf 54 = 3 := by kernel_rfl
theorem cells_56 : Try.prog.cellsOf 56 = 2 := by kernel_rfl
theorem cells_66 : Try.prog.cellsOf 66 = 5 := by kernel_rfl
theorem open28 {H : Type} {enc : TypeId × Value → H} {base : Nat} {W : World} {v : Value} {d : DataW H} {p : List MemPlace} (o : Value.okWide Try.prog W .any base 28 v) (h : DataW.Trod enc Try.prog W 0 (fun _ => true) true 28 v d p) :
    ∃ (a0 : Int) (a1 : Int), v = .agg #[.int .i64 a0, .int .i64 a1] ∧ (Lit.int .i64 a0).wf = true ∧ (Lit.int .i64 a1).wf = true := by
  obtain ⟨cs, rfl, hs⟩ := okWide_row Try.underlying28 o
  rw [cells_28] at hs
  obtain ⟨l⟩ := cs
  match l, hs with
  | [c0, c1], _ =>
    obtain ⟨fuel, hf⟩ := h
    simp only [Value.cells] at hf
    obtain ⟨xs0, n0, _, _, _, l0, g0⟩ := DataW.trod_array Try.underlying28 hf
    obtain ⟨y0_0, hy0_0⟩ : ∃ y, xs0[0]? = some y := ⟨_, List.getElem?_eq_getElem (by simp [l0])⟩
    have f0_0 := g0 0 (by omega)
    rw [hy0_0] at f0_0
    simp [cells_3, cells_4, cells_5, cells_28, cells_31, cells_43, cells_44, cells_47, cells_48, cells_50, cells_54, cells_56, cells_66] at f0_0
    obtain ⟨a0, e0, _, w0⟩ := DataW.trod_int Try.underlying3 f0_0
    simp at e0
    subst e0
    obtain ⟨y0_1, hy0_1⟩ : ∃ y, xs0[1]? = some y := ⟨_, List.getElem?_eq_getElem (by simp [l0])⟩
    have f0_1 := g0 1 (by omega)
    rw [hy0_1] at f0_1
    simp [cells_3, cells_4, cells_5, cells_28, cells_31, cells_43, cells_44, cells_47, cells_48, cells_50, cells_54, cells_56, cells_66] at f0_1
    obtain ⟨a1, e1, _, w1⟩ := DataW.trod_int Try.underlying3 f0_1
    simp at e1
    subst e1
    exact ⟨_, _, rfl, w0, w1⟩
theorem open31 {H : Type} {enc : TypeId × Value → H} {base : Nat} {W : World} {v : Value} {d : DataW H} {p : List MemPlace} (o : Value.okWide Try.prog W .any base 31 v) (h : DataW.Trod enc Try.prog W 0 (fun _ => true) true 31 v d p) :
    ∃ (a0 : Int) (a1 : Int) (a2 : Int), v = .agg #[.int .i64 a0, .int .i64 a1, .int .i64 a2] ∧ (Lit.int .i64 a0).wf = true ∧ (Lit.int .i64 a1).wf = true ∧ (Lit.int .i64 a2).wf = true := by
  obtain ⟨cs, rfl, hs⟩ := okWide_struct Try.underlying31 o
  rw [cells_31] at hs
  obtain ⟨l⟩ := cs
  match l, hs with
  | [c0, c1, c2], _ =>
    obtain ⟨fuel, hf⟩ := h
    simp only [Value.cells] at hf
    obtain ⟨xs0, n0, _, _, _, l0, g0⟩ := DataW.trod_struct Try.underlying31 hf
    obtain ⟨y0_0, hy0_0⟩ : ∃ y, xs0[0]? = some y := ⟨_, List.getElem?_eq_getElem (by simp [l0])⟩
    have f0_0 := g0 0 _ rfl
    rw [hy0_0] at f0_0
    simp [cells_3, cells_4, cells_5, cells_28, cells_31, cells_43, cells_44, cells_47, cells_48, cells_50, cells_54, cells_56, cells_66] at f0_0
    obtain ⟨a0, e0, _, w0⟩ := DataW.trod_int Try.underlying3 f0_0
    simp at e0
    subst e0
    obtain ⟨y0_1, hy0_1⟩ : ∃ y, xs0[1]? = some y := ⟨_, List.getElem?_eq_getElem (by simp [l0])⟩
    have f0_1 := g0 1 _ rfl
    rw [hy0_1] at f0_1
    simp [cells_3, cells_4, cells_5, cells_28, cells_31, cells_43, cells_44, cells_47, cells_48, cells_50, cells_54, cells_56, cells_66] at f0_1
    obtain ⟨a1, e1, _, w1⟩ := DataW.trod_int Try.underlying3 f0_1
    simp at e1
    subst e1
    obtain ⟨y0_2, hy0_2⟩ : ∃ y, xs0[2]? = some y := ⟨_, List.getElem?_eq_getElem (by simp [l0])⟩
    have f0_2 := g0 2 _ rfl
    rw [hy0_2] at f0_2
    simp [cells_3, cells_4, cells_5, cells_28, cells_31, cells_43, cells_44, cells_47, cells_48, cells_50, cells_54, cells_56, cells_66] at f0_2
    obtain ⟨a2, e2, _, w2⟩ := DataW.trod_int Try.underlying3 f0_2
    simp at e2
    subst e2
    exact ⟨_, _, _, rfl, w0, w1, w2⟩
theorem open44 {H : Type} {enc : TypeId × Value → H} {base : Nat} {W : World} {v : Value} {d : DataW H} {p : List MemPlace} (o : Value.okWide Try.prog W .any base 44 v) (h : DataW.Trod enc Try.prog W 0 (fun _ => true) true 44 v d p) :
    ∃ (a0 : Int) (a1 : Int), v = .agg #[.int .u16 a0, .int .u16 a1] ∧ (Lit.int .u16 a0).wf = true ∧ (Lit.int .u16 a1).wf = true := by
  obtain ⟨cs, rfl, hs⟩ := okWide_row Try.underlying44 o
  rw [cells_44] at hs
  obtain ⟨l⟩ := cs
  match l, hs with
  | [c0, c1], _ =>
    obtain ⟨fuel, hf⟩ := h
    simp only [Value.cells] at hf
    obtain ⟨xs0, n0, _, _, _, l0, g0⟩ := DataW.trod_array Try.underlying44 hf
    obtain ⟨y0_0, hy0_0⟩ : ∃ y, xs0[0]? = some y := ⟨_, List.getElem?_eq_getElem (by simp [l0])⟩
    have f0_0 := g0 0 (by omega)
    rw [hy0_0] at f0_0
    simp [cells_3, cells_4, cells_5, cells_28, cells_31, cells_43, cells_44, cells_47, cells_48, cells_50, cells_54, cells_56, cells_66] at f0_0
    obtain ⟨a0, e0, _, w0⟩ := DataW.trod_int Try.underlying43 f0_0
    simp at e0
    subst e0
    obtain ⟨y0_1, hy0_1⟩ : ∃ y, xs0[1]? = some y := ⟨_, List.getElem?_eq_getElem (by simp [l0])⟩
    have f0_1 := g0 1 (by omega)
    rw [hy0_1] at f0_1
    simp [cells_3, cells_4, cells_5, cells_28, cells_31, cells_43, cells_44, cells_47, cells_48, cells_50, cells_54, cells_56, cells_66] at f0_1
    obtain ⟨a1, e1, _, w1⟩ := DataW.trod_int Try.underlying43 f0_1
    simp at e1
    subst e1
    exact ⟨_, _, rfl, w0, w1⟩
theorem open50 {H : Type} {enc : TypeId × Value → H} {base : Nat} {W : World} {v : Value} {d : DataW H} {p : List MemPlace} (o : Value.okWide Try.prog W .any base 50 v) (h : DataW.Trod enc Try.prog W 0 (fun _ => true) true 50 v d p) :
    ∃ (a0 : Int) (a1 : Int) (a2 : Int) (a3 : Bool) (a4 : Bool), v = .agg #[.int .i64 a0, .int .u8 a1, .int .u8 a2, .bool a3, .bool a4] ∧ (Lit.int .i64 a0).wf = true ∧ (Lit.int .u8 a1).wf = true ∧ (Lit.int .u8 a2).wf = true := by
  obtain ⟨cs, rfl, hs⟩ := okWide_struct Try.underlying50 o
  rw [cells_50] at hs
  obtain ⟨l⟩ := cs
  match l, hs with
  | [c0, c1, c2, c3, c4], _ =>
    obtain ⟨fuel, hf⟩ := h
    simp only [Value.cells] at hf
    obtain ⟨xs0, n0, _, _, _, l0, g0⟩ := DataW.trod_struct Try.underlying50 hf
    obtain ⟨y0_0, hy0_0⟩ : ∃ y, xs0[0]? = some y := ⟨_, List.getElem?_eq_getElem (by simp [l0])⟩
    have f0_0 := g0 0 _ rfl
    rw [hy0_0] at f0_0
    simp [cells_3, cells_4, cells_5, cells_28, cells_31, cells_43, cells_44, cells_47, cells_48, cells_50, cells_54, cells_56, cells_66] at f0_0
    obtain ⟨a0, e0, _, w0⟩ := DataW.trod_int Try.underlying3 f0_0
    simp at e0
    subst e0
    obtain ⟨y0_1, hy0_1⟩ : ∃ y, xs0[1]? = some y := ⟨_, List.getElem?_eq_getElem (by simp [l0])⟩
    have f0_1 := g0 1 _ rfl
    rw [hy0_1] at f0_1
    simp [cells_3, cells_4, cells_5, cells_28, cells_31, cells_43, cells_44, cells_47, cells_48, cells_50, cells_54, cells_56, cells_66] at f0_1
    obtain ⟨xs1, n1, _, _, _, l1, g1⟩ := DataW.trod_array Try.underlying47 f0_1
    obtain ⟨y1_0, hy1_0⟩ : ∃ y, xs1[0]? = some y := ⟨_, List.getElem?_eq_getElem (by simp [l1])⟩
    have f1_0 := g1 0 (by omega)
    rw [hy1_0] at f1_0
    simp [cells_3, cells_4, cells_5, cells_28, cells_31, cells_43, cells_44, cells_47, cells_48, cells_50, cells_54, cells_56, cells_66] at f1_0
    obtain ⟨a1, e1, _, w1⟩ := DataW.trod_int Try.underlying5 f1_0
    simp at e1
    subst e1
    obtain ⟨y1_1, hy1_1⟩ : ∃ y, xs1[1]? = some y := ⟨_, List.getElem?_eq_getElem (by simp [l1])⟩
    have f1_1 := g1 1 (by omega)
    rw [hy1_1] at f1_1
    simp [cells_3, cells_4, cells_5, cells_28, cells_31, cells_43, cells_44, cells_47, cells_48, cells_50, cells_54, cells_56, cells_66] at f1_1
    obtain ⟨a2, e2, _, w2⟩ := DataW.trod_int Try.underlying5 f1_1
    simp at e2
    subst e2
    obtain ⟨y0_2, hy0_2⟩ : ∃ y, xs0[2]? = some y := ⟨_, List.getElem?_eq_getElem (by simp [l0])⟩
    have f0_2 := g0 2 _ rfl
    rw [hy0_2] at f0_2
    simp [cells_3, cells_4, cells_5, cells_28, cells_31, cells_43, cells_44, cells_47, cells_48, cells_50, cells_54, cells_56, cells_66] at f0_2
    obtain ⟨xs2, n2, _, _, _, l2, g2⟩ := DataW.trod_array Try.underlying48 f0_2
    obtain ⟨y2_0, hy2_0⟩ : ∃ y, xs2[0]? = some y := ⟨_, List.getElem?_eq_getElem (by simp [l2])⟩
    have f2_0 := g2 0 (by omega)
    rw [hy2_0] at f2_0
    simp [cells_3, cells_4, cells_5, cells_28, cells_31, cells_43, cells_44, cells_47, cells_48, cells_50, cells_54, cells_56, cells_66] at f2_0
    obtain ⟨a3, e3, _⟩ := DataW.trod_bool Try.underlying4 f2_0
    simp at e3
    subst e3
    obtain ⟨y2_1, hy2_1⟩ : ∃ y, xs2[1]? = some y := ⟨_, List.getElem?_eq_getElem (by simp [l2])⟩
    have f2_1 := g2 1 (by omega)
    rw [hy2_1] at f2_1
    simp [cells_3, cells_4, cells_5, cells_28, cells_31, cells_43, cells_44, cells_47, cells_48, cells_50, cells_54, cells_56, cells_66] at f2_1
    obtain ⟨a4, e4, _⟩ := DataW.trod_bool Try.underlying4 f2_1
    simp at e4
    subst e4
    exact ⟨_, _, _, _, _, rfl, w0, w1, w2⟩
theorem open54 {H : Type} {enc : TypeId × Value → H} {base : Nat} {W : World} {v : Value} {d : DataW H} {p : List MemPlace} (o : Value.okWide Try.prog W .any base 54 v) (h : DataW.Trod enc Try.prog W 0 (fun _ => true) true 54 v d p) :
    ∃ (a0 : Int) (a1 : Int) (a2 : Int), v = .agg #[.int .i64 a0, .int .i64 a1, .int .i64 a2] ∧ (Lit.int .i64 a0).wf = true ∧ (Lit.int .i64 a1).wf = true ∧ (Lit.int .i64 a2).wf = true := by
  obtain ⟨cs, rfl, hs⟩ := okWide_struct Try.underlying54 o
  rw [cells_54] at hs
  obtain ⟨l⟩ := cs
  match l, hs with
  | [c0, c1, c2], _ =>
    obtain ⟨fuel, hf⟩ := h
    simp only [Value.cells] at hf
    obtain ⟨xs0, n0, _, _, _, l0, g0⟩ := DataW.trod_struct Try.underlying54 hf
    obtain ⟨y0_0, hy0_0⟩ : ∃ y, xs0[0]? = some y := ⟨_, List.getElem?_eq_getElem (by simp [l0])⟩
    have f0_0 := g0 0 _ rfl
    rw [hy0_0] at f0_0
    simp [cells_3, cells_4, cells_5, cells_28, cells_31, cells_43, cells_44, cells_47, cells_48, cells_50, cells_54, cells_56, cells_66] at f0_0
    obtain ⟨a0, e0, _, w0⟩ := DataW.trod_int Try.underlying3 f0_0
    simp at e0
    subst e0
    obtain ⟨y0_1, hy0_1⟩ : ∃ y, xs0[1]? = some y := ⟨_, List.getElem?_eq_getElem (by simp [l0])⟩
    have f0_1 := g0 1 _ rfl
    rw [hy0_1] at f0_1
    simp [cells_3, cells_4, cells_5, cells_28, cells_31, cells_43, cells_44, cells_47, cells_48, cells_50, cells_54, cells_56, cells_66] at f0_1
    obtain ⟨a1, e1, _, w1⟩ := DataW.trod_int Try.underlying3 f0_1
    simp at e1
    subst e1
    obtain ⟨y0_2, hy0_2⟩ : ∃ y, xs0[2]? = some y := ⟨_, List.getElem?_eq_getElem (by simp [l0])⟩
    have f0_2 := g0 2 _ rfl
    rw [hy0_2] at f0_2
    simp [cells_3, cells_4, cells_5, cells_28, cells_31, cells_43, cells_44, cells_47, cells_48, cells_50, cells_54, cells_56, cells_66] at f0_2
    obtain ⟨a2, e2, _, w2⟩ := DataW.trod_int Try.underlying3 f0_2
    simp at e2
    subst e2
    exact ⟨_, _, _, rfl, w0, w1, w2⟩
theorem open56 {H : Type} {enc : TypeId × Value → H} {base : Nat} {W : World} {v : Value} {d : DataW H} {p : List MemPlace} (o : Value.okWide Try.prog W .any base 56 v) (h : DataW.Trod enc Try.prog W 0 (fun _ => true) true 56 v d p) :
    ∃ (a0 : Int) (a1 : Int), v = .agg #[.int .i64 a0, .int .i64 a1] ∧ (Lit.int .i64 a0).wf = true ∧ (Lit.int .i64 a1).wf = true := by
  obtain ⟨cs, rfl, hs⟩ := okWide_struct Try.underlying56 o
  rw [cells_56] at hs
  obtain ⟨l⟩ := cs
  match l, hs with
  | [c0, c1], _ =>
    obtain ⟨fuel, hf⟩ := h
    simp only [Value.cells] at hf
    obtain ⟨xs0, n0, _, _, _, l0, g0⟩ := DataW.trod_struct Try.underlying56 hf
    obtain ⟨y0_0, hy0_0⟩ : ∃ y, xs0[0]? = some y := ⟨_, List.getElem?_eq_getElem (by simp [l0])⟩
    have f0_0 := g0 0 _ rfl
    rw [hy0_0] at f0_0
    simp [cells_3, cells_4, cells_5, cells_28, cells_31, cells_43, cells_44, cells_47, cells_48, cells_50, cells_54, cells_56, cells_66] at f0_0
    obtain ⟨a0, e0, _, w0⟩ := DataW.trod_int Try.underlying3 f0_0
    simp at e0
    subst e0
    obtain ⟨y0_1, hy0_1⟩ : ∃ y, xs0[1]? = some y := ⟨_, List.getElem?_eq_getElem (by simp [l0])⟩
    have f0_1 := g0 1 _ rfl
    rw [hy0_1] at f0_1
    simp [cells_3, cells_4, cells_5, cells_28, cells_31, cells_43, cells_44, cells_47, cells_48, cells_50, cells_54, cells_56, cells_66] at f0_1
    obtain ⟨a1, e1, _, w1⟩ := DataW.trod_int Try.underlying3 f0_1
    simp at e1
    subst e1
    exact ⟨_, _, rfl, w0, w1⟩
theorem open66 {H : Type} {enc : TypeId × Value → H} {base : Nat} {W : World} {v : Value} {d : DataW H} {p : List MemPlace} (o : Value.okWide Try.prog W .any base 66 v) (h : DataW.Trod enc Try.prog W 0 (fun _ => true) true 66 v d p) :
    ∃ (a0 : Int) (a1 : Int) (a2 : Int) (a3 : Int) (a4 : Int), v = .agg #[.int .i64 a0, .int .i64 a1, .int .i64 a2, .int .i64 a3, .int .i64 a4] ∧ (Lit.int .i64 a0).wf = true ∧ (Lit.int .i64 a1).wf = true ∧ (Lit.int .i64 a2).wf = true ∧ (Lit.int .i64 a3).wf = true ∧ (Lit.int .i64 a4).wf = true := by
  obtain ⟨cs, rfl, hs⟩ := okWide_struct Try.underlying66 o
  rw [cells_66] at hs
  obtain ⟨l⟩ := cs
  match l, hs with
  | [c0, c1, c2, c3, c4], _ =>
    obtain ⟨fuel, hf⟩ := h
    simp only [Value.cells] at hf
    obtain ⟨xs0, n0, _, _, _, l0, g0⟩ := DataW.trod_struct Try.underlying66 hf
    obtain ⟨y0_0, hy0_0⟩ : ∃ y, xs0[0]? = some y := ⟨_, List.getElem?_eq_getElem (by simp [l0])⟩
    have f0_0 := g0 0 _ rfl
    rw [hy0_0] at f0_0
    simp [cells_3, cells_4, cells_5, cells_28, cells_31, cells_43, cells_44, cells_47, cells_48, cells_50, cells_54, cells_56, cells_66] at f0_0
    obtain ⟨a0, e0, _, w0⟩ := DataW.trod_int Try.underlying3 f0_0
    simp at e0
    subst e0
    obtain ⟨y0_1, hy0_1⟩ : ∃ y, xs0[1]? = some y := ⟨_, List.getElem?_eq_getElem (by simp [l0])⟩
    have f0_1 := g0 1 _ rfl
    rw [hy0_1] at f0_1
    simp [cells_3, cells_4, cells_5, cells_28, cells_31, cells_43, cells_44, cells_47, cells_48, cells_50, cells_54, cells_56, cells_66] at f0_1
    obtain ⟨a1, e1, _, w1⟩ := DataW.trod_int Try.underlying3 f0_1
    simp at e1
    subst e1
    obtain ⟨y0_2, hy0_2⟩ : ∃ y, xs0[2]? = some y := ⟨_, List.getElem?_eq_getElem (by simp [l0])⟩
    have f0_2 := g0 2 _ rfl
    rw [hy0_2] at f0_2
    simp [cells_3, cells_4, cells_5, cells_28, cells_31, cells_43, cells_44, cells_47, cells_48, cells_50, cells_54, cells_56, cells_66] at f0_2
    obtain ⟨a2, e2, _, w2⟩ := DataW.trod_int Try.underlying3 f0_2
    simp at e2
    subst e2
    obtain ⟨y0_3, hy0_3⟩ : ∃ y, xs0[3]? = some y := ⟨_, List.getElem?_eq_getElem (by simp [l0])⟩
    have f0_3 := g0 3 _ rfl
    rw [hy0_3] at f0_3
    simp [cells_3, cells_4, cells_5, cells_28, cells_31, cells_43, cells_44, cells_47, cells_48, cells_50, cells_54, cells_56, cells_66] at f0_3
    obtain ⟨a3, e3, _, w3⟩ := DataW.trod_int Try.underlying3 f0_3
    simp at e3
    subst e3
    obtain ⟨y0_4, hy0_4⟩ : ∃ y, xs0[4]? = some y := ⟨_, List.getElem?_eq_getElem (by simp [l0])⟩
    have f0_4 := g0 4 _ rfl
    rw [hy0_4] at f0_4
    simp [cells_3, cells_4, cells_5, cells_28, cells_31, cells_43, cells_44, cells_47, cells_48, cells_50, cells_54, cells_56, cells_66] at f0_4
    obtain ⟨a4, e4, _, w4⟩ := DataW.trod_int Try.underlying3 f0_4
    simp at e4
    subst e4
    exact ⟨_, _, _, _, _, rfl, w0, w1, w2, w3, w4⟩
end Go.Proofs.Ytgefcejolfikoaa
