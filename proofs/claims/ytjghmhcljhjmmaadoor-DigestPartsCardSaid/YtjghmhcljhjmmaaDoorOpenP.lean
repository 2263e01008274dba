/- Arguments that are slices of slices of bytes, and slices of truths, taken apart. No condition. -/
import Derived.Test.YtjghmhcljhjmmaaDoorParts
import Derived.Test.YtjghmhcljhjmmaaDoorOpen
namespace Go.Proofs.YtjghmhcljhjmmaaDoor
open Go.ChangeShapes Go.WideShapes Go.ChangeAt Go.RowKit Go.Deep
set_option linter.unusedVariables false
set_option linter.unusedSimpArgs false

theorem cells_22 : Tryd.prog.cellsOf 22 = 1 := by kernel_rfl
theorem cells_4 : Tryd.prog.cellsOf 4 = 1 := by kernel_rfl
theorem open_bytes1 {H : Type} {enc : TypeId × Value → H} {fuel : Nat} {W : World} {c : Value} {x : DataW H × List MemPlace} (hf : DataW.trod enc Tryd.prog W 0 (fun _ => true) true fuel 22 [c] = some x) : ∃ l, IsB W c l := by
  have h : ∃ a len cap, c = .slice a len cap := by
    rcases open_slice1 Tryd.underlying22 cells_5 hf with ⟨h1, _⟩ | ⟨a', len', cap', m, n, V, D, Pl, h1, _⟩
    · simp only [List.cons.injEq, and_true] at h1
      exact ⟨_, _, _, h1⟩
    · simp only [List.cons.injEq, and_true] at h1
      exact ⟨_, _, _, h1⟩
  obtain ⟨a, len, cap, rfl⟩ := h
  exact open_bytes hf
theorem range_at {α : Type} (C : Nat → α) (n i : Nat) (x : α) (h : ((List.range n).map C)[i]? = some x) : i < n ∧ C i = x := by
  rw [List.getElem?_map] at h
  have hi : i < n := by
    rcases Nat.lt_or_ge i n with h' | h'
    · exact h'
    · simp [List.getElem?_eq_none (show (List.range n).length ≤ i by simpa using h')] at h
  simp [List.getElem?_eq_getElem (show i < (List.range n).length by simpa using hi)] at h
  exact ⟨hi, h⟩
theorem add_plain {b off i : Nat} : (⟨b, off, none⟩ : Addr).add i = ⟨b, off + i, none⟩ := by unfold Addr.add; split <;> simp_all
theorem open30 {H : Type} {enc : TypeId × Value → H} {base : Nat} {W : World} {v : Value} {d : DataW H} {p : List MemPlace} (o : Value.okWide Tryd.prog W .any base 30 v) (h : DataW.Trod enc Tryd.prog W 0 (fun _ => true) true 30 v d p) :
    ∃ ps, IsBB W v ps := by
  obtain ⟨a, len, cap, rfl⟩ := okWide_slice Tryd.underlying30 o
  obtain ⟨fuel, hf0⟩ := h
  have hf : DataW.trod enc Tryd.prog W 0 (fun _ => true) true fuel 30 [.slice a len cap] = some (d, p) := by simpa only [Value.cells] using hf0
  rcases open_slice1 Tryd.underlying30 cells_22 hf with ⟨h1, _⟩ | ⟨a', len', cap', m, n, V, D, Pl, h1, _, hl, hm, hmm, _, hx⟩
  · simp only [List.cons.injEq, and_true, Value.slice.injEq] at h1
    obtain ⟨rfl, rfl, rfl⟩ := h1
    exact ⟨[], none, 0, rfl, Nat.le_refl _, Nat.zero_le _, fun i l hi => by simp at hi⟩
  · simp only [List.cons.injEq, and_true, Value.slice.injEq] at h1
    obtain ⟨rfl, rfl, rfl⟩ := h1
    simp only [if_true] at hmm
    subst hmm
    obtain ⟨b, off, spot⟩ := a'
    obtain ⟨C, hC⟩ := choose_lt (α := List UInt8) (p := fun i l => IsB W (V i) l) (n := m) (fun i hi => open_bytes1 (hx i hi).2)
    refine ⟨(List.range len).map C, some ⟨b, off, spot⟩, m, by simp, by simpa using hl, hm, fun i l hi => ?_⟩
    obtain ⟨hil, hCi⟩ := range_at C len i l hi
    have hspot : spot = none := by simpa [Addr.add] using World.cell?_spot (hx 0 (by omega)).1
    subst hspot
    refine ⟨b, off, V i, rfl, ?_, ?_⟩
    · rw [← add_plain]; exact (hx i (by omega)).1
    · rw [← hCi]; exact hC i (by omega)
theorem open31 {H : Type} {enc : TypeId × Value → H} {base : Nat} {W : World} {v : Value} {d : DataW H} {p : List MemPlace} (o : Value.okWide Tryd.prog W .any base 31 v) (h : DataW.Trod enc Tryd.prog W 0 (fun _ => true) true 31 v d p) :
    ∃ qs, IsQ W v qs := by
  obtain ⟨a, len, cap, rfl⟩ := okWide_slice Tryd.underlying31 o
  obtain ⟨fuel, hf0⟩ := h
  have hf : DataW.trod enc Tryd.prog W 0 (fun _ => true) true fuel 31 [.slice a len cap] = some (d, p) := by simpa only [Value.cells] using hf0
  rcases open_slice1 Tryd.underlying31 cells_4 hf with ⟨h1, _⟩ | ⟨a', len', cap', m, n, V, D, Pl, h1, _, hl, hm, hmm, _, hx⟩
  · simp only [List.cons.injEq, and_true, Value.slice.injEq] at h1
    obtain ⟨rfl, rfl, rfl⟩ := h1
    exact ⟨[], none, 0, rfl, Nat.le_refl _, Nat.zero_le _, fun i l hi => by simp at hi⟩
  · simp only [List.cons.injEq, and_true, Value.slice.injEq] at h1
    obtain ⟨rfl, rfl, rfl⟩ := h1
    simp only [if_true] at hmm
    subst hmm
    obtain ⟨b, off, spot⟩ := a'
    obtain ⟨C, hC⟩ := choose_lt (α := Bool) (p := fun i q => V i = .bool q) (n := m) (fun i hi => by
      obtain ⟨q, h1, _⟩ := DataW.trod_bool Tryd.underlying4 (hx i hi).2
      exact ⟨q, by simpa using h1⟩)
    refine ⟨(List.range len).map C, some ⟨b, off, spot⟩, m, by simp, by simpa using hl, hm, fun i q hi => ?_⟩
    obtain ⟨hil, hCi⟩ := range_at C len i q hi
    have hspot : spot = none := by simpa [Addr.add] using World.cell?_spot (hx 0 (by omega)).1
    subst hspot
    refine ⟨b, off, rfl, ?_⟩
    rw [← add_plain, (hx i (by omega)).1, hC i (by omega), hCi]
end Go.Proofs.YtjghmhcljhjmmaaDoor
