/- A constant's row, as it is laid and marked, wherever it lies. No condition. -/
import Derived.Test.YtjghmhcljhjmmaaDoorIndex
import Derived.Lib.SlBytesConst
namespace Go.Proofs.YtjghmhcljhjmmaaDoor
open Go.RowKit
set_option linter.unusedVariables false
set_option linter.unusedSimpArgs false

abbrev digC : Array Value := #[.int .u8 48, .int .u8 49, .int .u8 50, .int .u8 51, .int .u8 52, .int .u8 53, .int .u8 54, .int .u8 55, .int .u8 56, .int .u8 57, .int .u8 97, .int .u8 98, .int .u8 99, .int .u8 100, .int .u8 101, .int .u8 102]
theorem freeze_at (W : World) (g k : Nat) (C : Array Value) (h : W.heap[g]? = some (.cells C 5)) : (W.freeze ⟨g, k, none⟩ 1).heap[g]? = some (.cells C 5 (k, k + 1)) ∧ (∀ j, j ≠ g → (W.freeze ⟨g, k, none⟩ 1).heap[j]? = W.heap[j]?) ∧ (W.freeze ⟨g, k, none⟩ 1).heap.size = W.heap.size ∧ (∀ B, B ≤ g → Below B W (W.freeze ⟨g, k, none⟩ 1)) := by
  have h2 : ∀ j, (W.freeze ⟨g, k, none⟩ 1).heap[j]? = if j = g then some (.cells C 5 (k, k + 1)) else W.heap[j]? := by
    intro j
    unfold World.freeze
    rw [if_neg (by decide)]
    simp only [Array.getElem?_modify]
    by_cases hj : g = j
    · subst hj
      simp [h]
    · simp [hj, Ne.symm hj]
  have h3 : (W.freeze ⟨g, k, none⟩ 1).heap.size = W.heap.size := by
    unfold World.freeze
    rw [if_neg (by decide)]
    simp
  refine ⟨by rw [h2, if_pos rfl], fun j hj => by rw [h2, if_neg hj], h3, fun B hB => ⟨?_, ?_, ?_, by omega, fun j hj => by rw [h2, if_neg (by omega)]⟩⟩ <;> (unfold World.freeze; rw [if_neg (by decide)])
/-- The row of the digits: laid (1), marked (2). -/
def Ph (p : Nat) (W : World) (g : Nat) : Prop := if p = 1 then W.heap[g]? = some (.cells digC 5) else W.heap[g]? = some (.cells digC 5 (16, 17))
theorem Ph.lt {p : Nat} {W : World} {g : Nat} (h : Ph p W g) : g < W.heap.size := by
  rcases Nat.lt_or_ge g W.heap.size with h' | h'
  · exact h'
  · unfold Ph at h
    split at h <;> (rw [Array.getElem?_eq_none h'] at h; cases h)
theorem Ph.keep {p : Nat} {W W' : World} {g : Nat} (h : Ph p W g) (hk : W'.heap[g]? = W.heap[g]?) : Ph p W' g := by
  unfold Ph at *
  rw [hk]
  exact h
theorem Ph.step {p : Nat} {W W' : World} {g : Nat} (h : Ph p W g) (hb : Below W.heap.size W W') : Ph p W' g := h.keep (hb.block g h.lt)
theorem Ph.built (W : World) : Ph 1 (W.alloc (.cells digC 5)) W.heap.size := heap_alloc_new W _
theorem Ph.dig {W : World} {g : Nat} (h : Ph 2 W g) : DRow W g := by
  intro i hi
  have h2 : W.heap[g]? = some (.cells digC 5 (16, 17)) := h
  have hc : W.cell? ⟨g, i, none⟩ = digC[i]? := by
    simp only [World.cell?, h2]
    rfl
  rw [hc]
  have : ∀ i, i < 16 → digC[i]? = some (.int .u8 ((digL.getD i 0).toNat : Int)) := by
    intro i hi
    have hk : i = 0 ∨ i = 1 ∨ i = 2 ∨ i = 3 ∨ i = 4 ∨ i = 5 ∨ i = 6 ∨ i = 7 ∨ i = 8 ∨ i = 9 ∨ i = 10 ∨ i = 11 ∨ i = 12 ∨ i = 13 ∨ i = 14 ∨ i = 15 := by omega
    rcases hk with rfl | rfl | rfl | rfl | rfl | rfl | rfl | rfl | rfl | rfl | rfl | rfl | rfl | rfl | rfl | rfl <;> rfl
  exact this i hi
/-- The mark. -/
theorem conv_run (W : World) (g : Nat) (h : Ph 1 W g) : (convert 22 22 (.slice (some ⟨g, 0, none⟩) 16 16)).run Tryd.prog W = .ok (.slice (some ⟨g, 0, none⟩) 16 16) (W.freeze ⟨g, 16, none⟩ 1) := by
  have h1 : W.heap[g]? = some (.cells digC 5) := h
  have hsh : W.shape? g = some (5, 16) := by
    unfold World.shape?
    rw [h1]
    rfl
  simp [convert, run_underlying Tryd.underlying22, run_underlying Tryd.underlying5, markStringish, hsh]
theorem conv_ph (W : World) (g : Nat) (h : Ph 1 W g) : Ph 2 (W.freeze ⟨g, 16, none⟩ 1) g := (freeze_at W g 16 digC h).1
theorem conv_other {p : Nat} (W : World) (g j : Nat) (h : Ph 1 W g) (hj : Ph p W j) (hne : j ≠ g) : Ph p (W.freeze ⟨g, 16, none⟩ 1) j := hj.keep ((freeze_at W g 16 digC h).2.1 j hne)
theorem conv_bel {B : Nat} (W : World) (g : Nat) (h : Ph 1 W g) (hB : B ≤ g) : Below B W (W.freeze ⟨g, 16, none⟩ 1) := (freeze_at W g 16 digC h).2.2.2 B hB
end Go.Proofs.YtjghmhcljhjmmaaDoor
