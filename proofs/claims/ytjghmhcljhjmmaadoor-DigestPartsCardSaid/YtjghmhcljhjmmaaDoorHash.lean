/- A Hash of the call's own: its cells; New. No condition. -/
import Derived.Test.YtjghmhcljhjmmaaDoorMix
import Derived.Test.YtjghmhcljhjmmaaDoorOwnO
import Derived.Test.YtjghmhcljhjmmaaDoorLastOp
import Derived.Lib.QuietBelow
namespace Go.Proofs.YtjghmhcljhjmmaaDoor
open Go.RowKit
set_option linter.unusedVariables false
set_option linter.unusedSimpArgs false

/-- The cells of a Hash. -/
def hC (s : S8) (v : Value) (t : Nat) : List Value := stV s ++ [v, .int .i64 (t : Int)]
theorem hC_len (s : S8) (v : Value) (t : Nat) : (hC s v t).length = 10 := rfl
theorem hC_rest (s : S8) (v : Value) (t : Nat) : (hC s v t)[8]? = some v := rfl
theorem hC_tot (s : S8) (v : Value) (t : Nat) : (hC s v t)[9]? = some (.int .i64 (t : Int)) := rfl
theorem hC_setRest (s : S8) (v x : Value) (t : Nat) : (hC s v t).set 8 x = hC s x t := rfl
theorem hC_setTot (s : S8) (v : Value) (t u : Nat) : (hC s v t).set 9 (.int .i64 (u : Int)) = hC s v u := rfl
theorem hC_setSt (s r : S8) (v : Value) (t : Nat) : (hC s v t).take 0 ++ (stV r ++ (hC s v t).drop (0 + (stV r).length)) = hC r v t := rfl
theorem hC_noU8 (s : S8) (a : Option Addr) (n cap : Nat) (t i : Nat) (x : Int) : (hC s (.slice a n cap) t)[i]? ≠ some (.int .u8 x) := by
  match i with
  | 0 | 1 | 2 | 3 | 4 | 5 | 6 | 7 => intro h; simp [hC, stV, S8.list, wV] at h
  | 8 => intro h; simp [hC, stV, S8.list, wV] at h
  | 9 => intro h; simp [hC, stV, S8.list, wV] at h
  | n + 10 => intro h; simp [hC, stV, S8.list, wV] at h
/-- p is a Hash of the call's own: the state s, the rest, the total; ob is the block of the rest. -/
def HBk (w : World) (base p : Nat) (ob : Option Nat) (s : S8) (rest : List UInt8) (tot : Nat) : Prop :=
  ∃ v, base ≤ p ∧ VBlk 52 w p (hC s v tot) ∧ OwnO w base v rest ∧ v.ownBlock = ob ∧ ob ≠ some p
/-- What a write to a Hash leaves as it was. -/
structure FrO (w w' : World) (p : Nat) (ob ob' : Option Nat) : Prop where
  block : ∀ k, k < w.heap.size → k ≠ p → ob ≠ some k → w'.heap[k]? = w.heap[k]?
  own : ob' = ob ∨ ∃ k, ob' = some k ∧ w.heap.size ≤ k
  size : w.heap.size ≤ w'.heap.size
theorem FrO.refl (w : World) (p : Nat) (ob : Option Nat) : FrO w w p ob ob := ⟨fun _ _ _ _ => rfl, .inl rfl, Nat.le_refl _⟩
theorem FrO.trans {w w1 w2 : World} {p : Nat} {ob ob1 ob2 : Option Nat} (h : FrO w w1 p ob ob1) (g : FrO w1 w2 p ob1 ob2) : FrO w w2 p ob ob2 := by
  refine ⟨fun k hk hp ho => ?_, ?_, Nat.le_trans h.size g.size⟩
  · have h1 : ob1 ≠ some k := by
      rcases h.own with e | ⟨j, e, hj⟩
      · rw [e]; exact ho
      · rw [e]; intro x; injection x; omega
    rw [g.block k (Nat.lt_of_lt_of_le hk h.size) hp h1, h.block k hk hp ho]
  · rcases g.own with e | ⟨j, e, hj⟩
    · rw [e]; exact h.own
    · exact .inr ⟨j, e, Nat.le_trans h.size hj⟩
theorem FrO.below {w w' : World} (h : Below w.heap.size w w') (p : Nat) (ob : Option Nat) : FrO w w' p ob ob := ⟨fun k hk _ _ => h.block k hk, .inl rfl, h.size⟩
theorem FrO.set (w : World) (p i : Nat) (ob : Option Nat) (v : Value) : FrO w (w.setCell ⟨p, i, none⟩ v) p ob ob := ⟨fun k hk hp _ => Below.heap_setCell w ⟨p, i, none⟩ v k hp, .inl rfl, by simp [go_sem]⟩
/-- Own bytes where their block stays. -/
theorem OwnO.keep {w w' : World} {base : Nat} {v : Value} {l : List UInt8} (h : OwnO w base v l) (hk : ∀ k, v.ownBlock = some k → w'.heap[k]? = w.heap[k]?) : OwnO w' base v l := by
  rcases h with h | ⟨g, off, cap, c, h1, h2, h3, h4⟩
  · exact .inl h
  · exact .inr ⟨g, off, cap, c, h1, h2, (hk g (by rw [h1]; rfl)).trans h3, h4⟩
theorem OwnO.lt {w : World} {base : Nat} {v : Value} {l : List UInt8} (h : OwnO w base v l) {k : Nat} (hk : v.ownBlock = some k) : k < w.heap.size ∧ base ≤ k := by
  rcases h with ⟨_, rfl⟩ | ⟨g, off, cap, c, h1, h2, h3, h4⟩
  · cases hk
  · rw [h1] at hk
    injection hk with hk
    subst hk
    exact ⟨h3.lt, h2⟩
/-- Bytes where only a Hash's block is written. -/
theorem IsB.keepH {w w' : World} {u : Value} {l : List UInt8} {p : Nat} {s : S8} {a : Option Addr} {n cap t : Nat} (h : IsB w u l) (hp : VBlk 52 w p (hC s (.slice a n cap) t)) (hk : ∀ k, k < w.heap.size → k ≠ p → w'.heap[k]? = w.heap[k]?) : IsB w' u l := by
  rcases h with h | ⟨h0, b, off, cap', rfl, h1, h2, h3⟩
  · exact .inl h
  · refine .inr ⟨h0, b, off, cap', rfl, h1, h2, fun i c hi => ?_⟩
    have hc := h3 i c hi
    have hb : b ≠ p := by
      rintro rfl
      rw [hp.cell] at hc
      exact hC_noU8 _ _ _ _ _ _ _ hc
    rw [World.cell?_of_block (hk b (World.block_lt_of_cell? w _ hc) hb)]
    exact hc
theorem KW.base {w w' : World} {base : Nat} (h : KW w) (hb : Below base w w') (h0 : 0 < base) : KW w' := fun t x hx => (World.cell?_of_block (hb.block 0 h0)).trans (h t x hx)
theorem new_any (w : World) : Calls Tryd.prog 16 #[] w fun e w' => e = .returned (.pointer (some ⟨w.heap.size, 0, none⟩)) ∧ HBk w' w.heap.size w.heap.size none iv [] 0 ∧ Below w.heap.size w w' := by
  go_enter Tryd.func16, Tryd.ntmps16
  go_wp2
  go_ret
  exact ⟨rfl, ⟨.slice none 0 0, Nat.le_refl _, heap_alloc_new w _, OwnO.nil _ _, rfl, by simp⟩, bel_new w _⟩
/-- What Write leaves. -/
def WrP (w w' : World) (base p : Nat) (ob : Option Nat) (s : S8) (rest : List UInt8) (tot : Nat) : Prop :=
  ∃ ob', HBk w' base p ob' s rest tot ∧ Below base w w' ∧ FrO w w' p ob ob'
end Go.Proofs.YtjghmhcljhjmmaaDoor
