/- The walks of a meter's methods New, Add and Pending. No condition beyond what a meter in memory is. -/
import Derived.Test.YthhooocckfljaaaCheck
import Derived.Test.YthhooocckfljaaaNone
import Derived.Deep.MidRow
namespace Go.Proofs.Ythhooocckfljaaa
open Go.RowKit
set_option linter.unusedVariables false
set_option linter.unusedSimpArgs false

structure Mtr where
  node : List UInt8
  boot : Int
  seq : Int
  H : Nat → Int
  Y : Nat → Int
def pend (H Y : Nat → Int) : List Value := (List.range 16).flatMap fun t => [.int .i64 (H t), .int .i64 (Y t)]
def mcells (m : Mtr) : Array Value := (.string ⟨m.node.toArray⟩ :: .int .i64 m.boot :: .int .i64 m.seq :: pend m.H m.Y).toArray
def MBlk (w : World) (b : Nat) (m : Mtr) : Prop := w.heap[b]? = some (.cells (mcells m) 77 (0, 0))
def upd (f : Nat → Int) (t : Nat) (x : Int) : Nat → Int := fun j => if j = t then x else f j
theorem upd_same (f : Nat → Int) (t : Nat) (x : Int) : upd f t x t = x := by simp [upd]
theorem pend_at (H Y : Nat → Int) (t : Nat) (ht : t < 16) : (pend H Y)[t * 2]? = some (.int .i64 (H t)) ∧ (pend H Y)[t * 2 + 1]? = some (.int .i64 (Y t)) := by
  match t, ht with
  | 0, _ | 1, _ | 2, _ | 3, _ | 4, _ | 5, _ | 6, _ | 7, _ | 8, _ | 9, _ | 10, _ | 11, _ | 12, _ | 13, _ | 14, _ | 15, _ => exact ⟨rfl, rfl⟩
  | n + 16, h => exact absurd h (by omega)
theorem pend_len (H Y : Nat → Int) : (pend H Y).length = 32 := rfl
theorem mset_H (m : Mtr) (t : Nat) (x : Int) (ht : t < 16) : (mcells m).setIfInBounds (3 + t * 2) (.int .i64 x) = mcells { m with H := upd m.H t x } := by
  match t, ht with
  | 0, _ | 1, _ | 2, _ | 3, _ | 4, _ | 5, _ | 6, _ | 7, _ | 8, _ | 9, _ | 10, _ | 11, _ | 12, _ | 13, _ | 14, _ | 15, _ => rfl
  | n + 16, h => exact absurd h (by omega)
theorem mset_Y (m : Mtr) (t : Nat) (x : Int) (ht : t < 16) : (mcells m).setIfInBounds (3 + t * 2 + 1) (.int .i64 x) = mcells { m with Y := upd m.Y t x } := by
  match t, ht with
  | 0, _ | 1, _ | 2, _ | 3, _ | 4, _ | 5, _ | 6, _ | 7, _ | 8, _ | 9, _ | 10, _ | 11, _ | 12, _ | 13, _ | 14, _ | 15, _ => rfl
  | n + 16, h => exact absurd h (by omega)
theorem mset_seq (m : Mtr) (x : Int) : (mcells m).setIfInBounds 2 (.int .i64 x) = mcells { m with seq := x } := rfl
theorem MBlk.cell {w : World} {b : Nat} {m : Mtr} (h : MBlk w b m) (i : Nat) : w.cell? ⟨b, i, none⟩ = (mcells m)[i]? := by
  unfold MBlk at h
  simp [World.cell?, h]
theorem MBlk.frozen {w : World} {b : Nat} {m : Mtr} (h : MBlk w b m) (i : Nat) : w.frozen? ⟨b, i, none⟩ = false := by
  unfold MBlk at h
  simp [World.frozen?, h]
theorem MBlk.lt {w : World} {b : Nat} {m : Mtr} (h : MBlk w b m) : b < w.heap.size := by
  rcases Nat.lt_or_ge b w.heap.size with h' | h'
  · exact h'
  · unfold MBlk at h; rw [Array.getElem?_eq_none h'] at h; cases h
theorem MBlk.bel {w w' : World} {B b : Nat} {m : Mtr} (h : MBlk w b m) (hb : Below B w w') (hB : b < B) : MBlk w' b m := (hb.block b hB).trans h
theorem MBlk.step {w w' : World} {b : Nat} {m : Mtr} (h : MBlk w b m) (hb : Below w.heap.size w w') : MBlk w' b m := h.bel hb h.lt
theorem MBlk.count {w : World} {b : Nat} {m : Mtr} (h : MBlk w b m) (t : Nat) (ht : t < 16) : w.cell? ⟨b, 3 + t * 2, none⟩ = some (.int .i64 (m.H t)) ∧ w.cell? ⟨b, 3 + t * 2 + 1, none⟩ = some (.int .i64 (m.Y t)) := by
  obtain ⟨h1, h2⟩ := pend_at m.H m.Y t ht
  rw [h.cell, h.cell]
  unfold mcells
  simp only [List.getElem?_toArray]
  rw [show 3 + t * 2 = (t * 2) + 1 + 1 + 1 by omega, show (t * 2) + 1 + 1 + 1 + 1 = (t * 2 + 1) + 1 + 1 + 1 by omega]
  simp only [List.getElem?_cons_succ]
  exact ⟨h1, h2⟩
theorem MBlk.head {w : World} {b : Nat} {m : Mtr} (h : MBlk w b m) : w.cell? ⟨b, 0, none⟩ = some (.string ⟨m.node.toArray⟩) ∧ w.cell? ⟨b, 1, none⟩ = some (.int .i64 m.boot) ∧ w.cell? ⟨b, 2, none⟩ = some (.int .i64 m.seq) := by
  rw [h.cell, h.cell, h.cell]
  exact ⟨rfl, rfl, rfl⟩
theorem MBlk.setH {w : World} {b : Nat} {m : Mtr} (h : MBlk w b m) (t : Nat) (x : Int) (ht : t < 16) : MBlk (w.setCell ⟨b, 3 + t * 2, none⟩ (.int .i64 x)) b { m with H := upd m.H t x } := by
  have := Joins.block_setCell (i := 3 + t * 2) h (.int .i64 x)
  rw [mset_H m t x ht] at this
  exact this
theorem MBlk.setY {w : World} {b : Nat} {m : Mtr} (h : MBlk w b m) (t : Nat) (x : Int) (ht : t < 16) : MBlk (w.setCell ⟨b, 3 + t * 2 + 1, none⟩ (.int .i64 x)) b { m with Y := upd m.Y t x } := by
  have := Joins.block_setCell (i := 3 + t * 2 + 1) h (.int .i64 x)
  rw [mset_Y m t x ht] at this
  exact this
theorem MBlk.setSeq {w : World} {b : Nat} {m : Mtr} (h : MBlk w b m) (x : Int) : MBlk (w.setCell ⟨b, 2, none⟩ (.int .i64 x)) b { m with seq := x } :=
  Joins.block_setCell (i := 2) h (.int .i64 x)

/-- Can a hit be counted? -/
def addOk (m : Mtr) (t y : Int) : Prop := 0 ≤ t ∧ t < 16 ∧ 0 ≤ y ∧ y ≤ 1073741824 ∧ m.H t.toNat + 1 ≤ 1099511627776 ∧ m.Y t.toNat + y ≤ 1099511627776
instance (m : Mtr) (t y : Int) : Decidable (addOk m t y) := inferInstanceAs (Decidable (_ ∧ _ ∧ _ ∧ _ ∧ _ ∧ _))
def addM (m : Mtr) (t : Nat) (y : Int) : Mtr := { m with H := upd m.H t (m.H t + 1), Y := upd m.Y t (m.Y t + y) }
/-- The counts of a meter are counts. -/
def Fit (m : Mtr) : Prop := ∀ t, t < 16 → 0 ≤ m.H t ∧ m.H t ≤ 1099511627776 ∧ 0 ≤ m.Y t ∧ m.Y t ≤ 1099511627776

set_option maxRecDepth 20000 in
set_option maxHeartbeats 1000000 in
theorem add_ok (b t : Nat) (y : Int) (m : Mtr) (w : World) (h : MBlk w b m) (hf : Fit m) (ho : addOk m t y) :
    Calls Try.prog 11 #[.pointer (some ⟨b, 0, none⟩), .int .i64 t, .int .i64 y] w fun e w' => e = .returned .nilIface ∧ MBlk w' b (addM m t y) ∧ Only b w w' := by
  obtain ⟨h1, h2, h3, h4, h5, h6⟩ := ho
  rw [Int.toNat_natCast] at h5 h6
  have ht : t < 16 := by omega
  have hft := hf t ht
  obtain ⟨c0, c1⟩ := h.count t ht
  have f0 := h.frozen (3 + t * 2)
  have f1 := h.frozen (3 + t * 2 + 1)
  have hp : MBlk ((w.setCell ⟨b, 3 + t * 2, none⟩ (.int .i64 (m.H t + 1))).setCell ⟨b, 3 + t * 2 + 1, none⟩ (.int .i64 (m.Y t + y))) b (addM m t y) := (h.setH t (m.H t + 1) ht).setY t (m.Y t + y) ht
  have HP := Lib.hid hp
  obtain ⟨g1, g2, g3, g4⟩ := hft
  clear h hf hp ht
  generalize m.H t = x at *
  generalize m.Y t = z at *
  go_enter Try.func11, Try.ntmps11
  go_wp2
  go_ret
  exact ⟨rfl, HP.out, Only.set.trans Only.set⟩
set_option maxRecDepth 20000 in
set_option maxHeartbeats 1000000 in
theorem add_bad (b : Nat) (t y : Int) (m : Mtr) (w : World) (h : MBlk w b m) (hf : Fit m) (ho : ¬ addOk m t y) :
    Calls Try.prog 11 #[.pointer (some ⟨b, 0, none⟩), .int .i64 t, .int .i64 y] w fun e w' => e = .returned (.iface 94 (.int .i64 1)) ∧ w = w' := by
  by_cases h1 : t < 0
  · clear ho
    go_enter Try.func11, Try.ntmps11
    go_wp2
    go_ret
    exact ⟨rfl, rfl⟩
  · by_cases h2 : 16 ≤ t
    · clear ho
      go_enter Try.func11, Try.ntmps11
      go_wp2
      go_ret
      exact ⟨rfl, rfl⟩
    · by_cases h3 : y < 0
      · clear ho
        go_enter Try.func11, Try.ntmps11
        go_wp2
        go_ret
        exact ⟨rfl, rfl⟩
      · by_cases h4 : 1073741824 < y
        · clear ho
          go_enter Try.func11, Try.ntmps11
          go_wp2
          go_ret
          exact ⟨rfl, rfl⟩
        · obtain ⟨n, rfl⟩ : ∃ n : Nat, t = n := ⟨t.toNat, by omega⟩
          have ht : n < 16 := by omega
          obtain ⟨c0, c1⟩ := h.count n ht
          obtain ⟨g1, g2, g3, g4⟩ := hf n ht
          have ho' : 1099511627776 < m.H n + 1 ∨ (¬ 1099511627776 < m.H n + 1 ∧ 1099511627776 < m.Y n + y) := by
            unfold addOk at ho
            rw [Int.toNat_natCast] at ho
            omega
          clear h hf ho ht
          generalize m.H n = x at *
          generalize m.Y n = z at *
          rcases ho' with h5 | ⟨h5, h6⟩
          all_goals
            go_enter Try.func11, Try.ntmps11
            go_wp2
            go_ret
            exact ⟨rfl, rfl⟩
theorem add_nil (t y : Int) (w : World) : Calls Try.prog 11 #[.pointer none, .int .i64 t, .int .i64 y] w fun e w' => e = .returned (.iface 94 (.int .i64 3)) ∧ w = w' := by
  go_enter Try.func11, Try.ntmps11
  go_wp2
  go_ret
  exact ⟨rfl, rfl⟩
theorem flush_nil (n : Int) (w : World) : Calls Try.prog 12 #[.pointer none, .int .i64 n] w fun e w' => e = .returned (.slice none 0 0) ∧ w = w' := by
  go_enter Try.func12, Try.ntmps12
  go_wp2
  go_ret
  exact ⟨rfl, rfl⟩

def newM (node : List UInt8) (boot : Int) : Mtr := ⟨node, boot, 0, fun _ => 0, fun _ => 0⟩
theorem fit_new (node : List UInt8) (boot : Int) : Fit (newM node boot) := fun t _ => by simp [newM]
set_option maxRecDepth 20000 in
set_option maxHeartbeats 1000000 in
theorem new_ok (node : List UInt8) (boot : Int) (w : World) (hn : node.length ≤ 9223372036854775807) (hc : codeE ⟨node, boot, 1, 0, 0, 0, 0⟩ = 0) :
    Calls Try.prog 5 #[.string ⟨node.toArray⟩, .int .i64 boot] w fun e w' => ∃ b, e = .returned (.tuple #[.pointer (some ⟨b, 0, none⟩), .nilIface]) ∧ w.heap.size ≤ b ∧ MBlk w' b (newM node boot) ∧ Below w.heap.size w w' := by
  have hC := fun W => check_any ⟨node, boot, 1, 0, 0, 0, 0⟩ W hn (by dsimp only; omega)
  rw [hc, show errV 0 = .nilIface from rfl] at hC
  have HC := Lib.hid hC
  clear hC hc
  go_enter Try.func5, Try.ntmps5
  go_wp2_with (go_at_call 17; refine (HC.out _).mono ?_; rintro e w1 ⟨rfl, hb⟩)
  go_ret2
  exact ⟨w1.heap.size, rfl, hb.size, heap_alloc_new w1 _, hb.alloc hb.size _⟩
set_option maxRecDepth 20000 in
set_option maxHeartbeats 1000000 in
theorem new_bad (node : List UInt8) (boot c : Int) (w : World) (hn : node.length ≤ 9223372036854775807) (hc : codeE ⟨node, boot, 1, 0, 0, 0, 0⟩ = c) (h0 : c ≠ 0) :
    Calls Try.prog 5 #[.string ⟨node.toArray⟩, .int .i64 boot] w fun e w' => e = .returned (.tuple #[.pointer none, .iface 94 (.int .i64 c)]) ∧ Below w.heap.size w w' := by
  have hC := fun W => check_any ⟨node, boot, 1, 0, 0, 0, 0⟩ W hn (by dsimp only; omega)
  rw [hc, show errV c = .iface 94 (.int .i64 c) by unfold errV; rw [if_neg h0]] at hC
  have HC := Lib.hid hC
  clear hC hc h0
  go_enter Try.func5, Try.ntmps5
  go_wp2_with (go_at_call 17; refine (HC.out _).mono ?_; rintro e w1 ⟨rfl, hb⟩)
  go_ret2
  exact ⟨rfl, hb⟩
end Go.Proofs.Ythhooocckfljaaa
