/- The walks of the laws ClockContains and ClockLeases: each returns true. No condition. -/
import Derived.Test.YtgefcejolfikoaaReads
namespace Go.Proofs.Ytgefcejolfikoaa
open Go.ChangeShapes Go.WideShapes Go.ChangeAt Go.RowKit
set_option linter.unusedVariables false
set_option linter.unusedSimpArgs false

/-- A cell of the world that a call began in reads on. -/
theorem keep_cell {W w' : World} (h : Below W.heap.size W w') {b o : Nat} {v : Value} (hc : W.cell? ⟨b, o, none⟩ = some v) : w'.cell? ⟨b, o, none⟩ = some v :=
  (below_cells h b o (World.block_lt_of_cell? W _ hc)).trans hc

/-- The reading of a clock that the laws make. -/
theorem near_read (o p k t : Int) (slow : Bool) (w : World) (hk0 : 0 ≤ k) (hk1 : k ≤ 255) (ht : 0 ≤ t ∧ t ≤ 1099511627776) :
    Calls Try.prog 20 #[.agg #[.int .i64 (lim o 1099511627776), .int .i64 (1024 + nearN p k slow), .int .i64 1024], .int .i64 t] w fun e w' => e = .returned (.tuple #[.int .i64 (lim o 1099511627776 + t * (1024 + nearN p k slow) / 1024), .nilIface]) ∧ Below w.heap.size w w' := by
  have ho := lim_bd o 1099511627776 (by omega)
  have hp := lim_bd p 100000 (by omega)
  have hn := near_bd p k slow hp.1 hp.2 hk0 hk1
  refine read_yes _ _ _ _ _ ?_
  simp [rangeB, rateB]
  omega
theorem near_within (o p k : Int) (slow : Bool) (w : World) (hk0 : 0 ≤ k) (hk1 : k ≤ 255) :
    Calls Try.prog 24 #[.agg #[.int .i64 o, .int .i64 (1024 + nearN p k slow), .int .i64 1024], .int .i64 p] w fun e w' => e = .returned (.bool true) ∧ Below w.heap.size w w' := by
  have hp := lim_bd p 100000 (by omega)
  have hn := near_bd p k slow hp.1 hp.2 hk0 hk1
  have h : withinB (1024 + nearN p k slow) 1024 p = true := by
    simp only [withinB, rateB, Bool.and_eq_true, decide_eq_true_eq]
    refine ⟨by omega, ?_⟩
    split <;> omega
  have := within_any o (1024 + nearN p k slow) 1024 p w
  rwa [h] at this

theorem elapsed_d (d p : Int) (w : World) (h : 0 ≤ d ∧ d ≤ 1099511627776) : Calls Try.prog 17 #[.int .i64 d, .int .i64 p] w fun e w' => e = .returned (.tuple #[.int .i64 (elo d (lim p 100000)), .int .i64 (ehi d (lim p 100000))]) ∧ w = w' := by
  have := elapsed_any d p w
  rwa [lim_id d _ h.1 h.2] at this

set_option maxHeartbeats 1000000 in
theorem contains_walk (p k l : Int) (s s' : Bool) (t ticks : Int) (w : World) (hk0 : 0 ≤ k) (hk1 : k ≤ 255) : Calls Try.prog 9 #[.agg #[.int .i64 p, .int .u8 k, .int .u8 l, .bool s, .bool s'], .int .i64 t, .int .i64 ticks] w fun e w' => e = .returned (.bool true) ∧ Below w.heap.size w w' := by
  have hf := clip_bd t 0 549755813888 (by omega)
  have hg := clip_bd ticks 0 274877906944 (by omega)
  have ho := lim_bd (t.tmod 1000) 1099511627776 (by omega)
  have hp := lim_bd p 100000 (by omega)
  have hn := near_bd p k s hp.1 hp.2 hk0 hk1
  go_enter Try.func9, Try.ntmps9
  go_wp2_with (first | (go_at_call 15; refine (awake_any _).mono ?_; rintro e w' ⟨rfl, rfl⟩) | (go_at_call 29; refine (near_any _ _ _ _ _ (by omega) (by omega)).mono ?_; rintro e w' ⟨rfl, rfl⟩) | (go_at_call 21; refine (clock_any _ _ _ _).mono ?_; rintro e w' ⟨rfl, rfl⟩) | (go_at_call 28; refine (clip_any _ _ _ _).mono ?_; rintro e w' ⟨rfl, rfl⟩))
  generalize clipI t 0 549755813888 = x at *
  generalize clipI ticks 0 274877906944 = y at *
  refine (near_read _ _ _ _ _ _ hk0 hk1 (by omega)).mono ?_
  rintro e w1 ⟨rfl, hb⟩
  have c0 := keep_cell hb (b := w.heap.size) (o := 0) (v := .int .i64 p) (by simp [go_sem])
  have c1 := keep_cell hb (b := w.heap.size + 4) (o := 0) (v := .int .i64 (lim (t.tmod 1000) 1099511627776)) (by simp [go_sem])
  have c2 := keep_cell hb (b := w.heap.size + 4) (o := 1) (v := .int .i64 (1024 + nearN p k s)) (by simp [go_sem])
  have c3 := keep_cell hb (b := w.heap.size + 4) (o := 2) (v := .int .i64 1024) (by simp [go_sem])
  have hB : Below w.heap.size w w1 := (by repeat (first | exact Below.refl _ _ | refine Below.alloc ?_ (by simp <;> omega) _) : Below w.heap.size w _).trans (hb.mono (by simp; omega))
  have hz := hB.size
  clear hb
  go_wp2_with fail
  refine (near_read _ _ _ _ _ _ hk0 hk1 (by omega)).mono ?_
  rintro e w2 ⟨rfl, hb⟩
  have d0 := keep_cell hb c0
  have d1 := keep_cell hb c1
  have d2 := keep_cell hb c2
  have d3 := keep_cell hb c3
  clear c0 c1 c2 c3
  have hB := hB.trans (hb.mono hz)
  have hz := hB.size
  clear hb
  go_wp2_with fail
  refine (near_within _ _ _ _ _ hk0 hk1).mono ?_
  rintro e w3 ⟨rfl, hb⟩
  have c0 := keep_cell hb d0
  clear d0 d1 d2 d3
  have hB := hB.trans (hb.mono hz)
  clear hb
  have hq := diff_ends x (x + y) (1024 + nearN p k s)
  rw [show x + y - x = y from by omega] at hq
  have m1 := Int.mul_nonneg hf.1 (show 0 ≤ 1024 + nearN p k s by omega)
  have m2 := Int.mul_le_mul_of_nonneg_left (show 1024 + nearN p k s ≤ 1126 by omega) hf.1
  have m3 := Int.mul_nonneg (show 0 ≤ x + y by omega) (show 0 ≤ 1024 + nearN p k s by omega)
  have m4 := Int.mul_le_mul_of_nonneg_left (show 1024 + nearN p k s ≤ 1126 by omega) (show 0 ≤ x + y by omega)
  have m5 := Int.mul_nonneg hg.1 (show 0 ≤ 1024 + nearN p k s by omega)
  have m6 := Int.mul_le_mul_of_nonneg_left (show 1024 + nearN p k s ≤ 1126 by omega) hg.1
  have L := contains_law y ((x + y) * (1024 + nearN p k s) / 1024 - x * (1024 + nearN p k s) / 1024) (1024 + nearN p k s) (lim p 100000) hg.1 (by omega) hp.1 hp.2 hq.1 hq.2 (by omega) (by omega)
  go_wp2_with fail
  rw [show lim (t.tmod 1000) 1099511627776 + (x + y) * (1024 + nearN p k s) / 1024 - (lim (t.tmod 1000) 1099511627776 + x * (1024 + nearN p k s) / 1024) = (x + y) * (1024 + nearN p k s) / 1024 - x * (1024 + nearN p k s) / 1024 from by omega]
  refine (elapsed_d _ _ _ (by omega)).mono ?_
  rintro e w' ⟨rfl, rfl⟩
  go_wp2_with fail
  go_ret
  exact ⟨ret_bool (decide_eq_true (by omega)), hB⟩

end Go.Proofs.Ytgefcejolfikoaa
