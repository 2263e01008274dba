/- The walk of the law ClockLeases: it returns true. No condition. -/
import Derived.Test.YtgefcejolfikoaaContains
import Derived.Deep.DeepCutAuto
namespace Go.Proofs.Ytgefcejolfikoaa
open Go.ChangeShapes Go.WideShapes Go.ChangeAt Go.RowKit
set_option linter.unusedVariables false
set_option linter.unusedSimpArgs false

theorem hold_l (n p : Int) (w : World) (h : 0 ≤ n ∧ n ≤ 1099511627776) : Calls Try.prog 26 #[.int .i64 n, .int .i64 p] w fun e w' => e = .returned (.int .i64 (hold n (lim p 100000))) ∧ w = w' := by
  have := hold_any n p w
  rwa [lim_id n _ h.1 h.2] at this
theorem wait_l (n p : Int) (w : World) (h : 0 ≤ n ∧ n ≤ 1099511627776) : Calls Try.prog 27 #[.int .i64 n, .int .i64 p] w fun e w' => e = .returned (.int .i64 (wait n (lim p 100000))) ∧ w = w' := by
  have := wait_any n p w
  rwa [lim_id n _ h.1 h.2] at this

set_option maxRecDepth 100000 in
set_option maxHeartbeats 4000000 in
theorem leases_walk (p k l : Int) (s s' : Bool) (len sent granted held waited : Int) (w : World) (hk0 : 0 ≤ k) (hk1 : k ≤ 255) (hl0 : 0 ≤ l) (hl1 : l ≤ 255) :
    Calls Try.prog 12 #[.agg #[.int .i64 p, .int .u8 k, .int .u8 l, .bool s, .bool s'], .agg #[.int .i64 len, .int .i64 sent, .int .i64 granted, .int .i64 held, .int .i64 waited]] w fun e w' => e = .returned (.bool true) ∧ Below w.heap.size w w' := by
  have h1 := clip_bd len 0 137438953472 (by omega)
  have h2 := clip_bd sent 0 137438953472 (by omega)
  have h3 := clip_bd granted 0 137438953472 (by omega)
  have h4 := clip_bd held 0 274877906944 (by omega)
  have h5 := clip_bd waited 0 274877906944 (by omega)
  have hp := lim_bd p 100000 (by omega)
  have hn := near_bd p k s hp.1 hp.2 hk0 hk1
  have hm := near_bd p l s' hp.1 hp.2 hl0 hl1
  go_enter Try.func12, Try.ntmps12
  go_wp2_with (first | (go_at_call 15; refine (awake_any _).mono ?_; rintro e w' ⟨rfl, rfl⟩) | (go_at_call 28; refine (clip_any _ _ _ _).mono ?_; rintro e w' ⟨rfl, rfl⟩))
  go_quiet ((go_at_call 28; exact still_quiet (clip_any _ _ _ _)))
  go_wp2_with fail
  generalize clipI len 0 137438953472 = L at *
  generalize clipI sent 0 137438953472 = S at *
  generalize clipI granted 0 137438953472 = G at *
  generalize clipI held 0 274877906944 = X at *
  generalize clipI waited 0 274877906944 = Y at *
  go_upto_region 8 with fail
  go_cut [11, 12] (fun u v wx => ∃ g h : Nat, u = .pointer (some ⟨g, 0, none⟩) ∧ v = .pointer (some ⟨h, 0, none⟩) ∧
      wx.cell? ⟨w.heap.size, 0, none⟩ = some (.int .i64 p) ∧ Below w.heap.size w wx ∧
      (wx.cell? ⟨g, 0, none⟩ = some (.int .i64 (lim 3 1099511627776)) ∧ wx.cell? ⟨g, 1, none⟩ = some (.int .i64 (1024 + nearN p k s)) ∧ wx.cell? ⟨g, 2, none⟩ = some (.int .i64 1024)) ∧
      (wx.cell? ⟨h, 0, none⟩ = some (.int .i64 (lim 70 1099511627776)) ∧ wx.cell? ⟨h, 1, none⟩ = some (.int .i64 (1024 + nearN p l s')) ∧ wx.cell? ⟨h, 2, none⟩ = some (.int .i64 1024)))
  case first =>
    go_region_held3 (fun w' => w'.cell? ⟨w.heap.size, 0, none⟩ = some (.int .i64 p) ∧ w'.cell? ⟨w.heap.size, 1, none⟩ = some (.int .u8 k) ∧ w'.cell? ⟨w.heap.size, 2, none⟩ = some (.int .u8 l) ∧ w'.cell? ⟨w.heap.size, 3, none⟩ = some (.bool s) ∧ w'.cell? ⟨w.heap.size, 4, none⟩ = some (.bool s')) (simp [go_sem])
      (first | (go_at_call 29; refine (near_any _ _ _ _ _ (by omega) (by omega)).mono ?_; rintro e w' ⟨rfl, rfl⟩) | (go_at_call 21; refine (clock_any _ _ _ _).mono ?_; rintro e w' ⟨rfl, rfl⟩))
    all_goals
      go_wp2_with fail
      go_meet
      exact ⟨_, _, rfl, rfl, by simp [go_sem], by repeat (first | exact Below.refl _ _ | refine Below.drew ?_ | refine below_draws ?_ _ | refine Below.setCell ?_ (by simp <;> omega) _ | refine Below.alloc ?_ (by simp <;> omega) _), ⟨by simp [go_sem], by simp [go_sem], by simp [go_sem]⟩, by simp [go_sem], by simp [go_sem], by simp [go_sem]⟩
  case rest =>
    obtain ⟨g, h, rfl, rfl, c0, hB, ⟨c1, c2, c3⟩, c4, c5, c6⟩ := hcut
    have hz := hB.size
    have hS := lim_bd 3 1099511627776 (by omega)
    have hT := lim_bd 70 1099511627776 (by omega)
    go_wp2_with fail
    refine (near_read _ _ _ _ _ _ hk0 hk1 (by omega)).mono ?_
    rintro e w1 ⟨rfl, hb⟩
    have c0 := keep_cell hb c0
    have c1 := keep_cell hb c1
    have c2 := keep_cell hb c2
    have c3 := keep_cell hb c3
    have c4 := keep_cell hb c4
    have c5 := keep_cell hb c5
    have c6 := keep_cell hb c6
    have hB := hB.trans (hb.mono hz)
    have hz := hB.size
    clear hb
    go_wp2_with fail
    refine (near_read _ _ _ _ _ _ hk0 hk1 (by omega)).mono ?_
    rintro e w2 ⟨rfl, hb⟩
    have c0 := keep_cell hb c0
    have c4 := keep_cell hb c4
    have c5 := keep_cell hb c5
    have c6 := keep_cell hb c6
    have hB := hB.trans (hb.mono hz)
    have hz := hB.size
    clear hb
    go_wp2_with fail
    refine (near_read _ _ _ _ _ _ hl0 hl1 (by omega)).mono ?_
    rintro e w3 ⟨rfl, hb⟩
    have c0 := keep_cell hb c0
    have c4 := keep_cell hb c4
    have c5 := keep_cell hb c5
    have c6 := keep_cell hb c6
    have hB := hB.trans (hb.mono hz)
    have hz := hB.size
    clear hb
    go_wp2_with fail
    refine (near_read _ _ _ _ _ _ hl0 hl1 (by omega)).mono ?_
    rintro e w4 ⟨rfl, hb⟩
    have c0 := keep_cell hb c0
    have hB := hB.trans (hb.mono hz)
    clear hb
    have X1 := diff_ends S (S + X) (1024 + nearN p k s)
    have X2 := diff_ends (S + G) (S + G + Y) (1024 + nearN p l s')
    rw [show S + X - S = X from by omega] at X1
    rw [show S + G + Y - (S + G) = Y from by omega] at X2
    have A1 := Int.mul_nonneg (show 0 ≤ S by omega) (show 0 ≤ 1024 + nearN p k s by omega)
    have A2 := Int.mul_le_mul_of_nonneg_left (show 1024 + nearN p k s ≤ 1126 by omega) (show 0 ≤ S by omega)
    have A3 := Int.mul_nonneg (show 0 ≤ S + X by omega) (show 0 ≤ 1024 + nearN p k s by omega)
    have A4 := Int.mul_le_mul_of_nonneg_left (show 1024 + nearN p k s ≤ 1126 by omega) (show 0 ≤ S + X by omega)
    have A5 := Int.mul_nonneg (show 0 ≤ S + G by omega) (show 0 ≤ 1024 + nearN p l s' by omega)
    have A6 := Int.mul_le_mul_of_nonneg_left (show 1024 + nearN p l s' ≤ 1126 by omega) (show 0 ≤ S + G by omega)
    have A7 := Int.mul_nonneg (show 0 ≤ S + G + Y by omega) (show 0 ≤ 1024 + nearN p l s' by omega)
    have A8 := Int.mul_le_mul_of_nonneg_left (show 1024 + nearN p l s' ≤ 1126 by omega) (show 0 ≤ S + G + Y by omega)
    have H1 : ∀ d, d = (S + X) * (1024 + nearN p k s) / 1024 - S * (1024 + nearN p k s) / 1024 → d < hold L (lim p 100000) → X < L := fun d e hd => by
      subst e; exact holder_law X _ (1024 + nearN p k s) (lim p 100000) L (by omega) (by omega) X1.2 (by omega) hd
    have H2 : ∀ d, d = (S + G + Y) * (1024 + nearN p l s') / 1024 - (S + G) * (1024 + nearN p l s') / 1024 → wait L (lim p 100000) ≤ d → L ≤ Y := fun d e hd => by
      subst e; exact issuer_law Y _ (1024 + nearN p l s') (lim p 100000) L (by omega) (by omega) (by omega) X2.1 (by omega) hd
    have HH1 := Lib.hid H1
    have HH2 := Lib.hid H2
    clear X1 X2 H1 H2
    go_wp2_with (first | (go_at_call 26; refine (hold_l _ _ _ (by omega)).mono ?_; rintro e w' ⟨rfl, rfl⟩) | (go_at_call 27; refine (wait_l _ _ _ (by omega)).mono ?_; rintro e w' ⟨rfl, rfl⟩))
    · go_ret
      have t1 : lim 3 1099511627776 + (S + X) * (1024 + nearN p k s) / 1024 - (lim 3 1099511627776 + S * (1024 + nearN p k s) / 1024) < hold L (lim p 100000) := by assumption
      have t2 : wait L (lim p 100000) ≤ lim 70 1099511627776 + (S + G + Y) * (1024 + nearN p l s') / 1024 - (lim 70 1099511627776 + (S + G) * (1024 + nearN p l s') / 1024) := by assumption
      have t3 := HH1.out _ (by omega) t1
      have t4 := HH2.out _ (by omega) t2
      exact ⟨ret_bool (decide_eq_true (by omega)), hB⟩
    · go_ret
      exact ⟨rfl, hB⟩
    · go_ret
      exact ⟨rfl, hB⟩
end Go.Proofs.Ytgefcejolfikoaa
