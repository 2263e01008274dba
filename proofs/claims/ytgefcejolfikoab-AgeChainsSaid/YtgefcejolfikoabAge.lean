/- The walks of the functions of package age and of its reference. No condition. -/
import Derived.Test.YtgefcejolfikoabPlain
import Derived.Lib.Hide
namespace Go.Proofs.Ytgefcejolfikoab
open Go.RowKit
set_option linter.unusedVariables false
set_option linter.unusedSimpArgs false

theorem baseUp_any (a b : Int) (w : World) (h0 : 0 ≤ a) (h1 : a ≤ 4611686018427387904) (h2 : 1 ≤ b) (h3 : b ≤ 2000000) : Calls Try.prog 31 #[.int .i64 a, .int .i64 b] w fun e w' => e = .returned (.int .i64 ((a + b - 1) / b)) ∧ w = w' := by
  have hq : 0 ≤ a / b := Int.ediv_nonneg (by omega) (by omega)
  have hr : a / b ≤ a := Int.ediv_le_self _ (by omega)
  have hd := div_two a b (by omega)
  have he := div_two (a + b - 1) b (by omega)
  have hm : 0 ≤ a / b * b := Int.mul_nonneg hq (by omega)
  have hx : a / b * b < a → (a + b - 1) / b = a / b + 1 := fun h => by
    have := Int.add_mul_ediv_right (a - 1) 1 (c := b) (by omega)
    rw [show a + b - 1 = a - 1 + 1 * b from by omega, this]
    have : (a - 1) / b = a / b := by
      rw [Int.ediv_eq_iff_of_pos (by omega)]
      omega
    omega
  have hy : ¬ a / b * b < a → (a + b - 1) / b = a / b := fun h => by
    rw [Int.ediv_eq_iff_of_pos (by omega)]
    omega
  have HX := Lib.hid hx
  have HY := Lib.hid hy
  clear hx hy
  go_enter Try.func31, Try.ntmps31
  go_wp2
  · go_ret
    exact ⟨ret_int (HX.out (by assumption)).symm, rfl⟩
  · go_ret
    exact ⟨ret_int (HY.out (by omega)).symm, rfl⟩
theorem baseDown_any (a b : Int) (w : World) (h0 : 0 ≤ a) (h1 : a ≤ 4611686018427387904) (h2 : 1 ≤ b) (h3 : b ≤ 2000000) : Calls Try.prog 32 #[.int .i64 a, .int .i64 b] w fun e w' => e = .returned (.int .i64 (a / b)) ∧ w = w' := by
  have hq : 0 ≤ a / b := Int.ediv_nonneg (by omega) (by omega)
  have hr : a / b ≤ a := Int.ediv_le_self _ (by omega)
  have hd := div_two a b (by omega)
  have hm : 0 ≤ a / b * b := Int.mul_nonneg hq (by omega)
  go_enter Try.func32, Try.ntmps32
  go_wp2
  go_ret
  exact ⟨rfl, rfl⟩

theorem highest_any (d p : Int) (w : World) (h : 0 ≤ d ∧ d ≤ 1099511627776) : Calls Try.prog 25 #[.int .i64 d, .int .i64 p] w fun e w' => e = .returned (.int .i64 (ehi d (lim p 100000))) ∧ w = w' := by
  have hp := lim_bd p 100000 (by omega)
  have hu : 0 ≤ ((d + 1) * 1000000 + (1000000 - lim p 100000) - 1) / (1000000 - lim p 100000) := Int.ediv_nonneg (by omega) (by omega)
  have hv : ((d + 1) * 1000000 + (1000000 - lim p 100000) - 1) / (1000000 - lim p 100000) ≤ ((d + 1) * 1000000 + (1000000 - lim p 100000) - 1) := Int.ediv_le_self _ (by omega)
  go_enter Try.func25, Try.ntmps25
  go_wp2_with (first | (go_at_call 18; refine (ppm_any _ _).mono ?_; rintro e w' ⟨rfl, rfl⟩) | (go_at_call 31; refine (baseUp_any _ _ _ (by omega) (by omega) (by omega) (by omega)).mono ?_; rintro e w' ⟨rfl, rfl⟩))
  go_ret
  exact ⟨rfl, rfl⟩
theorem lowest_any (d p : Int) (w : World) (h : 0 ≤ d ∧ d ≤ 1099511627776) : Calls Try.prog 26 #[.int .i64 d, .int .i64 p] w fun e w' => e = .returned (.int .i64 (elo d (lim p 100000))) ∧ w = w' := by
  have hp := lim_bd p 100000 (by omega)
  by_cases hd : 0 < d
  · have ha : 0 ≤ (d - 1) * 1000000 / (1000000 + lim p 100000) := Int.ediv_nonneg (by omega) (by omega)
    have hb : (d - 1) * 1000000 / (1000000 + lim p 100000) ≤ (d - 1) * 1000000 := Int.ediv_le_self _ (by omega)
    have hz : (d == 0) = false := by simp; omega
    go_enter Try.func26, Try.ntmps26
    go_wp2_with (first | (go_at_call 18; refine (ppm_any _ _).mono ?_; rintro e w' ⟨rfl, rfl⟩) | (go_at_call 32; refine (baseDown_any _ _ _ (by omega) (by omega) (by omega) (by omega)).mono ?_; rintro e w' ⟨rfl, rfl⟩))
    go_ret
    exact ⟨ret_int (by rw [elo, if_pos hd]), rfl⟩
  · obtain rfl : d = 0 := by omega
    go_enter Try.func26, Try.ntmps26
    go_wp2
    go_ret
    exact ⟨ret_int (elo_zero _).symm, rfl⟩

theorem elapsed_d (d p : Int) (w : World) (h : 0 ≤ d ∧ d ≤ 1099511627776) : Calls Try.prog 21 #[.int .i64 d, .int .i64 p] w fun e w' => e = .returned (.tuple #[.int .i64 (elo d (lim p 100000)), .int .i64 (ehi d (lim p 100000))]) ∧ w = w' := by
  have := elapsed_any d p w
  rwa [lim_id d _ h.1 h.2] at this

/-- The three readings in order. -/
def ordB (s r n : Int) : Bool := decide (lim s 1099511627776 ≤ lim r 1099511627776 ∧ lim r 1099511627776 ≤ lim n 1099511627776)
def ageOf (a : Int) : Int := if 0 ≤ a then ((if 2147483647 < a then 2147483647 else a) + 1) * 1000 else 0
def atLo (s r a n p : Int) : Int := if ordB s r n then elo (lim n 1099511627776 - lim r 1099511627776) (lim p 100000) else 0
def atHi (s r a n p : Int) : Int := if ordB s r n then ehi (lim n 1099511627776 - lim s 1099511627776) (lim p 100000) + ageOf a else 0
def atE (s r n : Int) : Value := if ordB s r n then .nilIface else .iface 50 (.int .i64 7)
def atN (s r n : Int) : Int := if ordB s r n then 0 else 7

theorem ord_true (s r n : Int) (h : ordB s r n = true) : lim s 1099511627776 ≤ lim r 1099511627776 ∧ lim r 1099511627776 ≤ lim n 1099511627776 := by simpa [ordB] using h
theorem ord_false (s r n : Int) (h : ordB s r n = false) : lim r 1099511627776 < lim s 1099511627776 ∨ lim n 1099511627776 < lim r 1099511627776 := by
  have : ¬ (lim s 1099511627776 ≤ lim r 1099511627776 ∧ lim r 1099511627776 ≤ lim n 1099511627776) := by simpa [ordB] using h
  omega
theorem ret_int3 {a b c d : Int} {v u : Value} (h : a = b) (g : c = d) (k : v = u) : Ending.returned (.tuple #[.int .i64 a, .int .i64 c, v]) = .returned (.tuple #[.int .i64 b, .int .i64 d, u]) := by rw [h, g, k]

set_option maxHeartbeats 1000000 in
theorem at_any (s r a n p : Int) (w : World) : Calls Try.prog 8 #[.agg #[.int .i64 s, .int .i64 r, .int .i64 a], .int .i64 n, .int .i64 p] w fun e w' => e = .returned (.tuple #[.int .i64 (atLo s r a n p), .int .i64 (atHi s r a n p), atE s r n]) ∧ Below w.heap.size w w' := by
  have hs := lim_bd s 1099511627776 (by omega)
  have hr := lim_bd r 1099511627776 (by omega)
  have hn := lim_bd n 1099511627776 (by omega)
  have hp := lim_bd p 100000 (by omega)
  cases ho : ordB s r n
  · have h := ord_false s r n ho
    have HO := Lib.hid ho
    clear ho
    go_enter Try.func8, Try.ntmps8
    go_wp2_with fail
    go_quiet ((go_at_call 20; exact still_quiet (ageclip_any _ _)))
    go_wp2_with (go_at_call 20; refine (ageclip_any _ _).mono ?_; rintro e w' ⟨rfl, rfl⟩)
    all_goals
      go_ret3
      exact ⟨ret_int3 (by rw [atLo, HO.out]; rfl) (by rw [atHi, HO.out]; rfl) (by rw [atE, HO.out]; rfl), below_draws ((Below.refl _ _).alloc (Nat.le_refl _) _) _⟩
  · have h := ord_true s r n ho
    have g1 := ehi_nonneg (lim n 1099511627776 - lim s 1099511627776) (lim p 100000) (by omega) hp.1 hp.2
    have g2 := ehi_le (lim n 1099511627776 - lim s 1099511627776) (lim p 100000) (by omega) (by omega) hp.1 hp.2
    have HO := Lib.hid ho
    clear ho
    go_enter Try.func8, Try.ntmps8
    go_wp2_with fail
    go_quiet ((go_at_call 20; exact still_quiet (ageclip_any _ _)))
    go_wp2_with (first | (go_at_call 20; refine (ageclip_any _ _).mono ?_; rintro e w' ⟨rfl, rfl⟩) | (go_at_call 21; refine (elapsed_d _ _ _ (by omega)).mono ?_; rintro e w' ⟨rfl, rfl⟩))
    all_goals
      go_ret3
      exact ⟨ret_int3 (by rw [atLo, HO.out]; rfl) (by rw [atHi, HO.out, if_pos rfl]; unfold ageOf; split <;> (try split) <;> omega) (by rw [atE, HO.out]; rfl), below_draws ((Below.refl _ _).alloc (Nat.le_refl _) _) _⟩

set_option maxHeartbeats 1000000 in
theorem atRef_any (s r a n p : Int) (w : World) : Calls Try.prog 16 #[.agg #[.int .i64 s, .int .i64 r, .int .i64 a], .int .i64 n, .int .i64 p] w fun e w' => e = .returned (.tuple #[.int .i64 (atLo s r a n p), .int .i64 (atHi s r a n p), .int .i64 (atN s r n)]) ∧ Below w.heap.size w w' := by
  have hs := lim_bd s 1099511627776 (by omega)
  have hr := lim_bd r 1099511627776 (by omega)
  have hn := lim_bd n 1099511627776 (by omega)
  have hp := lim_bd p 100000 (by omega)
  cases ho : ordB s r n
  · have h := ord_false s r n ho
    have HO := Lib.hid ho
    clear ho
    go_enter Try.func16, Try.ntmps16
    go_wp2_with fail
    go_quiet ((go_at_call 15; exact still_quiet (time_any _ _)))
    go_wp2_with fail
    all_goals
      go_ret3
      exact ⟨ret_int3 (by rw [atLo, HO.out]; rfl) (by rw [atHi, HO.out]; rfl) (by rw [atN, HO.out]; rfl), below_draws ((Below.refl _ _).alloc (Nat.le_refl _) _) _⟩
  · have h := ord_true s r n ho
    have g1 := ehi_nonneg (lim n 1099511627776 - lim s 1099511627776) (lim p 100000) (by omega) hp.1 hp.2
    have g2 := ehi_le (lim n 1099511627776 - lim s 1099511627776) (lim p 100000) (by omega) (by omega) hp.1 hp.2
    have HO := Lib.hid ho
    clear ho
    go_enter Try.func16, Try.ntmps16
    go_wp2_with fail
    go_quiet ((go_at_call 15; exact still_quiet (time_any _ _)))
    go_wp2_with (first | (go_at_call 25; refine (highest_any _ _ _ (by omega)).mono ?_; rintro e w' ⟨rfl, rfl⟩) | (go_at_call 26; refine (lowest_any _ _ _ (by omega)).mono ?_; rintro e w' ⟨rfl, rfl⟩))
    all_goals
      go_ret3
      exact ⟨ret_int3 (by rw [atLo, HO.out]; rfl) (by rw [atHi, HO.out, if_pos rfl]; unfold ageOf; split <;> (try split) <;> omega) (by rw [atN, HO.out]; rfl), below_draws ((Below.refl _ _).alloc (Nat.le_refl _) _) _⟩
end Go.Proofs.Ytgefcejolfikoab
