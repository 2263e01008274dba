/- The walk of the law ClockGrows: it returns true. No condition. -/
import Derived.Test.YtgefcejolfikoaaLaws
namespace Go.Proofs.Ytgefcejolfikoaa
open Go.ChangeShapes Go.WideShapes Go.ChangeAt Go.RowKit
set_option linter.unusedVariables false
set_option linter.unusedSimpArgs false

theorem elapsed_in (n p : Int) (w : World) (h : 0 ≤ n ∧ n ≤ 1099511627776) (g : 0 ≤ p ∧ p ≤ 100000) : Calls Try.prog 17 #[.int .i64 n, .int .i64 p] w fun e w' => e = .returned (.tuple #[.int .i64 (elo n p), .int .i64 (ehi n p)]) ∧ w = w' := by
  have := elapsed_any n p w
  rwa [lim_id n _ h.1 h.2, lim_id p _ g.1 g.2] at this
theorem hold_in (n p : Int) (w : World) (h : 0 ≤ n ∧ n ≤ 1099511627776) (g : 0 ≤ p ∧ p ≤ 100000) : Calls Try.prog 26 #[.int .i64 n, .int .i64 p] w fun e w' => e = .returned (.int .i64 (hold n p)) ∧ w = w' := by
  have := hold_any n p w
  rwa [lim_id n _ h.1 h.2, lim_id p _ g.1 g.2] at this
theorem wait_in (n p : Int) (w : World) (h : 0 ≤ n ∧ n ≤ 1099511627776) (g : 0 ≤ p ∧ p ≤ 100000) : Calls Try.prog 27 #[.int .i64 n, .int .i64 p] w fun e w' => e = .returned (.int .i64 (wait n p)) ∧ w = w' := by
  have := wait_any n p w
  rwa [lim_id n _ h.1 h.2, lim_id p _ g.1 g.2] at this

set_option maxHeartbeats 1000000 in
theorem grows_walk (d p a b : Int) (w : World) (ha : 0 ≤ a ∧ a ≤ 65535) (hb : 0 ≤ b ∧ b ≤ 65535) : Calls Try.prog 8 #[.int .i64 d, .int .i64 p, .agg #[.int .u16 a, .int .u16 b]] w fun e w' => e = .returned (.bool true) ∧ Below w.heap.size w w' := by
  have hn := clip_bd d 0 1099511562240 (by omega)
  have hp := clip_bd p 0 34464 (by omega)
  go_enter Try.func8, Try.ntmps8
  go_wp2_with (first | (go_at_call 15; refine (awake_any _).mono ?_; rintro e w' ⟨rfl, rfl⟩) | (go_at_call 28; refine (clip_any _ _ _ _).mono ?_; rintro e w' ⟨rfl, rfl⟩) | (go_at_call 26; refine (hold_any _ _ _).mono ?_; rintro e w' ⟨rfl, rfl⟩) | (go_at_call 27; refine (wait_any _ _ _).mono ?_; rintro e w' ⟨rfl, rfl⟩) | (go_at_call 17; refine (elapsed_any _ _ _).mono ?_; rintro e w' ⟨rfl, rfl⟩))
  generalize clipI d 0 1099511562240 = n at *
  generalize clipI p 0 34464 = p' at *
  go_quiet (fail)
  have f1 := elo_up n (n + a) p' (by omega) (by omega) (by omega)
  have f2 := ehi_up n (n + a) p' (by omega) (by omega)
  have f3 := elo_down n p' (p' + b) (by omega) (by omega)
  have f4 := ehi_more n p' (p' + b) (by omega) (by omega) (by omega) (by omega)
  have f5 := elo_le n p' (by omega) (by omega)
  have f6 := ehi_nonneg n p' (by omega) (by omega) (by omega)
  have f7 := hold_down n p' (p' + b) (by omega) (by omega)
  have f8 := hold_up n (n + a) p' (by omega) (by omega)
  have f9 := wait_more n p' (p' + b) (by omega) (by omega)
  have f10 := wait_up n (n + a) p' (by omega) (by omega) (by omega)
  go_wp2_with (first | (go_at_call 26; refine (hold_in _ _ _ (by omega) (by omega)).mono ?_; rintro e w' ⟨rfl, rfl⟩) | (go_at_call 27; refine (wait_in _ _ _ (by omega) (by omega)).mono ?_; rintro e w' ⟨rfl, rfl⟩) | (go_at_call 17; refine (elapsed_in _ _ _ (by omega) (by omega)).mono ?_; rintro e w' ⟨rfl, rfl⟩))
  go_ret
  exact ⟨rfl, below_draws ((Below.refl _ _).alloc (Nat.le_refl _) _) _⟩

end Go.Proofs.Ytgefcejolfikoaa
