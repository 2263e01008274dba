/- The walks of the laws about clocks: each returns true. No condition. -/
import Derived.Test.YtgefcejolfikoaaPlain
import Derived.Test.YtgefcejolfikoaaWithin
import Derived.Test.YtgefcejolfikoaaOpen
import Derived.ProofKit
import Derived.OpenShut
import Derived.Lib.SmallJoins
namespace Go.Proofs.Ytgefcejolfikoaa
open Go.ChangeShapes Go.WideShapes Go.ChangeAt Go.RowKit
set_option linter.unusedVariables false
set_option linter.unusedSimpArgs false

theorem holds_walk (l p : Int) (w : World) : Calls Try.prog 7 #[.int .i64 l, .int .i64 p] w fun e w' => e = .returned (.bool true) ∧ w = w' := by
  have hd := lim_bd l 1099511627776 (by omega)
  have hp := lim_bd p 100000 (by omega)
  obtain ⟨a1, a2, a3, a4, a5, a6, a7, a8, a9⟩ := holds_law (lim l 1099511627776) (lim p 100000) hd.1 hd.2 hp.1 hp.2
  by_cases hn : 0 < lim l 1099511627776
  · have a6 := a6 hn
    have a8 := a8 hn
    have a9 := a9 hn
    have hz : (lim l 1099511627776 == 0) = false := by simp; omega
    have hy : (wait (lim l 1099511627776) (lim p 100000) == 0) = false := by simp; omega
    clear a7
    by_cases hh : 0 < hold (lim l 1099511627776) (lim p 100000)
    · have a5 := a5 hh
      go_enter Try.func7, Try.ntmps7
      go_wp2_with (first | (go_at_call 15; refine (awake_any _).mono ?_; rintro e w' ⟨rfl, rfl⟩) | (go_at_call 16; refine (time_any _ _).mono ?_; rintro e w' ⟨rfl, rfl⟩) | (go_at_call 26; refine (hold_any _ _ _).mono ?_; rintro e w' ⟨rfl, rfl⟩) | (go_at_call 27; refine (wait_any _ _ _).mono ?_; rintro e w' ⟨rfl, rfl⟩) | (go_at_call 18; refine (possible_any _ _ _ _ (by omega) (by omega) (by omega) (by omega)).mono ?_; rintro e w' ⟨rfl, rfl⟩))
      go_ret
      exact ⟨rfl, rfl⟩
    · clear a5
      go_enter Try.func7, Try.ntmps7
      go_wp2_with (first | (go_at_call 15; refine (awake_any _).mono ?_; rintro e w' ⟨rfl, rfl⟩) | (go_at_call 16; refine (time_any _ _).mono ?_; rintro e w' ⟨rfl, rfl⟩) | (go_at_call 26; refine (hold_any _ _ _).mono ?_; rintro e w' ⟨rfl, rfl⟩) | (go_at_call 27; refine (wait_any _ _ _).mono ?_; rintro e w' ⟨rfl, rfl⟩) | (go_at_call 18; refine (possible_any _ _ _ _ (by omega) (by omega) (by omega) (by omega)).mono ?_; rintro e w' ⟨rfl, rfl⟩))
      go_ret
      exact ⟨rfl, rfl⟩
  · have hz : (lim l 1099511627776 == 0) = true := by simp; omega
    have hy : (wait (lim l 1099511627776) (lim p 100000) == 0) = true := by simp; exact a7 (by omega)
    have hh : ¬ 0 < hold (lim l 1099511627776) (lim p 100000) := by omega
    clear a5 a6 a7 a8 a9
    go_enter Try.func7, Try.ntmps7
    go_wp2_with (first | (go_at_call 15; refine (awake_any _).mono ?_; rintro e w' ⟨rfl, rfl⟩) | (go_at_call 16; refine (time_any _ _).mono ?_; rintro e w' ⟨rfl, rfl⟩) | (go_at_call 26; refine (hold_any _ _ _).mono ?_; rintro e w' ⟨rfl, rfl⟩) | (go_at_call 27; refine (wait_any _ _ _).mono ?_; rintro e w' ⟨rfl, rfl⟩) | (go_at_call 18; refine (possible_any _ _ _ _ (by omega) (by omega) (by omega) (by omega)).mono ?_; rintro e w' ⟨rfl, rfl⟩))
    all_goals
      go_ret
      exact ⟨rfl, rfl⟩

theorem orders_walk (a b c d : Int) (w : World) : Calls Try.prog 4 #[.agg #[.int .i64 a, .int .i64 b], .agg #[.int .i64 c, .int .i64 d]] w fun e w' => e = .returned (.bool true) ∧ Below w.heap.size w w' := by
  go_enter Try.func4, Try.ntmps4
  go_wp2_with (first | (go_at_call 15; refine (awake_any _).mono ?_; rintro e w' ⟨rfl, rfl⟩) | (go_at_call 19; refine (before_any _ _ _ _ _).mono ?_; rintro e w' ⟨rfl, rfl⟩))
  all_goals
    go_ret
    exact ⟨ret_bool (by simp [*] <;> omega), by repeat (first | exact Below.refl _ _ | refine Below.drew ?_ | refine below_draws ?_ _ | refine Below.alloc ?_ (by simp <;> omega) _)⟩
end Go.Proofs.Ytgefcejolfikoaa
