/- The walk of the law RecordNone: it returns true. No condition. -/
import Derived.Test.YtnieoaadhbcjiaaAppends
import Derived.ProofKit
import Derived.OpenShut
namespace Go.Proofs.Ytnieoaadhbcjiaa
open Go.ChangeShapes Go.WideShapes Go.ChangeAt Go.RowKit
set_option linter.unusedVariables false
set_option linter.unusedSimpArgs false

theorem assert_errno (n : Int) (w : World) : (Instr.typeAssert (.iface 55 (.int .i64 n)) 36 55 true).run Try.prog w = .ok (.tuple #[.int .i64 n, .bool true]) w := by kernel_rfl
theorem num_nil (w : World) : Calls Try.prog 22 #[.nilIface] w fun e w' => e = .returned (.int .i64 0) ∧ w = w' := by
  go_enter Try.func22, Try.ntmps22
  go_wp2
  go_ret
  exact ⟨rfl, rfl⟩
theorem num_err (n : Int) (w : World) : Calls Try.prog 22 #[.iface 55 (.int .i64 n)] w fun e w' => e = .returned (.int .i64 n) ∧ w = w' := by
  have ha := assert_errno n
  go_enter Try.func22, Try.ntmps22
  go_wp2
  go_ret
  exact ⟨rfl, rfl⟩
theorem is_err (n m : Int) (w : World) : Calls Try.prog 26 #[.iface 55 (.int .i64 n), .int .i64 m] w fun e w' => e = .returned (.bool (n == m && m != 0)) ∧ w = w' := by
  go_enter Try.func26, Try.ntmps26
  go_wp2_with (go_at_call 22; refine (num_err _ _).mono ?_; rintro e w' ⟨rfl, rfl⟩)
  all_goals
    go_ret
    exact ⟨ret_bool (by simp [*]), rfl⟩
theorem is_nil (m : Int) (w : World) : Calls Try.prog 26 #[.nilIface, .int .i64 m] w fun e w' => e = .returned (.bool false) ∧ w = w' := by
  go_enter Try.func26, Try.ntmps26
  go_wp2_with (go_at_call 22; refine (num_nil _).mono ?_; rintro e w' ⟨rfl, rfl⟩)
  all_goals
    go_ret
    exact ⟨ret_bool (by first | rfl | (simp; omega)), rfl⟩
theorem is_yes (n : Int) (h : n ≠ 0) (w : World) : Calls Try.prog 26 #[.iface 55 (.int .i64 n), .int .i64 n] w fun e w' => e = .returned (.bool true) ∧ w = w' := by
  have := is_err n n w
  rwa [show (n == n && n != 0) = true by simp [h]] at this

theorem none_walk (n : Int) (w : World) : Calls Try.prog 7 #[.int .i64 n] w fun e w' => e = .returned (.bool true) ∧ Below w.heap.size w w' := by
  go_enter Try.func7, Try.ntmps7
  go_wp2_with fail
  refine (awake_any _).mono ?_
  rintro e w1 ⟨rfl, hb⟩
  go_wp2_with (first | (go_at_call 27; refine (err_none _).mono ?_; rintro e w' ⟨rfl, rfl⟩) | (go_at_call 25; refine (left_none _).mono ?_; rintro e w' ⟨rfl, rfl⟩) | (go_at_call 28; refine (uint_none _).mono ?_; rintro e w' ⟨rfl, rfl⟩) | (go_at_call 29; refine (text_none _).mono ?_; rintro e w' ⟨rfl, rfl⟩) | (go_at_call 30; refine (texts_none _).mono ?_; rintro e w' ⟨rfl, rfl⟩) | (go_at_call 26; refine (is_yes 3 (by decide) _).mono ?_; rintro e w' ⟨rfl, rfl⟩))

  all_goals go_ret
  exact ⟨rfl, hb⟩
end Go.Proofs.Ytnieoaadhbcjiaa
