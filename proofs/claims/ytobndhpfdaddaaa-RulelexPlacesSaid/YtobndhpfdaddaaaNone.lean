/- The walk of the law RecordNone: it returns true. No condition. -/
import Derived.Test.YtobndhpfdaddaaaStep
import Derived.ProofKit
import Derived.OpenShut
namespace Go.Proofs.Ytobndhpfdaddaaa
open Go.ChangeShapes Go.WideShapes Go.ChangeAt Go.RowKit
set_option linter.unusedVariables false
set_option linter.unusedSimpArgs false

theorem assert_errno (n : Int) (w : World) : (Instr.typeAssert (.iface 37 (.int .i64 n)) 25 37 true).run Try.prog w = .ok (.tuple #[.int .i64 n, .bool true]) w := by kernel_rfl
theorem num_nil (w : World) : Calls Try.prog 12 #[.nilIface] w fun e w' => e = .returned (.int .i64 0) ∧ w = w' := by
  go_enter Try.func12, Try.ntmps12
  go_wp2
  go_ret
  exact ⟨rfl, rfl⟩
theorem num_err (n : Int) (w : World) : Calls Try.prog 12 #[.iface 37 (.int .i64 n)] w fun e w' => e = .returned (.int .i64 n) ∧ w = w' := by
  have ha := assert_errno n
  go_enter Try.func12, Try.ntmps12
  go_wp2
  go_ret
  exact ⟨rfl, rfl⟩
theorem is_err (n m : Int) (w : World) : Calls Try.prog 14 #[.iface 37 (.int .i64 n), .int .i64 m] w fun e w' => e = .returned (.bool (n == m && m != 0)) ∧ w = w' := by
  go_enter Try.func14, Try.ntmps14
  go_wp2_with (go_at_call 12; refine (num_err _ _).mono ?_; rintro e w' ⟨rfl, rfl⟩)
  all_goals
    go_ret
    exact ⟨ret_bool (by simp [*]), rfl⟩
theorem is_nil (m : Int) (w : World) : Calls Try.prog 14 #[.nilIface, .int .i64 m] w fun e w' => e = .returned (.bool false) ∧ w = w' := by
  go_enter Try.func14, Try.ntmps14
  go_wp2_with (go_at_call 12; refine (num_nil _).mono ?_; rintro e w' ⟨rfl, rfl⟩)
  all_goals
    go_ret
    exact ⟨ret_bool (by first | rfl | (simp; omega)), rfl⟩
theorem is_yes (n : Int) (h : n ≠ 0) (w : World) : Calls Try.prog 14 #[.iface 37 (.int .i64 n), .int .i64 n] w fun e w' => e = .returned (.bool true) ∧ w = w' := by
  have := is_err n n w
  rwa [show (n == n && n != 0) = true by simp [h]] at this

end Go.Proofs.Ytobndhpfdaddaaa
