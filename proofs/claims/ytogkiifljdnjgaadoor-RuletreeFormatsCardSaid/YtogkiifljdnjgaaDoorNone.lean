/- The walks of Num and Is. No condition. -/
import Derived.Test.YtogkiifljdnjgaaDoorErrP
import Derived.Test.YtogkiifljdnjgaaDoorFormat
import Derived.ProofKit
import Derived.OpenShut
namespace Go.Proofs.YtogkiifljdnjgaaDoor
open Go.ChangeShapes Go.WideShapes Go.ChangeAt Go.RowKit
set_option linter.unusedVariables false
set_option linter.unusedSimpArgs false

theorem assert_errno (n : Int) (w : World) : (Instr.typeAssert (.iface 52 (.int .i64 n)) 42 52 true).run Tryd.prog w = .ok (.tuple #[.int .i64 n, .bool true]) w := by kernel_rfl
set_option maxRecDepth 20000 in
theorem num_nil (w : World) : Calls Tryd.prog 21 #[.nilIface] w fun e w' => e = .returned (.int .i64 0) ∧ w = w' := by
  go_enter Tryd.func21, Tryd.ntmps21
  go_wp2
  go_ret
  exact ⟨rfl, rfl⟩
set_option maxRecDepth 20000 in
theorem num_err (n : Int) (w : World) : Calls Tryd.prog 21 #[.iface 52 (.int .i64 n)] w fun e w' => e = .returned (.int .i64 n) ∧ w = w' := by
  have ha := assert_errno n
  go_enter Tryd.func21, Tryd.ntmps21
  go_wp2
  go_ret
  exact ⟨rfl, rfl⟩
set_option maxRecDepth 20000 in
theorem is_err (n m : Int) (w : World) : Calls Tryd.prog 22 #[.iface 52 (.int .i64 n), .int .i64 m] w fun e w' => e = .returned (.bool (n == m && m != 0)) ∧ w = w' := by
  go_enter Tryd.func22, Tryd.ntmps22
  go_wp2_with (go_at_call 21; refine (num_err _ _).mono ?_; rintro e w' ⟨rfl, rfl⟩)
  all_goals
    go_ret
    exact ⟨ret_bool (by simp [*]), rfl⟩
set_option maxRecDepth 20000 in
theorem is_nil (m : Int) (w : World) : Calls Tryd.prog 22 #[.nilIface, .int .i64 m] w fun e w' => e = .returned (.bool false) ∧ w = w' := by
  go_enter Tryd.func22, Tryd.ntmps22
  go_wp2_with (go_at_call 21; refine (num_nil _).mono ?_; rintro e w' ⟨rfl, rfl⟩)
  all_goals
    go_ret
    exact ⟨ret_bool (by first | rfl | (simp; omega)), rfl⟩
theorem isn_yes (n : Int) (h : n ≠ 0) (w : World) : Calls Tryd.prog 22 #[.iface 52 (.int .i64 n), .int .i64 n] w fun e w' => e = .returned (.bool true) ∧ w = w' := by
  have := is_err n n w
  rwa [show (n == n && n != 0) = true by simp [h]] at this

end Go.Proofs.YtogkiifljdnjgaaDoor
