/- The walk of the law RecordNone: it returns true. No condition. -/
import Derived.Test.YthhooocckfljaaaAppends
import Derived.ProofKit
import Derived.OpenShut
namespace Go.Proofs.Ythhooocckfljaaa
open Go.ChangeShapes Go.WideShapes Go.ChangeAt Go.RowKit
set_option linter.unusedVariables false
set_option linter.unusedSimpArgs false

theorem assert_errno (n : Int) (w : World) : (Instr.typeAssert (.iface 94 (.int .i64 n)) 30 94 true).run Try.prog w = .ok (.tuple #[.int .i64 n, .bool true]) w := by kernel_rfl
end Go.Proofs.Ythhooocckfljaaa
