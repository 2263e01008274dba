/- The walk of the law RecordLarge with its arguments taken apart. No condition beyond the statement's own. -/
import Derived.Test.YtnieoaadhbcjiaaLarge
import Derived.ProofKit
import Derived.OpenShut
namespace Go.Proofs.Ytnieoaadhbcjiaa
open Go.ChangeShapes Go.WideShapes Go.ChangeAt Go.RowKit
set_option linter.unusedVariables false

theorem RecordLarge.walk {H : Type} {enc : TypeId × Value → H} {base : Nat} (W : World) {v0 : Value} {d0 : DataW H} {p0 : List MemPlace}
    (o0 : Value.okWide Try.prog W .any base 3 v0) (h0 : DataW.Trod enc Try.prog W 0 (fun _ => true) true 3 v0 d0 p0) :
    Calls Try.prog 9 #[v0] W fun e w' => e = .returned (.bool true) ∧ Below W.heap.size W w' := by
  obtain ⟨a0, rfl, rfl, rfl, w0⟩ := open_int Try.underlying3 o0 h0
  exact large_walk a0 W
end Go.Proofs.Ytnieoaadhbcjiaa
