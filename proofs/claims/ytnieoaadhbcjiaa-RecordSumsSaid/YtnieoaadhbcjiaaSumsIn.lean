/- The walk of the law RecordSums with its arguments taken apart. No condition beyond the statement's own. -/
import Derived.Test.YtnieoaadhbcjiaaSums
import Derived.ProofKit
import Derived.OpenShut
import Derived.Test.YtnieoaadhbcjiaaOpen
namespace Go.Proofs.Ytnieoaadhbcjiaa
open Go.ChangeShapes Go.WideShapes Go.ChangeAt Go.RowKit
set_option linter.unusedVariables false

theorem RecordSums.walk {H : Type} {enc : TypeId × Value → H} {base : Nat} (W : World) {v0 : Value} {d0 : DataW H} {p0 : List MemPlace} {v1 : Value} {d1 : DataW H} {p1 : List MemPlace}
    (o0 : Value.okWide Try.prog W .any base 23 v0) (h0 : DataW.Trod enc Try.prog W 0 (fun _ => true) true 23 v0 d0 p0)
    (o1 : Value.okWide Try.prog W .any base 23 v1) (h1 : DataW.Trod enc Try.prog W 0 (fun _ => true) true 23 v1 d1 p1) :
    Calls Try.prog 4 #[v0, v1] W fun e w' => e = .returned (.bool true) ∧ Below W.heap.size W w' := by
  obtain ⟨a, ha⟩ := open23 o0 h0
  obtain ⟨b, hb⟩ := open23 o1 h1
  exact sums_walk v0 v1 a b W ha hb
end Go.Proofs.Ytnieoaadhbcjiaa
