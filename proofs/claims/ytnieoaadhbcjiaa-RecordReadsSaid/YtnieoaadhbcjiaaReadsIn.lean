/- The walk of the law RecordReads with its arguments taken apart. No condition beyond the statement's own. -/
import Derived.Test.YtnieoaadhbcjiaaReads
import Derived.ProofKit
import Derived.OpenShut
import Derived.Test.YtnieoaadhbcjiaaOpen
namespace Go.Proofs.Ytnieoaadhbcjiaa
open Go.ChangeShapes Go.WideShapes Go.ChangeAt Go.RowKit
set_option linter.unusedVariables false

theorem RecordReads.walk {H : Type} {enc : TypeId × Value → H} {base : Nat} (W : World) {v0 : Value} {d0 : DataW H} {p0 : List MemPlace} {v1 : Value} {d1 : DataW H} {p1 : List MemPlace}
    (o0 : Value.okWide Try.prog W .any base 23 v0) (h0 : DataW.Trod enc Try.prog W 0 (fun _ => true) true 23 v0 d0 p0)
    (o1 : Value.okWide Try.prog W .any base 23 v1) (h1 : DataW.Trod enc Try.prog W 0 (fun _ => true) true 23 v1 d1 p1) :
    Calls Try.prog 6 #[v0, v1] W fun e w' => e = .returned (.bool true) ∧ Below W.heap.size W w' := by
  obtain ⟨l, hl⟩ := open23 o0 h0
  obtain ⟨ks, hks⟩ := open23 o1 h1
  exact reads_walk v0 v1 l ks W hl hks
end Go.Proofs.Ytnieoaadhbcjiaa
