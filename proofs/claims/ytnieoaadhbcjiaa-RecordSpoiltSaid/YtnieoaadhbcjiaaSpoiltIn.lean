/- The walk of the law RecordSpoilt with its arguments taken apart. No condition beyond the statement's own. -/
import Derived.Test.YtnieoaadhbcjiaaSpoilt
import Derived.ProofKit
import Derived.OpenShut
import Derived.Test.YtnieoaadhbcjiaaOpenRows
namespace Go.Proofs.Ytnieoaadhbcjiaa
open Go.ChangeShapes Go.WideShapes Go.ChangeAt Go.RowKit
set_option linter.unusedVariables false

theorem RecordSpoilt.walk {H : Type} {enc : TypeId × Value → H} {base : Nat} (W : World) {v0 : Value} {d0 : DataW H} {p0 : List MemPlace} {v1 : Value} {d1 : DataW H} {p1 : List MemPlace} {v2 : Value} {d2 : DataW H} {p2 : List MemPlace}
    (o0 : Value.okWide Try.prog W .any base 23 v0) (h0 : DataW.Trod enc Try.prog W 0 (fun _ => true) true 23 v0 d0 p0)
    (o1 : Value.okWide Try.prog W .any base 3 v1) (h1 : DataW.Trod enc Try.prog W 0 (fun _ => true) true 3 v1 d1 p1)
    (o2 : Value.okWide Try.prog W .any base 73 v2) (h2 : DataW.Trod enc Try.prog W 0 (fun _ => true) true 73 v2 d2 p2) :
    Calls Try.prog 12 #[v0, v1, v2] W fun e w' => e = .returned (.bool true) ∧ Below W.heap.size W w' := by
  obtain ⟨l, hl⟩ := open23 o0 h0
  obtain ⟨a1, rfl, rfl, rfl, w1⟩ := open_int Try.underlying3 o1 h1
  obtain ⟨b0, b1, b2, b3, rfl, k0, k1, k2, k3⟩ := open73 o2 h2
  obtain ⟨c0, rfl⟩ := byte_of k0
  obtain ⟨c1, rfl⟩ := byte_of k1
  obtain ⟨c2, rfl⟩ := byte_of k2
  obtain ⟨c3, rfl⟩ := byte_of k3
  exact spoilt_walk v0 l a1 c0 c1 c2 c3 W hl
end Go.Proofs.Ytnieoaadhbcjiaa
