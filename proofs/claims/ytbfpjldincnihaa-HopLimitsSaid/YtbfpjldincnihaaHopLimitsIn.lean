/- The walk of the law HopLimits with its arguments taken apart. No condition beyond the statement's own. -/
import Derived.Test.YtbfpjldincnihaaOpenR
import Derived.ProofKit
import Derived.OpenShut
namespace Go.Proofs.Ytbfpjldincnihaa
open Go.ChangeShapes Go.WideShapes Go.ChangeAt Go.RowKit
set_option linter.unusedVariables false

theorem HopLimits.walk {H : Type} {enc : TypeId × Value → H} {base : Nat} (W : World) {v0 : Value} {d0 : DataW H} {p0 : List MemPlace} {v1 : Value} {d1 : DataW H} {p1 : List MemPlace}
    (o0 : Value.okWide Try.prog W .any base 51 v0) (h0 : DataW.Trod enc Try.prog W 0 (fun _ => true) true 51 v0 d0 p0)
    (o1 : Value.okWide Try.prog W .any base 4 v1) (h1 : DataW.Trod enc Try.prog W 0 (fun _ => true) true 4 v1 d1 p1) :
    Calls Try.prog 10 #[v0, v1] W fun e w' => e = .returned (.bool true) ∧ Below W.heap.size W w' := by
      obtain ⟨n0, n1, n2, rfl, w0, w1, w2⟩ := open51 o0 h0
      obtain ⟨x, rfl⟩ := byte_of w0
      obtain ⟨y, rfl⟩ := byte_of w1
      obtain ⟨z, rfl⟩ := byte_of w2
      obtain ⟨long, rfl, rfl, rfl⟩ := open_bool Try.underlying4 o1 h1
      exact hopLimits_walk x y z long W
end Go.Proofs.Ytbfpjldincnihaa
