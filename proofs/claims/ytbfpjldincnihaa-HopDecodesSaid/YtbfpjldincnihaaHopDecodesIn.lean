/- The walk of the law HopDecodes with its arguments taken apart. No condition beyond the statement's own. -/
import Derived.Test.YtbfpjldincnihaaLawsC
import Derived.ProofKit
import Derived.OpenShut
namespace Go.Proofs.Ytbfpjldincnihaa
open Go.ChangeShapes Go.WideShapes Go.ChangeAt Go.RowKit
set_option linter.unusedVariables false

theorem HopDecodes.walk {H : Type} {enc : TypeId × Value → H} {base : Nat} (W : World) {v0 : Value} {d0 : DataW H} {p0 : List MemPlace}
    (o0 : Value.okWide Try.prog W .any base 23 v0) (h0 : DataW.Trod enc Try.prog W 0 (fun _ => true) true 23 v0 d0 p0) :
    Calls Try.prog 5 #[v0] W fun e w' => e = .returned (.bool true) ∧ Below W.heap.size W w' := by
      obtain ⟨l, hI⟩ := open23 o0 h0
      exact hopDecodes_walk v0 l W hI
end Go.Proofs.Ytbfpjldincnihaa
