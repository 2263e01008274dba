/- The walk of the law HopBack with its arguments taken apart. No condition beyond the statement's own. -/
import Derived.Test.YtbfpjldincnihaaLawsB
import Derived.ProofKit
import Derived.OpenShut
namespace Go.Proofs.Ytbfpjldincnihaa
open Go.ChangeShapes Go.WideShapes Go.ChangeAt Go.RowKit
set_option linter.unusedVariables false

theorem HopBack.walk {H : Type} {enc : TypeId × Value → H} {base : Nat} (W : World) {v0 : Value} {d0 : DataW H} {p0 : List MemPlace}
    (o0 : Value.okWide Try.prog W .any base 25 v0) (h0 : DataW.Trod enc Try.prog W 0 (fun _ => true) true 25 v0 d0 p0) :
    Calls Try.prog 4 #[v0] W fun e w' => e = .returned (.bool true) ∧ Below W.heap.size W w' := by
      obtain ⟨m, la, da, lc, dc, rfl, hT, hD⟩ := open25 o0 h0
      exact hopBack_walk m la da lc dc W hT hD
end Go.Proofs.Ytbfpjldincnihaa
