/- The walk of the law RulelexPlaces with its arguments taken apart. No condition beyond the statement's own. -/
import Derived.Test.YtobndhpfdaddaaaPlaces
import Derived.ChangeMaps5
import Derived.ProofKit
import Derived.OpenShut
namespace Go.Proofs.Ytobndhpfdaddaaa
open Go.ChangeShapes Go.WideShapes Go.ChangeAt Go.RowKit
set_option linter.unusedVariables false

theorem RulelexPlaces.walk {H : Type} {enc : TypeId × Value → H} {base : Nat} (W : World) {v0 : Value} {d0 : DataW H} {p0 : List MemPlace}
    (o0 : Value.okWide Try.prog W .any base 9 v0) (h0 : DataW.Trod enc Try.prog W 0 (fun _ => true) true 9 v0 d0 p0) :
    Calls Try.prog 7 #[v0] W fun e w' => e = .returned (.bool true) ∧ Below W.heap.size W w' := by
  obtain ⟨s, rfl, rfl, rfl, w0⟩ := Go.ChangeMaps.open_string Try.underlying9 o0 h0
  exact places_walk s W
end Go.Proofs.Ytobndhpfdaddaaa
