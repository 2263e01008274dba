/- The walk of the law RulelexJoins with its arguments taken apart. No condition beyond the statement's own. -/
import Derived.Test.YtobndhpfdaddaaaJoins
import Derived.Test.YtobndhpfdaddaaaOpen
import Derived.ChangeMaps5
import Derived.ProofKit
import Derived.OpenShut
namespace Go.Proofs.Ytobndhpfdaddaaa
open Go.ChangeShapes Go.WideShapes Go.ChangeAt Go.RowKit
set_option linter.unusedVariables false

theorem RulelexJoins.walk {H : Type} {enc : TypeId × Value → H} {base : Nat} (W : World) {v0 : Value} {d0 : DataW H} {p0 : List MemPlace} {v1 : Value} {d1 : DataW H} {p1 : List MemPlace}
    (o0 : Value.okWide Try.prog W .any base 9 v0) (h0 : DataW.Trod enc Try.prog W 0 (fun _ => true) true 9 v0 d0 p0)
    (o1 : Value.okWide Try.prog W .any base 35 v1) (h1 : DataW.Trod enc Try.prog W 0 (fun _ => true) true 35 v1 d1 p1) :
    Calls Try.prog 6 #[v0, v1] W fun e w' => e = .returned (.bool true) ∧ Below W.heap.size W w' := by
  obtain ⟨s, rfl, rfl, rfl, w0⟩ := Go.ChangeMaps.open_string Try.underlying9 o0 h0
  obtain ⟨l, hl⟩ := open35 o1 h1
  exact joins_walk s v1 l W hl
end Go.Proofs.Ytobndhpfdaddaaa
