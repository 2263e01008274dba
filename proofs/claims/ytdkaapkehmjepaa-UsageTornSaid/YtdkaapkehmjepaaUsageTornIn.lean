/- The walk of the law UsageTorn with its arguments taken apart. No condition beyond the statement's own. -/
import Derived.Test.YtdkaapkehmjepaaTorn
import Derived.Test.YtdkaapkehmjepaaOpenList
import Derived.ProofKit
import Derived.OpenShut
namespace Go.Proofs.Ytdkaapkehmjepaa
open Go.ChangeShapes Go.WideShapes Go.ChangeAt Go.RowKit
set_option linter.unusedVariables false

theorem UsageTorn.walk {H : Type} {enc : TypeId × Value → H} {base : Nat} (W : World) {v0 : Value} {d0 : DataW H} {p0 : List MemPlace} {v1 : Value} {d1 : DataW H} {p1 : List MemPlace}
    (o0 : Value.okWide Try.prog W .any base 40 v0) (h0 : DataW.Trod enc Try.prog W 0 (fun _ => true) true 40 v0 d0 p0)
    (o1 : Value.okWide Try.prog W .any base 3 v1) (h1 : DataW.Trod enc Try.prog W 0 (fun _ => true) true 3 v1 d1 p1) :
    Calls Try.prog 8 #[v0, v1] W fun e w' => e = .returned (.bool true) ∧ Below W.heap.size W w' := by
    obtain ⟨es, hE, hF⟩ := open40 o0 h0
    obtain ⟨a1, rfl, rfl, rfl, w1⟩ := open_int Try.underlying3 o1 h1
    exact usageTorn_walk v0 es a1 W hE hF
end Go.Proofs.Ytdkaapkehmjepaa
