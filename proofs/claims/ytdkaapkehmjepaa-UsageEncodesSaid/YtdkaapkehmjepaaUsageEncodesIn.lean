/- The walk of the law UsageEncodes with its arguments taken apart. No condition beyond the statement's own. -/
import Derived.Test.YtdkaapkehmjepaaOpenList
import Derived.ProofKit
import Derived.OpenShut
namespace Go.Proofs.Ytdkaapkehmjepaa
open Go.ChangeShapes Go.WideShapes Go.ChangeAt Go.RowKit
set_option linter.unusedVariables false

theorem UsageEncodes.walk {H : Type} {enc : TypeId × Value → H} {base : Nat} (W : World) {v0 : Value} {d0 : DataW H} {p0 : List MemPlace}
    (o0 : Value.okWide Try.prog W .any base 40 v0) (h0 : DataW.Trod enc Try.prog W 0 (fun _ => true) true 40 v0 d0 p0) :
    Calls Try.prog 7 #[v0] W fun e w' => e = .returned (.bool true) ∧ Below W.heap.size W w' := by
    obtain ⟨es, hE, hF⟩ := open40 o0 h0
    exact usageEncodes_walk v0 es W hE hF
end Go.Proofs.Ytdkaapkehmjepaa
