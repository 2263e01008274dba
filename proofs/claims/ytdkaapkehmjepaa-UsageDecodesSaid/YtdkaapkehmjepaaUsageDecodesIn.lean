/- The walk of the law UsageDecodes with its arguments taken apart. No condition beyond the statement's own. -/
import Derived.Test.YtdkaapkehmjepaaBack
import Derived.Test.YtdkaapkehmjepaaOpenB
import Derived.ProofKit
import Derived.OpenShut
namespace Go.Proofs.Ytdkaapkehmjepaa
open Go.ChangeShapes Go.WideShapes Go.ChangeAt Go.RowKit
set_option linter.unusedVariables false

theorem UsageDecodes.walk {H : Type} {enc : TypeId × Value → H} {base : Nat} (W : World) {v0 : Value} {d0 : DataW H} {p0 : List MemPlace}
    (o0 : Value.okWide Try.prog W .any base 59 v0) (h0 : DataW.Trod enc Try.prog W 0 (fun _ => true) true 59 v0 d0 p0) :
    Calls Try.prog 10 #[v0] W fun e w' => e = .returned (.bool true) ∧ Below W.heap.size W w' := by
    obtain ⟨l, hI⟩ := open59 o0 h0
    exact usageDecodes_walk v0 l W hI
end Go.Proofs.Ytdkaapkehmjepaa
