/- The walk of the law UsageChecks with its arguments taken apart. No condition beyond the statement's own. -/
import Derived.Test.YtdkaapkehmjepaaAwake
import Derived.Test.YtdkaapkehmjepaaOpen
import Derived.ProofKit
import Derived.OpenShut
namespace Go.Proofs.Ytdkaapkehmjepaa
open Go.ChangeShapes Go.WideShapes Go.ChangeAt Go.RowKit
set_option linter.unusedVariables false

theorem UsageChecks.walk {H : Type} {enc : TypeId × Value → H} {base : Nat} (W : World) {v0 : Value} {d0 : DataW H} {p0 : List MemPlace}
    (o0 : Value.okWide Try.prog W .any base 23 v0) (h0 : DataW.Trod enc Try.prog W 0 (fun _ => true) true 23 v0 d0 p0) :
    Calls Try.prog 3 #[v0] W fun e w' => e = .returned (.bool true) ∧ Below W.heap.size W w' := by
  obtain ⟨s, a1, a2, a3, a4, a5, a6, rfl, hs, w1, w2, w3, w4, w5, w6⟩ := open23 o0 h0
  unfold maxLen at hs
  exact usageChecks_walk ⟨s.data.toList, a1, a2, a3, a4, a5, a6⟩ W (by rw [Array.length_toList]; exact hs) (wf64 w2)
end Go.Proofs.Ytdkaapkehmjepaa
