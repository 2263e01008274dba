/- The walk of the law UsageRecords with its arguments taken apart. No condition beyond the statement's own. -/
import Derived.Test.YtdkaapkehmjepaaOther
import Derived.Test.YtdkaapkehmjepaaOpenList
import Derived.Test.YtdkaapkehmjepaaOpenB
import Derived.ProofKit
import Derived.OpenShut
namespace Go.Proofs.Ytdkaapkehmjepaa
open Go.ChangeShapes Go.WideShapes Go.ChangeAt Go.RowKit
set_option linter.unusedVariables false

theorem UsageRecords.walk {H : Type} {enc : TypeId × Value → H} {base : Nat} (W : World) {v0 : Value} {d0 : DataW H} {p0 : List MemPlace} {v1 : Value} {d1 : DataW H} {p1 : List MemPlace} {v2 : Value} {d2 : DataW H} {p2 : List MemPlace} {v3 : Value} {d3 : DataW H} {p3 : List MemPlace}
    (o0 : Value.okWide Try.prog W .any base 40 v0) (h0 : DataW.Trod enc Try.prog W 0 (fun _ => true) true 40 v0 d0 p0)
    (o1 : Value.okWide Try.prog W .any base 3 v1) (h1 : DataW.Trod enc Try.prog W 0 (fun _ => true) true 3 v1 d1 p1)
    (o2 : Value.okWide Try.prog W .any base 3 v2) (h2 : DataW.Trod enc Try.prog W 0 (fun _ => true) true 3 v2 d2 p2)
    (o3 : Value.okWide Try.prog W .any base 59 v3) (h3 : DataW.Trod enc Try.prog W 0 (fun _ => true) true 59 v3 d3 p3) :
    Calls Try.prog 11 #[v0, v1, v2, v3] W fun e w' => e = .returned (.bool true) ∧ Below W.heap.size W w' := by
    obtain ⟨es, hE, hF⟩ := open40 o0 h0
    obtain ⟨a1, rfl, rfl, rfl, w1⟩ := open_int Try.underlying3 o1 h1
    obtain ⟨a2, rfl, rfl, rfl, w2⟩ := open_int Try.underlying3 o2 h2
    obtain ⟨l, hI⟩ := open59 o3 h3
    exact usageRecords_walk v0 es a1 a2 v3 l W hE hF hI
end Go.Proofs.Ytdkaapkehmjepaa
