/- The walk of the law UsageSums with its arguments taken apart. No condition beyond the statement's own. -/
import Derived.Test.YtdkaapkehmjepaaCounts
import Derived.ProofKit
import Derived.OpenShut
namespace Go.Proofs.Ytdkaapkehmjepaa
open Go.ChangeShapes Go.WideShapes Go.ChangeAt Go.RowKit
set_option linter.unusedVariables false

theorem UsageSums.walk {H : Type} {enc : TypeId × Value → H} {base : Nat} (W : World) {v0 : Value} {d0 : DataW H} {p0 : List MemPlace} {v1 : Value} {d1 : DataW H} {p1 : List MemPlace} {v2 : Value} {d2 : DataW H} {p2 : List MemPlace}
    (o0 : Value.okWide Try.prog W .any base 51 v0) (h0 : DataW.Trod enc Try.prog W 0 (fun _ => true) true 51 v0 d0 p0)
    (o1 : Value.okWide Try.prog W .any base 52 v1) (h1 : DataW.Trod enc Try.prog W 0 (fun _ => true) true 52 v1 d1 p1)
    (o2 : Value.okWide Try.prog W .any base 53 v2) (h2 : DataW.Trod enc Try.prog W 0 (fun _ => true) true 53 v2 d2 p2) :
    Calls Try.prog 5 #[v0, v1, v2] W fun e w' => e = .returned (.bool true) ∧ Below W.heap.size W w' := by
    obtain ⟨ps, hP⟩ := open51 o0 h0
    obtain ⟨bs, hB⟩ := open52 o1 h1
    obtain ⟨ns, hN⟩ := open53 o2 h2
    exact usageSums_walk v0 v1 v2 ps bs ns W hP hB hN
end Go.Proofs.Ytdkaapkehmjepaa
