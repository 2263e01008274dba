/- The walk of the law WholeBill with its arguments taken apart. No condition beyond the statement's own. -/
import Derived.Test.YthhooocckfljaaaWhole
import Derived.Test.YthhooocckfljaaaOpenC
import Derived.ProofKit
import Derived.OpenShut
namespace Go.Proofs.Ythhooocckfljaaa
open Go.ChangeShapes Go.WideShapes Go.ChangeAt Go.RowKit
set_option linter.unusedVariables false

set_option maxRecDepth 20000 in
theorem WholeBill.walk {H : Type} {enc : TypeId × Value → H} {base : Nat} (W : World) {v0 : Value} {d0 : DataW H} {p0 : List MemPlace} {v1 : Value} {d1 : DataW H} {p1 : List MemPlace}
    (o0 : Value.okWide Try.prog W .any base 22 v0) (h0 : DataW.Trod enc Try.prog W 0 (fun _ => true) true 22 v0 d0 p0)
    (o1 : Value.okWide Try.prog W .any base 23 v1) (h1 : DataW.Trod enc Try.prog W 0 (fun _ => true) true 23 v1 d1 p1) :
    Calls Try.prog 3 #[v0, v1] W fun e w' => e = .returned (.bool true) ∧ Below W.heap.size W w' := by
    obtain ⟨cs, hC, hok⟩ := open22 o0 h0
    obtain ⟨a1, rfl, rfl, rfl, w1⟩ := open_int Try.underlying23 o1 h1
    obtain ⟨pr, rfl, hpr⟩ := wf_u16 w1
    exact whole_walk v0 cs pr W hC hok hpr
end Go.Proofs.Ythhooocckfljaaa
