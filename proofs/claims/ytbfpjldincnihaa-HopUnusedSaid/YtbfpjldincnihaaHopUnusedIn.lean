/- The walk of the law HopUnused with its arguments taken apart. No condition beyond the statement's own. -/
import Derived.Test.YtbfpjldincnihaaLawsG
import Derived.ProofKit
import Derived.OpenShut
namespace Go.Proofs.Ytbfpjldincnihaa
open Go.ChangeShapes Go.WideShapes Go.ChangeAt Go.RowKit
set_option linter.unusedVariables false

theorem HopUnused.walk {H : Type} {enc : TypeId × Value → H} {base : Nat} (W : World) {v0 : Value} {d0 : DataW H} {p0 : List MemPlace} {v1 : Value} {d1 : DataW H} {p1 : List MemPlace} {v2 : Value} {d2 : DataW H} {p2 : List MemPlace}
    (o0 : Value.okWide Try.prog W .any base 25 v0) (h0 : DataW.Trod enc Try.prog W 0 (fun _ => true) true 25 v0 d0 p0)
    (o1 : Value.okWide Try.prog W .any base 5 v1) (h1 : DataW.Trod enc Try.prog W 0 (fun _ => true) true 5 v1 d1 p1)
    (o2 : Value.okWide Try.prog W .any base 3 v2) (h2 : DataW.Trod enc Try.prog W 0 (fun _ => true) true 3 v2 d2 p2) :
    Calls Try.prog 9 #[v0, v1, v2] W fun e w' => e = .returned (.bool true) ∧ Below W.heap.size W w' := by
      obtain ⟨m, la, da, lc, dc, rfl, hT, hD⟩ := open25 o0 h0
      obtain ⟨a1, rfl, rfl, rfl, w1⟩ := open_int Try.underlying5 o1 h1
      obtain ⟨a2, rfl, rfl, rfl, w2⟩ := open_int Try.underlying3 o2 h2
      obtain ⟨c, rfl⟩ := byte_of w1
      exact hopUnused_walk m la da lc dc c a2 W hT hD
end Go.Proofs.Ytbfpjldincnihaa
