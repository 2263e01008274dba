/- The walk of the law HopSame with its arguments taken apart. No condition beyond the statement's own. -/
import Derived.Test.YtbfpjldincnihaaLawsH
import Derived.ProofKit
import Derived.OpenShut
namespace Go.Proofs.Ytbfpjldincnihaa
open Go.ChangeShapes Go.WideShapes Go.ChangeAt Go.RowKit
set_option linter.unusedVariables false

theorem HopSame.walk {H : Type} {enc : TypeId × Value → H} {base : Nat} (W : World) {v0 : Value} {d0 : DataW H} {p0 : List MemPlace} {v1 : Value} {d1 : DataW H} {p1 : List MemPlace}
    (o0 : Value.okWide Try.prog W .any base 25 v0) (h0 : DataW.Trod enc Try.prog W 0 (fun _ => true) true 25 v0 d0 p0)
    (o1 : Value.okWide Try.prog W .any base 25 v1) (h1 : DataW.Trod enc Try.prog W 0 (fun _ => true) true 25 v1 d1 p1) :
    Calls Try.prog 11 #[v0, v1] W fun e w' => e = .returned (.bool true) ∧ Below W.heap.size W w' := by
      obtain ⟨m, la, da, lc, dc, rfl, hT, hD⟩ := open25 o0 h0
      obtain ⟨n, la2, da2, lc2, dc2, rfl, hT2, hD2⟩ := open25 o1 h1
      exact hopSame_walk m n la da la2 da2 lc dc lc2 dc2 W hT hD hT2 hD2
end Go.Proofs.Ytbfpjldincnihaa
