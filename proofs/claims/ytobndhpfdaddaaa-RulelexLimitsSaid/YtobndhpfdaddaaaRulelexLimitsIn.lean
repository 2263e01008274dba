/- The walk of the law RulelexLimits with its arguments taken apart. No condition beyond the statement's own. -/
import Derived.Test.YtobndhpfdaddaaaLimits
import Derived.ProofKit
import Derived.OpenShut
namespace Go.Proofs.Ytobndhpfdaddaaa
open Go.ChangeShapes Go.WideShapes Go.ChangeAt Go.RowKit
set_option linter.unusedVariables false

theorem RulelexLimits.walk {H : Type} {enc : TypeId × Value → H} {base : Nat} (W : World) {v0 : Value} {d0 : DataW H} {p0 : List MemPlace}
    (o0 : Value.okWide Try.prog W .any base 41 v0) (h0 : DataW.Trod enc Try.prog W 0 (fun _ => true) true 41 v0 d0 p0) :
    Calls Try.prog 5 #[v0] W fun e w' => e = .returned (.bool true) ∧ Below W.heap.size W w' := by
  obtain ⟨a, rfl, rfl, rfl, w0⟩ := open_int Try.underlying41 o0 h0
  simp [Lit.wf, IntKind.min, IntKind.max, IntKind.signed, IntKind.bits] at w0
  obtain ⟨n, rfl⟩ := Int.eq_ofNat_of_zero_le (show 0 ≤ a by omega)
  exact limits_walk n (by omega) W
end Go.Proofs.Ytobndhpfdaddaaa
