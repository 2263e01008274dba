/- The walk of the law RulelexNumbers with its arguments taken apart. No condition beyond the statement's own. -/
import Derived.Test.YtobndhpfdaddaaaNumbers
import Derived.ProofKit
import Derived.OpenShut
namespace Go.Proofs.Ytobndhpfdaddaaa
open Go.ChangeShapes Go.WideShapes Go.ChangeAt Go.RowKit
set_option linter.unusedVariables false

theorem RulelexNumbers.walk {H : Type} {enc : TypeId × Value → H} {base : Nat} (W : World) {v0 : Value} {d0 : DataW H} {p0 : List MemPlace} {v1 : Value} {d1 : DataW H} {p1 : List MemPlace}
    (o0 : Value.okWide Try.prog W .any base 34 v0) (h0 : DataW.Trod enc Try.prog W 0 (fun _ => true) true 34 v0 d0 p0)
    (o1 : Value.okWide Try.prog W .any base 5 v1) (h1 : DataW.Trod enc Try.prog W 0 (fun _ => true) true 5 v1 d1 p1) :
    Calls Try.prog 4 #[v0, v1] W fun e w' => e = .returned (.bool true) ∧ Below W.heap.size W w' := by
  obtain ⟨a, rfl, rfl, rfl, w0⟩ := open_int Try.underlying34 o0 h0
  obtain ⟨b, rfl, rfl, rfl, w1⟩ := open_int Try.underlying5 o1 h1
  simp [Lit.wf, IntKind.min, IntKind.max, IntKind.signed, IntKind.bits] at w0 w1
  obtain ⟨n, rfl⟩ := Int.eq_ofNat_of_zero_le (show 0 ≤ a by omega)
  obtain ⟨z, rfl⟩ := Int.eq_ofNat_of_zero_le (show 0 ≤ b by omega)
  exact numbers_walk n z (by omega) (by omega) W
end Go.Proofs.Ytobndhpfdaddaaa
