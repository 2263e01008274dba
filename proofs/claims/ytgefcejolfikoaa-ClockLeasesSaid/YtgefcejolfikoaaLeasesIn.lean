/- The walk of the law ClockLeases with its arguments taken apart. No condition. -/
import Derived.Test.YtgefcejolfikoaaLeases
import Derived.Test.YtgefcejolfikoaaOpen
namespace Go.Proofs.Ytgefcejolfikoaa
open Go.ChangeShapes Go.WideShapes Go.ChangeAt Go.RowKit
set_option linter.unusedVariables false

theorem ClockLeases.walk {H : Type} {enc : TypeId × Value → H} {base : Nat} (W : World) {v0 : Value} {d0 : DataW H} {p0 : List MemPlace} {v1 : Value} {d1 : DataW H} {p1 : List MemPlace}
    (o0 : Value.okWide Try.prog W .any base 50 v0) (h0 : DataW.Trod enc Try.prog W 0 (fun _ => true) true 50 v0 d0 p0)
    (o1 : Value.okWide Try.prog W .any base 66 v1) (h1 : DataW.Trod enc Try.prog W 0 (fun _ => true) true 66 v1 d1 p1) :
    Calls Try.prog 12 #[v0, v1] W fun e w' => e = .returned (.bool true) ∧ Below W.heap.size W w' := by
  obtain ⟨a0, a1, a2, a3, a4, rfl, w0, w1, w2⟩ := open50 o0 h0
  obtain ⟨b0, b1, b2, b3, b4, rfl, _⟩ := open66 o1 h1
  have b1' := bounds_u8 w1
  have b2' := bounds_u8 w2
  exact leases_walk a0 a1 a2 a3 a4 b0 b1 b2 b3 b4 W (by omega) (by omega) (by omega) (by omega)
end Go.Proofs.Ytgefcejolfikoaa
