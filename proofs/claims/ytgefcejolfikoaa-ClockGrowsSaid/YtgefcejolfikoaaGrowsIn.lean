/- The walk of the law ClockGrows with its arguments taken apart. No condition. -/
import Derived.Test.YtgefcejolfikoaaGrows
namespace Go.Proofs.Ytgefcejolfikoaa
open Go.ChangeShapes Go.WideShapes Go.ChangeAt Go.RowKit
set_option linter.unusedVariables false

theorem ClockGrows.walk {H : Type} {enc : TypeId × Value → H} {base : Nat} (W : World) {v0 : Value} {d0 : DataW H} {p0 : List MemPlace} {v1 : Value} {d1 : DataW H} {p1 : List MemPlace} {v2 : Value} {d2 : DataW H} {p2 : List MemPlace}
    (o0 : Value.okWide Try.prog W .any base 3 v0) (h0 : DataW.Trod enc Try.prog W 0 (fun _ => true) true 3 v0 d0 p0)
    (o1 : Value.okWide Try.prog W .any base 3 v1) (h1 : DataW.Trod enc Try.prog W 0 (fun _ => true) true 3 v1 d1 p1)
    (o2 : Value.okWide Try.prog W .any base 44 v2) (h2 : DataW.Trod enc Try.prog W 0 (fun _ => true) true 44 v2 d2 p2) :
    Calls Try.prog 8 #[v0, v1, v2] W fun e w' => e = .returned (.bool true) ∧ Below W.heap.size W w' := by
  obtain ⟨a0, rfl, rfl, rfl, w0⟩ := open_int Try.underlying3 o0 h0
  obtain ⟨a1, rfl, rfl, rfl, w1⟩ := open_int Try.underlying3 o1 h1
  obtain ⟨a2, a3, rfl, w2, w3⟩ := open44 o2 h2
  have b2 := bounds_u16 w2
  have b3 := bounds_u16 w3
  exact grows_walk a0 a1 a2 a3 W (by omega) (by omega)
end Go.Proofs.Ytgefcejolfikoaa
