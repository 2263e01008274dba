/- The walk of the law ClockElapsed: it returns true. No condition. -/
import Derived.Test.YtgefcejolfikoaaPlain
import Derived.Test.YtgefcejolfikoaaRead
import Derived.ProofKit
import Derived.OpenShut
namespace Go.Proofs.Ytgefcejolfikoaa
open Go.ChangeShapes Go.WideShapes Go.ChangeAt Go.RowKit

theorem elapsed_walk (d p : Int) (w : World) : Calls Try.prog 3 #[.int .i64 d, .int .i64 p] w fun e w' => e = .returned (.bool true) ∧ w = w' := by
  have hd := lim_bd d 1099511627776 (by omega)
  have hp := lim_bd p 100000 (by omega)
  have h1 := elo_le (lim d 1099511627776) (lim p 100000) hd.1 hp.1
  have h2 := ehi_nonneg (lim d 1099511627776) (lim p 100000) hd.1 hp.1 hp.2
  have h3 := ehi_le (lim d 1099511627776) (lim p 100000) hd.1 hd.2 hp.1 hp.2
  obtain ⟨l1, l2, l3, l4⟩ := elapsed_law (lim d 1099511627776) (lim p 100000) hd.1 hd.2 hp.1 hp.2
  go_enter Try.func3, Try.ntmps3
  go_wp2_with (first | (go_at_call 15; refine (awake_any _).mono ?_; rintro e w' ⟨rfl, rfl⟩) | (go_at_call 16; refine (time_any _ _).mono ?_; rintro e w' ⟨rfl, rfl⟩) | (go_at_call 17; refine (elapsed_any _ _ _).mono ?_; rintro e w' ⟨rfl, rfl⟩) | (go_at_call 18; refine (possible_any _ _ _ _ (by omega) (by omega) (by omega) (by omega)).mono ?_; rintro e w' ⟨rfl, rfl⟩))
  go_ret
  exact ⟨rfl, rfl⟩

theorem ClockElapsed.walk {H : Type} {enc : TypeId × Value → H} {base : Nat} (W : World) {v0 v1 : Value} {d0 d1 : DataW H} {p0 p1 : List MemPlace}
    (o0 : Value.okWide Try.prog W .any base 3 v0) (h0 : DataW.Trod enc Try.prog W 0 (fun _ => true) true 3 v0 d0 p0)
    (o1 : Value.okWide Try.prog W .any base 3 v1) (h1 : DataW.Trod enc Try.prog W 0 (fun _ => true) true 3 v1 d1 p1) :
    Calls Try.prog 3 #[v0, v1] W fun e w' => e = .returned (.bool true) ∧ Below W.heap.size W w' := by
  obtain ⟨a0, rfl, rfl, rfl, w0⟩ := open_int Try.underlying3 o0 h0
  obtain ⟨a1, rfl, rfl, rfl, w1⟩ := open_int Try.underlying3 o1 h1
  refine (elapsed_walk a0 a1 W).mono fun e w' ⟨he, hw⟩ => ⟨he, ?_⟩
  subst hw
  exact Below.refl _ _
end Go.Proofs.Ytgefcejolfikoaa
