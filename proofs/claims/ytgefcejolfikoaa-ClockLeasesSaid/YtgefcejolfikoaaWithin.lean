/- The walk of the reference's Within. No condition. -/
import Derived.Test.YtgefcejolfikoaaRead
import Derived.Lib.Hide
namespace Go.Proofs.Ytgefcejolfikoaa
open Go.RowKit

theorem withinRef_any (o n d p : Int) (w : World) : Calls Try.prog 25 #[.agg #[.int .i64 o, .int .i64 n, .int .i64 d], .int .i64 p] w fun e w' => e = .returned (.bool (withinB n d p)) ∧ Below w.heap.size w w' := by
  by_cases hr : rateB n d = true
  · have hb := lim_bd p 100000 (by omega)
    have h' := hr
    simp only [rateB, decide_eq_true_eq] at h'
    obtain ⟨h1, h2, h3, h4⟩ := h'
    have ha : 0 ≤ lim p 100000 * d := Int.mul_nonneg (by omega) (by omega)
    have hc : lim p 100000 * d ≤ lim p 100000 * 1048576 := Int.mul_le_mul_of_nonneg_left (by omega) (by omega)
    go_enter Try.func25, Try.ntmps25
    go_wp2_with fail
    all_goals
      go_region_held3 (fun w' => w'.cell? ⟨w.heap.size, 0, none⟩ = some (.int .i64 o) ∧ w'.cell? ⟨w.heap.size, 1, none⟩ = some (.int .i64 n) ∧ w'.cell? ⟨w.heap.size, 2, none⟩ = some (.int .i64 d)) (simp [go_sem]) (first | (go_at_call 41; refine (rateRef_any _ _ _ _).mono ?_; rintro e w' ⟨rfl, rfl⟩) | (go_at_call 39; refine (ppm_any _ _).mono ?_; rintro e w' ⟨rfl, rfl⟩))
    all_goals go_wp2
    all_goals go_ret
    · exact ⟨ret_bool (by rw [IntWalk.i64_in _ (by omega), IntWalk.i64_in _ (by omega), withinB, hr, if_pos h, Bool.true_and]), ((((Below.refl _ _).alloc (Nat.le_refl _) _).alloc (by simp) _)).drew⟩
    · exact ⟨ret_bool (by rw [IntWalk.i64_in _ (by omega), IntWalk.i64_in _ (by omega), withinB, hr, if_neg (by omega), Bool.true_and]), ((((Below.refl _ _).alloc (Nat.le_refl _) _).alloc (by simp) _)).drew⟩
  · simp only [Bool.not_eq_true] at hr
    have hno := fun W => (rateRef_any o n d W).mono (R' := fun e w' => e = .returned (.bool false) ∧ W.alloc (.cells #[.int .i64 o, .int .i64 n, .int .i64 d] 31) = w') fun e w' h => by rw [hr] at h; exact h
    have HN := Lib.hid hno
    clear hno
    go_enter Try.func25, Try.ntmps25
    go_wp2_with fail
    all_goals
      refine wp_region_any (by kernel_rfl) ?_
      change wpAny _ _ _ _ _ _ _ (World.drew _)
      refine wpAny_ready (rs := [0]) (by kernel_rfl) (by simp) ?_
      refine AllReady.cons rfl (fun K hK => ?_) AllReady.nil
      go_simp
      refine hK _ _ ?_
      clear hK K
      refine wpAny_ready (rs := [1]) (by kernel_rfl) (by simp) ?_
      refine AllReady.cons rfl (fun K hK => ?_) AllReady.nil
      go_simp
      go_wp2_with (go_at_call 41; refine (HN.out _).mono ?_; rintro e w' ⟨rfl, rfl⟩)
      refine wpAny_ready (rs := [2]) (by kernel_rfl) (by simp) ?_
      refine AllReady.cons rfl (fun K hK => ?_) AllReady.nil
      go_simp
      refine hK _ _ ?_
      clear hK K
      refine wpAny_take (i := 3) (v := undef) rfl (by kernel_rfl) (by kernel_rfl) (by kernel_rfl) (fun _ _ _ h => h) (Or.inr ⟨by kernel_rfl, rfl⟩) ?_
      refine wpAny_take (i := 4) (v := undef) rfl (by kernel_rfl) (by kernel_rfl) (by kernel_rfl) (fun _ _ _ h => h) (Or.inr ⟨by kernel_rfl, rfl⟩) ?_
      refine wpAny_take (i := 5) (v := undef) rfl (by kernel_rfl) (by kernel_rfl) (by kernel_rfl) (fun _ _ _ h => h) (Or.inr ⟨by kernel_rfl, rfl⟩) ?_
      refine wpAny_take (i := 6) (v := undef) rfl (by kernel_rfl) (by kernel_rfl) (by kernel_rfl) (fun _ _ _ h => h) (Or.inr ⟨by kernel_rfl, rfl⟩) ?_
      refine wpAny_take (i := 7) (v := undef) rfl (by kernel_rfl) (by kernel_rfl) (by kernel_rfl) (fun _ _ _ h => h) (Or.inr ⟨by kernel_rfl, rfl⟩) ?_
      refine wpAny_take (i := 8) (v := undef) rfl (by kernel_rfl) (by kernel_rfl) (by kernel_rfl) (fun _ _ _ h => h) (Or.inr ⟨by kernel_rfl, rfl⟩) ?_
      refine wpAny_take (i := 9) (v := undef) rfl (by kernel_rfl) (by kernel_rfl) (by kernel_rfl) (fun _ _ _ h => h) (Or.inr ⟨by kernel_rfl, rfl⟩) ?_
      refine wpAny_take (i := 10) (v := undef) rfl (by kernel_rfl) (by kernel_rfl) (by kernel_rfl) (fun _ _ _ h => h) (Or.inr ⟨by kernel_rfl, rfl⟩) ?_
      refine wpAny_ready (rs := [11]) (by kernel_rfl) (by simp) ?_
      refine AllReady.cons rfl (fun K hK => ?_) AllReady.nil
      go_simp
      refine hK _ _ ?_
      clear hK K
      refine wpAny_ready (rs := [12]) (by kernel_rfl) (by simp) ?_
      refine AllReady.cons rfl (fun K hK => ?_) AllReady.nil
      go_simp
      refine hK _ _ ?_
      clear hK K
      refine wpAny_done (by kernel_rfl) ?_ _
      go_wp2
      go_ret
      exact ⟨ret_bool (by rw [withinB, hr]; rfl), ((((Below.refl _ _).alloc (Nat.le_refl _) _).alloc (by simp) _)).drew⟩
end Go.Proofs.Ytgefcejolfikoaa
