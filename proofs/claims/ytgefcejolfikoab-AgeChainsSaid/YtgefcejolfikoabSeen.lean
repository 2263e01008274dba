/- The walk of the statements' own seen. No condition beyond a time within bounds. -/
import Derived.Test.YtgefcejolfikoabAge2
namespace Go.Proofs.Ytgefcejolfikoab
open Go.RowKit
set_option linter.unusedVariables false
set_option linter.unusedSimpArgs false

theorem bel_new (w : World) (x : Obj) : Below w.heap.size w (w.alloc x) := bel_alloc (Below.refl _ _)
def rd (p k : Int) (slow : Bool) (t : Int) : Int := 10 * k + t * (1024 + nearN p k slow) / 1024

theorem rd_read (p k t : Int) (slow : Bool) (w : World) (hk0 : 0 ≤ k) (hk1 : k ≤ 255) (ht : 0 ≤ t ∧ t ≤ 1099511627776) :
    Calls Try.prog 19 #[.agg #[.int .i64 (10 * k), .int .i64 (1024 + nearN p k slow), .int .i64 1024], .int .i64 t] w fun e w' => e = .returned (.tuple #[.int .i64 (rd p k slow t), .nilIface]) ∧ Below w.heap.size w w' := by
  have hp := lim_bd p 100000 (by omega)
  have hn := near_bd p k slow hp.1 hp.2 hk0 hk1
  refine read_yes _ _ _ _ _ ?_
  simp [rangeB, rateB]
  omega

set_option maxHeartbeats 1000000 in
theorem seen_any (k : Int) (slow : Bool) (a b c p t : Int) (w : World) (hk0 : 0 ≤ k) (hk1 : k ≤ 255) (ht : 0 ≤ t ∧ t ≤ 1099511627776) :
    Calls Try.prog 7 #[.agg #[.int .u8 k, .bool slow, .int .u16 a, .int .u16 b, .int .u16 c], .int .i64 p, .int .i64 t] w fun e w' => e = .returned (.tuple #[.int .i64 (rd p k slow t), .bool true]) ∧ Below w.heap.size w w' := by
  have hp := lim_bd p 100000 (by omega)
  have h1 : 0 ≤ lim p 100000 * 1024 / 1000000 := Int.ediv_nonneg (by omega) (by omega)
  have h2 : lim p 100000 * 1024 / 1000000 ≤ 102 := by omega
  have h3 : 0 ≤ lim p 100000 * 1024 / 1000000 * k := Int.mul_nonneg h1 hk0
  have h4 : lim p 100000 * 1024 / 1000000 * k ≤ 102 * 255 := Int.mul_le_mul h2 hk1 hk0 (by omega)
  have hR := fun W => rd_read p k t slow W hk0 hk1 ht
  have HR := Lib.hid hR
  clear hR
  cases slow
  all_goals
    first | have e : nearN p k false = lim p 100000 * 1024 / 1000000 * k / 255 := rfl | skip
    first | have e' : nearN p k true = -(lim p 100000 * 1024 / 1000000 * k / 255) := rfl | skip
    have h5 : 0 ≤ lim p 100000 * 1024 / 1000000 * k / 255 := Int.ediv_nonneg h3 (by omega)
    have h6 : lim p 100000 * 1024 / 1000000 * k / 255 ≤ 102 := by omega
    have E := Lib.hid e
    have E' := Lib.hid e'
    clear e e'
    go_enter Try.func7, Try.ntmps7
    go_wp2_with (go_at_call 18; refine (ppm_any _ _).mono ?_; rintro e w' ⟨rfl, rfl⟩)
    first | rw [← E.out] | rw [← E'.out]
    refine (HR.out _).mono ?_
    rintro e w1 ⟨rfl, hb⟩
    have hB : Below w.heap.size w w1 := bel_step (bel_new w _) hb
    go_wp2_with fail
    go_quiet (fail)
    go_wp2_with fail
    go_ret2
    exact ⟨rfl, bel_drewN hB⟩

theorem num_bd (p k : Int) (slow : Bool) (hk0 : 0 ≤ k) (hk1 : k ≤ 255) : 922 ≤ 1024 + nearN p k slow ∧ 1024 + nearN p k slow ≤ 1126 := by
  have hp := lim_bd p 100000 (by omega)
  have hn := near_bd p k slow hp.1 hp.2 hk0 hk1
  omega
theorem rd_mono (p k x y : Int) (slow : Bool) (hk0 : 0 ≤ k) (hk1 : k ≤ 255) (h0 : 0 ≤ x) (h : x ≤ y) (h1 : y ≤ 4000000) : 0 ≤ rd p k slow x ∧ rd p k slow x ≤ rd p k slow y ∧ rd p k slow y ≤ 10000000 := by
  have hn := num_bd p k slow hk0 hk1
  unfold rd
  generalize 1024 + nearN p k slow = num at *
  have a := Int.mul_nonneg h0 (show 0 ≤ num by omega)
  have b := Int.mul_le_mul_of_nonneg_right h (show 0 ≤ num by omega)
  have c := Int.mul_le_mul h1 hn.2 (show 0 ≤ num by omega) (by omega)
  generalize x * num = u at *
  generalize y * num = v at *
  omega
/-- One cache of the chain. -/
theorem chain_step (p k sent arr now stated : Int) (slow : Bool) (hk0 : 0 ≤ k) (hk1 : k ≤ 255) (h0 : 0 ≤ sent) (h1 : sent ≤ arr) (h2 : arr ≤ now) (h3 : now ≤ 4000000) (h4 : now - sent ≤ 200000) :
    ordB (rd p k slow sent) (rd p k slow arr) (rd p k slow now) = true ∧
    atLo (rd p k slow sent) (rd p k slow arr) stated (rd p k slow now) p ≤ now - arr ∧
    now - sent + ageOf stated ≤ atHi (rd p k slow sent) (rd p k slow arr) stated (rd p k slow now) p ∧
    atHi (rd p k slow sent) (rd p k slow arr) stated (rd p k slow now) p ≤ 260000 + ageOf stated := by
  have hp := lim_bd p 100000 (by omega)
  have hn := near_bd p k slow hp.1 hp.2 hk0 hk1
  have m1 := rd_mono p k sent arr slow hk0 hk1 h0 h1 (by omega)
  have m2 := rd_mono p k arr now slow hk0 hk1 (by omega) h2 h3
  have l1 := lim_id (rd p k slow sent) 1099511627776 (by omega) (by omega)
  have l2 := lim_id (rd p k slow arr) 1099511627776 (by omega) (by omega)
  have l3 := lim_id (rd p k slow now) 1099511627776 (by omega) (by omega)
  have ho : ordB (rd p k slow sent) (rd p k slow arr) (rd p k slow now) = true := by
    unfold ordB
    rw [l1, l2, l3]
    simp
    omega
  have q1 := diff_ends arr now (1024 + nearN p k slow)
  have q2 := diff_ends sent now (1024 + nearN p k slow)
  have e1 : rd p k slow now - rd p k slow arr = now * (1024 + nearN p k slow) / 1024 - arr * (1024 + nearN p k slow) / 1024 := by unfold rd; omega
  have e2 : rd p k slow now - rd p k slow sent = now * (1024 + nearN p k slow) / 1024 - sent * (1024 + nearN p k slow) / 1024 := by unfold rd; omega
  rw [← e1] at q1
  rw [← e2] at q2
  have c1 := contains_law (now - arr) (rd p k slow now - rd p k slow arr) (1024 + nearN p k slow) (lim p 100000) (by omega) (by omega) hp.1 hp.2 q1.1 q1.2 (by omega) (by omega)
  have c2 := contains_law (now - sent) (rd p k slow now - rd p k slow sent) (1024 + nearN p k slow) (lim p 100000) (by omega) (by omega) hp.1 hp.2 q2.1 q2.2 (by omega) (by omega)
  have ee := ehi_ends (rd p k slow now - rd p k slow sent) (lim p 100000) hp.1 hp.2
  have ge := ehi_nonneg (rd p k slow now - rd p k slow sent) (lim p 100000) (by omega) hp.1 hp.2
  have mm := mul_bd (ehi (rd p k slow now - rd p k slow sent) (lim p 100000)) (lim p 100000) (by omega) hp.1 hp.2
  have hd : rd p k slow now - rd p k slow sent ≤ 220000 := by
    have := Int.mul_le_mul h4 (show 1024 + nearN p k slow ≤ 1126 by omega) (show 0 ≤ 1024 + nearN p k slow by omega) (by omega)
    omega
  refine ⟨ho, ?_, ?_, ?_⟩
  · rw [atLo, if_pos ho, l3, l2]; exact c1.1
  · rw [atHi, if_pos ho, l3, l1]; omega
  · rw [atHi, if_pos ho, l3, l1]; omega
theorem age_neg : ageOf (-1) = 0 := by decide
theorem age_pos (a : Int) (h : 0 ≤ a) (h1 : a ≤ 2147483647) : ageOf a = (a + 1) * 1000 := by
  unfold ageOf
  rw [if_pos h, if_neg (by omega)]
end Go.Proofs.Ytgefcejolfikoab
