/- The plain arithmetic of clocks that drift: no program in sight. -/
import Derived.Test.YtgefcejolfikoaaBase
namespace Go.Proofs.Ytgefcejolfikoaa

theorem div_two (a b : Int) (hb : 0 < b) : a / b * b ≤ a ∧ a < a / b * b + b := by
  refine ⟨Int.ediv_mul_le _ (by omega), ?_⟩
  have h := Int.lt_ediv_add_one_mul_self a hb
  rw [Int.add_mul] at h
  omega

theorem poss_iff (d t p : Int) : possB d t p = true ↔ 0 ≤ t ∧ t * 1000000 + t * p > (d - 1) * 1000000 ∧ t * 1000000 - t * p < (d + 1) * 1000000 := by
  unfold possB
  rw [decide_eq_true_eq, Int.mul_add, Int.mul_sub]
theorem poss_not (d t p : Int) (h : ¬ (0 ≤ t ∧ t * 1000000 + t * p > (d - 1) * 1000000 ∧ t * 1000000 - t * p < (d + 1) * 1000000)) : possB d t p = false := by
  rw [Bool.eq_false_iff]
  exact fun e => h ((poss_iff d t p).1 e)

theorem elo_zero (p : Int) : elo 0 p = 0 := by simp [elo]
theorem elo_ends (d p : Int) (h0 : 0 < d) (h2 : 0 ≤ p) : 0 < elo d p ∧ (elo d p - 1) * 1000000 + (elo d p - 1) * p ≤ (d - 1) * 1000000 ∧ (d - 1) * 1000000 < elo d p * 1000000 + elo d p * p := by
  have h := div_two ((d - 1) * 1000000) (1000000 + p) (by omega)
  have hq : 0 ≤ (d - 1) * 1000000 / (1000000 + p) := Int.ediv_nonneg (by omega) (by omega)
  rw [elo, if_pos h0]
  generalize (d - 1) * 1000000 / (1000000 + p) = q at *
  rw [Int.mul_add] at h
  rw [show q + 1 - 1 = q from by omega, Int.add_mul, Int.add_mul]
  omega
theorem ehi_ends (d p : Int) (h2 : 0 ≤ p) (h3 : p ≤ 100000) : ehi d p * 1000000 - ehi d p * p < (d + 1) * 1000000 ∧ (d + 1) * 1000000 ≤ (ehi d p + 1) * 1000000 - (ehi d p + 1) * p := by
  have h := div_two ((d + 1) * 1000000 + (1000000 - p) - 1) (1000000 - p) (by omega)
  rw [ehi]
  generalize ((d + 1) * 1000000 + (1000000 - p) - 1) / (1000000 - p) = q at *
  rw [Int.mul_sub] at h
  rw [show q - 1 + 1 = q from by omega, Int.sub_mul, Int.sub_mul]
  omega
theorem ehi_nonneg (d p : Int) (h0 : 0 ≤ d) (h2 : 0 ≤ p) (h3 : p ≤ 100000) : d ≤ ehi d p := by
  have h := ehi_ends d p h2 h3
  simp only [Int.add_mul, Int.one_mul] at h
  by_cases hlt : ehi d p < d
  · have hz : -1 ≤ ehi d p ∨ ehi d p < -1 := by omega
    have hm : 0 ≤ (ehi d p + 1) * p ∨ ehi d p + 1 < 0 := by
      rcases hz with hz | hz
      · exact .inl (Int.mul_nonneg (by omega) h2)
      · exact .inr (by omega)
    rcases hm with hm | hm
    · simp only [Int.add_mul, Int.one_mul] at hm; omega
    · have : (ehi d p + 1) * p ≥ (ehi d p + 1) * 100000 := Int.mul_le_mul_of_nonpos_left (by omega) h3
      simp only [Int.add_mul, Int.one_mul] at this
      omega
  · omega
theorem mul_bd (x p : Int) (h : 0 ≤ x) (h2 : 0 ≤ p) (h3 : p ≤ 100000) : 0 ≤ x * p ∧ x * p ≤ x * 100000 :=
  ⟨Int.mul_nonneg h h2, Int.mul_le_mul_of_nonneg_left h3 h⟩
theorem ehi_le (d p : Int) (h0 : 0 ≤ d) (h1 : d ≤ 1099511627776) (h2 : 0 ≤ p) (h3 : p ≤ 100000) : ehi d p ≤ 2199023255552 := by
  have h := (ehi_ends d p h2 h3).1
  have g := ehi_nonneg d p h0 h2 h3
  have m := mul_bd (ehi d p) p (by omega) h2 h3
  omega
theorem elo_le (d p : Int) (h0 : 0 ≤ d) (h2 : 0 ≤ p) : 0 ≤ elo d p ∧ elo d p ≤ d := by
  by_cases h : 0 < d
  · have g := elo_ends d p h h2
    have m : 0 ≤ (elo d p - 1) * p := Int.mul_nonneg (by omega) h2
    omega
  · obtain rfl : d = 0 := by omega
    rw [elo_zero]; omega

theorem elapsed_law (d p : Int) (h0 : 0 ≤ d) (h1 : d ≤ 1099511627776) (h2 : 0 ≤ p) (h3 : p ≤ 100000) :
    possB d (elo d p) p = true ∧ possB d (elo d p - 1) p = false ∧ possB d (ehi d p) p = true ∧ possB d (ehi d p + 1) p = false := by
  have a := elo_le d p h0 h2
  have b := ehi_nonneg d p h0 h2 h3
  have c := ehi_ends d p h2 h3
  have m := mul_bd (elo d p) p (by omega) h2 h3
  have k := mul_bd (ehi d p) p (by omega) h2 h3
  refine ⟨?_, ?_, ?_, ?_⟩
  · rw [poss_iff]
    by_cases h : 0 < d
    · have e := elo_ends d p h h2
      rw [Int.sub_mul] at e
      omega
    · obtain rfl : d = 0 := by omega
      rw [elo_zero] at *
      omega
  · refine poss_not _ _ _ ?_
    by_cases h : 0 < d
    · have e := elo_ends d p h h2
      omega
    · obtain rfl : d = 0 := by omega
      rw [elo_zero]
      omega
  · rw [poss_iff]
    omega
  · refine poss_not _ _ _ ?_
    omega
end Go.Proofs.Ytgefcejolfikoaa
