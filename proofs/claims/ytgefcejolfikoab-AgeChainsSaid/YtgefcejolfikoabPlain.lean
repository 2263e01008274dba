/- The plain arithmetic of clocks that drift: no program in sight. -/
import Derived.Test.YtgefcejolfikoabRead
namespace Go.Proofs.Ytgefcejolfikoab
set_option linter.unusedVariables false

theorem div_two (a b : Int) (hb : 0 < b) : a / b * b ≤ a ∧ a < a / b * b + b := by
  refine ⟨Int.ediv_mul_le _ (by omega), ?_⟩
  have h := Int.lt_ediv_add_one_mul_self a hb
  rw [Int.add_mul] at h
  omega

theorem poss_iff (d t p : Int) : possB d t p = true ↔ 0 ≤ t ∧ t * 1000000 + t * p > (d - 1) * 1000000 ∧ t * 1000000 - t * p < (d + 1) * 1000000 := by
  unfold possB
  rw [decide_eq_true_eq, Int.mul_add, Int.mul_sub]
theorem poss_not (d t p : Int) (h : ¬ (0 ≤ t ∧ t * 1000000 + t * p > (d - 1) * 1000000 ∧ t * 1000000 - t * p < (d + 1) * 1000000)) : possB d t p = false := by
  rw [Bool.eq_false_iff]
  exact fun e => h ((poss_iff d t p).1 e)

theorem elo_zero (p : Int) : elo 0 p = 0 := by simp [elo]
theorem elo_ends (d p : Int) (h0 : 0 < d) (h2 : 0 ≤ p) : 0 < elo d p ∧ (elo d p - 1) * 1000000 + (elo d p - 1) * p ≤ (d - 1) * 1000000 ∧ (d - 1) * 1000000 < elo d p * 1000000 + elo d p * p := by
  have h := div_two ((d - 1) * 1000000) (1000000 + p) (by omega)
  have hq : 0 ≤ (d - 1) * 1000000 / (1000000 + p) := Int.ediv_nonneg (by omega) (by omega)
  rw [elo, if_pos h0]
  generalize (d - 1) * 1000000 / (1000000 + p) = q at *
  rw [Int.mul_add] at h
  rw [show q + 1 - 1 = q from by omega, Int.add_mul, Int.add_mul]
  omega
theorem ehi_ends (d p : Int) (h2 : 0 ≤ p) (h3 : p ≤ 100000) : ehi d p * 1000000 - ehi d p * p < (d + 1) * 1000000 ∧ (d + 1) * 1000000 ≤ (ehi d p + 1) * 1000000 - (ehi d p + 1) * p := by
  have h := div_two ((d + 1) * 1000000 + (1000000 - p) - 1) (1000000 - p) (by omega)
  rw [ehi]
  generalize ((d + 1) * 1000000 + (1000000 - p) - 1) / (1000000 - p) = q at *
  rw [Int.mul_sub] at h
  rw [show q - 1 + 1 = q from by omega, Int.sub_mul, Int.sub_mul]
  omega
theorem ehi_nonneg (d p : Int) (h0 : 0 ≤ d) (h2 : 0 ≤ p) (h3 : p ≤ 100000) : d ≤ ehi d p := by
  have h := ehi_ends d p h2 h3
  simp only [Int.add_mul, Int.one_mul] at h
  by_cases hlt : ehi d p < d
  · have hz : -1 ≤ ehi d p ∨ ehi d p < -1 := by omega
    have hm : 0 ≤ (ehi d p + 1) * p ∨ ehi d p + 1 < 0 := by
      rcases hz with hz | hz
      · exact .inl (Int.mul_nonneg (by omega) h2)
      · exact .inr (by omega)
    rcases hm with hm | hm
    · simp only [Int.add_mul, Int.one_mul] at hm; omega
    · have : (ehi d p + 1) * p ≥ (ehi d p + 1) * 100000 := Int.mul_le_mul_of_nonpos_left (by omega) h3
      simp only [Int.add_mul, Int.one_mul] at this
      omega
  · omega
theorem mul_bd (x p : Int) (h : 0 ≤ x) (h2 : 0 ≤ p) (h3 : p ≤ 100000) : 0 ≤ x * p ∧ x * p ≤ x * 100000 :=
  ⟨Int.mul_nonneg h h2, Int.mul_le_mul_of_nonneg_left h3 h⟩
theorem ehi_le (d p : Int) (h0 : 0 ≤ d) (h1 : d ≤ 1099511627776) (h2 : 0 ≤ p) (h3 : p ≤ 100000) : ehi d p ≤ 2199023255552 := by
  have h := (ehi_ends d p h2 h3).1
  have g := ehi_nonneg d p h0 h2 h3
  have m := mul_bd (ehi d p) p (by omega) h2 h3
  omega
theorem elo_le (d p : Int) (h0 : 0 ≤ d) (h2 : 0 ≤ p) : 0 ≤ elo d p ∧ elo d p ≤ d := by
  by_cases h : 0 < d
  · have g := elo_ends d p h h2
    have m : 0 ≤ (elo d p - 1) * p := Int.mul_nonneg (by omega) h2
    omega
  · obtain rfl : d = 0 := by omega
    rw [elo_zero]; omega

theorem elapsed_law (d p : Int) (h0 : 0 ≤ d) (h1 : d ≤ 1099511627776) (h2 : 0 ≤ p) (h3 : p ≤ 100000) :
    possB d (elo d p) p = true ∧ possB d (elo d p - 1) p = false ∧ possB d (ehi d p) p = true ∧ possB d (ehi d p + 1) p = false := by
  have a := elo_le d p h0 h2
  have b := ehi_nonneg d p h0 h2 h3
  have c := ehi_ends d p h2 h3
  have m := mul_bd (elo d p) p (by omega) h2 h3
  have k := mul_bd (ehi d p) p (by omega) h2 h3
  refine ⟨?_, ?_, ?_, ?_⟩
  · rw [poss_iff]
    by_cases h : 0 < d
    · have e := elo_ends d p h h2
      rw [Int.sub_mul] at e
      omega
    · obtain rfl : d = 0 := by omega
      rw [elo_zero] at *
      omega
  · refine poss_not _ _ _ ?_
    by_cases h : 0 < d
    · have e := elo_ends d p h h2
      omega
    · obtain rfl : d = 0 := by omega
      rw [elo_zero]
      omega
  · rw [poss_iff]
    omega
  · refine poss_not _ _ _ ?_
    omega

theorem hold_ends (n p : Int) : hold n p * 1000000 ≤ n * 1000000 - n * p ∧ n * 1000000 - n * p < hold n p * 1000000 + 1000000 := by
  have h := div_two (n * (1000000 - p)) 1000000 (by omega)
  rw [hold]
  generalize n * (1000000 - p) / 1000000 = q at *
  rw [Int.mul_sub] at h
  exact h
theorem wait_zero (p : Int) : wait 0 p = 0 := by simp [wait]
theorem wait_ends (n p : Int) (h0 : 0 < n) : (n - 1) * 1000000 + (n - 1) * p ≤ (wait n p - 1) * 1000000 ∧ (wait n p - 2) * 1000000 < (n - 1) * 1000000 + (n - 1) * p := by
  have h := div_two ((n - 1) * (1000000 + p) + 1000000 - 1) 1000000 (by omega)
  rw [wait, if_neg (by omega)]
  generalize ((n - 1) * (1000000 + p) + 1000000 - 1) / 1000000 = q at *
  rw [Int.mul_add] at h
  omega

theorem holds_law (n p : Int) (h0 : 0 ≤ n) (h1 : n ≤ 1099511627776) (h2 : 0 ≤ p) (h3 : p ≤ 100000) :
    0 ≤ hold n p ∧ hold n p ≤ n ∧ n ≤ wait n p ∧ wait n p ≤ 2199023255552 ∧ (0 < hold n p → possB (hold n p - 1) n p = false) ∧ (0 < n → possB (hold n p) n p = true) ∧
      (n = 0 → wait n p = 0) ∧ (0 < n → possB (wait n p) (n - 1) p = false) ∧ (0 < n → possB (wait n p - 1) (n - 1) p = true) := by
  have a := hold_ends n p
  have m := mul_bd n p h0 h2 h3
  by_cases hn : 0 < n
  · have b := wait_ends n p hn
    have k := mul_bd (n - 1) p (by omega) h2 h3
    refine ⟨by omega, by omega, by omega, by omega, fun _ => poss_not _ _ _ (by omega), fun _ => ?_, by omega, fun _ => poss_not _ _ _ (by omega), fun _ => ?_⟩
    · rw [poss_iff]; omega
    · rw [poss_iff]; omega
  · obtain rfl : n = 0 := by omega
    rw [wait_zero]
    refine ⟨by omega, by omega, by omega, by omega, by omega, by omega, by omega, by omega, by omega⟩

theorem le_mul (a b p q : Int) (h : a ≤ b) (h0 : 0 ≤ b) (h1 : p ≤ q) (h2 : 0 ≤ p) : a * p ≤ b * q :=
  Int.le_trans (Int.mul_le_mul_of_nonneg_right h h2) (Int.mul_le_mul_of_nonneg_left h1 h0)

theorem elo_up (n m p : Int) (h0 : 0 ≤ n) (h1 : n ≤ m) (h2 : 0 ≤ p) : elo n p ≤ elo m p := by
  unfold elo
  split
  · rw [if_pos (by omega)]
    have := Int.ediv_le_ediv (a := (n - 1) * 1000000) (b := (m - 1) * 1000000) (c := 1000000 + p) (by omega) (by omega)
    omega
  · split
    · have := Int.ediv_nonneg (a := (m - 1) * 1000000) (b := 1000000 + p) (by omega) (by omega)
      omega
    · omega
theorem elo_down (n p q : Int) (h2 : 0 ≤ p) (h1 : p ≤ q) : elo n q ≤ elo n p := by
  unfold elo
  split
  · have := Int.ediv_nonneg (a := (n - 1) * 1000000) (b := 1000000 + p) (by omega) (by omega)
    have hd := div_two ((n - 1) * 1000000) (1000000 + p) (by omega)
    have he := div_two ((n - 1) * 1000000) (1000000 + q) (by omega)
    generalize (n - 1) * 1000000 / (1000000 + p) = x at *
    generalize (n - 1) * 1000000 / (1000000 + q) = y at *
    by_cases hxy : y ≤ x
    · omega
    · have := le_mul (x + 1) y (1000000 + p) (1000000 + q) (by omega) (by omega) (by omega) (by omega)
      rw [Int.add_mul] at this
      omega
  · omega
theorem ehi_up (n m p : Int) (h1 : n ≤ m) (h3 : p ≤ 100000) : ehi n p ≤ ehi m p := by
  unfold ehi
  have := Int.ediv_le_ediv (a := (n + 1) * 1000000 + (1000000 - p) - 1) (b := (m + 1) * 1000000 + (1000000 - p) - 1) (c := 1000000 - p) (by omega) (by omega)
  omega
theorem ehi_more (n p q : Int) (h0 : 0 ≤ n) (h2 : 0 ≤ p) (h1 : p ≤ q) (h3 : q ≤ 100000) : ehi n p ≤ ehi n q := by
  have a := ehi_ends n p h2 (by omega)
  have b := ehi_ends n q (by omega) h3
  have c := ehi_nonneg n p h0 h2 (by omega)
  rw [← Int.mul_sub, ← Int.mul_sub] at a b
  by_cases h : ehi n p ≤ ehi n q
  · exact h
  · have := le_mul (ehi n q + 1) (ehi n p) (1000000 - q) (1000000 - p) (by omega) (by omega) (by omega) (by omega)
    omega
theorem hold_down (n p q : Int) (h0 : 0 ≤ n) (h1 : p ≤ q) : hold n q ≤ hold n p := by
  unfold hold
  exact Int.ediv_le_ediv (by omega) (Int.mul_le_mul_of_nonneg_left (by omega) h0)
theorem hold_up (n m p : Int) (h1 : n ≤ m) (h3 : p ≤ 100000) : hold n p ≤ hold m p := by
  unfold hold
  exact Int.ediv_le_ediv (by omega) (Int.mul_le_mul_of_nonneg_right h1 (by omega))
theorem wait_more (n p q : Int) (h0 : 0 ≤ n) (h1 : p ≤ q) : wait n p ≤ wait n q := by
  unfold wait
  split
  · omega
  · have := Int.ediv_le_ediv (a := (n - 1) * (1000000 + p) + 1000000 - 1) (b := (n - 1) * (1000000 + q) + 1000000 - 1) (c := 1000000) (by omega)
      (by have := Int.mul_le_mul_of_nonneg_left (a := 1000000 + p) (b := 1000000 + q) (c := n - 1) (by omega) (by omega); omega)
    omega
theorem wait_up (n m p : Int) (h0 : 0 ≤ n) (h1 : n ≤ m) (h2 : 0 ≤ p) : wait n p ≤ wait m p := by
  unfold wait
  split
  · split
    · omega
    · have hm : 0 ≤ (m - 1) * (1000000 + p) := Int.mul_nonneg (by omega) (by omega)
      have := Int.ediv_nonneg (a := (m - 1) * (1000000 + p) + 1000000 - 1) (b := 1000000) (by omega) (by omega)
      omega
  · rw [if_neg (by omega)]
    have := Int.ediv_le_ediv (a := (n - 1) * (1000000 + p) + 1000000 - 1) (b := (m - 1) * (1000000 + p) + 1000000 - 1) (c := 1000000) (by omega)
      (by have := Int.mul_le_mul_of_nonneg_right (a := n - 1) (b := m - 1) (c := 1000000 + p) (by omega) (by omega); omega)
    omega
theorem lim_id (n m : Int) (h0 : 0 ≤ n) (h1 : n ≤ m) : lim n m = n := by unfold lim; omega

/-- Two readings of a clock of the rate num / 1024. -/
theorem diff_ends (x y num : Int) : (y * num / 1024 - x * num / 1024 - 1) * 1024 < (y - x) * num ∧ (y - x) * num < (y * num / 1024 - x * num / 1024 + 1) * 1024 := by
  have a := div_two (x * num) 1024 (by omega)
  have b := div_two (y * num) 1024 (by omega)
  rw [Int.sub_mul y x num]
  omega
theorem near_bd (p k : Int) (slow : Bool) (h2 : 0 ≤ lim p 100000) (h3 : lim p 100000 ≤ 100000) (hk0 : 0 ≤ k) (hk1 : k ≤ 255) :
    -102 ≤ nearN p k slow ∧ nearN p k slow ≤ 102 ∧ nearN p k slow * 1000000 ≤ lim p 100000 * 1024 ∧ -(lim p 100000 * 1024) ≤ nearN p k slow * 1000000 := by
  have ha : 0 ≤ lim p 100000 * 1024 / 1000000 * k := Int.mul_nonneg (by omega) hk0
  have hc : lim p 100000 * 1024 / 1000000 * k ≤ lim p 100000 * 1024 / 1000000 * 255 := Int.mul_le_mul_of_nonneg_left hk1 (by omega)
  unfold nearN
  generalize lim p 100000 * 1024 / 1000000 * k = z at *
  cases slow <;> simp <;> omega
/-- What lies between two readings of a clock within the bound lies between the ends. -/
theorem contains_law (T d num p : Int) (hT : 0 ≤ T) (h0 : 0 ≤ d) (h2 : 0 ≤ p) (h3 : p ≤ 100000) (a : (d - 1) * 1024 < T * num) (b : T * num < (d + 1) * 1024)
    (n1 : num * 1000000 ≤ 1024 * 1000000 + p * 1024) (n2 : 1024 * 1000000 - p * 1024 ≤ num * 1000000) : elo d p ≤ T ∧ T ≤ ehi d p := by
  have u := Int.mul_le_mul_of_nonneg_left n1 hT
  have v := Int.mul_le_mul_of_nonneg_left n2 hT
  have e1 : T * (num * 1000000) = T * num * 1000000 := by rw [Int.mul_assoc]
  have e2 : T * (1024 * 1000000 + p * 1024) = T * (1000000 + p) * 1024 := by rw [Int.mul_assoc, show 1024 * 1000000 + p * 1024 = (1000000 + p) * 1024 from by omega]
  have e3 : T * (1024 * 1000000 - p * 1024) = T * (1000000 - p) * 1024 := by rw [Int.mul_assoc, show 1024 * 1000000 - p * 1024 = (1000000 - p) * 1024 from by omega]
  rw [e1, e2] at u
  rw [e1, e3] at v
  generalize T * num = tn at *
  constructor
  · by_cases hd : 0 < d
    · have g := elo_ends d p hd h2
      rw [← Int.mul_add] at g
      by_cases hh : elo d p ≤ T
      · exact hh
      · have := Int.mul_le_mul_of_nonneg_right (a := T) (b := elo d p - 1) (c := 1000000 + p) (by omega) (by omega)
        omega
    · obtain rfl : d = 0 := by omega
      rw [elo_zero]; exact hT
  · have g := ehi_ends d p h2 h3
    rw [← Int.mul_sub, ← Int.mul_sub] at g
    by_cases hh : T ≤ ehi d p
    · exact hh
    · have := Int.mul_le_mul_of_nonneg_right (a := ehi d p + 1) (b := T) (c := 1000000 - p) (by omega) (by omega)
      omega
/-- A holder that still holds has counted less than the length. -/
theorem holder_law (T d num p l : Int) (hT : 0 ≤ T) (h3 : p ≤ 100000) (b : T * num < (d + 1) * 1024)
    (n2 : 1024 * 1000000 - p * 1024 ≤ num * 1000000) (hd : d < hold l p) : T < l := by
  have v := Int.mul_le_mul_of_nonneg_left n2 hT
  have e1 : T * (num * 1000000) = T * num * 1000000 := by rw [Int.mul_assoc]
  have e3 : T * (1024 * 1000000 - p * 1024) = T * (1000000 - p) * 1024 := by rw [Int.mul_assoc, show 1024 * 1000000 - p * 1024 = (1000000 - p) * 1024 from by omega]
  rw [e1, e3] at v
  have g := hold_ends l p
  rw [← Int.mul_sub] at g
  generalize T * num = tn at *
  by_cases hh : T < l
  · exact hh
  · have := Int.mul_le_mul_of_nonneg_right (a := l) (b := T) (c := 1000000 - p) (by omega) (by omega)
    omega
/-- An issuer that has waited has counted the length. -/
theorem issuer_law (T d num p l : Int) (hT : 0 ≤ T) (h0 : 0 ≤ l) (h2 : 0 ≤ p) (a : (d - 1) * 1024 < T * num)
    (n1 : num * 1000000 ≤ 1024 * 1000000 + p * 1024) (hd : wait l p ≤ d) : l ≤ T := by
  by_cases hl : 0 < l
  · have u := Int.mul_le_mul_of_nonneg_left n1 hT
    have e1 : T * (num * 1000000) = T * num * 1000000 := by rw [Int.mul_assoc]
    have e2 : T * (1024 * 1000000 + p * 1024) = T * (1000000 + p) * 1024 := by rw [Int.mul_assoc, show 1024 * 1000000 + p * 1024 = (1000000 + p) * 1024 from by omega]
    rw [e1, e2] at u
    have g := wait_ends l p hl
    rw [← Int.mul_add] at g
    generalize T * num = tn at *
    by_cases hh : l ≤ T
    · exact hh
    · have := Int.mul_le_mul_of_nonneg_right (a := T) (b := l - 1) (c := 1000000 + p) (by omega) (by omega)
      omega
  · omega
end Go.Proofs.Ytgefcejolfikoab
