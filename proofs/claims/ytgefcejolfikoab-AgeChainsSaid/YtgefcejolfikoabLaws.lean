/- The walks of the laws AgeLeft and AgeErrors: each returns true. No condition. -/
import Derived.Test.YtgefcejolfikoabLeftRef
import Derived.Deep.RegionHeld3
import Derived.Deep.DeepCutAuto
namespace Go.Proofs.Ytgefcejolfikoab
open Go.RowKit
set_option linter.unusedVariables false
set_option linter.unusedSimpArgs false

theorem is_err (n m : Int) (w : World) : Calls Try.prog 17 #[.iface 50 (.int .i64 n), .int .i64 m] w fun e w' => e = .returned (.bool (n == m && m != 0)) ∧ w = w' := by
  go_enter Try.func17, Try.ntmps17
  go_wp2_with (go_at_call 27; refine (num_err _ _).mono ?_; rintro e w' ⟨rfl, rfl⟩)
  all_goals
    go_ret
    exact ⟨ret_bool (by simp [*]), rfl⟩
theorem is_seven (w : World) : Calls Try.prog 17 #[.iface 50 (.int .i64 7), .int .i64 7] w fun e w' => e = .returned (.bool true) ∧ w = w' := is_err 7 7 w
theorem field_no (s r a n p : Int) (w : World) (h : ordB s r n = false) : Calls Try.prog 11 #[.agg #[.int .i64 s, .int .i64 r, .int .i64 a], .int .i64 n, .int .i64 p] w fun e w' => e = .returned (.tuple #[.int .i64 0, .iface 50 (.int .i64 7)]) ∧ Below w.heap.size w w' := by
  have := field_any s r a n p w
  rwa [atE, atHi, h] at this
theorem fresh_no (s r a n p l : Int) (w : World) (h : ordB s r n = false) : Calls Try.prog 9 #[.agg #[.int .i64 s, .int .i64 r, .int .i64 a], .int .i64 n, .int .i64 p, .int .i64 l] w fun e w' => e = .returned (.bool false) ∧ Below w.heap.size w w' := by
  have := fresh_any s r a n p l w
  rwa [freshB, h] at this
theorem fresh_val (s r a n p l : Int) (b : Bool) (w : World) (h : freshB s r a n p l = b) : Calls Try.prog 9 #[.agg #[.int .i64 s, .int .i64 r, .int .i64 a], .int .i64 n, .int .i64 p, .int .i64 l] w fun e w' => e = .returned (.bool b) ∧ Below w.heap.size w w' := by
  have := fresh_any s r a n p l w
  rwa [h] at this
theorem stale_no (s r a n p l : Int) (w : World) (h : ordB s r n = false) : Calls Try.prog 10 #[.agg #[.int .i64 s, .int .i64 r, .int .i64 a], .int .i64 n, .int .i64 p, .int .i64 l] w fun e w' => e = .returned (.bool false) ∧ Below w.heap.size w w' := by
  have := stale_any s r a n p l w
  rwa [staleB, h] at this
theorem ord_lim (s r n : Int) : ordB s r (lim n 1099511627776) = ordB s r n := by
  have : lim (lim n 1099511627776) 1099511627776 = lim n 1099511627776 := by unfold lim; omega
  unfold ordB
  rw [this]
theorem left_no (s r a n p l : Int) (w : World) (h : ordB s r n = false) : Calls Try.prog 12 #[.agg #[.int .i64 s, .int .i64 r, .int .i64 a], .int .i64 n, .int .i64 p, .int .i64 l] w fun e w' => e = .returned (.int .i64 0) ∧ Below w.heap.size w w' := by
  refine (left_any s r a n p l w).mono ?_
  rintro e w' ⟨k, rfl, hk, hb⟩
  rcases hk with ⟨_, rfl⟩ | ⟨hf, _⟩
  · exact ⟨rfl, hb⟩
  · rw [freshB, ord_lim, h] at hf; cases hf

set_option maxHeartbeats 2000000 in
theorem left_walk (s r a n p l : Int) (w : World) : Calls Try.prog 4 #[.agg #[.int .i64 s, .int .i64 r, .int .i64 a], .agg #[.int .i64 n, .int .i64 p], .int .i64 l] w fun e w' => e = .returned (.bool true) ∧ Below w.heap.size w w' := by
  go_enter Try.func4, Try.ntmps4
  go_wp2_with fail
  refine (ageAwake_any _).mono ?_
  rintro e w0 ⟨rfl, hb⟩
  have c0 := keep_at hb (b := w.heap.size) (o := 0) (v := .int .i64 s) (by simp [go_sem])
  have c1 := keep_at hb (b := w.heap.size) (o := 1) (v := .int .i64 r) (by simp [go_sem])
  have c2 := keep_at hb (b := w.heap.size) (o := 2) (v := .int .i64 a) (by simp [go_sem])
  have c3 := keep_at hb (b := w.heap.size + 1) (o := 0) (v := .int .i64 n) (by simp [go_sem])
  have c4 := keep_at hb (b := w.heap.size + 1) (o := 1) (v := .int .i64 p) (by simp [go_sem])
  have hB : Below w.heap.size w w0 := bel_step (bel_alloc (bel_alloc (Below.refl _ _))) hb
  clear hb
  go_wp2_with fail
  go_region_held3 (fun w' => w'.cell? ⟨w.heap.size, 0, none⟩ = some (.int .i64 s) ∧ w'.cell? ⟨w.heap.size, 1, none⟩ = some (.int .i64 r) ∧ w'.cell? ⟨w.heap.size, 2, none⟩ = some (.int .i64 a) ∧ w'.cell? ⟨w.heap.size + 1, 0, none⟩ = some (.int .i64 n) ∧ w'.cell? ⟨w.heap.size + 1, 1, none⟩ = some (.int .i64 p))
    ((go_split_ands; refine ⟨?_, ?_, ?_, ?_, ?_⟩ <;> (repeat (with_reducible (first | assumption | refine keep_drew ?_ | refine keep_alloc ?_ | refine keep_at hb ?_)))))
    (first | (go_at_call 13; refine (times_any _ _ _ _).mono ?_; rintro e w' ⟨rfl, rfl⟩) | (go_at_call 12; refine (left_any _ _ _ _ _ _ _).mono ?_; rintro e w1 ⟨k, rfl, hk, hb⟩))
  go_split_ands
  have hB : Below w.heap.size w w1 := bel_step (bel_drew (bel_alloc (bel_alloc hB))) hb
  have HK := Lib.hid hk
  clear hb hk c0 c1 c2 c3 c4
  go_wp2_with fail
  refine (leftRef_any _ _ _ _ _ _ _).mono ?_
  rintro e w2 ⟨j, rfl, hj, hb⟩
  obtain rfl : k = j := left_unique _ _ _ _ _ _ _ _ HK.out hj
  have d0 := keep_at hb (b := w.heap.size) (o := 0) (v := .int .i64 s) (by assumption)
  have d1 := keep_at hb (b := w.heap.size) (o := 1) (v := .int .i64 r) (by assumption)
  have d2 := keep_at hb (b := w.heap.size) (o := 2) (v := .int .i64 a) (by assumption)
  have d3 := keep_at hb (b := w.heap.size + 1) (o := 0) (v := .int .i64 n) (by assumption)
  have d4 := keep_at hb (b := w.heap.size + 1) (o := 1) (v := .int .i64 p) (by assumption)
  have hB := bel_step hB hb
  clear hb hj
  go_wp2_with (go_at_call 15; refine (time_any _ _).mono ?_; rintro e w' ⟨rfl, rfl⟩)
  have hm := lim_bd n 1099511627776 (by omega)
  rcases HK.out with ⟨hf, rfl⟩ | ⟨hf, hk0, hkN, hk1, hk2⟩
  · have HF := Lib.hid hf
    have hd0 : decide ((0 : Int) < 0) = false := by decide
    have hd1 : decide (1099511627776 < lim n 1099511627776) = false := by simp; omega
    clear hf HK
    go_quiet (fail)
    go_wp2_with fail
    have hw0 : IntKind.i64.wrap (lim n 1099511627776) = lim n 1099511627776 := IntWalk.i64_in _ (by omega)
    go_region_held3 (fun w' => w'.cell? ⟨w.heap.size, 0, none⟩ = some (.int .i64 s) ∧ w'.cell? ⟨w.heap.size, 1, none⟩ = some (.int .i64 r) ∧ w'.cell? ⟨w.heap.size, 2, none⟩ = some (.int .i64 a) ∧ w'.cell? ⟨w.heap.size + 1, 0, none⟩ = some (.int .i64 n) ∧ w'.cell? ⟨w.heap.size + 1, 1, none⟩ = some (.int .i64 p))
      ((go_split_ands; refine ⟨?_, ?_, ?_, ?_, ?_⟩ <;> (repeat (with_reducible (first | assumption | refine keep_drew ?_ | refine keep_drewN ?_ | refine keep_alloc ?_ | refine keep_at hb ?_)))))
      (first | (go_at_call 13; refine (times_any _ _ _ _).mono ?_; rintro e w' ⟨rfl, rfl⟩) | (go_at_call 9; refine (fresh_val _ _ _ _ _ _ false _ HF.out).mono ?_; rintro e w4 ⟨rfl, hb⟩))
    go_split_ands
    have hB : Below w.heap.size w w4 := bel_step (bel_alloc (bel_alloc (bel_drewN hB))) hb
    clear hb
    go_wp2_with fail
    go_ret
    exact ⟨rfl, hB⟩
  · have hpos : 0 < k := by
      by_cases h : 0 < k
      · exact h
      · obtain rfl : k = 0 := by omega
        rcases hk2 with h | h
        · omega
        · rw [Int.add_zero, hf] at h; cases h
    have hF1 : freshB s r a (lim n 1099511627776 + k - 1) p l = true := by
      rcases hk1 with h | h
      · omega
      · rw [show lim n 1099511627776 + k - 1 = lim n 1099511627776 + (k - 1) from by omega]; exact h
    have HF1 := Lib.hid hF1
    have HK2 := Lib.hid hk2
    clear hF1 hk2 hk1 hf HK
    have hw1 : IntKind.i64.wrap (lim n 1099511627776 + k) = lim n 1099511627776 + k := IntWalk.i64_in _ (by omega)
    have hw2 : IntKind.i64.wrap (lim n 1099511627776 + k - 1) = lim n 1099511627776 + k - 1 := IntWalk.i64_in _ (by omega)
    go_region_held3 (fun w' => w'.cell? ⟨w.heap.size, 0, none⟩ = some (.int .i64 s) ∧ w'.cell? ⟨w.heap.size, 1, none⟩ = some (.int .i64 r) ∧ w'.cell? ⟨w.heap.size, 2, none⟩ = some (.int .i64 a) ∧ w'.cell? ⟨w.heap.size + 1, 0, none⟩ = some (.int .i64 n) ∧ w'.cell? ⟨w.heap.size + 1, 1, none⟩ = some (.int .i64 p))
      ((go_split_ands; refine ⟨?_, ?_, ?_, ?_, ?_⟩ <;> (repeat (with_reducible (first | assumption | refine keep_drew ?_ | refine keep_drewN ?_ | refine keep_alloc ?_ | refine keep_at hb ?_)))))
      (first | (go_at_call 13; refine (times_any _ _ _ _).mono ?_; rintro e w' ⟨rfl, rfl⟩) | (go_at_call 9; refine (fresh_val _ _ _ _ _ _ true _ HF1.out).mono ?_; rintro e w4 ⟨rfl, hb⟩))
    go_split_ands
    have hB : Below w.heap.size w w4 := bel_step (bel_drew (bel_alloc (bel_alloc hB))) hb
    clear hb d0 d1 d2 d3 d4 hw1 hw2
    go_wp2_with fail
    by_cases hq : 1099511627776 < lim n 1099511627776 + k
    · have hd1 : decide (1099511627776 < lim n 1099511627776 + k) = true := by simp; omega
      go_quiet (fail)
      go_wp2_with fail
      go_ret
      exact ⟨rfl, bel_drewN hB⟩
    · have hF2 : freshB s r a (lim n 1099511627776 + k) p l = false := by
        rcases HK2.out with h | h
        · omega
        · exact h
      have HF2 := Lib.hid hF2
      clear hF2
      have hd1 : decide (1099511627776 < lim n 1099511627776 + k) = false := by simp; omega
      have hw1 : IntKind.i64.wrap (lim n 1099511627776 + k) = lim n 1099511627776 + k := IntWalk.i64_in _ (by omega)
      go_region_held3 (fun w' => w'.cell? ⟨w.heap.size, 0, none⟩ = some (.int .i64 s) ∧ w'.cell? ⟨w.heap.size, 1, none⟩ = some (.int .i64 r) ∧ w'.cell? ⟨w.heap.size, 2, none⟩ = some (.int .i64 a) ∧ w'.cell? ⟨w.heap.size + 1, 0, none⟩ = some (.int .i64 n) ∧ w'.cell? ⟨w.heap.size + 1, 1, none⟩ = some (.int .i64 p))
        ((go_split_ands; refine ⟨?_, ?_, ?_, ?_, ?_⟩ <;> (repeat (with_reducible (first | assumption | refine keep_drew ?_ | refine keep_drewN ?_ | refine keep_alloc ?_ | refine keep_at hb ?_)))))
        (first | (go_at_call 13; refine (times_any _ _ _ _).mono ?_; rintro e w' ⟨rfl, rfl⟩) | (go_at_call 9; refine (fresh_val _ _ _ _ _ _ false _ HF2.out).mono ?_; rintro e w5 ⟨rfl, hb⟩))
      go_split_ands
      have hB : Below w.heap.size w w5 := bel_step (bel_drew (bel_alloc (bel_alloc hB))) hb
      clear hb
      go_wp2_with fail
      go_ret
      exact ⟨rfl, hB⟩

set_option maxHeartbeats 2000000 in
theorem errors_walk (s r a n p l : Int) (w : World) : Calls Try.prog 5 #[.agg #[.int .i64 s, .int .i64 r, .int .i64 a], .agg #[.int .i64 n, .int .i64 p], .int .i64 l] w fun e w' => e = .returned (.bool true) ∧ Below w.heap.size w w' := by
  go_enter Try.func5, Try.ntmps5
  go_wp2_with fail
  refine (ageAwake_any _).mono ?_
  rintro e w0 ⟨rfl, hb⟩
  have c0 := keep_at hb (b := w.heap.size) (o := 0) (v := .int .i64 s) (by simp [go_sem])
  have c1 := keep_at hb (b := w.heap.size) (o := 1) (v := .int .i64 r) (by simp [go_sem])
  have c2 := keep_at hb (b := w.heap.size) (o := 2) (v := .int .i64 a) (by simp [go_sem])
  have c3 := keep_at hb (b := w.heap.size + 1) (o := 0) (v := .int .i64 n) (by simp [go_sem])
  have c4 := keep_at hb (b := w.heap.size + 1) (o := 1) (v := .int .i64 p) (by simp [go_sem])
  have hB : Below w.heap.size w w0 := bel_step (bel_alloc (bel_alloc (Below.refl _ _))) hb
  clear hb
  cases ho : ordB s r n
  · go_wp2_with fail
    refine (atRef_no _ _ _ _ _ _ ho).mono ?_
    rintro e w1 ⟨rfl, hb⟩
    have c0 := keep_at hb c0
    have c1 := keep_at hb c1
    have c2 := keep_at hb c2
    have c3 := keep_at hb c3
    have c4 := keep_at hb c4
    have hB := bel_step hB hb
    clear hb
    go_wp2_with fail
    go_region_held3 (fun w' => w'.cell? ⟨w.heap.size, 0, none⟩ = some (.int .i64 s) ∧ w'.cell? ⟨w.heap.size, 1, none⟩ = some (.int .i64 r) ∧ w'.cell? ⟨w.heap.size, 2, none⟩ = some (.int .i64 a) ∧ w'.cell? ⟨w.heap.size + 1, 0, none⟩ = some (.int .i64 n) ∧ w'.cell? ⟨w.heap.size + 1, 1, none⟩ = some (.int .i64 p))
      ((go_split_ands; refine ⟨?_, ?_, ?_, ?_, ?_⟩ <;> (repeat (with_reducible (first | assumption | refine keep_drew ?_ | refine keep_alloc ?_ | refine keep_at hb ?_)))))
      (first | (go_at_call 13; refine (times_any _ _ _ _).mono ?_; rintro e w' ⟨rfl, rfl⟩) | (go_at_call 8; refine (at_no _ _ _ _ _ _ ho).mono ?_; rintro e w2 ⟨rfl, hb⟩))
    go_split_ands
    have hB : Below w.heap.size w w2 := bel_step (bel_drew (bel_alloc (bel_alloc hB))) hb
    clear hb c0 c1 c2 c3 c4
    go_wp2_with fail
    go_region_held3 (fun w' => w'.cell? ⟨w.heap.size, 0, none⟩ = some (.int .i64 s) ∧ w'.cell? ⟨w.heap.size, 1, none⟩ = some (.int .i64 r) ∧ w'.cell? ⟨w.heap.size, 2, none⟩ = some (.int .i64 a) ∧ w'.cell? ⟨w.heap.size + 1, 0, none⟩ = some (.int .i64 n) ∧ w'.cell? ⟨w.heap.size + 1, 1, none⟩ = some (.int .i64 p))
      ((go_split_ands; refine ⟨?_, ?_, ?_, ?_, ?_⟩ <;> (repeat (with_reducible (first | assumption | refine keep_drew ?_ | refine keep_alloc ?_ | refine keep_at hb ?_)))))
      (first | (go_at_call 13; refine (times_any _ _ _ _).mono ?_; rintro e w' ⟨rfl, rfl⟩) | (go_at_call 11; refine (field_no _ _ _ _ _ _ ho).mono ?_; rintro e w3 ⟨rfl, hb⟩))
    go_split_ands
    have hB : Below w.heap.size w w3 := bel_step (bel_drew (bel_alloc (bel_alloc hB))) hb
    clear hb
    go_wp2_with (go_at_call 17; refine (is_seven _).mono ?_; rintro e w' ⟨rfl, rfl⟩)
    go_region_held3 (fun w' => w'.cell? ⟨w.heap.size, 0, none⟩ = some (.int .i64 s) ∧ w'.cell? ⟨w.heap.size, 1, none⟩ = some (.int .i64 r) ∧ w'.cell? ⟨w.heap.size, 2, none⟩ = some (.int .i64 a) ∧ w'.cell? ⟨w.heap.size + 1, 0, none⟩ = some (.int .i64 n) ∧ w'.cell? ⟨w.heap.size + 1, 1, none⟩ = some (.int .i64 p))
      ((go_split_ands; refine ⟨?_, ?_, ?_, ?_, ?_⟩ <;> (repeat (with_reducible (first | assumption | refine keep_drew ?_ | refine keep_alloc ?_ | refine keep_at hb3 ?_ | refine keep_at hb2 ?_ | refine keep_at hb ?_)))))
      (first | (go_at_call 13; refine (times_any _ _ _ _).mono ?_; rintro e w' ⟨rfl, rfl⟩) | (go_at_call 9; refine (fresh_no _ _ _ _ _ _ _ ho).mono ?_; rintro e w4 ⟨rfl, hb⟩) | (go_at_call 10; refine (stale_no _ _ _ _ _ _ _ ho).mono ?_; rintro e w5 ⟨rfl, hb2⟩) | (go_at_call 12; refine (left_no _ _ _ _ _ _ _ ho).mono ?_; rintro e w6 ⟨rfl, hb3⟩))
    go_split_ands
    have hB : Below w.heap.size w w6 := bel_step (bel_alloc (bel_alloc (bel_step (bel_alloc (bel_alloc (bel_step (bel_drew (bel_alloc (bel_alloc hB))) hb))) hb2))) hb3
    clear hb hb2 hb3
    go_wp2_with fail
    go_ret
    exact ⟨rfl, hB⟩
  · go_wp2_with fail
    refine (atRef_yes _ _ _ _ _ _ ho).mono ?_
    rintro e w1 ⟨rfl, hb⟩
    have hB := bel_step hB hb
    clear hb
    go_wp2_with fail
    go_ret
    exact ⟨rfl, hB⟩
end Go.Proofs.Ytgefcejolfikoab
