/- The walk of the law AgeJudges: it returns true. No condition. -/
import Derived.Test.YtgefcejolfikoaaAgeLaws
namespace Go.Proofs.Ytgefcejolfikoaa
open Go.RowKit
set_option linter.unusedVariables false
set_option linter.unusedSimpArgs false

theorem atLo_le (s r a n p : Int) (h : ordB s r n = true) : atLo s r a n p ≤ atHi s r a n p := by
  have hs := lim_bd s 1099511627776 (by omega)
  have hr := lim_bd r 1099511627776 (by omega)
  have hn := lim_bd n 1099511627776 (by omega)
  have hp := lim_bd p 100000 (by omega)
  rw [atLo, atHi, h, if_pos rfl, if_pos rfl]
  have h := ord_true s r n h
  have g1 := ehi_nonneg (lim n 1099511627776 - lim s 1099511627776) (lim p 100000) (by omega) hp.1 hp.2
  have g2 := elo_le (lim n 1099511627776 - lim r 1099511627776) (lim p 100000) (by omega) hp.1
  unfold ageOf
  split <;> (try split) <;> omega

set_option maxHeartbeats 1000000 in
theorem judges_walk (s r a n p l : Int) (w : World) : Calls Try.prog 14 #[.agg #[.int .i64 s, .int .i64 r, .int .i64 a], .agg #[.int .i64 n, .int .i64 p], .int .i64 l] w fun e w' => e = .returned (.bool true) ∧ Below w.heap.size w w' := by
  have f1 : freshB s r a n p l = (ordB s r n && decide (atHi s r a n p < l)) := rfl
  have f2 : staleB s r a n p l = (ordB s r n && decide (l ≤ atLo s r a n p)) := rfl
  have f3 := atLo_le s r a n p
  go_enter Try.func14, Try.ntmps14
  go_wp2_with fail
  refine (ageAwake_any _).mono ?_
  rintro e w0 ⟨rfl, hb⟩
  have c0 := keep_at hb (b := w.heap.size) (o := 0) (v := .int .i64 s) (by simp [go_sem])
  have c1 := keep_at hb (b := w.heap.size) (o := 1) (v := .int .i64 r) (by simp [go_sem])
  have c2 := keep_at hb (b := w.heap.size) (o := 2) (v := .int .i64 a) (by simp [go_sem])
  have c3 := keep_at hb (b := w.heap.size + 1) (o := 0) (v := .int .i64 n) (by simp [go_sem])
  have c4 := keep_at hb (b := w.heap.size + 1) (o := 1) (v := .int .i64 p) (by simp [go_sem])
  have hB : Below w.heap.size w w0 := bel_step (bel_alloc (bel_alloc (Below.refl _ _))) hb
  have F1 := Lib.hid f1
  have F2 := Lib.hid f2
  have F3 := Lib.hid f3
  clear hb f1 f2 f3
  go_wp2_with fail
  refine (atRef_any _ _ _ _ _ _).mono ?_
  rintro e w1 ⟨rfl, hb⟩
  have c0 := keep_at hb c0
  have c1 := keep_at hb c1
  have c2 := keep_at hb c2
  have c3 := keep_at hb c3
  have c4 := keep_at hb c4
  have hB := bel_step hB hb
  clear hb
  go_wp2_with fail
  go_region_held3 (fun w' => w'.cell? ⟨w.heap.size, 0, none⟩ = some (.int .i64 s) ∧ w'.cell? ⟨w.heap.size, 1, none⟩ = some (.int .i64 r) ∧ w'.cell? ⟨w.heap.size, 2, none⟩ = some (.int .i64 a) ∧ w'.cell? ⟨w.heap.size + 1, 0, none⟩ = some (.int .i64 n) ∧ w'.cell? ⟨w.heap.size + 1, 1, none⟩ = some (.int .i64 p))
    ((go_split_ands; refine ⟨?_, ?_, ?_, ?_, ?_⟩ <;> (repeat (with_reducible (first | assumption | refine keep_drew ?_ | refine keep_alloc ?_ | refine keep_at hb ?_ | refine keep_at hb2 ?_)))))
    (first | (go_at_call 32; refine (times_any _ _ _ _).mono ?_; rintro e w' ⟨rfl, rfl⟩) | (go_at_call 35; refine (fresh_any _ _ _ _ _ _ _).mono ?_; rintro e w2 ⟨rfl, hb⟩) | (go_at_call 36; refine (stale_any _ _ _ _ _ _ _).mono ?_; rintro e w3 ⟨rfl, hb2⟩))
  have hB : Below w.heap.size w w3 := bel_step (bel_alloc (bel_alloc (bel_step (bel_drew (bel_alloc (bel_alloc hB))) hb))) hb2
  clear hb hb2
  cases ho : ordB s r n
  · have e1 : freshB s r a n p l = false := by rw [F1.out, ho]; rfl
    have e2 : staleB s r a n p l = false := by rw [F2.out, ho]; rfl
    have e3 : (atN s r n == 0) = false := by rw [atN, ho]; rfl
    clear ho
    go_wp2
    go_ret
    exact ⟨rfl, hB⟩
  · have e3 : (atN s r n == 0) = true := by rw [atN, ho]; rfl
    by_cases q1 : atHi s r a n p < l
    · have e1 : freshB s r a n p l = true := by rw [F1.out, ho, decide_eq_true q1]; rfl
      have q2 : ¬ l ≤ atLo s r a n p := by have := F3.out ho; omega
      have e2 : staleB s r a n p l = false := by rw [F2.out, ho, decide_eq_false q2]; rfl
      clear ho
      go_wp2
      go_ret
      exact ⟨rfl, hB⟩
    · have e1 : freshB s r a n p l = false := by rw [F1.out, ho, decide_eq_false q1]; rfl
      by_cases q2 : l ≤ atLo s r a n p
      · have e2 : staleB s r a n p l = true := by rw [F2.out, ho, decide_eq_true q2]; rfl
        clear ho
        go_wp2
        go_ret
        exact ⟨rfl, hB⟩
      · have e2 : staleB s r a n p l = false := by rw [F2.out, ho, decide_eq_false q2]; rfl
        clear ho
        go_wp2
        go_ret
        exact ⟨rfl, hB⟩
end Go.Proofs.Ytgefcejolfikoaa
