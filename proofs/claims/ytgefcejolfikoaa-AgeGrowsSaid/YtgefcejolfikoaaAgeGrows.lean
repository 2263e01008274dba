/- The walk of the law AgeGrows: it returns true. No condition. -/
import Derived.Test.YtgefcejolfikoaaJudges
namespace Go.Proofs.Ytgefcejolfikoaa
open Go.RowKit
set_option linter.unusedVariables false
set_option linter.unusedSimpArgs false

theorem agegrows_law (s r a n p x y : Int) (hn : 0 ≤ n ∧ n + x ≤ 1099511627776) (hx : 0 ≤ x) (hp : 0 ≤ p ∧ p + y ≤ 100000) (hy : 0 ≤ y) (ho : ordB s r n = true) :
    ordB s r (n + x) = true ∧ atLo s r a n p ≤ atLo s r a (n + x) p ∧ atHi s r a n p ≤ atHi s r a (n + x) p ∧ atLo s r a n (p + y) ≤ atLo s r a n p ∧ atHi s r a n p ≤ atHi s r a n (p + y) ∧
      atHi s r (-1) n p + ageOf a = atHi s r a n p := by
  have hs := lim_bd s 1099511627776 (by omega)
  have hr := lim_bd r 1099511627776 (by omega)
  have h := ord_true s r n ho
  have e1 : lim n 1099511627776 = n := lim_id _ _ (by omega) (by omega)
  have e2 : lim (n + x) 1099511627776 = n + x := lim_id _ _ (by omega) (by omega)
  have e3 : lim p 100000 = p := lim_id _ _ (by omega) (by omega)
  have e4 : lim (p + y) 100000 = p + y := lim_id _ _ (by omega) (by omega)
  have ho' : ordB s r (n + x) = true := by simp only [ordB, decide_eq_true_eq]; rw [e2]; rw [e1] at h; omega
  rw [e1] at h
  refine ⟨ho', ?_, ?_, ?_, ?_, ?_⟩
  · rw [atLo, atLo, ho, ho', if_pos rfl, if_pos rfl, e1, e2, e3]
    exact elo_up _ _ _ (by omega) (by omega) (by omega)
  · rw [atHi, atHi, ho, ho', if_pos rfl, if_pos rfl, e1, e2, e3]
    have := ehi_up (n - lim s 1099511627776) (n + x - lim s 1099511627776) p (by omega) (by omega)
    omega
  · rw [atLo, atLo, ho, if_pos rfl, if_pos rfl, e1, e3, e4]
    exact elo_down _ _ _ (by omega) (by omega)
  · rw [atHi, atHi, ho, if_pos rfl, if_pos rfl, e1, e3, e4]
    have := ehi_more (n - lim s 1099511627776) p (p + y) (by omega) (by omega) (by omega) (by omega)
    omega
  · rw [atHi, atHi, ho, if_pos rfl, if_pos rfl, e1, e3]
    show _ + 0 + _ = _
    omega

set_option maxHeartbeats 2000000 in
theorem agegrows_no (s r a n p x y : Int) (w : World) (ho : ordB s r (clipI n 0 1099511562240) = false) :
    Calls Try.prog 11 #[.agg #[.int .i64 s, .int .i64 r, .int .i64 a], .agg #[.int .i64 n, .int .i64 p], .agg #[.int .u16 x, .int .u16 y]] w fun e w' => e = .returned (.bool true) ∧ Below w.heap.size w w' := by
  go_enter Try.func11, Try.ntmps11
  go_wp2_with fail
  refine (ageAwake_any _).mono ?_
  rintro e w0 ⟨rfl, hb⟩
  have c0 := keep_at hb (b := w.heap.size) (o := 0) (v := .int .i64 s) (by simp [go_sem])
  have c1 := keep_at hb (b := w.heap.size) (o := 1) (v := .int .i64 r) (by simp [go_sem])
  have c2 := keep_at hb (b := w.heap.size) (o := 2) (v := .int .i64 a) (by simp [go_sem])
  have c3 := keep_at hb (b := w.heap.size + 1) (o := 0) (v := .int .i64 n) (by simp [go_sem])
  have c4 := keep_at hb (b := w.heap.size + 1) (o := 1) (v := .int .i64 p) (by simp [go_sem])
  have hB : Below w.heap.size w w0 := bel_step (bel_alloc (bel_alloc (bel_alloc (Below.refl _ _)))) hb
  have hz := hb.size
  simp at hz
  clear hb
  go_wp2_with fail
  go_quiet ((go_at_call 28; exact still_quiet (clip_any _ _ _ _)))
  go_wp2_with (go_at_call 32; refine (times_any _ _ _ _).mono ?_; rintro e w' ⟨rfl, rfl⟩)
  refine (at_no _ _ _ _ _ _ ho).mono ?_
  rintro e w1 ⟨rfl, hb⟩
  have hB : Below w.heap.size w w1 := bel_step (bel_alloc (bel_alloc (bel_alloc (bel_drewN hB)))) hb
  clear hb
  go_wp2_with fail
  go_ret
  exact ⟨rfl, hB⟩

theorem keep_frozen {W w' : World} (h : Below W.heap.size W w') {b o : Nat} (hb : b < W.heap.size) (hc : W.frozen? ⟨b, o, none⟩ = false) : w'.frozen? ⟨b, o, none⟩ = false :=
  (h.frozen (p := ⟨b, o, none⟩) hb).trans hc

theorem keep_set {W : World} {g k b o : Nat} {u v : Value} (hn : b ≠ g) (hc : W.cell? ⟨b, o, none⟩ = some v) : (W.setCell ⟨g, k, none⟩ u).cell? ⟨b, o, none⟩ = some v :=
  (World.cell?_of_block (w := W) (w' := W.setCell ⟨g, k, none⟩ u) (Below.heap_setCell W ⟨g, k, none⟩ u b hn)).trans hc

set_option maxHeartbeats 4000000 in
theorem agegrows_yes (s r a n p x y : Int) (w : World) (hx : 0 ≤ x ∧ x ≤ 65535) (hy : 0 ≤ y ∧ y ≤ 65535) (ho : ordB s r (clipI n 0 1099511562240) = true) :
    Calls Try.prog 11 #[.agg #[.int .i64 s, .int .i64 r, .int .i64 a], .agg #[.int .i64 n, .int .i64 p], .agg #[.int .u16 x, .int .u16 y]] w fun e w' => e = .returned (.bool true) ∧ Below w.heap.size w w' := by
  have hn := clip_bd n 0 1099511562240 (by omega)
  have hp := clip_bd p 0 34464 (by omega)
  obtain ⟨l1, l2, l3, l4, l5, l6⟩ := agegrows_law s r a (clipI n 0 1099511562240) (clipI p 0 34464) x y (by omega) (by omega) (by omega) (by omega) ho
  have b1 := atHi_bd s r a (clipI n 0 1099511562240) (clipI p 0 34464)
  have b2 := atHi_bd s r (-1) (clipI n 0 1099511562240) (clipI p 0 34464)
  have L6 := Lib.hid l6
  clear l6
  go_enter Try.func11, Try.ntmps11
  go_wp2_with fail
  refine (ageAwake_any _).mono ?_
  rintro e w0 ⟨rfl, hb⟩
  have c0 := keep_at hb (b := w.heap.size) (o := 0) (v := .int .i64 s) (by simp [go_sem])
  have c1 := keep_at hb (b := w.heap.size) (o := 1) (v := .int .i64 r) (by simp [go_sem])
  have c2 := keep_at hb (b := w.heap.size) (o := 2) (v := .int .i64 a) (by simp [go_sem])
  have c3 := keep_at hb (b := w.heap.size + 1) (o := 0) (v := .int .i64 n) (by simp [go_sem])
  have c4 := keep_at hb (b := w.heap.size + 1) (o := 1) (v := .int .i64 p) (by simp [go_sem])
  have c5 := keep_at hb (b := w.heap.size + 1 + 1) (o := 0) (v := .int .u16 x) (by simp [go_sem])
  have c6 := keep_at hb (b := w.heap.size + 1 + 1) (o := 1) (v := .int .u16 y) (by simp [go_sem])
  have hB : Below w.heap.size w w0 := bel_step (bel_alloc (bel_alloc (bel_alloc (Below.refl _ _)))) hb
  have hz := hb.size
  simp at hz
  clear hb
  go_wp2_with fail
  go_quiet ((go_at_call 28; exact still_quiet (clip_any _ _ _ _)))
  go_wp2_with (go_at_call 32; refine (times_any _ _ _ _).mono ?_; rintro e w' ⟨rfl, rfl⟩)
  generalize clipI n 0 1099511562240 = N at *
  generalize clipI p 0 34464 = P at *
  refine (at_yes _ _ _ _ _ _ ho).mono ?_
  rintro e w1 ⟨rfl, hb⟩
  have d2 := keep_at hb (keep_alloc (keep_alloc (keep_alloc (keep_drewN c2))))
  have d5 := keep_at hb (keep_alloc (keep_alloc (keep_alloc (keep_drewN c5))))
  have d6 := keep_at hb (keep_alloc (keep_alloc (keep_alloc (keep_drewN c6))))
  have e0 := keep_at hb (b := w0.heap.size + 1 + 1) (o := 0) (v := .int .i64 s) (by simp [go_sem])
  have e1 := keep_at hb (b := w0.heap.size + 1 + 1) (o := 1) (v := .int .i64 r) (by simp [go_sem])
  have e2 := keep_at hb (b := w0.heap.size + 1 + 1) (o := 2) (v := .int .i64 a) (by simp [go_sem])
  have f2 := keep_frozen hb (b := w0.heap.size + 1 + 1) (o := 2) (by simp) (by simp [go_sem])
  have hz1 := hb.size
  simp at hz1
  have hB : Below w.heap.size w w1 := bel_step (bel_alloc (bel_alloc (bel_alloc (bel_drewN hB)))) hb
  clear hb c0 c1 c2 c3 c4 c5 c6
  go_wp2_with fail
  refine (at_yes _ _ _ _ _ _ l1).mono ?_
  rintro e w2 ⟨rfl, hb⟩
  have d2 := keep_at hb d2
  have d5 := keep_at hb d5
  have d6 := keep_at hb d6
  have e0 := keep_at hb e0
  have e1 := keep_at hb e1
  have e2 := keep_at hb e2
  have f2 := keep_frozen hb (by omega) f2
  have hz1 := Nat.le_trans hz1 hb.size
  have hB := bel_step hB hb
  clear hb
  go_wp2_with fail
  refine (at_yes _ _ _ _ _ _ ho).mono ?_
  rintro e w3 ⟨rfl, hb⟩
  have d2 := keep_at hb d2
  have e0 := keep_at hb e0
  have e1 := keep_at hb e1
  have e2 := keep_at hb e2
  have f2 := keep_frozen hb (by omega) f2
  have hz1 := Nat.le_trans hz1 hb.size
  have hB := bel_step hB hb
  clear hb
  go_wp2_with fail
  refine (at_yes _ _ _ _ _ _ ho).mono ?_
  rintro e w4 ⟨rfl, hb⟩
  have d2 := keep_at hb (keep_set (g := w0.heap.size + 1 + 1) (by omega) d2)
  have hB := bel_step (hB.setCell (p := ⟨w0.heap.size + 1 + 1, 2, none⟩) (by show w.heap.size ≤ w0.heap.size + 1 + 1; omega) _) hb
  clear hb e0 e1 e2 f2
  by_cases ha : a < 0
  · have h6 : (atHi s r (-1) N P == atHi s r a N P) = true := by
      have := L6.out
      rw [ageOf, if_neg (by omega)] at this
      simp; omega
    clear L6
    go_wp2
    go_ret
    exact ⟨rfl, hB⟩
  · by_cases hm : 2147483647 < a
    · have h6 : (atHi s r (-1) N P + 2147483648000 == atHi s r a N P) = true := by
        have := L6.out
        rw [ageOf, if_pos (by omega)] at this
        split at this <;> simp <;> omega
      clear L6
      go_wp2
      go_ret
      exact ⟨rfl, hB⟩
    · have h6 : (atHi s r (-1) N P + (a + 1) * 1000 == atHi s r a N P) = true := by
        have := L6.out
        rw [ageOf, if_pos (by omega)] at this
        split at this <;> simp <;> omega
      clear L6
      go_wp2
      go_ret
      exact ⟨rfl, hB⟩

theorem agegrows_walk (s r a n p x y : Int) (w : World) (hx : 0 ≤ x ∧ x ≤ 65535) (hy : 0 ≤ y ∧ y ≤ 65535) :
    Calls Try.prog 11 #[.agg #[.int .i64 s, .int .i64 r, .int .i64 a], .agg #[.int .i64 n, .int .i64 p], .agg #[.int .u16 x, .int .u16 y]] w fun e w' => e = .returned (.bool true) ∧ Below w.heap.size w w' := by
  cases ho : ordB s r (clipI n 0 1099511562240)
  · exact agegrows_no s r a n p x y w ho
  · exact agegrows_yes s r a n p x y w hx hy ho
end Go.Proofs.Ytgefcejolfikoaa
