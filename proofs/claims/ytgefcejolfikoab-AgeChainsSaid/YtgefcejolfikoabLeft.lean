/- The walks of age.Left and of the search below it. No condition beyond the cells that a closure reads. -/
import Derived.Test.YtgefcejolfikoabAge2
import Derived.Deep.LoopGhost
namespace Go.Proofs.Ytgefcejolfikoab
open Go.RowKit
set_option linter.unusedVariables false
set_option linter.unusedSimpArgs false

/-- The four variables that the closure of Left reads. -/
def Caught (w : World) (bx bn bp bl : Nat) (s r a n p l : Int) : Prop :=
  w.cell? ⟨bx, 0, none⟩ = some (.int .i64 s) ∧ w.cell? ⟨bx, 1, none⟩ = some (.int .i64 r) ∧ w.cell? ⟨bx, 2, none⟩ = some (.int .i64 a) ∧
  w.cell? ⟨bn, 0, none⟩ = some (.int .i64 n) ∧ w.cell? ⟨bp, 0, none⟩ = some (.int .i64 p) ∧ w.cell? ⟨bl, 0, none⟩ = some (.int .i64 l)
theorem Caught.step {w w' : World} {bx bn bp bl : Nat} {s r a n p l : Int} (h : Caught w bx bn bp bl s r a n p l) (hb : Below w.heap.size w w') : Caught w' bx bn bp bl s r a n p l :=
  ⟨keep_at hb h.1, keep_at hb h.2.1, keep_at hb h.2.2.1, keep_at hb h.2.2.2.1, keep_at hb h.2.2.2.2.1, keep_at hb h.2.2.2.2.2⟩

theorem closure_any (bx bn bp bl : Nat) (s r a n p l k : Int) (w : World) (hc : Caught w bx bn bp bl s r a n p l) (hn : 0 ≤ n ∧ n ≤ 1099511627776) (hk : 0 ≤ k ∧ k ≤ 2199023255552) :
    Calls Try.prog 23 #[.int .i64 k, .pointer (some ⟨bx, 0, none⟩), .pointer (some ⟨bn, 0, none⟩), .pointer (some ⟨bp, 0, none⟩), .pointer (some ⟨bl, 0, none⟩)] w fun e w' => e = .returned (.bool (!freshB s r a (n + k) p l)) ∧ Below w.heap.size w w' := by
  obtain ⟨h0, h1, h2, h3, h4, h5⟩ := hc
  go_enter Try.func23, Try.ntmps23
  go_wp2_with fail
  refine (fresh_any _ _ _ _ _ _ _).mono ?_
  rintro e w1 ⟨rfl, hB⟩
  go_wp2_with fail
  go_ret
  exact ⟨rfl, hB⟩

def SearchPost (F : Int → Bool) (N : Int) (w : World) (e : Ending) (w' : World) : Prop :=
  ∃ i : Int, e = .returned (.int .i64 i) ∧ 0 ≤ i ∧ i ≤ N ∧ (i = 0 ∨ F (i - 1) = true) ∧ (i = N ∨ F i = false) ∧ Below w.heap.size w w'

set_option maxHeartbeats 1000000 in
theorem search_any (bx bn bp bl : Nat) (s r a n p l N : Int) (w : World) (hc : Caught w bx bn bp bl s r a n p l) (hn : 0 ≤ n ∧ n ≤ 1099511627776) (hN : 0 ≤ N ∧ N ≤ 1099511627777) :
    Calls Try.prog 22 #[.int .i64 N, .func (.func 23) #[] #[.pointer (some ⟨bx, 0, none⟩), .pointer (some ⟨bn, 0, none⟩), .pointer (some ⟨bp, 0, none⟩), .pointer (some ⟨bl, 0, none⟩)]] w
      (SearchPost (fun k => freshB s r a (n + k) p l) N w) := by
  have HC := Lib.hid hc
  clear hc
  go_enter Try.func22, Try.ntmps22
  go_wp2_with fail
  go_loopw [5, 6] (fun i j wr => ∃ x y : Int, i = .int .i64 x ∧ j = .int .i64 y ∧ 0 ≤ x ∧ x ≤ y ∧ y ≤ N ∧ (x = 0 ∨ freshB s r a (n + (x - 1)) p l = true) ∧ (y = N ∨ freshB s r a (n + y) p l = false) ∧
      Caught wr bx bn bp bl s r a n p l ∧ Below w.heap.size w wr) (fun i j _ => (intOf j - intOf i).toNat)
  case atStart => exact ⟨0, N, rfl, rfl, by omega, hN.1, by omega, Or.inl rfl, Or.inl rfl, HC.out, Below.refl _ _⟩
  case round =>
    obtain ⟨x, y, rfl, rfl, hx, hxy, hy, hL, hR, hC, hB⟩ := hrel
    by_cases hlt : x < y
    · have HL := Lib.hid hL
      have HR := Lib.hid hR
      have HCC := Lib.hid hC
      clear hL hR hC
      cases hF : freshB s r a (n + (x + y) / 2) p l
      · have HF := Lib.hid hF
        clear hF
        go_wp2_with fail
        refine (closure_any bx bn bp bl s r a n p l _ _ HCC.out hn (by omega)).mono ?_
        rintro e w1 ⟨rfl, hb⟩
        have hC := HCC.out.step hb
        have hB := bel_step hB hb
        rw [HF.out]
        have HC1 := Lib.hid hC
        clear hC hb HCC
        go_wp2_with fail
        go_roundw
        case rel => exact ⟨x, (x + y) / 2, rfl, rfl, hx, by omega, by omega, HL.out, Or.inr HF.out, HC1.out, hB⟩
        case measure => simp [intOf]; omega
      · have HF := Lib.hid hF
        clear hF
        go_wp2_with fail
        refine (closure_any bx bn bp bl s r a n p l _ _ HCC.out hn (by omega)).mono ?_
        rintro e w1 ⟨rfl, hb⟩
        have hC := HCC.out.step hb
        have hB := bel_step hB hb
        rw [HF.out]
        have HC1 := Lib.hid hC
        clear hC hb HCC
        go_wp2_with fail
        go_roundw
        case rel => exact ⟨(x + y) / 2 + 1, y, rfl, rfl, by omega, by omega, hy, Or.inr (by rw [show n + ((x + y) / 2 + 1 - 1) = n + (x + y) / 2 from by omega]; exact HF.out), HR.out, HC1.out, hB⟩
        case measure => simp [intOf]; omega
    · go_wp2_with fail
      go_ret
      obtain rfl : x = y := by omega
      exact ⟨x, rfl, hx, hy, hL, hR, hB⟩

/-- For how many readings a response is fresh. -/
def IsLeft (s r a n p l k : Int) : Prop :=
  (freshB s r a (lim n 1099511627776) p l = false ∧ k = 0) ∨
  (freshB s r a (lim n 1099511627776) p l = true ∧ 0 ≤ k ∧ k ≤ 1099511627776 - lim n 1099511627776 + 1 ∧ (k = 0 ∨ freshB s r a (lim n 1099511627776 + (k - 1)) p l = true) ∧
    (k = 1099511627776 - lim n 1099511627776 + 1 ∨ freshB s r a (lim n 1099511627776 + k) p l = false))
def LeftPost (s r a n p l : Int) (w : World) (e : Ending) (w' : World) : Prop := ∃ k : Int, e = .returned (.int .i64 k) ∧ IsLeft s r a n p l k ∧ Below w.heap.size w w'

set_option maxHeartbeats 1000000 in
theorem left_any (s r a n p l : Int) (w : World) : Calls Try.prog 12 #[.agg #[.int .i64 s, .int .i64 r, .int .i64 a], .int .i64 n, .int .i64 p, .int .i64 l] w (LeftPost s r a n p l w) := by
  have hm := lim_bd n 1099511627776 (by omega)
  cases hF : freshB s r a (lim n 1099511627776) p l
  · have HF := Lib.hid hF
    clear hF
    go_enter Try.func12, Try.ntmps12
    go_wp2_with (go_at_call 20; refine (ageclip_any _ _).mono ?_; rintro e w' ⟨rfl, rfl⟩)
    refine (fresh_any _ _ _ _ _ _ _).mono ?_
    rintro e w1 ⟨rfl, hb⟩
    rw [HF.out]
    have hB : Below w.heap.size w w1 := bel_step (bel_alloc (bel_alloc (bel_alloc (bel_alloc (Below.refl _ _))))) hb
    clear hb
    go_wp2_with fail
    go_ret
    exact ⟨0, rfl, Or.inl ⟨HF.out, rfl⟩, hB⟩
  · have HF := Lib.hid hF
    clear hF
    go_enter Try.func12, Try.ntmps12
    go_wp2_with (go_at_call 20; refine (ageclip_any _ _).mono ?_; rintro e w' ⟨rfl, rfl⟩)
    refine (fresh_any _ _ _ _ _ _ _).mono ?_
    rintro e w1 ⟨rfl, hb⟩
    rw [HF.out]
    have hC : Caught w1 w.heap.size (w.heap.size + 1) (w.heap.size + 1 + 1) (w.heap.size + 1 + 1 + 1) s r a (lim n 1099511627776) p l :=
      ⟨keep_at hb (by simp [go_sem]), keep_at hb (by simp [go_sem]), keep_at hb (by simp [go_sem]), keep_at hb (by simp [go_sem]), keep_at hb (by simp [go_sem]), keep_at hb (by simp [go_sem])⟩
    have hB : Below w.heap.size w w1 := bel_step (bel_alloc (bel_alloc (bel_alloc (bel_alloc (Below.refl _ _))))) hb
    have c3 := hC.2.2.2.1
    have HC := Lib.hid hC
    clear hb hC
    go_wp2_with fail
    refine (search_any _ _ _ _ _ _ _ _ _ _ _ _ HC.out hm (by omega)).mono ?_
    rintro e w2 ⟨i, rfl, h0, h1, h2, h3, hb⟩
    have HP := Lib.hid (show IsLeft s r a n p l i from Or.inr ⟨HF.out, h0, h1, h2, h3⟩)
    have hB := bel_step hB hb
    clear hb h2 h3
    go_wp2_with fail
    go_ret
    exact ⟨i, rfl, HP.out, hB⟩

theorem atRef_no (s r a n p : Int) (w : World) (h : ordB s r n = false) : Calls Try.prog 16 #[.agg #[.int .i64 s, .int .i64 r, .int .i64 a], .int .i64 n, .int .i64 p] w fun e w' => e = .returned (.tuple #[.int .i64 0, .int .i64 0, .int .i64 7]) ∧ Below w.heap.size w w' := by
  have := atRef_any s r a n p w
  rwa [atN, atLo, atHi, h] at this
theorem atRef_yes (s r a n p : Int) (w : World) (h : ordB s r n = true) : Calls Try.prog 16 #[.agg #[.int .i64 s, .int .i64 r, .int .i64 a], .int .i64 n, .int .i64 p] w fun e w' => e = .returned (.tuple #[.int .i64 (atLo s r a n p), .int .i64 (atHi s r a n p), .int .i64 0]) ∧ Below w.heap.size w w' := by
  have := atRef_any s r a n p w
  rwa [atN, h] at this

theorem fresh_down (s r a m p l j k : Int) (hm : 0 ≤ m) (hj : 0 ≤ j) (hjk : j ≤ k) (h0 : ordB s r m = true) (h : freshB s r a (m + k) p l = true) : freshB s r a (m + j) p l = true := by
  have hs := lim_bd s 1099511627776 (by omega)
  have hr := lim_bd r 1099511627776 (by omega)
  have hp := lim_bd p 100000 (by omega)
  have o := ord_true s r m h0
  have e1 : lim m 1099511627776 ≤ lim (m + j) 1099511627776 := by unfold lim; omega
  have e2 : lim (m + j) 1099511627776 ≤ lim (m + k) 1099511627776 := by unfold lim; omega
  have oj : ordB s r (m + j) = true := by simp only [ordB, decide_eq_true_eq]; omega
  have ok : ordB s r (m + k) = true := by simp only [ordB, decide_eq_true_eq]; omega
  have g : atHi s r a (m + k) p < l := by simpa [freshB, ok] using h
  have q : atHi s r a (m + j) p ≤ atHi s r a (m + k) p := by
    rw [atHi, atHi, oj, ok, if_pos rfl, if_pos rfl]
    have := ehi_up (lim (m + j) 1099511627776 - lim s 1099511627776) (lim (m + k) 1099511627776 - lim s 1099511627776) (lim p 100000) (by omega) hp.2
    omega
  simp only [freshB, oj, Bool.true_and, decide_eq_true_eq]
  omega

theorem left_unique (s r a n p l j k : Int) (h : IsLeft s r a n p l j) (g : IsLeft s r a n p l k) : j = k := by
  have hm := lim_bd n 1099511627776 (by omega)
  rcases h with ⟨h1, rfl⟩ | ⟨h1, h2, h3, h4, h5⟩
  · rcases g with ⟨g1, rfl⟩ | ⟨g1, _⟩
    · rfl
    · rw [h1] at g1; cases g1
  · rcases g with ⟨g1, rfl⟩ | ⟨g1, g2, g3, g4, g5⟩
    · rw [h1] at g1; cases g1
    · have o : ordB s r (lim n 1099511627776) = true := by
        have := h1
        simp only [freshB, Bool.and_eq_true] at this
        exact this.1
      have one : ∀ u v : Int, 0 ≤ u → v ≤ 1099511627776 - lim n 1099511627776 + 1 → (v = 0 ∨ freshB s r a (lim n 1099511627776 + (v - 1)) p l = true) →
          (u = 1099511627776 - lim n 1099511627776 + 1 ∨ freshB s r a (lim n 1099511627776 + u) p l = false) → v ≤ u := fun u v hu hv hv1 hu1 => by
        rcases hu1 with rfl | hu1
        · exact hv
        · rcases hv1 with rfl | hv1
          · exact hu
          · by_cases hlt : v ≤ u
            · exact hlt
            · have := fresh_down s r a (lim n 1099511627776) p l u (v - 1) hm.1 hu (by omega) o hv1
              rw [hu1] at this; cases this
      have a1 := one j k h2 g3 g4 h5
      have a2 := one k j g2 h3 h4 g5
      omega
end Go.Proofs.Ytgefcejolfikoab
