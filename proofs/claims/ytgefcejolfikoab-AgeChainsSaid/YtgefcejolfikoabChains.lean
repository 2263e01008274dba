/- The walk of the law AgeChains: it returns true. No condition beyond the slice's reading. -/
import Derived.Test.YtgefcejolfikoabSeen
import Derived.Test.YtgefcejolfikoabLaws
import Derived.Deep.DeepCutAuto
namespace Go.Proofs.Ytgefcejolfikoab
open Go.RowKit
set_option linter.unusedVariables false
set_option linter.unusedSimpArgs false

structure HopV where
  k : Nat
  slow : Bool
  tt : Nat
  back : Nat
  kept : Nat
def HopAt (w : World) (b o : Nat) (x : HopV) : Prop := x.k < 256 ∧ x.tt < 65536 ∧ x.back < 65536 ∧ x.kept < 65536 ∧ w.cell? ⟨b, o, none⟩ = some (.int .u8 x.k) ∧ w.cell? ⟨b, o + 1, none⟩ = some (.bool x.slow) ∧ w.cell? ⟨b, o + 2, none⟩ = some (.int .u16 x.tt) ∧ w.cell? ⟨b, o + 3, none⟩ = some (.int .u16 x.back) ∧ w.cell? ⟨b, o + 4, none⟩ = some (.int .u16 x.kept)
theorem HopAt.step {w w' : World} {b o : Nat} {x : HopV} (h : HopAt w b o x) (hb : Below w.heap.size w w') : HopAt w' b o x := by
  obtain ⟨a, b', c, d, h0, h1, h2, h3, h4⟩ := h
  exact ⟨a, b', c, d, keep_at hb h0, keep_at hb h1, keep_at hb h2, keep_at hb h3, keep_at hb h4⟩
def IsH (w : World) (v : Value) (hs : List HopV) : Prop :=
  (hs = [] ∧ ∃ a cap, v = .slice a 0 cap) ∨
  (hs ≠ [] ∧ ∃ b off cap, v = .slice (some ⟨b, off, none⟩) hs.length cap ∧ hs.length ≤ cap ∧ cap ≤ maxLen ∧ ∀ i x, hs[i]? = some x → HopAt w b (off + i * 5) x)
theorem IsH.shape {w : World} {v : Value} {hs : List HopV} (h : IsH w v hs) : ∃ a cap, v = .slice a hs.length cap := by
  rcases h with ⟨rfl, a, cap, rfl⟩ | ⟨_, b, off, cap, rfl, _⟩
  · exact ⟨a, cap, rfl⟩
  · exact ⟨_, cap, rfl⟩
theorem IsH.step {w w' : World} {v : Value} {hs : List HopV} (h : IsH w v hs) (hb : Below w.heap.size w w') : IsH w' v hs := by
  rcases h with h | ⟨h0, b, off, cap, rfl, h1, h2, h3⟩
  · exact .inl h
  · exact .inr ⟨h0, b, off, cap, rfl, h1, h2, fun i c hi => (h3 i c hi).step hb⟩
theorem IsH.elem {w : World} {v : Value} {k : Nat} {hs : List HopV} (h : IsH w v hs) (hk : k < hs.length) : ∃ g off c x, v = .slice (some ⟨g, off, none⟩) hs.length c ∧ HopAt w g (off + k * 5) x := by
  rcases h with ⟨rfl, _⟩ | ⟨h0, b, off, cap, rfl, h1, h2, h3⟩
  · simp at hk
  · exact ⟨b, off, cap, hs[k], rfl, h3 k _ (List.getElem?_eq_getElem hk)⟩

/-- The state of the chain in front of a cache. -/
def ChainR (q : Nat) (S A T M : Int) : Prop := (q = 0 ∧ S = 1000000 ∧ A = 0 ∧ T = -1 ∧ M = 0) ∨ (1 ≤ q ∧ 1000000 ≤ M ∧ M ≤ A ∧ A ≤ 1000000 + (q : Int) * 200000 ∧ 0 ≤ T ∧ T ≤ (q : Int) * 300 ∧ A - M < (T + 1) * 1000)

theorem at9 {s r a n p lo hi : Int} (w : World) (h : ordB s r n = true) (h1 : atLo s r a n p = lo) (h2 : atHi s r a n p = hi) : Calls Try.prog 8 #[.agg #[.int .i64 s, .int .i64 r, .int .i64 a], .int .i64 n, .int .i64 p] w fun e w' => e = .returned (.tuple #[.int .i64 lo, .int .i64 hi, .nilIface]) ∧ Below w.heap.size w w' := by
  subst h1 h2
  exact at_yes s r a n p w h
theorem fresh9 {s r a n p hi l : Int} (b : Bool) (w : World) (h : ordB s r n = true) (h2 : atHi s r a n p = hi) (hb : decide (hi < l) = b) : Calls Try.prog 9 #[.agg #[.int .i64 s, .int .i64 r, .int .i64 a], .int .i64 n, .int .i64 p, .int .i64 l] w fun e w' => e = .returned (.bool b) ∧ Below w.heap.size w w' := by
  have := fresh_any s r a n p l w
  rwa [freshB, h, h2, Bool.true_and, hb] at this
theorem stale9 {s r a n p lo l : Int} (b : Bool) (w : World) (h : ordB s r n = true) (h2 : atLo s r a n p = lo) (hb : decide (l ≤ lo) = b) : Calls Try.prog 10 #[.agg #[.int .i64 s, .int .i64 r, .int .i64 a], .int .i64 n, .int .i64 p, .int .i64 l] w fun e w' => e = .returned (.bool b) ∧ Below w.heap.size w w' := by
  have := stale_any s r a n p l w
  rwa [staleB, h, h2, Bool.true_and, hb] at this
theorem field9 {s r a n p hi : Int} (w : World) (h : ordB s r n = true) (h2 : atHi s r a n p = hi) : Calls Try.prog 11 #[.agg #[.int .i64 s, .int .i64 r, .int .i64 a], .int .i64 n, .int .i64 p] w fun e w' => e = .returned (.tuple #[.int .i64 (hi / 1000), .nilIface]) ∧ Below w.heap.size w w' := by
  have := field_any s r a n p w
  rwa [h2, atE, h] at this

set_option maxRecDepth 100000 in
set_option maxHeartbeats 4000000 in
theorem chains_walk (v : Value) (hs : List HopV) (p l : Int) (w : World) (h : IsH w v hs) : Calls Try.prog 3 #[v, .int .i64 p, .int .i64 l] w fun e w' => e = .returned (.bool true) ∧ Below w.heap.size w w' := by
  have H := Lib.hid h
  obtain ⟨a, c, rfl⟩ := h.shape
  clear h
  by_cases hl : 6 < hs.length
  · have hl' : (6 : Int) < (hs.length : Int) := by omega
    go_enter Try.func3, Try.ntmps3
    go_wp2_with fail
    go_ret
    exact ⟨rfl, Below.refl _ _⟩
  have hl' : (hs.length : Int) ≤ 6 := by omega
  have hd : decide ((6 : Int) < (hs.length : Int)) = false := by simp; omega
  go_enter Try.func3, Try.ntmps3
  go_wp2_with fail
  refine (ageAwake_any _).mono ?_
  rintro e w1 ⟨rfl, hb⟩
  have HB := Lib.hid hb
  clear hb
  go_wp2_with fail
  go_loopw [7, 8, 9, 10, 38] (fun s ar st md i wr => ∃ (q : Nat) (S A T M : Int), i = .int .i64 q ∧ s = .int .i64 S ∧ ar = .int .i64 A ∧ st = .int .i64 T ∧ md = .int .i64 M ∧ q ≤ hs.length ∧ ChainR q S A T M ∧ Below w.heap.size w wr) (fun _ _ _ _ i _ => hs.length - (intOf i).toNat)
  case atStart => exact ⟨0, 1000000, 0, -1, 0, rfl, rfl, rfl, rfl, rfl, Nat.zero_le _, .inl ⟨rfl, rfl, rfl, rfl, rfl⟩, HB.out⟩
  case round =>
    obtain ⟨q, S, A, T, M, rfl, rfl, rfl, rfl, rfl, hq, hC, hB⟩ := hrel
    clear HB
    have HB := Lib.hid hB
    clear hB
    by_cases hlt : q < hs.length
    · obtain ⟨g, off, cc, x, hv, hat⟩ := (H.out.step HB.out).elem hlt
      simp only [Value.slice.injEq] at hv
      obtain ⟨rfl, _, rfl⟩ := hv
      obtain ⟨hk, ht, hbk, hkp, x0, x1, x2, x3, x4⟩ := hat
      obtain ⟨k, slow, tt, back, kept⟩ := x
      dsimp only at *
      have hq0 : (0 : Int) ≤ (q : Int) := by omega
      have hq1 : (q : Int) < (hs.length : Int) := by omega
      have i1 : (k : Int) ≤ 255 := by omega
      have i2 : (tt : Int) ≤ 65535 := by omega
      have i3 : (back : Int) ≤ 65535 := by omega
      have i4 : (kept : Int) ≤ 65535 := by omega
      rcases hC with ⟨rfl, rfl, rfl, rfl, rfl⟩ | ⟨hq1', hC1, hC2, hC3, hC4, hC5, hC6⟩
      · simp only [Nat.zero_mul, Nat.add_zero] at x0 x1 x2 x3 x4
        have hq9 : 0 < hs.length := hlt
        go_upto_region 14 with fail
        have cs := chain_step p k (1000000) (1000000 + (tt : Int) + (back : Int)) (1000000 + (tt : Int) + (back : Int) + (kept : Int)) (-1) slow (by omega) i1 (by omega) (by omega) (by omega) (by omega) (by omega)
        obtain ⟨co, clo, chi, chi2⟩ := cs
        have CO := Lib.hid co
        have hB0 := bel_alloc (x := .cells #[.int .u8 k, .bool slow, .int .u16 tt, .int .u16 back, .int .u16 kept] 26) HB.out
        have HB0 := Lib.hid hB0
        have c0 : (wr.alloc (.cells #[.int .u8 k, .bool slow, .int .u16 tt, .int .u16 back, .int .u16 kept] 26)).cell? ⟨wr.heap.size, 0, none⟩ = some (.int .u8 k) := by simp [go_sem]
        have c1 : (wr.alloc (.cells #[.int .u8 k, .bool slow, .int .u16 tt, .int .u16 back, .int .u16 kept] 26)).cell? ⟨wr.heap.size, 1, none⟩ = some (.bool slow) := by simp [go_sem]
        have c2 : (wr.alloc (.cells #[.int .u8 k, .bool slow, .int .u16 tt, .int .u16 back, .int .u16 kept] 26)).cell? ⟨wr.heap.size, 2, none⟩ = some (.int .u16 tt) := by simp [go_sem]
        have c3 : (wr.alloc (.cells #[.int .u8 k, .bool slow, .int .u16 tt, .int .u16 back, .int .u16 kept] 26)).cell? ⟨wr.heap.size, 3, none⟩ = some (.int .u16 back) := by simp [go_sem]
        have c4 : (wr.alloc (.cells #[.int .u8 k, .bool slow, .int .u16 tt, .int .u16 back, .int .u16 kept] 26)).cell? ⟨wr.heap.size, 4, none⟩ = some (.int .u16 kept) := by simp [go_sem]
        clear co hB0 x0 x1 x2 x3 x4
        generalize wr.alloc (.cells #[.int .u8 k, .bool slow, .int .u16 tt, .int .u16 back, .int .u16 kept] 26) = WA at *
        go_upto_region 20 with (first | (go_at_call 7; refine (seen_any k slow tt back kept p _ _ (by omega) i1 (by omega)).mono ?_; rintro e w5 ⟨rfl, hb⟩; have c0 := keep_at hb c0; have c1 := keep_at hb c1; have c2 := keep_at hb c2; have c3 := keep_at hb c3; have c4 := keep_at hb c4; have HB0 := Lib.hid (bel_step HB0.out hb); clear hb))
        have HB1 := Lib.hid (bel_alloc (x := .cells #[.int .i64 (rd p k slow (1000000)), .int .i64 (rd p k slow (1000000 + (tt : Int) + (back : Int))), .int .i64 (-1)] 30) HB0.out)
        have d0 : (w5.alloc (.cells #[.int .i64 (rd p k slow (1000000)), .int .i64 (rd p k slow (1000000 + (tt : Int) + (back : Int))), .int .i64 (-1)] 30)).cell? ⟨w5.heap.size, 0, none⟩ = some (.int .i64 (rd p k slow (1000000))) := by simp [go_sem]
        have d1 : (w5.alloc (.cells #[.int .i64 (rd p k slow (1000000)), .int .i64 (rd p k slow (1000000 + (tt : Int) + (back : Int))), .int .i64 (-1)] 30)).cell? ⟨w5.heap.size, 1, none⟩ = some (.int .i64 (rd p k slow (1000000 + (tt : Int) + (back : Int)))) := by simp [go_sem]
        have d2 : (w5.alloc (.cells #[.int .i64 (rd p k slow (1000000)), .int .i64 (rd p k slow (1000000 + (tt : Int) + (back : Int))), .int .i64 (-1)] 30)).cell? ⟨w5.heap.size, 2, none⟩ = some (.int .i64 (-1)) := by simp [go_sem]
        clear c0 c1 c2 c3 c4
        generalize w5.alloc (.cells #[.int .i64 (rd p k slow (1000000)), .int .i64 (rd p k slow (1000000 + (tt : Int) + (back : Int))), .int .i64 (-1)] 30) = WB at *
        generalize rd p k slow (1000000) = rs at *
        generalize rd p k slow (1000000 + (tt : Int) + (back : Int)) = ra at *
        generalize rd p k slow (1000000 + (tt : Int) + (back : Int) + (kept : Int)) = rn at *
        generalize hlo : atLo rs ra (-1) rn p = lo at *
        generalize hhi : atHi rs ra (-1) rn p = hi at *
        have HLO := Lib.hid hlo
        have HHI := Lib.hid hhi
        clear hlo hhi
        rw [age_neg] at chi chi2
        have r1 : lo ≤ 1000000 + (tt : Int) + (back : Int) + (kept : Int) - (1000000 + (tt : Int)) := by omega
        have r2 : 1000000 + (tt : Int) + (back : Int) + (kept : Int) - (1000000 + (tt : Int)) ≤ hi := by omega
        have r3 : 0 ≤ hi := by omega
        have r4 : hi ≤ 10000000 := by omega
        have hnx : ChainR (0 + 1) (1000000) (1000000 + (tt : Int) + (back : Int) + (kept : Int)) (hi / 1000) (1000000 + (tt : Int)) := .inr ⟨by omega, by omega, by omega, by omega, by omega, by omega, by omega⟩
        have HNX := Lib.hid hnx
        have r5 : -10000000 ≤ 1000000 + (tt : Int) + (back : Int) + (kept : Int) - (1000000 + (tt : Int)) := by omega
        have r6 : 1000000 + (tt : Int) + (back : Int) + (kept : Int) - (1000000 + (tt : Int)) ≤ 10000000 := by omega
        clear hnx chi chi2 clo
        generalize 1000000 + (tt : Int) + (back : Int) + (kept : Int) = N at *
        generalize 1000000 + (tt : Int) + (back : Int) = ARR at *
        generalize 1000000 + (tt : Int) = MAD at *
        rcases (show (hi < l ∧ N - MAD < l) ∨ (¬ hi < l ∧ l ≤ lo ∧ l ≤ N - MAD) ∨ (¬ hi < l ∧ ¬ l ≤ lo) by omega) with ⟨hf, hg⟩ | ⟨hf, hs1, hg⟩ | ⟨hf, hs1⟩
        all_goals
          first | have bf : decide (hi < l) = true := decide_eq_true hf | have bf : decide (hi < l) = false := decide_eq_false hf
          first | have bs : decide (l ≤ lo) = true := decide_eq_true hs1 | have bs : decide (l ≤ lo) = false := decide_eq_false hs1 | have bs : decide (l ≤ lo) = false := decide_eq_false (by omega)
          have HF := Lib.hid (fun W => fresh9 _ W CO.out HHI.out bf)
          have HST := Lib.hid (fun W => stale9 _ W CO.out HLO.out bs)
          clear bf bs hf
          try clear hs1
          go_wp2_with (first | (go_at_call 8; refine (at9 _ CO.out HLO.out HHI.out).mono ?_; rintro e w6 ⟨rfl, hb⟩; have d0 := keep_at hb d0; have d1 := keep_at hb d1; have d2 := keep_at hb d2; have HB1 := Lib.hid (bel_step HB1.out hb); clear hb) | (go_at_call 9; refine (HF.out _).mono ?_; rintro e w7 ⟨rfl, hb⟩; have d0 := keep_at hb d0; have d1 := keep_at hb d1; have d2 := keep_at hb d2; have HB1 := Lib.hid (bel_step HB1.out hb); clear hb) | (go_at_call 10; refine (HST.out _).mono ?_; rintro e w8 ⟨rfl, hb⟩; have d0 := keep_at hb d0; have d1 := keep_at hb d1; have d2 := keep_at hb d2; have HB1 := Lib.hid (bel_step HB1.out hb); clear hb) | (go_at_call 11; refine (field9 _ CO.out HHI.out).mono ?_; rintro e w9 ⟨rfl, hb⟩; have d0 := keep_at hb d0; have d1 := keep_at hb d1; have d2 := keep_at hb d2; have HB1 := Lib.hid (bel_step HB1.out hb); clear hb))
          go_roundw
          case rel => exact ⟨0 + 1, 1000000, N, hi / 1000, MAD, by go_num, rfl, rfl, rfl, rfl, by omega, HNX.out, HB1.out⟩
          case measure => simp [intOf]; omega
      · have hqe : ((q : Int) == 0) = false := by simp; omega
        have a1 : A ≤ 2200000 := by omega
        go_upto_region 14 with fail
        have cs := chain_step p k (A - (tt : Int)) (A + (back : Int)) (A + (back : Int) + (kept : Int)) (T) slow (by omega) i1 (by omega) (by omega) (by omega) (by omega) (by omega)
        obtain ⟨co, clo, chi, chi2⟩ := cs
        have CO := Lib.hid co
        have hB0 := bel_alloc (x := .cells #[.int .u8 k, .bool slow, .int .u16 tt, .int .u16 back, .int .u16 kept] 26) HB.out
        have HB0 := Lib.hid hB0
        have c0 : (wr.alloc (.cells #[.int .u8 k, .bool slow, .int .u16 tt, .int .u16 back, .int .u16 kept] 26)).cell? ⟨wr.heap.size, 0, none⟩ = some (.int .u8 k) := by simp [go_sem]
        have c1 : (wr.alloc (.cells #[.int .u8 k, .bool slow, .int .u16 tt, .int .u16 back, .int .u16 kept] 26)).cell? ⟨wr.heap.size, 1, none⟩ = some (.bool slow) := by simp [go_sem]
        have c2 : (wr.alloc (.cells #[.int .u8 k, .bool slow, .int .u16 tt, .int .u16 back, .int .u16 kept] 26)).cell? ⟨wr.heap.size, 2, none⟩ = some (.int .u16 tt) := by simp [go_sem]
        have c3 : (wr.alloc (.cells #[.int .u8 k, .bool slow, .int .u16 tt, .int .u16 back, .int .u16 kept] 26)).cell? ⟨wr.heap.size, 3, none⟩ = some (.int .u16 back) := by simp [go_sem]
        have c4 : (wr.alloc (.cells #[.int .u8 k, .bool slow, .int .u16 tt, .int .u16 back, .int .u16 kept] 26)).cell? ⟨wr.heap.size, 4, none⟩ = some (.int .u16 kept) := by simp [go_sem]
        clear co hB0 x0 x1 x2 x3 x4
        generalize wr.alloc (.cells #[.int .u8 k, .bool slow, .int .u16 tt, .int .u16 back, .int .u16 kept] 26) = WA at *
        go_upto_region 20 with (first | (go_at_call 7; refine (seen_any k slow tt back kept p _ _ (by omega) i1 (by omega)).mono ?_; rintro e w5 ⟨rfl, hb⟩; have c0 := keep_at hb c0; have c1 := keep_at hb c1; have c2 := keep_at hb c2; have c3 := keep_at hb c3; have c4 := keep_at hb c4; have HB0 := Lib.hid (bel_step HB0.out hb); clear hb))
        have HB1 := Lib.hid (bel_alloc (x := .cells #[.int .i64 (rd p k slow (A - (tt : Int))), .int .i64 (rd p k slow (A + (back : Int))), .int .i64 (T)] 30) HB0.out)
        have d0 : (w5.alloc (.cells #[.int .i64 (rd p k slow (A - (tt : Int))), .int .i64 (rd p k slow (A + (back : Int))), .int .i64 (T)] 30)).cell? ⟨w5.heap.size, 0, none⟩ = some (.int .i64 (rd p k slow (A - (tt : Int)))) := by simp [go_sem]
        have d1 : (w5.alloc (.cells #[.int .i64 (rd p k slow (A - (tt : Int))), .int .i64 (rd p k slow (A + (back : Int))), .int .i64 (T)] 30)).cell? ⟨w5.heap.size, 1, none⟩ = some (.int .i64 (rd p k slow (A + (back : Int)))) := by simp [go_sem]
        have d2 : (w5.alloc (.cells #[.int .i64 (rd p k slow (A - (tt : Int))), .int .i64 (rd p k slow (A + (back : Int))), .int .i64 (T)] 30)).cell? ⟨w5.heap.size, 2, none⟩ = some (.int .i64 (T)) := by simp [go_sem]
        clear c0 c1 c2 c3 c4
        generalize w5.alloc (.cells #[.int .i64 (rd p k slow (A - (tt : Int))), .int .i64 (rd p k slow (A + (back : Int))), .int .i64 (T)] 30) = WB at *
        generalize rd p k slow (A - (tt : Int)) = rs at *
        generalize rd p k slow (A + (back : Int)) = ra at *
        generalize rd p k slow (A + (back : Int) + (kept : Int)) = rn at *
        generalize hlo : atLo rs ra (T) rn p = lo at *
        generalize hhi : atHi rs ra (T) rn p = hi at *
        have HLO := Lib.hid hlo
        have HHI := Lib.hid hhi
        clear hlo hhi
        rw [age_pos T hC4 (by omega)] at chi chi2
        have r1 : lo ≤ A + (back : Int) + (kept : Int) - (M) := by omega
        have r2 : A + (back : Int) + (kept : Int) - (M) ≤ hi := by omega
        have r3 : 0 ≤ hi := by omega
        have r4 : hi ≤ 10000000 := by omega
        have hnx : ChainR (q + 1) (A - (tt : Int)) (A + (back : Int) + (kept : Int)) (hi / 1000) (M) := .inr ⟨by omega, by omega, by omega, by omega, by omega, by omega, by omega⟩
        have HNX := Lib.hid hnx
        have r5 : -10000000 ≤ A + (back : Int) + (kept : Int) - (M) := by omega
        have r6 : A + (back : Int) + (kept : Int) - (M) ≤ 10000000 := by omega
        clear hnx chi chi2 clo
        generalize A + (back : Int) + (kept : Int) = N at *
        generalize A + (back : Int) = ARR at *
        generalize A - (tt : Int) = SEN at *
        obtain ⟨MAD, rfl⟩ : ∃ MAD, MAD = M := ⟨_, rfl⟩
        rcases (show (hi < l ∧ N - MAD < l) ∨ (¬ hi < l ∧ l ≤ lo ∧ l ≤ N - MAD) ∨ (¬ hi < l ∧ ¬ l ≤ lo) by omega) with ⟨hf, hg⟩ | ⟨hf, hs1, hg⟩ | ⟨hf, hs1⟩
        all_goals
          first | have bf : decide (hi < l) = true := decide_eq_true hf | have bf : decide (hi < l) = false := decide_eq_false hf
          first | have bs : decide (l ≤ lo) = true := decide_eq_true hs1 | have bs : decide (l ≤ lo) = false := decide_eq_false hs1 | have bs : decide (l ≤ lo) = false := decide_eq_false (by omega)
          have HF := Lib.hid (fun W => fresh9 _ W CO.out HHI.out bf)
          have HST := Lib.hid (fun W => stale9 _ W CO.out HLO.out bs)
          clear bf bs hf
          try clear hs1
          go_wp2_with (first | (go_at_call 8; refine (at9 _ CO.out HLO.out HHI.out).mono ?_; rintro e w6 ⟨rfl, hb⟩; have d0 := keep_at hb d0; have d1 := keep_at hb d1; have d2 := keep_at hb d2; have HB1 := Lib.hid (bel_step HB1.out hb); clear hb) | (go_at_call 9; refine (HF.out _).mono ?_; rintro e w7 ⟨rfl, hb⟩; have d0 := keep_at hb d0; have d1 := keep_at hb d1; have d2 := keep_at hb d2; have HB1 := Lib.hid (bel_step HB1.out hb); clear hb) | (go_at_call 10; refine (HST.out _).mono ?_; rintro e w8 ⟨rfl, hb⟩; have d0 := keep_at hb d0; have d1 := keep_at hb d1; have d2 := keep_at hb d2; have HB1 := Lib.hid (bel_step HB1.out hb); clear hb) | (go_at_call 11; refine (field9 _ CO.out HHI.out).mono ?_; rintro e w9 ⟨rfl, hb⟩; have d0 := keep_at hb d0; have d1 := keep_at hb d1; have d2 := keep_at hb d2; have HB1 := Lib.hid (bel_step HB1.out hb); clear hb))
          go_roundw
          case rel => exact ⟨q + 1, SEN, N, hi / 1000, MAD, by go_num, rfl, rfl, rfl, rfl, by omega, HNX.out, HB1.out⟩
          case measure => simp [intOf]; omega
    · go_wp2_with fail
      go_ret
      exact ⟨rfl, HB.out⟩
end Go.Proofs.Ytgefcejolfikoab
