/- Ops: Expr Conj Prod Neg, one behind the other. -/
import Derived.Test.YtogkiifljdnjgaaDoorGram
/- The walk of expr. No condition beyond the callee's contract. -/
namespace Go.Proofs.YtogkiifljdnjgaaDoor
open Go.RowKit
set_option linter.unusedVariables false
set_option linter.unusedSimpArgs false

set_option maxRecDepth 20000 in
set_option maxHeartbeats 1000000 in
theorem expr_con (n : Nat) (HC : ConN 94 .conj n) : ConN 85 .expr (n + 1) := by
  intro w pb s hp hr
  have HCall := Lib.hid HC
  have HP := Lib.hid hp
  have hlt := hp.lt
  have hpw : ¬ pb = w.heap.size := by omega
  have hpw2 : ¬ w.heap.size = pb := by omega
  obtain ⟨R, hR⟩ : ∃ R, pRun (n + 1) .expr s = R := ⟨_, rfl⟩
  rw [hR]
  have HR := Lib.hid (show opsF (pRun n) .conj 1 [111, 114] 13 (pRun n .conj s).2.1.length (pRun n .conj s).1 (pRun n .conj s).2 = R from hR)
  have hle := pRun_le n .conj s
  have HLE := Lib.hid hle
  have HRK := Lib.hid hr
  clear hR hle hr hp HC
  go_enter Tryd.func85, Tryd.ntmps85
  go_wp2_with (go_at_call 94; refine (HCall.out _ pb s (HP.out.step (bel_new _ _)) (by have := HRK.out; simp [rankN] at this ⊢; omega)).mono ?_; rintro e w1 ⟨⟨v, rfl, ht⟩, hp1, ho1⟩; obtain ⟨k0, x0, a0, m0, c0, l0, rfl⟩ := isT_shape ht; have HT1 := Lib.hid ht; have HP1 := Lib.hid hp1; have HO1 := Lib.hid ho1; clear ht hp1 ho1)
  go_loopg [] (pRun n .conj s).2.1.length (fun g wr => ∃ (t : Tree) (s' : PS) (a b c d : Value), Rnd w wr pb w1.heap.size t s' a b c d ∧ opsF (pRun n) .conj 1 [111, 114] 13 g t s' = R ∧ s'.1.length ≤ g ∧ s'.1.length ≤ s.1.length)
  case atStart =>
    have hs1 : w.heap.size + 1 ≤ w1.heap.size := by have := HO1.out.size; simpa using this
    have hr1 := (HO1.out.block _ (block_lt (heap_alloc_new w _)) (fun e => hpw2 (Option.some.inj e))).trans (heap_alloc_new w _)
    refine ⟨_, _, _, _, _, _, ⟨(heap_alloc_old w1 _ (by omega)).trans hr1, heap_alloc_new _ _, by omega, ?_, HP1.out.alloc, ((Only.of_below (bel_new _ _)).trans HO1.out).alloc⟩, HR.out, Nat.le_refl _, HLE.out⟩
    exact (IsT.new_bar HT1.out (by simp) (.inr (Nat.le_refl _))).bar_only (pb := pb) (Only.of_below (bel_new _ _)) (by omega)
  case round =>
    obtain ⟨t, s', a, b, c, d, ⟨hrb, hnb, hns, htt, hpi, hon⟩, hq, hg, hls⟩ := hrel
    have HRB := Lib.hid hrb
    have HNB := Lib.hid hnb
    have HTT := Lib.hid htt
    have HPI := Lib.hid hpi
    have HON := Lib.hid hon
    have HQ := Lib.hid hq
    have HG := Lib.hid hg
    have HLS := Lib.hid hls
    have hnz : ¬ w1.heap.size = w.heap.size := by omega
    have hnz2 : ¬ w.heap.size = w1.heap.size := by omega
    clear hrb hnb htt hpi hon hq hg hls
    by_cases hz : s'.2 = 0
    · by_cases hi : isW s'.1 1 [111, 114] = true
      · have HOK := Lib.hid (fun W (hW : PIn W pb s') => ok_yes W pb s' hW hz)
        have HIS := Lib.hid (fun W (hW : PIn W pb s') => is_yes W pb s' hW _ _ hi)
        have HKD := Lib.hid (show (nxt s'.1).length + 1 = s'.1.length from HPI.out.good.nxt_lt (by rw [isW_kind hi]; decide))
        obtain ⟨f, rfl⟩ : ∃ f, gk = f + 1 := ⟨gk - 1, by have := HPI.out.len; have := HG.out; omega⟩
        have HQ2 := Lib.hid (show opsF (pRun n) .conj 1 [111, 114] 13 f (binT 13 [] t (pRun n .conj (nxt s'.1, s'.2)).1) (pRun n .conj (nxt s'.1, s'.2)).2 = R by
          rw [← HQ.out]; symm; rw [opsF, if_pos ⟨hz, hi⟩])
        have HLE2 := Lib.hid (pRun_le n .conj (nxt s'.1, s'.2))
        clear hz hi
        go_wp2_with (first | (go_at_call 34; refine (HOK.out _ HPI.out).mono ?_; rintro e w2 ⟨rfl, rfl⟩) | (go_at_call 47; refine (HIS.out _ HPI.out).mono ?_; rintro e w2 ⟨rfl, hb2⟩; have HB2 := Lib.hid hb2; have HPI2 := Lib.hid (HPI.out.step hb2); clear hb2) | (go_at_call 68; refine (next_in _ pb s' HPI2.out).mono ?_; rintro e w3 ⟨rfl, hp3, ho3⟩; have HP3 := Lib.hid hp3; have HO3 := Lib.hid ((Only.of_below HB2.out).trans ho3); clear hp3 ho3))
        have hnb3 := (HO3.out.block _ (block_lt HNB.out) (fun e => by have := Option.some.inj e; omega)).trans HNB.out
        have HRB3 := Lib.hid ((HO3.out.block _ (block_lt HRB.out) (fun e => by have := Option.some.inj e; omega)).trans HRB.out)
        have HTT3 := Lib.hid (HTT.out.bar_only HO3.out (by omega))
        have HON3 := Lib.hid (HON.out.trans HO3.out)
        have HNB3 := Lib.hid hnb3
        have HL3 := Lib.hid (block_lt hnb3)
        obtain ⟨k0', x0', a0', m0', c0', l0', hv⟩ := isT_shape HTT.out
        simp only [Value.agg.injEq, Array.mk.injEq, List.cons.injEq, and_true] at hv
        obtain ⟨rfl, rfl, rfl, rfl⟩ := hv
        have HC2 := Lib.hid (fun W (hW : PIn W pb (nxt s'.1, s'.2)) => HCall.out W pb (nxt s'.1, s'.2) hW (by have h1 := HRK.out; have h2 := HKD.out; have h3 := HLS.out; simp [rankN] at h1 ⊢; omega))
        clear hnb3
        obtain ⟨b0, b1, b2, b3, z0, z1, z2, z3⟩ := box4 HNB3.out
        go_region_with (first | (go_at_call 94; refine (HC2.out w3.drew HP3.out.drew).mono ?_; rintro e w4 ⟨⟨v4, rfl, ht4⟩, hp4, ho4⟩; have HT4 := Lib.hid ht4; have HP4 := Lib.hid hp4; have HO4 := Lib.hid ho4.of_drew; have HNB4 := Lib.hid ((ho4.of_drew.block _ HL3.out (fun e => by have := Option.some.inj e; omega)).trans HNB3.out); obtain ⟨d0, d1, d2, d3, y0, y1, y2, y3⟩ := box4 HNB4.out; clear ht4 hp4 ho4) | (go_at_call 95; refine (binary_any _ _ w4 (Bar w4 (w.heap.size + 1) w1.heap.size) t _ _ _ (HTT3.out.bar_only HO4.out (by omega)) (HT4.out.new_bar (by have h1 := HL3.out; have h2 : w3.drew.heap.size = w3.heap.size := rfl; omega) (by have h1 := HL3.out; have h2 : w3.drew.heap.size = w3.heap.size := rfl; omega))).mono ?_; rintro e w5 ⟨⟨v5, rfl, ht5⟩, hb5⟩; obtain ⟨k5, x5, a5, m5, c5, l5, rfl⟩ := isT_shape ht5; have HT5 := Lib.hid ht5; have HB5 := Lib.hid hb5; have HNB5 := Lib.hid ((hb5.block _ (block_lt HNB4.out)).trans HNB4.out); obtain ⟨e0, e1, e2, e3, f0, f1, f2, f3⟩ := box4 HNB5.out; clear ht5 hb5 b0 b1 b2 b3 z0 z1 z2 z3 d0 d1 d2 d3 y0 y1 y2 y3))
        all_goals
          go_wp2_with fail
          go_roundg f
          case measure => omega
          case rel => exact ⟨_, _, _, _, _, _, Rnd.next (wr := wr) (t := t) HRB3.out HNB5.out (by omega) hlt HON3.out HO4.out HB5.out HP4.out (block_lt HNB4.out) HT5.out rfl, HQ2.out, (by have h1 := HLE2.out; have h2 := HKD.out; have h3 := HG.out; omega), (by have h1 := HLE2.out; have h2 := HKD.out; have h3 := HLS.out; omega)⟩
      · have hi : isW s'.1 1 [111, 114] = false := by simpa using hi
        have HOK := Lib.hid (fun W (hW : PIn W pb s') => ok_yes W pb s' hW hz)
        have HIS := Lib.hid (fun W (hW : PIn W pb s') => is_no W pb s' hW _ _ hi)
        have HQ2 := Lib.hid (show (t, s') = R by
          rw [← HQ.out]; cases gk with
          | zero => rfl
          | succ f => unfold opsF; rw [if_neg (fun h => by rw [hi] at h; exact absurd h.2 (by decide))])
        clear hz hi
        obtain ⟨k0', x0', a0', m0', c0', l0', hv⟩ := isT_shape HTT.out
        simp only [Value.agg.injEq, Array.mk.injEq, List.cons.injEq, and_true] at hv
        obtain ⟨rfl, rfl, rfl, rfl⟩ := hv
        go_wp2_with (first | (go_at_call 34; refine (HOK.out _ HPI.out).mono ?_; rintro e w2 ⟨rfl, rfl⟩) | (go_at_call 47; refine (HIS.out _ HPI.out).mono ?_; rintro e w2 ⟨rfl, hb2⟩; have HPI2 := Lib.hid (HPI.out.step hb2); have HON2 := Lib.hid (HON.out.bel hb2); have HTT2 := Lib.hid (HTT.out.bar_only (pb := pb) (Only.of_below hb2) (by omega)); obtain ⟨r0, r1, r2, r3, q0, q1, q2, q3⟩ := box4 ((hb2.block _ (block_lt HRB.out)).trans HRB.out); obtain ⟨b0, b1, b2, b3, _, _, _, _⟩ := box4 ((hb2.block _ (block_lt HNB.out)).trans HNB.out); clear hb2))
        refine bodyPost_ret (v := .agg #[.int .i64 k0', .string ⟨x0'.toArray⟩, .slice a0' m0' c0', .int .i64 l0']) (by simp [results, Tryd.results85, go_sem, r0, r1, r2, r3, q0, q1, q2, q3]) rfl ?_
        rw [← HQ2.out]
        exact PostN.done HTT2.out HPI2.out HON2.out hlt (Only.set4 _ _ _ _ _ _)
    · have HOK := Lib.hid (fun W (hW : PIn W pb s') => ok_no W pb s' hW hz)
      have HQ2 := Lib.hid (show (t, s') = R by
        rw [← HQ.out]; cases gk with
        | zero => rfl
        | succ f => unfold opsF; rw [if_neg (fun h => hz h.1)])
      obtain ⟨r0, r1, r2, r3, q0, q1, q2, q3⟩ := box4 HRB.out
      obtain ⟨b0, b1, b2, b3, _, _, _, _⟩ := box4 HNB.out
      obtain ⟨k0', x0', a0', m0', c0', l0', hv⟩ := isT_shape HTT.out
      simp only [Value.agg.injEq, Array.mk.injEq, List.cons.injEq, and_true] at hv
      obtain ⟨rfl, rfl, rfl, rfl⟩ := hv
      clear hz
      go_wp2_with (go_at_call 34; refine (HOK.out _ HPI.out).mono ?_; rintro e w2 ⟨rfl, rfl⟩)
      refine bodyPost_ret (v := .agg #[.int .i64 k0', .string ⟨x0'.toArray⟩, .slice a0' m0' c0', .int .i64 l0']) (by simp [results, Tryd.results85, go_sem, r0, r1, r2, r3, q0, q1, q2, q3]) rfl ?_
      rw [← HQ2.out]
      exact PostN.done HTT.out HPI.out HON.out hlt (Only.set4 _ _ _ _ _ _)
end Go.Proofs.YtogkiifljdnjgaaDoor

/- The walk of conj. No condition beyond the callee's contract. -/
namespace Go.Proofs.YtogkiifljdnjgaaDoor
open Go.RowKit
set_option linter.unusedVariables false
set_option linter.unusedSimpArgs false

set_option maxRecDepth 20000 in
set_option maxHeartbeats 1000000 in
theorem conj_con (n : Nat) (HC : ConN 100 .neg n) : ConN 94 .conj (n + 1) := by
  intro w pb s hp hr
  have HCall := Lib.hid HC
  have HP := Lib.hid hp
  have hlt := hp.lt
  have hpw : ¬ pb = w.heap.size := by omega
  have hpw2 : ¬ w.heap.size = pb := by omega
  obtain ⟨R, hR⟩ : ∃ R, pRun (n + 1) .conj s = R := ⟨_, rfl⟩
  rw [hR]
  have HR := Lib.hid (show opsF (pRun n) .neg 1 [97, 110, 100] 14 (pRun n .neg s).2.1.length (pRun n .neg s).1 (pRun n .neg s).2 = R from hR)
  have hle := pRun_le n .neg s
  have HLE := Lib.hid hle
  have HRK := Lib.hid hr
  clear hR hle hr hp HC
  go_enter Tryd.func94, Tryd.ntmps94
  go_wp2_with (go_at_call 100; refine (HCall.out _ pb s (HP.out.step (bel_new _ _)) (by have := HRK.out; simp [rankN] at this ⊢; omega)).mono ?_; rintro e w1 ⟨⟨v, rfl, ht⟩, hp1, ho1⟩; obtain ⟨k0, x0, a0, m0, c0, l0, rfl⟩ := isT_shape ht; have HT1 := Lib.hid ht; have HP1 := Lib.hid hp1; have HO1 := Lib.hid ho1; clear ht hp1 ho1)
  go_loopg [] (pRun n .neg s).2.1.length (fun g wr => ∃ (t : Tree) (s' : PS) (a b c d : Value), Rnd w wr pb w1.heap.size t s' a b c d ∧ opsF (pRun n) .neg 1 [97, 110, 100] 14 g t s' = R ∧ s'.1.length ≤ g ∧ s'.1.length ≤ s.1.length)
  case atStart =>
    have hs1 : w.heap.size + 1 ≤ w1.heap.size := by have := HO1.out.size; simpa using this
    have hr1 := (HO1.out.block _ (block_lt (heap_alloc_new w _)) (fun e => hpw2 (Option.some.inj e))).trans (heap_alloc_new w _)
    refine ⟨_, _, _, _, _, _, ⟨(heap_alloc_old w1 _ (by omega)).trans hr1, heap_alloc_new _ _, by omega, ?_, HP1.out.alloc, ((Only.of_below (bel_new _ _)).trans HO1.out).alloc⟩, HR.out, Nat.le_refl _, HLE.out⟩
    exact (IsT.new_bar HT1.out (by simp) (.inr (Nat.le_refl _))).bar_only (pb := pb) (Only.of_below (bel_new _ _)) (by omega)
  case round =>
    obtain ⟨t, s', a, b, c, d, ⟨hrb, hnb, hns, htt, hpi, hon⟩, hq, hg, hls⟩ := hrel
    have HRB := Lib.hid hrb
    have HNB := Lib.hid hnb
    have HTT := Lib.hid htt
    have HPI := Lib.hid hpi
    have HON := Lib.hid hon
    have HQ := Lib.hid hq
    have HG := Lib.hid hg
    have HLS := Lib.hid hls
    have hnz : ¬ w1.heap.size = w.heap.size := by omega
    have hnz2 : ¬ w.heap.size = w1.heap.size := by omega
    clear hrb hnb htt hpi hon hq hg hls
    by_cases hz : s'.2 = 0
    · by_cases hi : isW s'.1 1 [97, 110, 100] = true
      · have HOK := Lib.hid (fun W (hW : PIn W pb s') => ok_yes W pb s' hW hz)
        have HIS := Lib.hid (fun W (hW : PIn W pb s') => is_yes W pb s' hW _ _ hi)
        have HKD := Lib.hid (show (nxt s'.1).length + 1 = s'.1.length from HPI.out.good.nxt_lt (by rw [isW_kind hi]; decide))
        obtain ⟨f, rfl⟩ : ∃ f, gk = f + 1 := ⟨gk - 1, by have := HPI.out.len; have := HG.out; omega⟩
        have HQ2 := Lib.hid (show opsF (pRun n) .neg 1 [97, 110, 100] 14 f (binT 14 [] t (pRun n .neg (nxt s'.1, s'.2)).1) (pRun n .neg (nxt s'.1, s'.2)).2 = R by
          rw [← HQ.out]; symm; rw [opsF, if_pos ⟨hz, hi⟩])
        have HLE2 := Lib.hid (pRun_le n .neg (nxt s'.1, s'.2))
        clear hz hi
        go_wp2_with (first | (go_at_call 34; refine (HOK.out _ HPI.out).mono ?_; rintro e w2 ⟨rfl, rfl⟩) | (go_at_call 47; refine (HIS.out _ HPI.out).mono ?_; rintro e w2 ⟨rfl, hb2⟩; have HB2 := Lib.hid hb2; have HPI2 := Lib.hid (HPI.out.step hb2); clear hb2) | (go_at_call 68; refine (next_in _ pb s' HPI2.out).mono ?_; rintro e w3 ⟨rfl, hp3, ho3⟩; have HP3 := Lib.hid hp3; have HO3 := Lib.hid ((Only.of_below HB2.out).trans ho3); clear hp3 ho3))
        have hnb3 := (HO3.out.block _ (block_lt HNB.out) (fun e => by have := Option.some.inj e; omega)).trans HNB.out
        have HRB3 := Lib.hid ((HO3.out.block _ (block_lt HRB.out) (fun e => by have := Option.some.inj e; omega)).trans HRB.out)
        have HTT3 := Lib.hid (HTT.out.bar_only HO3.out (by omega))
        have HON3 := Lib.hid (HON.out.trans HO3.out)
        have HNB3 := Lib.hid hnb3
        have HL3 := Lib.hid (block_lt hnb3)
        obtain ⟨k0', x0', a0', m0', c0', l0', hv⟩ := isT_shape HTT.out
        simp only [Value.agg.injEq, Array.mk.injEq, List.cons.injEq, and_true] at hv
        obtain ⟨rfl, rfl, rfl, rfl⟩ := hv
        have HC2 := Lib.hid (fun W (hW : PIn W pb (nxt s'.1, s'.2)) => HCall.out W pb (nxt s'.1, s'.2) hW (by have h1 := HRK.out; have h2 := HKD.out; have h3 := HLS.out; simp [rankN] at h1 ⊢; omega))
        clear hnb3
        obtain ⟨b0, b1, b2, b3, z0, z1, z2, z3⟩ := box4 HNB3.out
        go_region_with (first | (go_at_call 100; refine (HC2.out w3.drew HP3.out.drew).mono ?_; rintro e w4 ⟨⟨v4, rfl, ht4⟩, hp4, ho4⟩; have HT4 := Lib.hid ht4; have HP4 := Lib.hid hp4; have HO4 := Lib.hid ho4.of_drew; have HNB4 := Lib.hid ((ho4.of_drew.block _ HL3.out (fun e => by have := Option.some.inj e; omega)).trans HNB3.out); obtain ⟨d0, d1, d2, d3, y0, y1, y2, y3⟩ := box4 HNB4.out; clear ht4 hp4 ho4) | (go_at_call 95; refine (binary_any _ _ w4 (Bar w4 (w.heap.size + 1) w1.heap.size) t _ _ _ (HTT3.out.bar_only HO4.out (by omega)) (HT4.out.new_bar (by have h1 := HL3.out; have h2 : w3.drew.heap.size = w3.heap.size := rfl; omega) (by have h1 := HL3.out; have h2 : w3.drew.heap.size = w3.heap.size := rfl; omega))).mono ?_; rintro e w5 ⟨⟨v5, rfl, ht5⟩, hb5⟩; obtain ⟨k5, x5, a5, m5, c5, l5, rfl⟩ := isT_shape ht5; have HT5 := Lib.hid ht5; have HB5 := Lib.hid hb5; have HNB5 := Lib.hid ((hb5.block _ (block_lt HNB4.out)).trans HNB4.out); obtain ⟨e0, e1, e2, e3, f0, f1, f2, f3⟩ := box4 HNB5.out; clear ht5 hb5 b0 b1 b2 b3 z0 z1 z2 z3 d0 d1 d2 d3 y0 y1 y2 y3))
        all_goals
          go_wp2_with fail
          go_roundg f
          case measure => omega
          case rel => exact ⟨_, _, _, _, _, _, Rnd.next (wr := wr) (t := t) HRB3.out HNB5.out (by omega) hlt HON3.out HO4.out HB5.out HP4.out (block_lt HNB4.out) HT5.out rfl, HQ2.out, (by have h1 := HLE2.out; have h2 := HKD.out; have h3 := HG.out; omega), (by have h1 := HLE2.out; have h2 := HKD.out; have h3 := HLS.out; omega)⟩
      · have hi : isW s'.1 1 [97, 110, 100] = false := by simpa using hi
        have HOK := Lib.hid (fun W (hW : PIn W pb s') => ok_yes W pb s' hW hz)
        have HIS := Lib.hid (fun W (hW : PIn W pb s') => is_no W pb s' hW _ _ hi)
        have HQ2 := Lib.hid (show (t, s') = R by
          rw [← HQ.out]; cases gk with
          | zero => rfl
          | succ f => unfold opsF; rw [if_neg (fun h => by rw [hi] at h; exact absurd h.2 (by decide))])
        clear hz hi
        obtain ⟨k0', x0', a0', m0', c0', l0', hv⟩ := isT_shape HTT.out
        simp only [Value.agg.injEq, Array.mk.injEq, List.cons.injEq, and_true] at hv
        obtain ⟨rfl, rfl, rfl, rfl⟩ := hv
        go_wp2_with (first | (go_at_call 34; refine (HOK.out _ HPI.out).mono ?_; rintro e w2 ⟨rfl, rfl⟩) | (go_at_call 47; refine (HIS.out _ HPI.out).mono ?_; rintro e w2 ⟨rfl, hb2⟩; have HPI2 := Lib.hid (HPI.out.step hb2); have HON2 := Lib.hid (HON.out.bel hb2); have HTT2 := Lib.hid (HTT.out.bar_only (pb := pb) (Only.of_below hb2) (by omega)); obtain ⟨r0, r1, r2, r3, q0, q1, q2, q3⟩ := box4 ((hb2.block _ (block_lt HRB.out)).trans HRB.out); obtain ⟨b0, b1, b2, b3, _, _, _, _⟩ := box4 ((hb2.block _ (block_lt HNB.out)).trans HNB.out); clear hb2))
        refine bodyPost_ret (v := .agg #[.int .i64 k0', .string ⟨x0'.toArray⟩, .slice a0' m0' c0', .int .i64 l0']) (by simp [results, Tryd.results94, go_sem, r0, r1, r2, r3, q0, q1, q2, q3]) rfl ?_
        rw [← HQ2.out]
        exact PostN.done HTT2.out HPI2.out HON2.out hlt (Only.set4 _ _ _ _ _ _)
    · have HOK := Lib.hid (fun W (hW : PIn W pb s') => ok_no W pb s' hW hz)
      have HQ2 := Lib.hid (show (t, s') = R by
        rw [← HQ.out]; cases gk with
        | zero => rfl
        | succ f => unfold opsF; rw [if_neg (fun h => hz h.1)])
      obtain ⟨r0, r1, r2, r3, q0, q1, q2, q3⟩ := box4 HRB.out
      obtain ⟨b0, b1, b2, b3, _, _, _, _⟩ := box4 HNB.out
      obtain ⟨k0', x0', a0', m0', c0', l0', hv⟩ := isT_shape HTT.out
      simp only [Value.agg.injEq, Array.mk.injEq, List.cons.injEq, and_true] at hv
      obtain ⟨rfl, rfl, rfl, rfl⟩ := hv
      clear hz
      go_wp2_with (go_at_call 34; refine (HOK.out _ HPI.out).mono ?_; rintro e w2 ⟨rfl, rfl⟩)
      refine bodyPost_ret (v := .agg #[.int .i64 k0', .string ⟨x0'.toArray⟩, .slice a0' m0' c0', .int .i64 l0']) (by simp [results, Tryd.results94, go_sem, r0, r1, r2, r3, q0, q1, q2, q3]) rfl ?_
      rw [← HQ2.out]
      exact PostN.done HTT.out HPI.out HON.out hlt (Only.set4 _ _ _ _ _ _)
end Go.Proofs.YtogkiifljdnjgaaDoor

/- The walk of prod. No condition beyond the callee's contract. -/
namespace Go.Proofs.YtogkiifljdnjgaaDoor
open Go.RowKit
set_option linter.unusedVariables false
set_option linter.unusedSimpArgs false

set_option maxRecDepth 20000 in
set_option maxHeartbeats 1000000 in
theorem prod_con (n : Nat) (HC : ConN 111 .atom n) : ConN 110 .prod (n + 1) := by
  intro w pb s hp hr
  have HCall := Lib.hid HC
  have HP := Lib.hid hp
  have hlt := hp.lt
  have hpw : ¬ pb = w.heap.size := by omega
  have hpw2 : ¬ w.heap.size = pb := by omega
  obtain ⟨R, hR⟩ : ∃ R, pRun (n + 1) .prod s = R := ⟨_, rfl⟩
  rw [hR]
  have HR := Lib.hid (show opsF (pRun n) .atom 4 [42] 19 (pRun n .atom s).2.1.length (pRun n .atom s).1 (pRun n .atom s).2 = R from hR)
  have hle := pRun_le n .atom s
  have HLE := Lib.hid hle
  have HRK := Lib.hid hr
  clear hR hle hr hp HC
  go_enter Tryd.func110, Tryd.ntmps110
  go_wp2_with (go_at_call 111; refine (HCall.out _ pb s (HP.out.step (bel_new _ _)) (by have := HRK.out; simp [rankN] at this ⊢; omega)).mono ?_; rintro e w1 ⟨⟨v, rfl, ht⟩, hp1, ho1⟩; obtain ⟨k0, x0, a0, m0, c0, l0, rfl⟩ := isT_shape ht; have HT1 := Lib.hid ht; have HP1 := Lib.hid hp1; have HO1 := Lib.hid ho1; clear ht hp1 ho1)
  go_loopg [] (pRun n .atom s).2.1.length (fun g wr => ∃ (t : Tree) (s' : PS) (a b c d : Value), Rnd w wr pb w1.heap.size t s' a b c d ∧ opsF (pRun n) .atom 4 [42] 19 g t s' = R ∧ s'.1.length ≤ g ∧ s'.1.length ≤ s.1.length)
  case atStart =>
    have hs1 : w.heap.size + 1 ≤ w1.heap.size := by have := HO1.out.size; simpa using this
    have hr1 := (HO1.out.block _ (block_lt (heap_alloc_new w _)) (fun e => hpw2 (Option.some.inj e))).trans (heap_alloc_new w _)
    refine ⟨_, _, _, _, _, _, ⟨(heap_alloc_old w1 _ (by omega)).trans hr1, heap_alloc_new _ _, by omega, ?_, HP1.out.alloc, ((Only.of_below (bel_new _ _)).trans HO1.out).alloc⟩, HR.out, Nat.le_refl _, HLE.out⟩
    exact (IsT.new_bar HT1.out (by simp) (.inr (Nat.le_refl _))).bar_only (pb := pb) (Only.of_below (bel_new _ _)) (by omega)
  case round =>
    obtain ⟨t, s', a, b, c, d, ⟨hrb, hnb, hns, htt, hpi, hon⟩, hq, hg, hls⟩ := hrel
    have HRB := Lib.hid hrb
    have HNB := Lib.hid hnb
    have HTT := Lib.hid htt
    have HPI := Lib.hid hpi
    have HON := Lib.hid hon
    have HQ := Lib.hid hq
    have HG := Lib.hid hg
    have HLS := Lib.hid hls
    have hnz : ¬ w1.heap.size = w.heap.size := by omega
    have hnz2 : ¬ w.heap.size = w1.heap.size := by omega
    clear hrb hnb htt hpi hon hq hg hls
    by_cases hz : s'.2 = 0
    · by_cases hi : isW s'.1 4 [42] = true
      · have HOK := Lib.hid (fun W (hW : PIn W pb s') => ok_yes W pb s' hW hz)
        have HIS := Lib.hid (fun W (hW : PIn W pb s') => is_yes W pb s' hW _ _ hi)
        have HKD := Lib.hid (show (nxt s'.1).length + 1 = s'.1.length from HPI.out.good.nxt_lt (by rw [isW_kind hi]; decide))
        obtain ⟨f, rfl⟩ : ∃ f, gk = f + 1 := ⟨gk - 1, by have := HPI.out.len; have := HG.out; omega⟩
        have HQ2 := Lib.hid (show opsF (pRun n) .atom 4 [42] 19 f (binT 19 [] t (pRun n .atom (nxt s'.1, s'.2)).1) (pRun n .atom (nxt s'.1, s'.2)).2 = R by
          rw [← HQ.out]; symm; rw [opsF, if_pos ⟨hz, hi⟩])
        have HLE2 := Lib.hid (pRun_le n .atom (nxt s'.1, s'.2))
        clear hz hi
        go_wp2_with (first | (go_at_call 34; refine (HOK.out _ HPI.out).mono ?_; rintro e w2 ⟨rfl, rfl⟩) | (go_at_call 47; refine (HIS.out _ HPI.out).mono ?_; rintro e w2 ⟨rfl, hb2⟩; have HB2 := Lib.hid hb2; have HPI2 := Lib.hid (HPI.out.step hb2); clear hb2) | (go_at_call 68; refine (next_in _ pb s' HPI2.out).mono ?_; rintro e w3 ⟨rfl, hp3, ho3⟩; have HP3 := Lib.hid hp3; have HO3 := Lib.hid ((Only.of_below HB2.out).trans ho3); clear hp3 ho3))
        have hnb3 := (HO3.out.block _ (block_lt HNB.out) (fun e => by have := Option.some.inj e; omega)).trans HNB.out
        have HRB3 := Lib.hid ((HO3.out.block _ (block_lt HRB.out) (fun e => by have := Option.some.inj e; omega)).trans HRB.out)
        have HTT3 := Lib.hid (HTT.out.bar_only HO3.out (by omega))
        have HON3 := Lib.hid (HON.out.trans HO3.out)
        have HNB3 := Lib.hid hnb3
        have HL3 := Lib.hid (block_lt hnb3)
        obtain ⟨k0', x0', a0', m0', c0', l0', hv⟩ := isT_shape HTT.out
        simp only [Value.agg.injEq, Array.mk.injEq, List.cons.injEq, and_true] at hv
        obtain ⟨rfl, rfl, rfl, rfl⟩ := hv
        have HC2 := Lib.hid (fun W (hW : PIn W pb (nxt s'.1, s'.2)) => HCall.out W pb (nxt s'.1, s'.2) hW (by have h1 := HRK.out; have h2 := HKD.out; have h3 := HLS.out; simp [rankN] at h1 ⊢; omega))
        clear hnb3
        obtain ⟨b0, b1, b2, b3, z0, z1, z2, z3⟩ := box4 HNB3.out
        go_region_with (first | (go_at_call 111; refine (HC2.out w3.drew HP3.out.drew).mono ?_; rintro e w4 ⟨⟨v4, rfl, ht4⟩, hp4, ho4⟩; have HT4 := Lib.hid ht4; have HP4 := Lib.hid hp4; have HO4 := Lib.hid ho4.of_drew; have HNB4 := Lib.hid ((ho4.of_drew.block _ HL3.out (fun e => by have := Option.some.inj e; omega)).trans HNB3.out); obtain ⟨d0, d1, d2, d3, y0, y1, y2, y3⟩ := box4 HNB4.out; clear ht4 hp4 ho4) | (go_at_call 95; refine (binary_any _ _ w4 (Bar w4 (w.heap.size + 1) w1.heap.size) t _ _ _ (HTT3.out.bar_only HO4.out (by omega)) (HT4.out.new_bar (by have h1 := HL3.out; have h2 : w3.drew.heap.size = w3.heap.size := rfl; omega) (by have h1 := HL3.out; have h2 : w3.drew.heap.size = w3.heap.size := rfl; omega))).mono ?_; rintro e w5 ⟨⟨v5, rfl, ht5⟩, hb5⟩; obtain ⟨k5, x5, a5, m5, c5, l5, rfl⟩ := isT_shape ht5; have HT5 := Lib.hid ht5; have HB5 := Lib.hid hb5; have HNB5 := Lib.hid ((hb5.block _ (block_lt HNB4.out)).trans HNB4.out); obtain ⟨e0, e1, e2, e3, f0, f1, f2, f3⟩ := box4 HNB5.out; clear ht5 hb5 b0 b1 b2 b3 z0 z1 z2 z3 d0 d1 d2 d3 y0 y1 y2 y3))
        all_goals
          go_wp2_with fail
          go_roundg f
          case measure => omega
          case rel => exact ⟨_, _, _, _, _, _, Rnd.next (wr := wr) (t := t) HRB3.out HNB5.out (by omega) hlt HON3.out HO4.out HB5.out HP4.out (block_lt HNB4.out) HT5.out rfl, HQ2.out, (by have h1 := HLE2.out; have h2 := HKD.out; have h3 := HG.out; omega), (by have h1 := HLE2.out; have h2 := HKD.out; have h3 := HLS.out; omega)⟩
      · have hi : isW s'.1 4 [42] = false := by simpa using hi
        have HOK := Lib.hid (fun W (hW : PIn W pb s') => ok_yes W pb s' hW hz)
        have HIS := Lib.hid (fun W (hW : PIn W pb s') => is_no W pb s' hW _ _ hi)
        have HQ2 := Lib.hid (show (t, s') = R by
          rw [← HQ.out]; cases gk with
          | zero => rfl
          | succ f => unfold opsF; rw [if_neg (fun h => by rw [hi] at h; exact absurd h.2 (by decide))])
        clear hz hi
        obtain ⟨k0', x0', a0', m0', c0', l0', hv⟩ := isT_shape HTT.out
        simp only [Value.agg.injEq, Array.mk.injEq, List.cons.injEq, and_true] at hv
        obtain ⟨rfl, rfl, rfl, rfl⟩ := hv
        go_wp2_with (first | (go_at_call 34; refine (HOK.out _ HPI.out).mono ?_; rintro e w2 ⟨rfl, rfl⟩) | (go_at_call 47; refine (HIS.out _ HPI.out).mono ?_; rintro e w2 ⟨rfl, hb2⟩; have HPI2 := Lib.hid (HPI.out.step hb2); have HON2 := Lib.hid (HON.out.bel hb2); have HTT2 := Lib.hid (HTT.out.bar_only (pb := pb) (Only.of_below hb2) (by omega)); obtain ⟨r0, r1, r2, r3, q0, q1, q2, q3⟩ := box4 ((hb2.block _ (block_lt HRB.out)).trans HRB.out); obtain ⟨b0, b1, b2, b3, _, _, _, _⟩ := box4 ((hb2.block _ (block_lt HNB.out)).trans HNB.out); clear hb2))
        refine bodyPost_ret (v := .agg #[.int .i64 k0', .string ⟨x0'.toArray⟩, .slice a0' m0' c0', .int .i64 l0']) (by simp [results, Tryd.results110, go_sem, r0, r1, r2, r3, q0, q1, q2, q3]) rfl ?_
        rw [← HQ2.out]
        exact PostN.done HTT2.out HPI2.out HON2.out hlt (Only.set4 _ _ _ _ _ _)
    · have HOK := Lib.hid (fun W (hW : PIn W pb s') => ok_no W pb s' hW hz)
      have HQ2 := Lib.hid (show (t, s') = R by
        rw [← HQ.out]; cases gk with
        | zero => rfl
        | succ f => unfold opsF; rw [if_neg (fun h => hz h.1)])
      obtain ⟨r0, r1, r2, r3, q0, q1, q2, q3⟩ := box4 HRB.out
      obtain ⟨b0, b1, b2, b3, _, _, _, _⟩ := box4 HNB.out
      obtain ⟨k0', x0', a0', m0', c0', l0', hv⟩ := isT_shape HTT.out
      simp only [Value.agg.injEq, Array.mk.injEq, List.cons.injEq, and_true] at hv
      obtain ⟨rfl, rfl, rfl, rfl⟩ := hv
      clear hz
      go_wp2_with (go_at_call 34; refine (HOK.out _ HPI.out).mono ?_; rintro e w2 ⟨rfl, rfl⟩)
      refine bodyPost_ret (v := .agg #[.int .i64 k0', .string ⟨x0'.toArray⟩, .slice a0' m0' c0', .int .i64 l0']) (by simp [results, Tryd.results110, go_sem, r0, r1, r2, r3, q0, q1, q2, q3]) rfl ?_
      rw [← HQ2.out]
      exact PostN.done HTT.out HPI.out HON.out hlt (Only.set4 _ _ _ _ _ _)
end Go.Proofs.YtogkiifljdnjgaaDoor

/- The walk of neg. No condition beyond the callees' contracts. -/
namespace Go.Proofs.YtogkiifljdnjgaaDoor
open Go.RowKit
set_option linter.unusedVariables false
set_option linter.unusedSimpArgs false

set_option maxRecDepth 20000 in
set_option maxHeartbeats 2000000 in
theorem neg_con (n : Nat) (HN : ConN 100 .neg n) (HC : ConN 106 .comp n) : ConN 100 .neg (n + 1) := by
  intro w pb s hp hr
  have HCall := Lib.hid HC
  have HNeg := Lib.hid HN
  have HP := Lib.hid hp
  have hlt := hp.lt
  have hpw : ¬ pb = w.heap.size := by omega
  have hpw2 : ¬ w.heap.size = pb := by omega
  obtain ⟨R, hR⟩ : ∃ R, pRun (n + 1) .neg s = R := ⟨_, rfl⟩
  rw [hR]
  have hR' : negB (pRun n) s = R := hR
  have HRK := Lib.hid hr
  clear hr hp HC HN hR
  by_cases hi : isW s.1 1 [110, 111, 116] = true
  · have HIS := Lib.hid (fun W (hW : PIn W pb s) => is_yes W pb s hW _ _ hi)
    have HKD := Lib.hid (show (nxt s.1).length + 1 = s.1.length from HP.out.good.nxt_lt (by rw [isW_kind hi]; decide))
    have HQ := Lib.hid (show (Tree.node 15 [] [(pRun n .neg (nxt s.1, s.2)).1] (hdT s.1).line, (pRun n .neg (nxt s.1, s.2)).2) = R by rw [← hR']; unfold negB; rw [if_pos hi])
    have HNX := Lib.hid (fun W (hW : PIn W pb s) => next_in W pb s hW)
    have HC2 := Lib.hid (fun W (hW : PIn W pb (nxt s.1, s.2)) => HNeg.out W pb (nxt s.1, s.2) hW (by have h1 := HRK.out; have h2 := HKD.out; simp [rankN] at h1 ⊢; omega))
    unfold tokVal at HNX
    clear hi hR'
    generalize hdT s.1 = tk at *
    go_enter Tryd.func100, Tryd.ntmps100
    go_wp2_with (first | (go_at_call 47; refine (HIS.out _ (HP.out.step (bel_new _ _))).mono ?_; rintro e w2 ⟨rfl, hb2⟩; have HB2 := Lib.hid hb2; have HPI2 := Lib.hid ((HP.out.step (bel_new _ _)).step hb2); clear hb2) | (go_at_call 68; refine (HNX.out _ HPI2.out).mono ?_; rintro e w3 ⟨rfl, hp3, ho3⟩; have HP3 := Lib.hid hp3; have HO3 := Lib.hid (((Only.of_below (b := pb) (bel_new w _)).trans (Only.of_below HB2.out)).trans ho3); have HR3 := Lib.hid (((Only.of_below (b := pb) HB2.out).trans ho3).block _ (block_lt (heap_alloc_new w _)) (fun e => hpw2 (Option.some.inj e)) |>.trans (heap_alloc_new w _)); clear hp3 ho3))
    have HS3 := Lib.hid (show w.heap.size < w3.heap.size from block_lt HR3.out)
    have HPW := Lib.hid (HP3.out.alloc (x := .cells #[.int .i64 tk.kind, .string ⟨tk.text.toArray⟩, .int .i64 tk.line, .int .i64 tk.col] 70))
    have HRW := Lib.hid ((heap_alloc_old w3 (.cells #[.int .i64 tk.kind, .string ⟨tk.text.toArray⟩, .int .i64 tk.line, .int .i64 tk.col] 70) HS3.out).trans HR3.out)
    have hkw := heap_alloc_new w3 (.cells #[.int .i64 tk.kind, .string ⟨tk.text.toArray⟩, .int .i64 tk.line, .int .i64 tk.col] 70)
    have HOW := Lib.hid (HO3.out.alloc (x := .cells #[.int .i64 tk.kind, .string ⟨tk.text.toArray⟩, .int .i64 tk.line, .int .i64 tk.col] 70))
    generalize w3.alloc _ = W3 at *
    have HKW := Lib.hid hkw
    obtain ⟨t0, t1, t2, t3, _, _, _, _⟩ := box4 hkw
    clear hkw
    have hw3 : ¬ w3.heap.size = w.heap.size := by have := HS3.out; omega
    have hw3' : ¬ w.heap.size = w3.heap.size := by have := HS3.out; omega
    go_region_held3 (fun w' => w'.cell? ⟨w3.heap.size, 2, none⟩ = some (.int .i64 tk.line)) (first | exact t2 | go_keep) (first | (go_at_call 100; refine (HC2.out W3.drew HPW.out.drew).mono ?_; rintro e w4 ⟨⟨v4, rfl, ht4⟩, hp4, ho4⟩; obtain ⟨k4, x4, a4, m4, c4, l4, rfl⟩ := isT_shape ht4; have HT4 := Lib.hid ht4; have HP4 := Lib.hid hp4; have HO4 := Lib.hid ho4.of_drew; have hbt := HO4.out.keep HKW.out (by have := HS3.out; omega); have hbr := HO4.out.keep HRW.out (by omega); have HBR := Lib.hid hbr; obtain ⟨t0, t1, t2, t3, _, _, _, _⟩ := box4 hbt; obtain ⟨r0, r1, r2, r3, q0, q1, q2, q3⟩ := box4 hbr; have hl4 := block_lt hbr; have hl5 : ¬ w4.heap.size = w.heap.size := (by omega); have ht4l := block_lt hbt; clear ht4 hp4 ho4 hbt hbr))
    go_wp2_with fail
    refine bodyPost_ret (v := .agg #[.int .i64 15, .string ⟨#[]⟩, .slice (some ⟨w4.heap.size, 0, none⟩) 1 1, .int .i64 tk.line]) (by simp [results, Tryd.results100, go_sem, r0, r1, r2, r3, q0, q1, q2, q3, hl4, hl5]) rfl ?_
    rw [← HQ.out]
    have hs6 := Only.set4 w.heap.size w4 (.int .i64 15) (.string ⟨#[]⟩) (.slice (some ⟨w4.heap.size, 0, none⟩) 1 1) (.int .i64 tk.line)
    have hz6 : ((((w4.setCell ⟨w.heap.size, 0, none⟩ (.int .i64 15)).setCell ⟨w.heap.size, 1, none⟩ (.string ⟨#[]⟩)).setCell ⟨w.heap.size, 2, none⟩ (.slice (some ⟨w4.heap.size, 0, none⟩) 1 1)).setCell ⟨w.heap.size, 3, none⟩ (.int .i64 tk.line)).heap.size = w4.heap.size := by simp [World.setCell]
    generalize World.setCell _ _ _ = W6 at *
    have hw := HOW.out.size
    have hk := IsKids.one (T := 32) (w := W6) (F := New W6 (w.heap.size + 1)) (HT4.out.keep (G := New W6 (w.heap.size + 1)) (fun b hb hlt => hs6.block b hlt (fun e => by have := Option.some.inj e; have := hb.1; have h : W3.drew.heap.size = W3.heap.size := rfl; have := block_lt HRW.out; omega)) (fun b hb hlt => ⟨by have := hb.1; have h : W3.drew.heap.size = W3.heap.size := rfl; have := block_lt HRW.out; omega, by omega⟩)) rfl
    rw [hz6] at hk
    refine ⟨⟨_, rfl, isT_node.2 ⟨_, rfl, hk.mono fun b hb hlt => ?_⟩⟩, (HP4.out.other hs6 hlt).alloc, ((HOW.out.trans HO4.out).new hs6 (Nat.le_refl _)).alloc⟩
    rcases hb with ⟨hb, _⟩ | hb
    · exact ⟨by have := hb.1; omega, hlt⟩
    · exact ⟨by have := hb.1; omega, hlt⟩
  · have hi : isW s.1 1 [110, 111, 116] = false := by simpa using hi
    have HIS := Lib.hid (fun W (hW : PIn W pb s) => is_no W pb s hW _ _ hi)
    have HQ := Lib.hid (show pRun n .comp s = R by rw [← hR']; unfold negB; rw [hi, if_neg (by decide)])
    have HC2 := Lib.hid (fun W (hW : PIn W pb s) => HCall.out W pb s hW (by have h1 := HRK.out; simp [rankN] at h1 ⊢; omega))
    clear hi hR'
    go_enter Tryd.func100, Tryd.ntmps100
    go_wp2_with (first | (go_at_call 47; refine (HIS.out _ (HP.out.step (bel_new _ _))).mono ?_; rintro e w2 ⟨rfl, hb2⟩; have HB2 := Lib.hid hb2; have HPI2 := Lib.hid ((HP.out.step (bel_new _ _)).step hb2); have HR2 := Lib.hid (keep_blk hb2 (heap_alloc_new w _)); clear hb2) | (go_at_call 106; refine (HC2.out _ HPI2.out).mono ?_; rintro e w4 ⟨⟨v4, rfl, ht4⟩, hp4, ho4⟩; obtain ⟨k4, x4, a4, m4, c4, l4, rfl⟩ := isT_shape ht4; have HT4 := Lib.hid ht4; have HP4 := Lib.hid hp4; have HO4 := Lib.hid ho4; obtain ⟨r0, r1, r2, r3, q0, q1, q2, q3⟩ := box4 (ho4.keep HR2.out hpw2); clear ht4 hp4 ho4))
    refine bodyPost_ret (v := .agg #[.int .i64 k4, .string ⟨x4.toArray⟩, .slice a4 m4 c4, .int .i64 l4]) (by simp [results, Tryd.results100, go_sem, r0, r1, r2, r3, q0, q1, q2, q3]) rfl ?_
    rw [← HQ.out]
    exact PostN.pass ((Only.of_below (bel_new w _)).bel HB2.out) (block_lt HR2.out) HT4.out HP4.out HO4.out hlt (Only.set4 _ _ _ _ _ _)
end Go.Proofs.YtogkiifljdnjgaaDoor
