/- Sum: Sum Comp, one behind the other. -/
import Derived.Test.YtogkiifljdnjgaaDoorGram
/- The walk of sum. No condition beyond the callee's contract. -/
namespace Go.Proofs.YtogkiifljdnjgaaDoor
open Go.RowKit
set_option linter.unusedVariables false
set_option linter.unusedSimpArgs false

set_option maxRecDepth 20000 in
set_option maxHeartbeats 1000000 in
theorem sum_con (n : Nat) (HC : ConN 110 .prod n) : ConN 109 .sum (n + 1) := by
  intro w pb s hp hr
  have HCall := Lib.hid HC
  have HP := Lib.hid hp
  have hlt := hp.lt
  have hpw : ¬ pb = w.heap.size := by omega
  have hpw2 : ¬ w.heap.size = pb := by omega
  obtain ⟨R, hR⟩ : ∃ R, pRun (n + 1) .sum s = R := ⟨_, rfl⟩
  rw [hR]
  have HR := Lib.hid (show sumF (pRun n) (pRun n .prod s).2.1.length (pRun n .prod s).1 (pRun n .prod s).2 = R from hR)
  have hle := pRun_le n .prod s
  have HLE := Lib.hid hle
  have HRK := Lib.hid hr
  clear hR hle hr hp HC
  go_enter Tryd.func109, Tryd.ntmps109
  go_wp2_with (go_at_call 110; refine (HCall.out _ pb s (HP.out.step (bel_new _ _)) (by have := HRK.out; simp [rankN] at this ⊢; omega)).mono ?_; rintro e w1 ⟨⟨v, rfl, ht⟩, hp1, ho1⟩; obtain ⟨k0, x0, a0, m0, c0, l0, rfl⟩ := isT_shape ht; have HT1 := Lib.hid ht; have HP1 := Lib.hid hp1; have HO1 := Lib.hid ho1; clear ht hp1 ho1)
  go_loopg [] (pRun n .prod s).2.1.length (fun g wr => ∃ (t : Tree) (s' : PS) (a b c d : Value), Rnd w wr pb w1.heap.size t s' a b c d ∧ sumF (pRun n) g t s' = R ∧ s'.1.length ≤ g ∧ s'.1.length ≤ s.1.length)
  case atStart =>
    have hs1 : w.heap.size + 1 ≤ w1.heap.size := by have := HO1.out.size; simpa using this
    have hr1 := (HO1.out.block _ (block_lt (heap_alloc_new w _)) (fun e => hpw2 (Option.some.inj e))).trans (heap_alloc_new w _)
    refine ⟨_, _, _, _, _, _, ⟨(heap_alloc_old w1 _ (by omega)).trans hr1, heap_alloc_new _ _, by omega, ?_, HP1.out.alloc, ((Only.of_below (bel_new _ _)).trans HO1.out).alloc⟩, HR.out, Nat.le_refl _, HLE.out⟩
    exact (IsT.new_bar HT1.out (by simp) (.inr (Nat.le_refl _))).bar_only (pb := pb) (Only.of_below (bel_new _ _)) (by omega)
  case round =>
    obtain ⟨t, s', a, b, c, d, ⟨hrb, hnb, hns, htt, hpi, hon⟩, hq, hg, hls⟩ := hrel
    have HRB := Lib.hid hrb
    have HNB := Lib.hid hnb
    have HTT := Lib.hid htt
    have HPI := Lib.hid hpi
    have HON := Lib.hid hon
    have HQ := Lib.hid hq
    have HG := Lib.hid hg
    have HLS := Lib.hid hls
    have hnz : ¬ w1.heap.size = w.heap.size := by omega
    have hnz2 : ¬ w.heap.size = w1.heap.size := by omega
    clear hrb hnb htt hpi hon hq hg hls
    by_cases hz : s'.2 = 0
    · by_cases hi : isW s'.1 4 [43] = true
      · have HOK := Lib.hid (fun W (hW : PIn W pb s') => ok_yes W pb s' hW hz)
        have HIS := Lib.hid (fun W (hW : PIn W pb s') => is_yes W pb s' hW _ _ hi)
        have HKD := Lib.hid (show (nxt s'.1).length + 1 = s'.1.length from HPI.out.good.nxt_lt (by rw [isW_kind hi]; decide))
        obtain ⟨f, rfl⟩ : ∃ f, gk = f + 1 := ⟨gk - 1, by have := HPI.out.len; have := HG.out; omega⟩
        have HQ2 := Lib.hid (show sumF (pRun n) f (binT 17 [] t (pRun n .prod (nxt s'.1, s'.2)).1) (pRun n .prod (nxt s'.1, s'.2)).2 = R by
          rw [← HQ.out]; symm; rw [sumF, if_neg (fun h => h hz), if_pos hi])
        have HLE2 := Lib.hid (pRun_le n .prod (nxt s'.1, s'.2))
        clear hz hi
        go_wp2_with (first | (go_at_call 34; refine (HOK.out _ HPI.out).mono ?_; rintro e w2 ⟨rfl, rfl⟩) | (go_at_call 47; refine (HIS.out _ HPI.out).mono ?_; rintro e w2 ⟨rfl, hb2⟩; have HB2 := Lib.hid hb2; have HPI2 := Lib.hid (HPI.out.step hb2); clear hb2) | (go_at_call 68; refine (next_in _ pb s' HPI2.out).mono ?_; rintro e w3 ⟨rfl, hp3, ho3⟩; have HP3 := Lib.hid hp3; have HO3 := Lib.hid ((Only.of_below HB2.out).trans ho3); clear hp3 ho3))
        have hnb3 := (HO3.out.block _ (block_lt HNB.out) (fun e => by have := Option.some.inj e; omega)).trans HNB.out
        have HRB3 := Lib.hid ((HO3.out.block _ (block_lt HRB.out) (fun e => by have := Option.some.inj e; omega)).trans HRB.out)
        have HTT3 := Lib.hid (HTT.out.bar_only HO3.out (by omega))
        have HON3 := Lib.hid (HON.out.trans HO3.out)
        have HNB3 := Lib.hid hnb3
        have HL3 := Lib.hid (block_lt hnb3)
        obtain ⟨k0', x0', a0', m0', c0', l0', hv⟩ := isT_shape HTT.out
        simp only [Value.agg.injEq, Array.mk.injEq, List.cons.injEq, and_true] at hv
        obtain ⟨rfl, rfl, rfl, rfl⟩ := hv
        have HC2 := Lib.hid (fun W (hW : PIn W pb (nxt s'.1, s'.2)) => HCall.out W pb (nxt s'.1, s'.2) hW (by have h1 := HRK.out; have h2 := HKD.out; have h3 := HLS.out; simp [rankN] at h1 ⊢; omega))
        clear hnb3
        obtain ⟨b0, b1, b2, b3, z0, z1, z2, z3⟩ := box4 HNB3.out
        go_region_with (first | (go_at_call 110; refine (HC2.out w3.drew HP3.out.drew).mono ?_; rintro e w4 ⟨⟨v4, rfl, ht4⟩, hp4, ho4⟩; have HT4 := Lib.hid ht4; have HP4 := Lib.hid hp4; have HO4 := Lib.hid ho4.of_drew; have HNB4 := Lib.hid ((ho4.of_drew.block _ HL3.out (fun e => by have := Option.some.inj e; omega)).trans HNB3.out); obtain ⟨d0, d1, d2, d3, y0, y1, y2, y3⟩ := box4 HNB4.out; clear ht4 hp4 ho4) | (go_at_call 95; refine (binary_any _ _ w4 (Bar w4 (w.heap.size + 1) w1.heap.size) t _ _ _ (HTT3.out.bar_only HO4.out (by omega)) (HT4.out.new_bar (by have h1 := HL3.out; have h2 : w3.drew.heap.size = w3.heap.size := rfl; omega) (by have h1 := HL3.out; have h2 : w3.drew.heap.size = w3.heap.size := rfl; omega))).mono ?_; rintro e w5 ⟨⟨v5, rfl, ht5⟩, hb5⟩; obtain ⟨k5, x5, a5, m5, c5, l5, rfl⟩ := isT_shape ht5; have HT5 := Lib.hid ht5; have HB5 := Lib.hid hb5; have HNB5 := Lib.hid ((hb5.block _ (block_lt HNB4.out)).trans HNB4.out); obtain ⟨e0, e1, e2, e3, f0, f1, f2, f3⟩ := box4 HNB5.out; clear ht5 hb5 b0 b1 b2 b3 z0 z1 z2 z3 d0 d1 d2 d3 y0 y1 y2 y3))
        all_goals
          go_wp2_with fail
          go_roundg f
          case measure => omega
          case rel => exact ⟨_, _, _, _, _, _, Rnd.next (wr := wr) (t := t) HRB3.out HNB5.out (by omega) hlt HON3.out HO4.out HB5.out HP4.out (block_lt HNB4.out) HT5.out rfl, HQ2.out, (by have h1 := HLE2.out; have h2 := HKD.out; have h3 := HG.out; omega), (by have h1 := HLE2.out; have h2 := HKD.out; have h3 := HLS.out; omega)⟩
      · have hi0 : isW s'.1 4 [43] = false := by simpa using hi
        clear hi
        by_cases hi : isW s'.1 4 [45] = true
        · have HOK := Lib.hid (fun W (hW : PIn W pb s') => ok_yes W pb s' hW hz)
          have HIN := Lib.hid (fun W (hW : PIn W pb s') => is_no W pb s' hW _ _ hi0)
          have HIS := Lib.hid (fun W (hW : PIn W pb s') => is_yes W pb s' hW _ _ hi)
          have HKD := Lib.hid (show (nxt s'.1).length + 1 = s'.1.length from HPI.out.good.nxt_lt (by rw [isW_kind hi]; decide))
          obtain ⟨f, rfl⟩ : ∃ f, gk = f + 1 := ⟨gk - 1, by have := HPI.out.len; have := HG.out; omega⟩
          have HQ2 := Lib.hid (show sumF (pRun n) f (binT 18 [] t (pRun n .prod (nxt s'.1, s'.2)).1) (pRun n .prod (nxt s'.1, s'.2)).2 = R by
            rw [← HQ.out]; symm; rw [sumF, if_neg (fun h => h hz), if_neg (by rw [hi0]; decide), if_pos hi])
          have HLE2 := Lib.hid (pRun_le n .prod (nxt s'.1, s'.2))
          clear hz hi hi0
          go_wp2_with (first | (go_at_call 34; refine (HOK.out _ HPI.out).mono ?_; rintro e w2 ⟨rfl, rfl⟩) | (go_at_call 47; (with_reducible refine (HIN.out _ HPI.out).mono ?_); rintro e w2' ⟨rfl, hb2'⟩; have HB2' := Lib.hid hb2'; have HPI2' := Lib.hid (HPI.out.step hb2'); clear hb2') | (go_at_call 47; (with_reducible refine (HIS.out _ HPI2'.out).mono ?_); rintro e w2 ⟨rfl, hb2⟩; have HB2 := Lib.hid (HB2'.out.trans (hb2.mono HB2'.out.size)); have HPI2 := Lib.hid (HPI2'.out.step hb2); clear hb2) | (go_at_call 68; refine (next_in _ pb s' HPI2.out).mono ?_; rintro e w3 ⟨rfl, hp3, ho3⟩; have HP3 := Lib.hid hp3; have HO3 := Lib.hid ((Only.of_below HB2.out).trans ho3); clear hp3 ho3))
          have hnb3 := (HO3.out.block _ (block_lt HNB.out) (fun e => by have := Option.some.inj e; omega)).trans HNB.out
          have HRB3 := Lib.hid ((HO3.out.block _ (block_lt HRB.out) (fun e => by have := Option.some.inj e; omega)).trans HRB.out)
          have HTT3 := Lib.hid (HTT.out.bar_only HO3.out (by omega))
          have HON3 := Lib.hid (HON.out.trans HO3.out)
          have HNB3 := Lib.hid hnb3
          have HL3 := Lib.hid (block_lt hnb3)
          obtain ⟨k0', x0', a0', m0', c0', l0', hv⟩ := isT_shape HTT.out
          simp only [Value.agg.injEq, Array.mk.injEq, List.cons.injEq, and_true] at hv
          obtain ⟨rfl, rfl, rfl, rfl⟩ := hv
          have HC2 := Lib.hid (fun W (hW : PIn W pb (nxt s'.1, s'.2)) => HCall.out W pb (nxt s'.1, s'.2) hW (by have h1 := HRK.out; have h2 := HKD.out; have h3 := HLS.out; simp [rankN] at h1 ⊢; omega))
          clear hnb3
          obtain ⟨b0, b1, b2, b3, z0, z1, z2, z3⟩ := box4 HNB3.out
          go_region_with (first | (go_at_call 110; refine (HC2.out w3.drew HP3.out.drew).mono ?_; rintro e w4 ⟨⟨v4, rfl, ht4⟩, hp4, ho4⟩; have HT4 := Lib.hid ht4; have HP4 := Lib.hid hp4; have HO4 := Lib.hid ho4.of_drew; have HNB4 := Lib.hid ((ho4.of_drew.block _ HL3.out (fun e => by have := Option.some.inj e; omega)).trans HNB3.out); obtain ⟨d0, d1, d2, d3, y0, y1, y2, y3⟩ := box4 HNB4.out; clear ht4 hp4 ho4) | (go_at_call 95; refine (binary_any _ _ w4 (Bar w4 (w.heap.size + 1) w1.heap.size) t _ _ _ (HTT3.out.bar_only HO4.out (by omega)) (HT4.out.new_bar (by have h1 := HL3.out; have h2 : w3.drew.heap.size = w3.heap.size := rfl; omega) (by have h1 := HL3.out; have h2 : w3.drew.heap.size = w3.heap.size := rfl; omega))).mono ?_; rintro e w5 ⟨⟨v5, rfl, ht5⟩, hb5⟩; obtain ⟨k5, x5, a5, m5, c5, l5, rfl⟩ := isT_shape ht5; have HT5 := Lib.hid ht5; have HB5 := Lib.hid hb5; have HNB5 := Lib.hid ((hb5.block _ (block_lt HNB4.out)).trans HNB4.out); obtain ⟨e0, e1, e2, e3, f0, f1, f2, f3⟩ := box4 HNB5.out; clear ht5 hb5 b0 b1 b2 b3 z0 z1 z2 z3 d0 d1 d2 d3 y0 y1 y2 y3))
          all_goals
            go_wp2_with fail
            go_roundg f
            case measure => omega
            case rel => exact ⟨_, _, _, _, _, _, Rnd.next (wr := wr) (t := t) HRB3.out HNB5.out (by omega) hlt HON3.out HO4.out HB5.out HP4.out (block_lt HNB4.out) HT5.out rfl, HQ2.out, (by have h1 := HLE2.out; have h2 := HKD.out; have h3 := HG.out; omega), (by have h1 := HLE2.out; have h2 := HKD.out; have h3 := HLS.out; omega)⟩
        · have hi : isW s'.1 4 [45] = false := by simpa using hi
          have HOK := Lib.hid (fun W (hW : PIn W pb s') => ok_yes W pb s' hW hz)
          have HIN := Lib.hid (fun W (hW : PIn W pb s') => is_no W pb s' hW _ _ hi0)
          have HIS := Lib.hid (fun W (hW : PIn W pb s') => is_no W pb s' hW _ _ hi)
          have HQ2 := Lib.hid (show (t, s') = R by
            rw [← HQ.out]; cases gk with
            | zero => rfl
            | succ f => unfold sumF; rw [if_neg (fun h => h hz), if_neg (by rw [hi0]; decide), if_neg (by rw [hi]; decide)])
          clear hz hi hi0
          obtain ⟨k0', x0', a0', m0', c0', l0', hv⟩ := isT_shape HTT.out
          simp only [Value.agg.injEq, Array.mk.injEq, List.cons.injEq, and_true] at hv
          obtain ⟨rfl, rfl, rfl, rfl⟩ := hv
          go_wp2_with (first | (go_at_call 34; refine (HOK.out _ HPI.out).mono ?_; rintro e w2 ⟨rfl, rfl⟩) | (go_at_call 47; (with_reducible refine (HIN.out _ HPI.out).mono ?_); rintro e w2' ⟨rfl, hb2'⟩; have HB2' := Lib.hid hb2'; have HPI2' := Lib.hid (HPI.out.step hb2'); clear hb2') | (go_at_call 47; (with_reducible refine (HIS.out _ HPI2'.out).mono ?_); rintro e w2 ⟨rfl, hb2''⟩; have hb2 := HB2'.out.trans (hb2''.mono HB2'.out.size); have HPI2 := Lib.hid (HPI.out.step hb2); have HON2 := Lib.hid (HON.out.bel hb2); have HTT2 := Lib.hid (HTT.out.bar_only (pb := pb) (Only.of_below hb2) (by omega)); obtain ⟨r0, r1, r2, r3, q0, q1, q2, q3⟩ := box4 ((hb2.block _ (block_lt HRB.out)).trans HRB.out); obtain ⟨b0, b1, b2, b3, _, _, _, _⟩ := box4 ((hb2.block _ (block_lt HNB.out)).trans HNB.out); clear hb2 hb2''))
          refine bodyPost_ret (v := .agg #[.int .i64 k0', .string ⟨x0'.toArray⟩, .slice a0' m0' c0', .int .i64 l0']) (by simp [results, Tryd.results109, go_sem, r0, r1, r2, r3, q0, q1, q2, q3]) rfl ?_
          rw [← HQ2.out]
          exact PostN.done HTT2.out HPI2.out HON2.out hlt (Only.set4 _ _ _ _ _ _)
    · have HOK := Lib.hid (fun W (hW : PIn W pb s') => ok_no W pb s' hW hz)
      have HQ2 := Lib.hid (show (t, s') = R by
        rw [← HQ.out]; cases gk with
        | zero => rfl
        | succ f => unfold sumF; rw [if_pos hz])
      obtain ⟨r0, r1, r2, r3, q0, q1, q2, q3⟩ := box4 HRB.out
      obtain ⟨b0, b1, b2, b3, _, _, _, _⟩ := box4 HNB.out
      obtain ⟨k0', x0', a0', m0', c0', l0', hv⟩ := isT_shape HTT.out
      simp only [Value.agg.injEq, Array.mk.injEq, List.cons.injEq, and_true] at hv
      obtain ⟨rfl, rfl, rfl, rfl⟩ := hv
      clear hz
      go_wp2_with (go_at_call 34; refine (HOK.out _ HPI.out).mono ?_; rintro e w2 ⟨rfl, rfl⟩)
      refine bodyPost_ret (v := .agg #[.int .i64 k0', .string ⟨x0'.toArray⟩, .slice a0' m0' c0', .int .i64 l0']) (by simp [results, Tryd.results109, go_sem, r0, r1, r2, r3, q0, q1, q2, q3]) rfl ?_
      rw [← HQ2.out]
      exact PostN.done HTT.out HPI.out HON.out hlt (Only.set4 _ _ _ _ _ _)
end Go.Proofs.YtogkiifljdnjgaaDoor

/- The walk of comp. No condition beyond the callees' contracts. -/
namespace Go.Proofs.YtogkiifljdnjgaaDoor
open Go.RowKit
set_option linter.unusedVariables false
set_option linter.unusedSimpArgs false

theorem cmp_is (k : Int) (l : List UInt8) (q : Bool) (w : World) (h : cmpW k l = q) :
    Calls Tryd.prog 81 #[.int .i64 k, .string ⟨l.toArray⟩] w fun e w' => e = .returned (.bool q) ∧ w = w' := by
  have := compares_any k ⟨l.toArray⟩ w
  simp only [List.toList_toArray] at this
  rwa [h] at this
set_option maxRecDepth 20000 in
set_option maxHeartbeats 4000000 in
theorem comp_con (n : Nat) (HC : ConN 109 .sum n) : ConN 106 .comp (n + 1) := by
  intro w pb s hp hr
  have HCall := Lib.hid HC
  have HP := Lib.hid hp
  have hlt := hp.lt
  have hpw : ¬ pb = w.heap.size := by omega
  have hpw2 : ¬ w.heap.size = pb := by omega
  obtain ⟨R, hR⟩ : ∃ R, pRun (n + 1) .comp s = R := ⟨_, rfl⟩
  rw [hR]
  have hR' : compB (pRun n) s = R := hR
  have HRK := Lib.hid hr
  have HLE := Lib.hid (pRun_le n .sum s)
  unfold compB at hR'
  have HC1 := Lib.hid (fun W (hW : PIn W pb s) => HC W pb s hW (by simp [rankN] at hr ⊢; omega))
  generalize hr1 : pRun n .sum s = r1 at *
  obtain ⟨t1, s1⟩ := r1
  dsimp only at hR' HLE
  have HPK := Lib.hid (fun W (hW : PIn W pb s1) => peek_in W pb s1 hW)
  unfold tokVal at HPK
  have HRK2 := Lib.hid hR'
  clear hr hp hR hr1 hR' HC
  by_cases hi : s1.2 = 0 ∧ cmpW (hdT s1.1).kind (hdT s1.1).text = true
  · obtain ⟨hz, hi⟩ := hi
    have HOK := Lib.hid (fun W (hW : PIn W pb s1) => ok_yes W pb s1 hW hz)
    have HCM := Lib.hid (fun W => cmp_is _ _ true W hi)
    have HQ := Lib.hid (show (binT 16 (hdT s1.1).text t1 (pRun n .sum (nxt s1.1, s1.2)).1, (pRun n .sum (nxt s1.1, s1.2)).2) = R by have := HRK2.out; rwa [if_pos ⟨hz, hi⟩] at this)
    have HC2 := Lib.hid (fun W (hW : PIn W pb (nxt s1.1, s1.2)) => HCall.out W pb (nxt s1.1, s1.2) hW (by have h1 := HRK.out; have h2 := HLE.out; have h3 := nxt_le' s1.1; simp [rankN] at h1 h2 ⊢; omega))
    clear hz hi HRK2
    generalize hdT s1.1 = tk at *
    go_enter Tryd.func106, Tryd.ntmps106
    go_wp2_with (first | (go_at_call 109; (with_reducible refine (HC1.out _ (HP.out.step (bel_new _ _))).mono ?_); rintro e w1 ⟨⟨v, rfl, ht⟩, hp1, ho1⟩; obtain ⟨k0, x0, a0, m0, c0, l0, rfl⟩ := isT_shape ht; have HT1 := Lib.hid ht; have HP1 := Lib.hid hp1; have HO1 := Lib.hid ho1; clear ht hp1 ho1) | (go_at_call 35; (with_reducible refine (HPK.out _ HP1.out.alloc).mono ?_); rintro e w2 ⟨rfl, hb2⟩; have HB2 := Lib.hid hb2; have HP2 := Lib.hid ((HP1.out.alloc.step hb2).alloc (x := .cells #[.int .i64 tk.kind, .string ⟨tk.text.toArray⟩, .int .i64 tk.line, .int .i64 tk.col] 70)); clear hb2) | (go_at_call 34; (with_reducible refine (HOK.out _ HP2.out).mono ?_); rintro e w2' ⟨rfl, rfl⟩) | (go_at_call 81; (with_reducible refine (HCM.out _).mono ?_); rintro e w2' ⟨rfl, rfl⟩) | (go_at_call 68; (with_reducible refine (next_in _ pb s1 HP2.out).mono ?_); rintro e w3 ⟨rfl, hp3, ho3⟩; have HP3 := Lib.hid hp3; have HO3 := Lib.hid ho3; clear hp3 ho3))
    have hrb1 := HO1.out.keep (heap_alloc_new w _) hpw2
    have hsz1 := block_lt hrb1
    have hnb1 := keep_blk HB2.out (heap_alloc_new w1 (.cells #[.int .i64 k0, .string ⟨x0.toArray⟩, .slice a0 m0 c0, .int .i64 l0] 32))
    have hsz2 := block_lt hnb1
    have htb3 := HO3.out.keep (heap_alloc_new w2 _) (by omega)
    have hsz3 := block_lt htb3
    have hnb3 := HO3.out.keep (new_blk hnb1) (by omega)
    have hrb3 := HO3.out.keep (new_blk (keep_blk HB2.out (new_blk hrb1))) hpw2
    have HON3 := Lib.hid (((((Only.of_below (b := pb) (bel_new w _)).trans HO1.out).alloc.bel HB2.out).alloc).trans HO3.out)
    have HTT3 := Lib.hid (((((HT1.out.new_bar (B := w.heap.size + 1) (x := w1.heap.size) (by simp) (.inr (Nat.le_refl _))).bar_only (pb := pb) (Only.of_below (bel_new _ _)) (by omega)).bar_only (pb := pb) (Only.of_below HB2.out) (by omega)).bar_only (pb := pb) (Only.of_below (bel_new _ _)) (by omega)).bar_only HO3.out (by omega))
    have HRB3 := Lib.hid hrb3
    have HNB3 := Lib.hid hnb3
    have HTB3 := Lib.hid htb3
    have hn1 : ¬ w1.heap.size = w.heap.size := by omega
    have hn2 : ¬ w.heap.size = w1.heap.size := by omega
    have hn3 : ¬ w2.heap.size = w.heap.size := by omega
    have hn4 : ¬ w.heap.size = w2.heap.size := by omega
    clear hrb1 hnb1 htb3 hnb3 hrb3
    go_region_held3 (fun w' => w'.cell? ⟨w2.heap.size, 1, none⟩ = some (.string ⟨tk.text.toArray⟩) ∧ w'.cell? ⟨w1.heap.size, 0, none⟩ = some (.int .i64 k0) ∧ w'.cell? ⟨w1.heap.size, 1, none⟩ = some (.string ⟨x0.toArray⟩) ∧ w'.cell? ⟨w1.heap.size, 2, none⟩ = some (.slice a0 m0 c0) ∧ w'.cell? ⟨w1.heap.size, 3, none⟩ = some (.int .i64 l0)) (first | exact ⟨(box4 HTB3.out).2.1, (box4 HNB3.out).1, (box4 HNB3.out).2.1, (box4 HNB3.out).2.2.1, (box4 HNB3.out).2.2.2.1⟩ | exact ⟨(box4 HTB4.out).2.1, (box4 HNB4.out).1, (box4 HNB4.out).2.1, (box4 HNB4.out).2.2.1, (box4 HNB4.out).2.2.2.1⟩ | exact ⟨(box4 HTB5.out).2.1, (box4 HNB5.out).1, (box4 HNB5.out).2.1, (box4 HNB5.out).2.2.1, (box4 HNB5.out).2.2.2.1⟩ | exact ⟨(box4 (hst.keep HTB5.out hn3)).2.1, (box4 (hst.keep HNB5.out hn1)).1, (box4 (hst.keep HNB5.out hn1)).2.1, (box4 (hst.keep HNB5.out hn1)).2.2.1, (box4 (hst.keep HNB5.out hn1)).2.2.2.1⟩) (first | (go_at_call 109; refine (HC2.out w3.drew HP3.out.drew).mono ?_; rintro e w4 ⟨⟨v4, rfl, ht4⟩, hp4, ho4⟩; have HT4 := Lib.hid ht4; have HP4 := Lib.hid hp4; have HO4 := Lib.hid ho4.of_drew; have HRB4 := Lib.hid (HO4.out.keep HRB3.out hpw2); have HNB4 := Lib.hid (HO4.out.keep HNB3.out (by omega)); have HTB4 := Lib.hid (HO4.out.keep HTB3.out (by omega)); clear ht4 hp4 ho4) | (go_at_call 95; refine (binary_any 16 ⟨tk.text.toArray⟩ w4 (Bar w4 (w.heap.size + 1) w1.heap.size) t1 _ _ _ (HTT3.out.bar_only HO4.out (by omega)) (HT4.out.new_bar (by have h2 : w3.drew.heap.size = w3.heap.size := rfl; omega) (by have h2 : w3.drew.heap.size = w3.heap.size := rfl; omega))).mono ?_; rintro e w5 ⟨⟨v5, rfl, ht5⟩, hb5⟩; obtain ⟨k5, x5, a5, m5, c5, l5, rfl⟩ := isT_shape ht5; have HT5 := Lib.hid ht5; have HB5 := Lib.hid hb5; have HRB5 := Lib.hid (keep_blk hb5 HRB4.out); have HNB5 := Lib.hid (keep_blk hb5 HNB4.out); have HTB5 := Lib.hid (keep_blk hb5 HTB4.out); have hst := Only.set4 w.heap.size w5 (.int .i64 k5) (.string ⟨x5.toArray⟩) (.slice a5 m5 c5) (.int .i64 l5); obtain ⟨r0, r1, r2, r3, q0, q1, q2, q3⟩ := box4 HRB5.out; clear ht5 hb5))
    go_wp2_with fail
    refine bodyPost_ret (v := .agg #[.int .i64 k5, .string ⟨x5.toArray⟩, .slice a5 m5 c5, .int .i64 l5]) (by simp [results, Tryd.results106, go_sem, r0, r1, r2, r3, q0, q1, q2, q3]) rfl ?_
    rw [← HQ.out]
    refine PostN.done (x := w5.heap.size) ?_ (HP4.out.step HB5.out) ((HON3.out.trans HO4.out).bel HB5.out) hlt (Only.set4 _ _ _ _ _ _)
    have h5 := HT5.out
    have hz4 := block_lt HRB4.out
    refine h5.mono fun k hk hlt => ?_
    rcases hk with ⟨hk, hk2⟩ | hk
    · exact ⟨hk.1, hlt, by omega⟩
    · exact ⟨by have := hk.1; omega, hlt, by omega⟩
  by_cases hz : s1.2 = 0
  · have hcm : cmpW (hdT s1.1).kind (hdT s1.1).text = false := by
      cases h : cmpW (hdT s1.1).kind (hdT s1.1).text with
      | true => exact absurd ⟨hz, h⟩ hi
      | false => rfl
    have HOK := Lib.hid (fun W (hW : PIn W pb s1) => ok_yes W pb s1 hW hz)
    have HCM := Lib.hid (fun W => cmp_is _ _ false W hcm)
    clear hz hcm
    have HQ := Lib.hid (show (t1, s1) = R by have := HRK2.out; rwa [if_neg hi] at this)
    clear hi HRK2
    generalize hdT s1.1 = tk at *
    go_enter Tryd.func106, Tryd.ntmps106
    go_wp2_with (first | (go_at_call 109; (with_reducible refine (HC1.out _ (HP.out.step (bel_new _ _))).mono ?_); rintro e w1 ⟨⟨v, rfl, ht⟩, hp1, ho1⟩; obtain ⟨k0, x0, a0, m0, c0, l0, rfl⟩ := isT_shape ht; have HT1 := Lib.hid ht; have HP1 := Lib.hid hp1; have HO1 := Lib.hid ho1; clear ht hp1 ho1) | (go_at_call 35; (with_reducible refine (HPK.out _ HP1.out.alloc).mono ?_); rintro e w2 ⟨rfl, hb2⟩; have HB2 := Lib.hid hb2; have HP2 := Lib.hid ((HP1.out.alloc.step hb2).alloc (x := .cells #[.int .i64 tk.kind, .string ⟨tk.text.toArray⟩, .int .i64 tk.line, .int .i64 tk.col] 70)); have HR2 := Lib.hid (keep_blk hb2 (new_blk (HO1.out.keep (heap_alloc_new w _) hpw2))); have HN2 := Lib.hid (keep_blk hb2 (heap_alloc_new w1 (.cells #[.int .i64 k0, .string ⟨x0.toArray⟩, .slice a0 m0 c0, .int .i64 l0] 32))); obtain ⟨b0, b1, b2, b3, _, _, _, _⟩ := box4 HN2.out; obtain ⟨r0, r1, r2, r3, q0, q1, q2, q3⟩ := box4 HR2.out; have hl1 := block_lt HR2.out; have hl2 := block_lt HN2.out; have hl3 : ¬ w2.heap.size = w.heap.size := (by omega); clear hb2) | (go_at_call 34; (with_reducible refine (HOK.out _ HP2.out).mono ?_); rintro e w2' ⟨rfl, rfl⟩) | (go_at_call 81; (with_reducible refine (HCM.out _).mono ?_); rintro e w2' ⟨rfl, rfl⟩))
    refine bodyPost_ret (v := .agg #[.int .i64 k0, .string ⟨x0.toArray⟩, .slice a0 m0 c0, .int .i64 l0]) (by simp [results, Tryd.results106, go_sem, r0, r1, r2, r3, q0, q1, q2, q3, hl1]) rfl ?_
    rw [← HQ.out]
    refine PostN.alloc (PostN.done (((HT1.out.new_bar (B := w.heap.size + 1) (x := w1.heap.size) (by simp) (.inr (Nat.le_refl _))).bar_only (pb := pb) (Only.of_below (bel_new _ (.cells #[.int .i64 k0, .string ⟨x0.toArray⟩, .slice a0 m0 c0, .int .i64 l0] 32))) (by omega)).bar_only (pb := pb) (Only.of_below HB2.out) (by omega)) (HP1.out.alloc.step HB2.out) ((((Only.of_below (b := pb) (bel_new w _)).trans HO1.out).alloc (x := .cells #[.int .i64 k0, .string ⟨x0.toArray⟩, .slice a0 m0 c0, .int .i64 l0] 32)).bel HB2.out) hlt (Only.set4 _ _ _ _ _ _))
  · have HOK := Lib.hid (fun W (hW : PIn W pb s1) => ok_no W pb s1 hW hz)
    clear hz
    have HQ := Lib.hid (show (t1, s1) = R by have := HRK2.out; rwa [if_neg hi] at this)
    clear hi HRK2
    generalize hdT s1.1 = tk at *
    go_enter Tryd.func106, Tryd.ntmps106
    go_wp2_with (first | (go_at_call 109; (with_reducible refine (HC1.out _ (HP.out.step (bel_new _ _))).mono ?_); rintro e w1 ⟨⟨v, rfl, ht⟩, hp1, ho1⟩; obtain ⟨k0, x0, a0, m0, c0, l0, rfl⟩ := isT_shape ht; have HT1 := Lib.hid ht; have HP1 := Lib.hid hp1; have HO1 := Lib.hid ho1; clear ht hp1 ho1) | (go_at_call 35; (with_reducible refine (HPK.out _ HP1.out.alloc).mono ?_); rintro e w2 ⟨rfl, hb2⟩; have HB2 := Lib.hid hb2; have HP2 := Lib.hid ((HP1.out.alloc.step hb2).alloc (x := .cells #[.int .i64 tk.kind, .string ⟨tk.text.toArray⟩, .int .i64 tk.line, .int .i64 tk.col] 70)); have HR2 := Lib.hid (keep_blk hb2 (new_blk (HO1.out.keep (heap_alloc_new w _) hpw2))); have HN2 := Lib.hid (keep_blk hb2 (heap_alloc_new w1 (.cells #[.int .i64 k0, .string ⟨x0.toArray⟩, .slice a0 m0 c0, .int .i64 l0] 32))); obtain ⟨b0, b1, b2, b3, _, _, _, _⟩ := box4 HN2.out; obtain ⟨r0, r1, r2, r3, q0, q1, q2, q3⟩ := box4 HR2.out; have hl1 := block_lt HR2.out; have hl2 := block_lt HN2.out; have hl3 : ¬ w2.heap.size = w.heap.size := (by omega); clear hb2) | (go_at_call 34; (with_reducible refine (HOK.out _ HP2.out).mono ?_); rintro e w2' ⟨rfl, rfl⟩))
    refine bodyPost_ret (v := .agg #[.int .i64 k0, .string ⟨x0.toArray⟩, .slice a0 m0 c0, .int .i64 l0]) (by simp [results, Tryd.results106, go_sem, r0, r1, r2, r3, q0, q1, q2, q3, hl1]) rfl ?_
    rw [← HQ.out]
    refine PostN.alloc (PostN.done (((HT1.out.new_bar (B := w.heap.size + 1) (x := w1.heap.size) (by simp) (.inr (Nat.le_refl _))).bar_only (pb := pb) (Only.of_below (bel_new _ (.cells #[.int .i64 k0, .string ⟨x0.toArray⟩, .slice a0 m0 c0, .int .i64 l0] 32))) (by omega)).bar_only (pb := pb) (Only.of_below HB2.out) (by omega)) (HP1.out.alloc.step HB2.out) ((((Only.of_below (b := pb) (bel_new w _)).trans HO1.out).alloc (x := .cells #[.int .i64 k0, .string ⟨x0.toArray⟩, .slice a0 m0 c0, .int .i64 l0] 32)).bel HB2.out) hlt (Only.set4 _ _ _ _ _ _))
end Go.Proofs.YtogkiifljdnjgaaDoor
