/- The walk of the law HopRecords: it returns true. No condition. -/
import Derived.Test.YtbfpjldincnihaaLawsC
namespace Go.Proofs.Ytbfpjldincnihaa
open Go.RowKit
set_option linter.unusedVariables false
set_option linter.unusedSimpArgs false

set_option maxRecDepth 100000 in
set_option maxHeartbeats 400000 in
theorem hopRecords_walk (k n : Int) (v : Value) (l : List UInt8) (w : World) (h : IsB w v l) : Calls Try.prog 6 #[.int .i64 k, .int .i64 n, v] w fun e w' => e = .returned (.bool true) ∧ Below w.heap.size w w' := by
  obtain ⟨ab, cb, rfl, _, _, _⟩ := h.shape
  have H := Lib.hid h
  clear h
  go_enter Try.func6, Try.ntmps6
  by_cases hbig : 5000 < l.length
  · have hb1 : (5000 : Int) < (l.length : Int) := by omega
    go_wp2_with (go_at_call 13; refine (awake_any _).mono ?_; rintro r W3 ⟨rfl, hb3⟩)
    go_ret
    exact ⟨rfl, hb3⟩
  · have hb1 : ¬ (5000 : Int) < (l.length : Int) := by omega
    have hl9 : l.length ≤ 131072 := by omega
    go_upto_region 3 with (go_at_call 13; refine (awake_any _).mono ?_; rintro r W3 ⟨rfl, hb3⟩)
    have HB3 := Lib.hid hb3
    clear hb3 hbig
    cases hrb : rangeBad k n with
    | true =>
      have HER := Lib.hid (fun v W => enc_range k n v W hrb)
      clear hrb
      go_wp2_with (go_at_call 17; (refine (HER.out _ _).mono ?_); rintro r W4 ⟨rfl, hb4⟩)
      go_ret
      exact ⟨rfl, bel_step HB3.out hb4⟩
    | false =>
      have hkn : 1 ≤ k ∧ k ≤ 127 ∧ 0 ≤ n ∧ n ≤ 1099511627776 := by
        simp only [rangeBad, decide_eq_false_iff_not] at hrb
        omega
      obtain ⟨k', rfl⟩ : ∃ k' : Nat, k = k' := ⟨k.toNat, by omega⟩
      obtain ⟨n', rfl⟩ : ∃ n' : Nat, n = n' := ⟨n.toNat, by omega⟩
      have HEO := Lib.hid (fun v W hI => enc_ok k' n' v l W (by omega) (by omega) hI hl9)
      have HRC := Lib.hid (fun m hd => hdec_record (k := k') (n := n') (p := l) (m := m) (by omega) (by omega) hl9 hd)
      have hel : (encP k' n' l).length ≤ 1000000 := by
        have h1 := numB_len n'
        have h2 := numB_len l.length
        rw [encP_len]
        omega
      clear hrb hkn
      go_upto_region 6 with (go_at_call 17; (refine (HEO.out _ _ (H.out.step HB3.out)).mono ?_); rintro r W4 ⟨u, rfl, hu, hb4⟩; have HU := Lib.hid hu.isB; obtain ⟨au, cu, rfl, _, _, _⟩ := hu.isB.shape; clear hu)
      have HB4 := Lib.hid (bel_step HB3.out hb4)
      clear hb4 HEO
      cases hd : hdecP (encP k' n' l) with
      | none =>
        have HDN := Lib.hid (fun v W hI => hdec_none hd v W hI hel)
        clear hd hel
        unfold zeroMsg at HDN
        go_upto_region 7 with (go_at_call 20; (refine (HDN.out _ _ HU.out).mono ?_); rintro r W5 ⟨rfl, hb5⟩)
        have hn := bel_new W5 (.cells #[.int .i64 0, .int .i64 0, .int .i64 0, .int .i64 0, .int .i64 0, .string ⟨#[]⟩, .slice none 0 0, .slice none 0 0] 25)
        have HB6 := Lib.hid (bel_step (bel_step HB4.out hb5) hn)
        obtain ⟨d0, d1, d2, d3, d4, d5, d6, d7⟩ := MCells.box W5 0 0 0 0 0 [] (.slice none 0 0) (.slice none 0 0)
        clear hn hb5
        go_wp2_with (first | (go_at_call 22; (refine (empty_zero _).mono ?_); rintro r W6 ⟨rfl, hb6⟩) | (go_at_call 23; (refine (is_yes 2 (by decide) _).mono ?_); rintro r W7 ⟨rfl, rfl⟩))
        go_ret
        exact ⟨rfl, bel_step HB6.out hb6⟩
      | some m =>
        obtain ⟨hk1, hn1, hc, hp⟩ := HRC.out m hd
        obtain ⟨_, _, hg, hll, _⟩ := codeM_ok hc
        have HDS := Lib.hid (fun v W hI => hdec_some hd v W hI hel)
        have HPA := Lib.hid (fun (la da : Option Addr) (lc dc : Nat) W h1 h2 => refpay_any m la da lc dc W h1 h2 (small_of hll) hg (by simp only [largeM, Bool.or_eq_false_iff] at hll; exact hll.2))
        have HCO := Lib.hid (fun (la da : Option Addr) (lc dc : Nat) W h1 => code_any m la da lc dc W h1)
        rw [codeR_zero hc] at HCO
        rw [hp] at HPA
        unfold Msg.val at *
        clear hd hc hp hg hll hel HRC
        obtain ⟨km, im, nm, tm, om, xm, sm, bm⟩ := m
        dsimp only at *
        subst hk1 hn1
        go_upto_region 7 with (go_at_call 20; (refine (HDS.out _ _ HU.out).mono ?_); rintro r W5 ⟨la, lc, da, dc, rfl, ht5, hd5, hb5⟩; have HT5 := Lib.hid ht5; have HD5 := Lib.hid hd5; clear ht5 hd5)
        have hn := bel_new W5 (.cells #[.int .i64 k', .int .i64 n', .int .i64 nm, .int .i64 tm, .int .i64 om, .string ⟨xm.toArray⟩, .slice la sm.length lc, .slice da bm.length dc] 25)
        have HB6 := Lib.hid (bel_step (bel_step HB4.out hb5) hn)
        have HM6 := Lib.hid (MCells.box W5 k' n' nm tm om xm (.slice la sm.length lc) (.slice da bm.length dc))
        have HT6 := Lib.hid (HT5.out.step hn)
        have HD6 := Lib.hid (HD5.out.step hn)
        obtain ⟨d0, d1, d2, d3, d4, d5, d6, d7⟩ := HM6.out
        clear hn hb5
        go_wp2_with (first | (go_at_call 15; (refine (HCO.out _ _ _ _ _ HT6.out).mono ?_); rintro r W8 ⟨rfl, hb8⟩; replace HM6 := Lib.hid (HM6.out.step hb8); obtain ⟨d0, d1, d2, d3, d4, d5, d6, d7⟩ := HM6.out) | (go_at_call 18; (refine (HPA.out _ _ _ _ _ (HT6.out.step hb8) (HD6.out.step hb8)).mono ?_); rintro r W9 ⟨u9, rfl, hu9, hb9⟩; have HU9 := Lib.hid hu9.isB; obtain ⟨au9, cu9, rfl, _, _, _⟩ := hu9.isB.shape; clear hu9) | (go_at_call 19; (refine (bytes_any _ _ _ _ _ HU9.out (H.out.step (bel_step (bel_step HB6.out hb8) hb9))).mono ?_); rintro r W10 ⟨rfl, rfl⟩))
        go_ret
        exact ⟨ret_bool (by simp), bel_step (bel_step HB6.out hb8) hb9⟩
end Go.Proofs.Ytbfpjldincnihaa
