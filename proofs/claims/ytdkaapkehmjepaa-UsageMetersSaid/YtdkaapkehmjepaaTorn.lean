/- The walk of the law UsageTorn. No condition beyond that the entries are values. -/
import Derived.Test.YtdkaapkehmjepaaBack
namespace Go.Proofs.Ytdkaapkehmjepaa
open Go.RowKit
set_option linter.unusedVariables false
set_option linter.unusedSimpArgs false

def sizeK (L : List Ent) (k : Nat) : Nat := ((L.take k).flatMap recE).length
theorem sizeK_more {L : List Ent} {k : Nat} {e : Ent} (hk : L[k]? = some e) : sizeK L (k + 1) = sizeK L k + (recE e).length := by
  unfold sizeK
  rw [take_more hk, List.flatMap_append]
  simp
theorem split_at (L : List Ent) (k : Nat) : L.flatMap recE = (L.take k).flatMap recE ++ (L.drop k).flatMap recE := by
  rw [← List.flatMap_append, List.take_append_drop]
theorem torn_law (L : List Ent) (k n : Nat) (hL : ∀ e ∈ L, codeE e = 0) (hk : k ≤ L.length) (hs : sizeK L k ≤ n) (hn : n ≤ (L.flatMap recE).length)
    (h : k = L.length ∨ ∃ e, L[k]? = some e ∧ n < sizeK L k + (recE e).length) : decsP ((L.flatMap recE).take n) = (L.take k, sizeK L k) := by
  have hT : ∀ e ∈ L.take k, codeE e = 0 := fun e he => hL e (List.mem_of_mem_take he)
  have e1 : (L.flatMap recE).take n = (L.take k).flatMap recE ++ ((L.drop k).flatMap recE).take (n - sizeK L k) := by
    conv => lhs; rw [split_at L k]
    rw [List.take_append, List.take_of_length_le (by exact hs)]
    rfl
  have e2 : decsP (((L.drop k).flatMap recE).take (n - sizeK L k)) = ([], 0) := by
    rcases h with rfl | ⟨e, he, hlt⟩
    · rw [List.drop_length, List.flatMap_nil, List.take_nil]; rfl
    · have hlt' := (List.getElem?_eq_some_iff.1 he).1
      have hge := (List.getElem?_eq_some_iff.1 he).2
      rw [List.drop_eq_getElem_cons hlt', hge, List.flatMap_cons, List.take_append_of_le_length (by omega)]
      exact decsP_none (ent_cut e _ (hL e (List.mem_of_getElem? he)) (by omega))
  rw [e1, decs_app _ _ hT, e2]
  simp [sizeK]
theorem sizeK_all (L : List Ent) : sizeK L L.length = (L.flatMap recE).length := by unfold sizeK; rw [List.take_length]
theorem sizeK_le (L : List Ent) (k : Nat) : sizeK L k ≤ (L.flatMap recE).length := by
  unfold sizeK
  rw [split_at L k, List.length_append]
  omega

set_option maxRecDepth 100000 in
set_option maxHeartbeats 4000000 in
theorem usageTorn_walk (v : Value) (es : List Ent) (cut : Int) (w : World) (h : IsE w v es) (hf : ∀ e ∈ es, FitE e) :
    Calls Try.prog 8 #[v, .int .i64 cut] w fun r w' => r = .returned (.bool true) ∧ Below w.heap.size w w' := by
  obtain ⟨a, cap, rfl, hc1, hc2⟩ := h.shape
  have H := Lib.hid h
  have HF := Lib.hid hf
  clear h hf hc1 hc2
  by_cases hl : 50 < es.length
  · have hl' : (50 : Int) < (es.length : Int) := by omega
    clear hl
    go_enter Try.func8, Try.ntmps8
    go_wp2_with (go_at_call 12; refine (awake_any _).mono ?_; rintro r w1 ⟨rfl, hb1⟩)
    go_ret
    exact ⟨rfl, hb1⟩
  · have hl' : (es.length : Int) ≤ 50 := by omega
    have HVAL := Lib.hid (fun W (h : IsE W (.slice a es.length cap) es) => valid_any _ es W h HF.out (by omega))
    have hVL := vals_len es
    have hOK := vals_ok es
    have HOK := Lib.hid hOK
    have HE := Lib.hid (fun v W h => encs_any v (vals es) W h (fun e he => fit_ok (hOK e he)) (by omega))
    have hcode := encsC_all _ hOK
    have hbytes := encsB_ok hOK
    rw [hcode, hbytes, show errV 0 = .nilIface from rfl] at HE
    have hrl := recs_len _ hOK
    clear hOK hcode hbytes
    have hLL : (vals es).length ≤ 50 := by omega
    have hLL' : ((vals es).length : Int) ≤ 50 := by omega
    clear hVL
    generalize hLe : vals es = L at *
    have hBL : (L.flatMap recE).length ≤ 6000 := by omega
    have HSP := Lib.hid (fun k => split_at L k)
    clear hLe hrl
    generalize hbe : L.flatMap recE = b at *
    have HBE := Lib.hid hbe
    obtain ⟨n, hn⟩ : ∃ n : Nat, max 0 (min cut (b.length : Int)) = (n : Int) := ⟨(max 0 (min cut (b.length : Int))).toNat, by omega⟩
    have HC := Lib.hid (fun W => clip_any cut 0 b.length W)
    rw [hn] at HC
    have hnb : n ≤ b.length := by omega
    have hnb' : (n : Int) ≤ (b.length : Int) := by omega
    have hn6 : (n : Int) ≤ 6000 := by omega
    clear hbe hn
    go_enter Try.func8, Try.ntmps8
    go_upto_region 3 with (go_at_call 12; refine (awake_any _).mono ?_; rintro r w1 ⟨rfl, hb1⟩)
    have HB1 := Lib.hid hb1
    clear hb1
    go_upto_region 4 with (go_at_call 27; refine (HVAL.out _ (H.out.step HB1.out)).mono ?_; rintro r w2 ⟨u2, rfl, ho2, hb2⟩; obtain ⟨a2, c2, rfl⟩ := ho2.shape)
    have HB2 := Lib.hid (bel_step HB1.out hb2)
    have HI2 := Lib.hid ho2.isE
    have hc2 := ho2.isE.shape
    obtain ⟨_, _, hcv, hcl, hcm⟩ := hc2
    simp only [Value.slice.injEq] at hcv
    obtain ⟨rfl, _, rfl⟩ := hcv
    clear hb2 ho2 HB1 hcm
    go_upto_region 5 with (go_at_call 24; refine (HE.out _ _ HI2.out).mono ?_; rintro r w3 ⟨u3, rfl, ho3, hb3⟩; obtain ⟨a3, c3, rfl, hq3, _, _⟩ := ho3.isB.shape)
    have HB3 := Lib.hid (bel_step HB2.out hb3)
    have HI3 := Lib.hid ho3.isB
    have HL3 := Lib.hid (HI2.out.step hb3)
    have hz3 : w.heap.size ≤ w3.heap.size := HB3.out.size
    have hq3' : (n : Int) ≤ (c3 : Int) := by omega
    have hcl' : (L.length : Int) ≤ (c2 : Int) := by omega
    clear hb3 ho3 HB2 HI2
    go_wp2_with (go_at_call 28; refine (HC.out _).mono ?_; rintro r w4 ⟨rfl, rfl⟩)
    go_loopw [8, 9, 38] (fun many size i wr => ∃ k : Nat, i = .int .i64 k ∧ many = .int .i64 k ∧ size = .int .i64 (sizeK L k) ∧ k ≤ L.length ∧ sizeK L k ≤ n ∧ Below w3.heap.size w3 wr) (fun _ _ i _ => L.length - (intOf i).toNat)
    case atStart => exact ⟨0, rfl, rfl, rfl, Nat.zero_le _, Nat.zero_le _, Below.refl _ _⟩
    case round =>
      obtain ⟨k, rfl, rfl, rfl, hk, hsn, hB⟩ := hrel
      have HB := Lib.hid hB
      have hzr : w3.heap.size ≤ wr.heap.size := hB.size
      clear hB
      have HTL := Lib.hid (fun hk2 => torn_law L k n HOK.out hk hsn (by rw [HBE.out]; exact hnb) hk2)
      rw [HBE.out] at HTL
      have HSL := Lib.hid (sizeK_le L k)
      rw [HBE.out] at HSL
      by_cases hlt : k < L.length
      · obtain ⟨g, o, cap', e, hv, hek, hat⟩ := (HL3.out.step HB.out).elem hlt
        simp only [Value.slice.injEq] at hv
        obtain ⟨rfl, _, rfl⟩ := hv
        have hce := HOK.out e (List.mem_of_getElem? hek)
        have HEK := Lib.hid hek
        have HSM := Lib.hid (sizeK_more hek)
        have hre := recE_len hce
        have HONE := Lib.hid (fun W => one_any e W hce)
        obtain ⟨x0, x1, x2, x3, x4, x5, x6⟩ := hat
        have hq0 : (0 : Int) ≤ (k : Int) := by omega
        have hq1 : (k : Int) < (L.length : Int) := by omega
        unfold Ent.val at *
        clear hek hce
        go_upto_region 12 with fail
        have hbx := EntAt.box wr e
        have hn1 := bel_new wr (.cells #[.string ⟨e.node.toArray⟩, .int .i64 e.boot, .int .i64 e.seq, .int .i64 e.ten, .int .i64 e.hits, .int .i64 e.bytes, .int .i64 e.att] 23)
        have HB5 := Lib.hid (HB.out.trans (hn1.mono hzr))
        obtain ⟨y0, y1, y2, y3, y4, y5, y6⟩ := hbx
        simp only [Nat.zero_add] at y0 y1 y2 y3 y4 y5 y6
        clear hn1 x0 x1 x2 x3 x4 x5 x6 HB
        generalize wr.alloc (.cells #[.string ⟨e.node.toArray⟩, .int .i64 e.boot, .int .i64 e.seq, .int .i64 e.ten, .int .i64 e.hits, .int .i64 e.bytes, .int .i64 e.att] 23) = W1 at *
        go_upto_region 13 with (go_at_call 25; refine (HONE.out _).mono ?_; rintro r W2 ⟨v3, rfl, ho3, hb3⟩; obtain ⟨a4, c4, rfl, _⟩ := ho3.isB.shape)
        have HB6 := Lib.hid (HB5.out.trans (hb3.mono (HB5.out.size)))
        clear hb3 ho3 y0 y1 y2 y3 y4 y5 y6 HB5
        have hr5 : 5 ≤ (recE e).length := hre.2
        have hr120 : (recE e).length ≤ 120 := hre.1
        clear hre
        generalize hre : (recE e).length = rl at *
        have HRE := Lib.hid hre
        clear hre
        have hrl0 : ¬ rl = 0 := by omega
        have hrl0' : ((rl : Int) == 0) = false := by simp; omega
        have hrlI : (rl : Int) ≤ 120 := by omega
        have hsz6 : (sizeK L k : Int) ≤ 6000 := by omega
        by_cases hbrk : n < sizeK L k + rl
        · have hbrkI : (n : Int) < (sizeK L k : Int) + (rl : Int) := by omega
          have HR := Lib.hid (HTL.out (.inr ⟨e, HEK.out, by rw [HRE.out]; exact hbrk⟩))
          have HIB := Lib.hid ((HI3.out.step HB6.out).upto n hnb)
          have HD := Lib.hid (fun W h => decs_any (.slice a3 n c3) (b.take n) W h (by rw [List.length_take]; omega))
          rw [HR.out] at HD
          have hkc : (k : Int) ≤ (c2 : Int) := by omega
          go_wp2_with (first | (go_at_call 29; with_reducible refine (HD.out _ HIB.out).mono ?_; rintro r w5 ⟨u5, rfl, ho5, hb5⟩; have HI5 := Lib.hid ho5.isE; have HL5 := Lib.hid (((HL3.out.step HB6.out).step hb5).upto k hk); clear ho5) | (go_at_call 18; with_reducible refine (same_any _ _ _ _ _ HI5.out HL5.out (by rw [List.length_take]; omega)).mono ?_; rintro r w6 ⟨bb, rfl, hbb, hb6⟩; obtain rfl : bb = true := hbb.2 rfl; clear hbb))
          go_ret
          exact ⟨rfl, HB3.out.trans ((HB6.out.mono hz3).trans ((hb5.trans (hb6.mono hb5.size)).mono (Nat.le_trans hz3 HB6.out.size)))⟩
        · have hbrkI : (sizeK L k : Int) + (rl : Int) ≤ (n : Int) := by omega
          go_wp2_with fail
          go_roundw
          case rel => exact ⟨k + 1, by go_num, by go_num, by rw [HSM.out]; go_num, by omega, by rw [HSM.out]; omega, HB6.out⟩
          case measure => simp [intOf]; omega
      · obtain rfl : k = L.length := by omega
        have HR := Lib.hid (HTL.out (.inl rfl))
        have HIB := Lib.hid ((HI3.out.step HB.out).upto n hnb)
        have HD := Lib.hid (fun W h => decs_any (.slice a3 n c3) (b.take n) W h (by rw [List.length_take]; omega))
        rw [HR.out] at HD
        go_wp2_with (first | (go_at_call 29; with_reducible refine (HD.out _ HIB.out).mono ?_; rintro r w5 ⟨u5, rfl, ho5, hb5⟩; have HI5 := Lib.hid ho5.isE; have HL5 := Lib.hid (((HL3.out.step HB.out).step hb5).upto L.length hk); clear ho5) | (go_at_call 18; with_reducible refine (same_any _ _ _ _ _ HI5.out HL5.out (by rw [List.length_take]; omega)).mono ?_; rintro r w6 ⟨bb, rfl, hbb, hb6⟩; obtain rfl : bb = true := hbb.2 rfl; clear hbb))
        go_ret
        exact ⟨rfl, HB3.out.trans ((HB.out.mono hz3).trans ((hb5.trans (hb6.mono hb5.size)).mono (Nat.le_trans hz3 HB.out.size)))⟩
end Go.Proofs.Ytdkaapkehmjepaa
