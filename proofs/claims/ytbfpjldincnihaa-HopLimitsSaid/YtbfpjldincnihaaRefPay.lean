/- The walk of the reference's Payload, for messages whose numbers and sizes are small. -/
import Derived.Test.YtbfpjldincnihaaRefCode
namespace Go.Proofs.Ytbfpjldincnihaa
open Go.RowKit
set_option linter.unusedVariables false
set_option linter.unusedSimpArgs false

def fldB (m : Msg) (x : Int) : List UInt8 :=
  if x = 1 then numI m.num else if x = 2 then numI m.tot else if x = 3 then numI m.off else if x = 4 then textB m.txt else if x = 5 then textsB m.lst else if x = 6 then textB m.dat else []
theorem fldB_len (m : Msg) (x : Int) (h : SmallM m) : (fldB m x).length ≤ 3000000 := by
  obtain ⟨h1, h2, h3, h4⟩ := h
  unfold fldB
  have n1 := numB_len (clampN m.num)
  have n2 := numB_len (clampN m.tot)
  have n3 := numB_len (clampN m.off)
  have n4 := numB_len m.txt.length
  have n5 := numB_len m.dat.length
  repeat' split
  all_goals (try simp only [numI, textB, List.length_append, List.length_nil])
  all_goals omega
theorem pay_flds (m : Msg) : (usesL m.kind).flatMap (fldB m) = payM m (usesF m.kind) := by
  obtain ⟨k, id, nm, tt, of, tx, ls, dt⟩ := m
  have hk : k = 1 ∨ k = 2 ∨ k = 3 ∨ k = 4 ∨ k = 5 ∨ k = 6 ∨ k = 7 ∨ k = 8 ∨ k = 9 ∨ k = 10 ∨ k = 11 ∨ k = 12 ∨ (¬ k = 1 ∧ ¬ k = 2 ∧ ¬ k = 3 ∧ ¬ k = 4 ∧ ¬ k = 5 ∧ ¬ k = 7 ∧ ¬ k = 11 ∧ ¬ k = 6 ∧ ¬ k = 8 ∧ ¬ k = 9 ∧ ¬ k = 10 ∧ ¬ k = 12) := by omega
  rcases hk with rfl | rfl | rfl | rfl | rfl | rfl | rfl | rfl | rfl | rfl | rfl | rfl | ⟨h1, h2, h3, h4, h5, h7, h11, h6, h8, h9, h10, h12⟩
  all_goals simp [usesL, usesF, payM, fldB, *]
theorem usesL_in (k x : Int) (h : x ∈ usesL k) : x = 0 ∨ x = 1 ∨ x = 2 ∨ x = 3 ∨ x = 4 ∨ x = 5 ∨ x = 6 := by
  unfold usesL at h
  repeat' split at h
  all_goals simp at h
  all_goals omega

set_option maxRecDepth 100000 in
set_option maxHeartbeats 8000000 in
theorem refpay_any (m : Msg) (la da : Option Addr) (lc dc : Nat) (w : World) (hT : IsT w (.slice la m.lst.length lc) m.lst) (hD : IsB w (.slice da m.dat.length dc) m.dat)
    (hS : SmallM m) (hR : rangeM m) (hl : m.lst.any longT = false) :
    Calls Try.prog 18 #[m.val (.slice la m.lst.length lc) (.slice da m.dat.length dc)] w fun e w' => ∃ v, e = .returned v ∧ OwnB w' w.heap.size v (payM m (usesF m.kind)) ∧ Below w.heap.size w w' := by
  have HT := Lib.hid hT
  have HD := Lib.hid hD
  have HU := Lib.hid (fun W => Uses_any m.kind W)
  have HNU := Lib.hid (fun W => numbers_any m.kind m.id m.num m.tot m.off m.txt la da m.lst.length lc m.dat.length dc W)
  have HPF := Lib.hid (pay_flds m)
  have HFL := Lib.hid (fun x => fldB_len m x hS)
  have HIN := Lib.hid (fun x => usesL_in m.kind x)
  have HL4 := Lib.hid (usesL_len m.kind)
  have HS := Lib.hid hS
  have HR := Lib.hid hR
  have HLO := Lib.hid hl
  clear hS hR hl
  generalize payM m (usesF m.kind) = PM at *
  generalize usesL m.kind = L at *
  have HB0 := Lib.hid (bel_new w (.cells #[.int .i64 m.kind, .int .i64 m.id, .int .i64 m.num, .int .i64 m.tot, .int .i64 m.off, .string ⟨m.txt.toArray⟩, .slice la m.lst.length lc, .slice da m.dat.length dc] 25))
  have hm0 := MCells.box w m.kind m.id m.num m.tot m.off m.txt (.slice la m.lst.length lc) (.slice da m.dat.length dc)
  have HM0 := Lib.hid hm0
  obtain ⟨c0, c1, c2, c3, c4, c5, c6, c7⟩ := hm0
  unfold Msg.val at *
  clear hT hD
  go_enter Try.func18, Try.ntmps18
  go_upto_region 1 with fail
  generalize w.alloc (.cells #[.int .i64 m.kind, .int .i64 m.id, .int .i64 m.num, .int .i64 m.tot, .int .i64 m.off, .string ⟨m.txt.toArray⟩, .slice la m.lst.length lc, .slice da m.dat.length dc] 25) = W1 at *
  go_upto_region 3 with (go_at_call 32; refine (HNU.out _).mono ?_; rintro r W2 ⟨v2, rfl, hN, hb2⟩; have HN := Lib.hid hN; obtain ⟨a2, rfl⟩ := hN.shape; clear hN)
  have HB2 := Lib.hid (bel_step HB0.out hb2)
  have HM2 := Lib.hid (HM0.out.step hb2)
  obtain ⟨d0, d1, d2, d3, d4, d5, d6, d7⟩ := HM2.out
  clear HB0 HM0 hb2 c0 c1 c2 c3 c4 c5 c6 c7 HNU
  go_upto_region 4 with (go_at_call 31; refine (HU.out _).mono ?_; rintro r W3 ⟨v3, rfl, hN, hb3⟩; have HN3 := Lib.hid hN; obtain ⟨a3, rfl⟩ := hN.shape; clear hN)
  have HB3 := Lib.hid (bel_step HB2.out hb3)
  have HM3 := Lib.hid (HM2.out.step hb3)
  replace HN := Lib.hid (HN.out.step hb3)
  clear HB2 HM2 hb3 d0 d1 d2 d3 d4 d5 d6 d7 HU
  have hL4 : (L.length : Int) ≤ 4 := by have := HL4.out; omega
  go_wp2_with fail
  go_loopw [3, 15] (fun u i wr => ∃ q : Nat, i = .int .i64 q ∧ q ≤ L.length ∧ OwnB wr W3.heap.size u ((L.take q).flatMap (fldB m)) ∧ ((L.take q).flatMap (fldB m)).length ≤ q * 3000000 ∧ Below W3.heap.size W3 wr) (fun _ i _ => L.length - (intOf i).toNat)
  case atStart => exact ⟨0, rfl, Nat.zero_le _, OwnB.nil _ _, by simp, Below.refl _ _⟩
  case round =>
    obtain ⟨q, rfl, hq, ho, hlen, hbr⟩ := hrel
    have HO := Lib.hid ho
    have HLN := Lib.hid hlen
    have HBR := Lib.hid hbr
    have HMR := Lib.hid (HM3.out.step hbr)
    have HNR := Lib.hid (HN.out.step hbr)
    have HLR := Lib.hid (HN3.out.step hbr)
    have hz := hbr.size
    clear ho hlen hbr
    obtain ⟨d0, d1, d2, d3, d4, d5, d6, d7⟩ := HMR.out
    by_cases hlt : q < L.length
    · obtain ⟨g, hv, hc⟩ := HLR.out.elem hlt
      simp only [Value.slice.injEq] at hv
      obtain ⟨rfl, _⟩ := hv
      have hq0 : (0 : Int) ≤ (q : Int) := by omega
      have hq1 : (q : Int) < (L.length : Int) := by omega
      have HTK := Lib.hid (show L.take (q + 1) = L.take q ++ [L[q]] by rw [List.take_add_one, List.getElem?_eq_getElem hlt]; rfl)
      have hin := HIN.out _ (List.getElem_mem hlt)
      have HNX := Lib.hid (show (L.take (q + 1)).flatMap (fldB m) = (L.take q).flatMap (fldB m) ++ fldB m L[q] ∧ ((L.take (q + 1)).flatMap (fldB m)).length ≤ (q + 1) * 3000000 by
        have h1 := HTK.out
        have h2 := HFL.out L[q]
        have h3 := HLN.out
        have h4 : (L.take (q + 1)).flatMap (fldB m) = (L.take q).flatMap (fldB m) ++ fldB m L[q] := by rw [h1, List.flatMap_append]; simp
        refine ⟨h4, ?_⟩
        rw [h4, List.length_append]
        omega)
      have hq4 : q ≤ 4 := by omega
      generalize (L.take q).flatMap (fldB m) = P at *
      generalize L[q] = x at *
      clear HTK
      rcases hin with rfl | rfl | rfl | rfl | rfl | rfl | rfl
      · go_wp2_with fail
        go_roundw
        case rel => exact ⟨q + 1, by go_num, by omega, by have := HO.out; rw [HNX.out.1, show fldB m 0 = [] from rfl]; simpa using this, HNX.out.2, HBR.out⟩
        case measure => simp [intOf]; omega
      · obtain ⟨n, hn⟩ : ∃ n : Nat, m.num = n := ⟨m.num.toNat, by have := HR.out.2.1.1; omega⟩
        obtain ⟨g2, hv2, hc2⟩ := HNR.out.elem (k := 1) (by simp)
        simp only [Value.slice.injEq] at hv2
        obtain ⟨rfl, _⟩ := hv2
        replace hc2 : wr.cell? ⟨g2, 1, none⟩ = some (.int .i64 m.num) := hc2
        rw [hn] at hc2
        have hnl : n ≤ 1099511627776 := by have := HR.out.2.1.2; omega
        have HE := Lib.hid (show fldB m 1 = numB n by show numI m.num = _; rw [numI, hn, clamp_len _ (by omega)])
        have hnb := numB_len n
        clear hn
        go_wp2_with (first | (go_at_call 35; refine (puint_any n _ hnl).mono ?_; rintro e w2 ⟨v2, rfl, ho2, hb2⟩; have HO2 := Lib.hid ho2; clear ho2; have hz2 : W3.heap.size ≤ w2.heap.size := Nat.le_trans hz hb2.size) | (at_builtin; refine wpList_app rfl (.tmp 26) (.tmp 34) rfl W3.heap.size _ P rfl (HO.out.step hb2) _ (numB n) rfl HO2.out.isB (by have := HLN.out; omega) hz2 ?_; intro v3 w3 ho3 hb3 hz3 hn3))
        go_roundw
        case rel => exact ⟨q + 1, by go_num, by omega, by rw [HNX.out.1, HE.out]; exact ho3, HNX.out.2, (HBR.out.trans (hb2.mono hz)).trans hb3⟩
        case measure => simp [intOf]; omega
      · obtain ⟨n, hn⟩ : ∃ n : Nat, m.tot = n := ⟨m.tot.toNat, by have := HR.out.2.2.1.1; omega⟩
        obtain ⟨g2, hv2, hc2⟩ := HNR.out.elem (k := 2) (by simp)
        simp only [Value.slice.injEq] at hv2
        obtain ⟨rfl, _⟩ := hv2
        replace hc2 : wr.cell? ⟨g2, 2, none⟩ = some (.int .i64 m.tot) := hc2
        rw [hn] at hc2
        have hnl : n ≤ 1099511627776 := by have := HR.out.2.2.1.2; omega
        have HE := Lib.hid (show fldB m 2 = numB n by show numI m.tot = _; rw [numI, hn, clamp_len _ (by omega)])
        have hnb := numB_len n
        clear hn
        go_wp2_with (first | (go_at_call 35; refine (puint_any n _ hnl).mono ?_; rintro e w2 ⟨v2, rfl, ho2, hb2⟩; have HO2 := Lib.hid ho2; clear ho2; have hz2 : W3.heap.size ≤ w2.heap.size := Nat.le_trans hz hb2.size) | (at_builtin; refine wpList_app rfl (.tmp 26) (.tmp 34) rfl W3.heap.size _ P rfl (HO.out.step hb2) _ (numB n) rfl HO2.out.isB (by have := HLN.out; omega) hz2 ?_; intro v3 w3 ho3 hb3 hz3 hn3))
        go_roundw
        case rel => exact ⟨q + 1, by go_num, by omega, by rw [HNX.out.1, HE.out]; exact ho3, HNX.out.2, (HBR.out.trans (hb2.mono hz)).trans hb3⟩
        case measure => simp [intOf]; omega
      · obtain ⟨n, hn⟩ : ∃ n : Nat, m.off = n := ⟨m.off.toNat, by have := HR.out.2.2.2.1; omega⟩
        obtain ⟨g2, hv2, hc2⟩ := HNR.out.elem (k := 3) (by simp)
        simp only [Value.slice.injEq] at hv2
        obtain ⟨rfl, _⟩ := hv2
        replace hc2 : wr.cell? ⟨g2, 3, none⟩ = some (.int .i64 m.off) := hc2
        rw [hn] at hc2
        have hnl : n ≤ 1099511627776 := by have := HR.out.2.2.2.2; omega
        have HE := Lib.hid (show fldB m 3 = numB n by show numI m.off = _; rw [numI, hn, clamp_len _ (by omega)])
        have hnb := numB_len n
        clear hn
        go_wp2_with (first | (go_at_call 35; refine (puint_any n _ hnl).mono ?_; rintro e w2 ⟨v2, rfl, ho2, hb2⟩; have HO2 := Lib.hid ho2; clear ho2; have hz2 : W3.heap.size ≤ w2.heap.size := Nat.le_trans hz hb2.size) | (at_builtin; refine wpList_app rfl (.tmp 26) (.tmp 34) rfl W3.heap.size _ P rfl (HO.out.step hb2) _ (numB n) rfl HO2.out.isB (by have := HLN.out; omega) hz2 ?_; intro v3 w3 ho3 hb3 hz3 hn3))
        go_roundw
        case rel => exact ⟨q + 1, by go_num, by omega, by rw [HNX.out.1, HE.out]; exact ho3, HNX.out.2, (HBR.out.trans (hb2.mono hz)).trans hb3⟩
        case measure => simp [intOf]; omega
      · have HE := Lib.hid (show fldB m 4 = textB m.txt from rfl)
        have htl : (textB m.txt).length ≤ 9000 := by have := HS.out.1; have := numB_len m.txt.length; unfold textB; rw [List.length_append]; omega
        go_wp2_with (first | (go_at_call 36; refine (ptext_any m.txt _ (by have := HS.out.1; omega)).mono ?_; rintro e w2 ⟨v2, rfl, ho2, hb2⟩; have HO2 := Lib.hid ho2; clear ho2; have hz2 : W3.heap.size ≤ w2.heap.size := Nat.le_trans hz hb2.size) | (at_builtin; refine wpList_app rfl (.tmp 38) (.tmp 41) rfl W3.heap.size _ P rfl (HO.out.step hb2) _ (textB m.txt) rfl HO2.out.isB (by have := HLN.out; omega) hz2 ?_; intro v3 w3 ho3 hb3 hz3 hn3))
        go_roundw
        case rel => exact ⟨q + 1, by go_num, by omega, by rw [HNX.out.1, HE.out]; exact ho3, HNX.out.2, (HBR.out.trans (hb2.mono hz)).trans hb3⟩
        case measure => simp [intOf]; omega
      · have HE := Lib.hid (show fldB m 5 = textsB m.lst from rfl)
        have HTL := Lib.hid (show (textsB m.lst).length ≤ 3000000 from HS.out.2.2.2)
        have hll : m.lst.length ≤ 1024 := HS.out.2.2.1
        have hlli : (m.lst.length : Int) ≤ 1024 := by omega
        have hnb := numB_len m.lst.length
        have hq5 : q * 3000000 ≤ 12000000 := by omega
        have hPL : P.length ≤ 12000000 := Nat.le_trans HLN.out hq5
        clear hq5
        go_wp2_with (first | (go_at_call 35; refine (puint_any m.lst.length _ (by omega)).mono ?_; rintro e w2 ⟨v2, rfl, ho2, hb2⟩; have HO2 := Lib.hid ho2; clear ho2; have hz2 : W3.heap.size ≤ w2.heap.size := Nat.le_trans hz hb2.size) | (at_builtin; refine wpList_app rfl (.tmp 45) (.tmp 49) rfl W3.heap.size _ P rfl (HO.out.step hb2) _ (numB m.lst.length) rfl HO2.out.isB (by omega) hz2 ?_; intro v3 w3 ho3 hb3 hz3 hn3; have HB5 := Lib.hid ((HBR.out.trans (hb2.mono hz)).trans hb3); have HO5 := Lib.hid ho3; have HM5 := Lib.hid (HM3.out.step HB5.out); obtain ⟨e0, e1, e2, e3, e4, e5, e6, e7⟩ := HM5.out))
        have hz5 : W3.heap.size ≤ w3.heap.size := HB5.out.size
        clear HBR HMR HNR HLR hz d0 d1 d2 d3 d4 d5 d6 d7 HO hb2 hb3 ho3 hn3 hc HO2 hz2 hz3
        go_loopw [3, 54] (fun u i wy => ∃ k : Nat, i = .int .i64 k ∧ k ≤ m.lst.length ∧ OwnB wy W3.heap.size u (P ++ (numB m.lst.length ++ (m.lst.take k).flatMap textB)) ∧ Below W3.heap.size W3 wy) (fun _ i _ => m.lst.length - (intOf i).toNat)
        case atStart => exact ⟨0, rfl, Nat.zero_le _, by simpa using HO5.out, HB5.out⟩
        case round =>
          obtain ⟨k, rfl, hk, ho, hbr⟩ := hrel
          clear HO5 HB5 HM5 e0 e1 e2 e3 e4 e5 e6 e7 hz5
          have HO := Lib.hid ho
          have HBR := Lib.hid hbr
          have hz := hbr.size
          have HMR := Lib.hid (HM3.out.step hbr)
          have HTR := Lib.hid (HT.out.step (bel_step HB3.out hbr))
          clear ho hbr
          obtain ⟨e0, e1, e2, e3, e4, e5, e6, e7⟩ := HMR.out
          by_cases hlk : k < m.lst.length
          · obtain ⟨g2, off, c, s, hv, hks, hcell⟩ := HTR.out.elem2 hlk
            simp only [Value.slice.injEq] at hv
            obtain ⟨rfl, _, rfl⟩ := hv
            have hft := flat_take hks
            have hfl := flat_le m.lst (k + 1)
            have HFT := Lib.hid hft
            have hsl : (P ++ (numB m.lst.length ++ (m.lst.take k).flatMap textB)).length + (numB s.length).length + s.length ≤ 100000000 := by
              have := HTL.out
              unfold textsB at this
              rw [hft] at hfl
              simp only [List.length_append] at this hfl ⊢
              omega
            have HSL := Lib.hid hsl
            have hk0 : (0 : Int) ≤ (k : Int) := by omega
            have hk1 : (k : Int) < (m.lst.length : Int) := by omega
            have hs9 : s.length ≤ 1099511627776 := by omega
            clear hks hft hfl hsl
            go_wp2_with (first | (go_at_call 36; refine (ptext_any s _ hs9).mono ?_; rintro e w2 ⟨v2, rfl, ho2, hb2⟩; have HO2 := Lib.hid ho2; clear ho2; have hz2 : W3.heap.size ≤ w2.heap.size := Nat.le_trans hz hb2.size) | (at_builtin; refine wpList_app rfl (.tmp 57) (.tmp 63) rfl W3.heap.size _ (P ++ (numB m.lst.length ++ (m.lst.take k).flatMap textB)) rfl (HO.out.step hb2) _ (textB s) rfl HO2.out.isB (by have := HSL.out; rw [show textB s = numB s.length ++ s from rfl]; simp only [List.length_append] at this ⊢; omega) hz2 ?_; intro v4 w4 ho4 hb4 hz4 hn4))
            go_roundw
            case rel => exact ⟨k + 1, by go_num, by omega, by rw [HFT.out]; simpa only [textB, List.append_assoc] using ho4, (HBR.out.trans (hb2.mono hz)).trans hb4⟩
            case measure => simp [intOf]; omega
          · have hfin : P ++ (numB m.lst.length ++ (m.lst.take k).flatMap textB) = P ++ fldB m 5 := by rw [List.take_of_length_le (by omega), HE.out]; rfl
            rw [hfin] at HO
            clear hfin
            go_wp2_with fail
            exact ⟨⟨q + 1, by go_num, by omega, by rw [HNX.out.1]; exact HO.out, HNX.out.2, HBR.out⟩, by simp [intOf]; omega⟩
      · have HE := Lib.hid (show fldB m 6 = textB m.dat from rfl)
        have htl : (textB m.dat).length ≤ 66000 := by have := HS.out.2.1; have := numB_len m.dat.length; unfold textB; rw [List.length_append]; omega
        have hst := run_str wr _ _ (HD.out.step (bel_step HB3.out HBR.out))
        go_wp2_with (first | (go_at_call 36; refine (ptext_any m.dat _ (by have := HS.out.2.1; omega)).mono ?_; rintro e w2 ⟨v2, rfl, ho2, hb2⟩; have HO2 := Lib.hid ho2; clear ho2; have hz2 : W3.heap.size ≤ w2.heap.size := Nat.le_trans hz hb2.size) | (at_builtin; refine wpList_app rfl (.tmp 68) (.tmp 72) rfl W3.heap.size _ P rfl (HO.out.step hb2) _ (textB m.dat) rfl HO2.out.isB (by have := HLN.out; omega) hz2 ?_; intro v3 w3 ho3 hb3 hz3 hn3))
        go_roundw
        case rel => exact ⟨q + 1, by go_num, by omega, by rw [HNX.out.1, HE.out]; exact ho3, HNX.out.2, (HBR.out.trans (hb2.mono hz)).trans hb3⟩
        case measure => simp [intOf]; omega
    · have hfin : (L.take q).flatMap (fldB m) = PM := by rw [List.take_of_length_le (by omega)]; exact HPF.out
      rw [hfin] at HO
      clear hfin HLN
      go_wp2_with fail
      go_ret
      exact ⟨_, rfl, HO.out.mono HB3.out.size, bel_step HB3.out HBR.out⟩
end Go.Proofs.Ytbfpjldincnihaa
