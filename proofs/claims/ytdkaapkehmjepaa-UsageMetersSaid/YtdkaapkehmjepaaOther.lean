/- The walk of the law UsageRecords. No condition beyond that the entries are values. -/
import Derived.Test.YtdkaapkehmjepaaTorn
namespace Go.Proofs.Ytdkaapkehmjepaa
open Go.RowKit
set_option linter.unusedVariables false
set_option linter.unusedSimpArgs false

theorem other_law (L : List Ent) (kk nn : Nat) (l : List UInt8) (hL : ∀ e ∈ L, codeE e = 0) (hk : 1 ≤ kk ∧ kk ≤ 127) (hn : nn ≤ 1099511627776) (hl : l.length ≤ 131072) :
    decsP (L.flatMap recE ++ encP kk nn l) = (L, (L.flatMap recE).length) ∨
    (kk = 1 ∧ ∃ E, codeE E = 0 ∧ E.seq = (nn : Int) ∧ payE E = l ∧ decsP (L.flatMap recE ++ encP kk nn l) = (L ++ [E], (L.flatMap recE).length + (encP kk nn l).length)) := by
  have hd := dec_enc kk nn l [] hk hn hl
  rw [List.append_nil] at hd
  rw [decs_app _ _ hL]
  by_cases hc : kk = 1 ∧ curE l = some [] ∧ codeE (entOf nn l) = 0
  · have he : entP (encP kk nn l) = some (entOf nn l, (encP kk nn l).length) := by unfold entP; rw [hd]; simp only []; rw [if_pos hc]
    refine .inr ⟨hc.1, entOf nn l, hc.2.2, rfl, ent_pay hc.2.1, ?_⟩
    rw [decsP_some he, List.drop_length]
    rfl
  · have he : entP (encP kk nn l) = none := by unfold entP; rw [hd]; simp only []; rw [if_neg hc]
    rw [decsP_none he]
    exact .inl (by simp)

set_option maxRecDepth 100000 in
set_option maxHeartbeats 4000000 in
theorem usageRecords_walk (v : Value) (es : List Ent) (kind number : Int) (pv : Value) (l : List UInt8) (w : World) (h : IsE w v es) (hf : ∀ e ∈ es, FitE e) (hp : IsB w pv l) :
    Calls Try.prog 11 #[v, .int .i64 kind, .int .i64 number, pv] w fun r w' => r = .returned (.bool true) ∧ Below w.heap.size w w' := by
  obtain ⟨a, cap, rfl, hc1, hc2⟩ := h.shape
  obtain ⟨pa, pc, rfl, _, _, _⟩ := hp.shape
  have H := Lib.hid h
  have HF := Lib.hid hf
  have HP := Lib.hid hp
  clear h hf hc1 hc2 hp
  by_cases hl : 20 < es.length
  · have hl' : (20 : Int) < (es.length : Int) := by omega
    clear hl
    go_enter Try.func11, Try.ntmps11
    go_wp2_with (go_at_call 12; refine (awake_any _).mono ?_; rintro r w1 ⟨rfl, hb1⟩)
    go_ret
    exact ⟨rfl, hb1⟩
  · have hl' : (es.length : Int) ≤ 20 := by omega
    by_cases hl2 : 500 < l.length
    · have hl2' : (500 : Int) < (l.length : Int) := by omega
      clear hl hl2
      go_enter Try.func11, Try.ntmps11
      go_wp2_with (go_at_call 12; refine (awake_any _).mono ?_; rintro r w1 ⟨rfl, hb1⟩)
      go_ret
      exact ⟨rfl, hb1⟩
    · have hl2' : (l.length : Int) ≤ 500 := by omega
      have HVAL := Lib.hid (fun W (h : IsE W (.slice a es.length cap) es) => valid_any _ es W h HF.out (by omega))
      have hVL := vals_len es
      have hOK := vals_ok es
      have HOK := Lib.hid hOK
      have HE := Lib.hid (fun v W h => encs_any v (vals es) W h (fun e he => fit_ok (hOK e he)) (by omega))
      have hcode := encsC_all _ hOK
      have hbytes := encsB_ok hOK
      rw [hcode, hbytes, show errV 0 = .nilIface from rfl] at HE
      have hrl := recs_len _ hOK
      clear hOK hcode hbytes
      have hLL : (vals es).length ≤ 20 := by omega
      have hLL' : ((vals es).length : Int) ≤ 20 := by omega
      clear hVL
      generalize hLe : vals es = L at *
      have hBL : (L.flatMap recE).length ≤ 2400 := by omega
      clear hLe hrl
      have HOT := Lib.hid (fun kk nn hk hn => other_law L kk nn l HOK.out hk hn (by omega))
      generalize L.flatMap recE = b at *
      go_enter Try.func11, Try.ntmps11
      go_upto_region 3 with (go_at_call 12; refine (awake_any _).mono ?_; rintro r w1 ⟨rfl, hb1⟩)
      have HB1 := Lib.hid hb1
      clear hb1
      go_upto_region 4 with (go_at_call 27; refine (HVAL.out _ (H.out.step HB1.out)).mono ?_; rintro r w2 ⟨u2, rfl, ho2, hb2⟩; obtain ⟨a2, c2, rfl⟩ := ho2.shape)
      have HB2 := Lib.hid (bel_step HB1.out hb2)
      have HI2 := Lib.hid ho2.isE
      have hc2 := ho2.isE.shape
      obtain ⟨_, _, hcv, hcl, hcm⟩ := hc2
      simp only [Value.slice.injEq] at hcv
      obtain ⟨rfl, _, rfl⟩ := hcv
      clear hb2 ho2 HB1 hcm
      go_upto_region 5 with (go_at_call 24; refine (HE.out _ _ HI2.out).mono ?_; rintro r w3 ⟨u3, rfl, ho3, hb3⟩; obtain ⟨a3, c3, rfl, hq3, _, _⟩ := ho3.isB.shape)
      have HB3 := Lib.hid (bel_step HB2.out hb3)
      have HI3 := Lib.hid ho3.isB
      have HL3 := Lib.hid (HI2.out.step hb3)
      have HP3 := Lib.hid (HP.out.step HB3.out)
      clear hb3 ho3 HB2 HI2
      by_cases hrb : rangeBad kind number = true
      · go_wp2_with (go_at_call 30; refine (enc_range kind number _ _ hrb).mono ?_; rintro r w4 ⟨rfl, hb4⟩)
        go_ret
        exact ⟨rfl, bel_step HB3.out hb4⟩
      · have hrb' : rangeBad kind number = false := by simpa using hrb
        have hr2 : 1 ≤ kind ∧ kind ≤ 127 ∧ 0 ≤ number ∧ number ≤ 1099511627776 := by
          simp only [rangeBad, decide_eq_false_iff_not] at hrb'
          omega
        clear hrb hrb'
        obtain ⟨kk, rfl⟩ : ∃ kk : Nat, kind = kk := ⟨kind.toNat, by omega⟩
        obtain ⟨nn, rfl⟩ : ∃ nn : Nat, number = nn := ⟨number.toNat, by omega⟩
        obtain ⟨r1, r2, r3, r4⟩ := hr2
        have hlen := encP_len kk nn l
        have h1 := numB_len nn
        have h2 := numB_len l.length
        have HENC := Lib.hid (fun W (h : IsB W (.slice pa l.length pc) l) => enc_ok kk nn _ l W (by omega) r4 h (by omega))
        have HO2 := Lib.hid (HOT.out kk nn (by omega) (by omega))
        have hxl : (encP kk nn l).length ≤ 600 := by omega
        clear hlen h1 h2 r3 r4 HOT
        generalize encP kk nn l = x at *
        go_upto_region 10 with (go_at_call 30; with_reducible refine (HENC.out _ HP3.out).mono ?_; rintro r w4 ⟨u4, rfl, ho4, hb4⟩; obtain ⟨a4, c4, rfl, _, _, _⟩ := ho4.isB.shape)
        have HB4 := Lib.hid (bel_step HB3.out hb4)
        have HX4 := Lib.hid ho4.isB
        have HI4 := Lib.hid (HI3.out.step hb4)
        have HL4 := Lib.hid (HL3.out.step hb4)
        have HP4 := Lib.hid (HP3.out.step hb4)
        have hz4 : w.heap.size ≤ w4.heap.size := HB4.out.size
        clear hb4 ho4 HB3 HI3 HL3 HP3
        have hnew := bel_new w4 (.cells #[] 5)
        have HDEC := Lib.hid (fun v W (h : IsB W v (b ++ x)) => decs_any v (b ++ x) W h (by rw [List.length_append]; omega))
        rcases HO2.out with hD | ⟨hk1, E, hcE, hsE, hpE, hD⟩
        · rw [hD] at HDEC
          clear hD HO2
          go_upto_region 11 with (first | (at_builtin; refine wpList_app rfl (.tmp 49) (.tmp 50) rfl w4.heap.size _ [] rfl (OwnB.made _ _ (Nat.le_refl _)) _ b rfl (HI4.out.step (bel_new _ _)) (by simp; omega) (by simp) ?_; intro v6 w6 ho6 hb6 hz6 hne6; rw [List.nil_append] at ho6) | (at_builtin; refine wpList_app rfl (.tmp 51) (.tmp 52) rfl w4.heap.size _ b rfl ho6 _ x rfl (HX4.out.step (hnew.trans hb6)) (by omega) (Nat.le_trans hnew.size hz6) ?_; intro v7 w7 ho7 hb7 hz7 hne7) | (go_at_call 29; refine (HDEC.out _ _ ho7.isB).mono ?_; rintro r w8 ⟨u8, rfl, ho8, hb8⟩; obtain ⟨a8, c8, rfl⟩ := ho8.shape))
          have hB47 := (hnew.trans hb6).trans hb7
          have HB8 := Lib.hid (bel_step (bel_step HB4.out hB47) hb8)
          have HL8 := Lib.hid ((HL4.out.step hB47).step hb8)
          have HI8 := Lib.hid ho8.isE
          have hsh := ho8.isE.shape
          obtain ⟨_, _, hcv, hcl8, _⟩ := hsh
          simp only [Value.slice.injEq] at hcv
          obtain ⟨rfl, _, rfl⟩ := hcv
          clear hB47 ho8 hb8 ho7 hb7 ho6 hb6 hnew
          have hcl8' : (L.length : Int) ≤ (c8 : Int) := by omega
          go_wp2_with (go_at_call 18; with_reducible refine (same_any _ _ _ _ _ HI8.out HL8.out (by omega)).mono ?_; rintro r w9 ⟨bb, rfl, hbb, hb9⟩; obtain rfl : bb = true := hbb.2 rfl; clear hbb)
          go_ret
          exact ⟨by simp, bel_step HB8.out hb9⟩
        · subst hk1
          rw [hD] at HDEC
          have HCE := Lib.hid hcE
          have HPE := Lib.hid hpE
          have hsb : (E.seq == (nn : Int)) = true := by rw [hsE]; simp
          have hfe := fit_ok hcE
          have HCD := Lib.hid (fun W => codeE_any E W hfe.1 hfe.2)
          rw [hcE] at HCD
          have HPY := Lib.hid (fun W => pay_slice E W (named_short (codeE_ok hcE).1) (codeE_ok hcE).2)
          rw [hpE] at HPY
          unfold Ent.val at *
          clear hD HO2 hcE hpE hsE hfe
          go_upto_region 11 with (first | (at_builtin; refine wpList_app rfl (.tmp 49) (.tmp 50) rfl w4.heap.size _ [] rfl (OwnB.made _ _ (Nat.le_refl _)) _ b rfl (HI4.out.step (bel_new _ _)) (by simp; omega) (by simp) ?_; intro v6 w6 ho6 hb6 hz6 hne6; rw [List.nil_append] at ho6) | (at_builtin; refine wpList_app rfl (.tmp 51) (.tmp 52) rfl w4.heap.size _ b rfl ho6 _ x rfl (HX4.out.step (hnew.trans hb6)) (by omega) (Nat.le_trans hnew.size hz6) ?_; intro v7 w7 ho7 hb7 hz7 hne7) | (go_at_call 29; refine (HDEC.out _ _ ho7.isB).mono ?_; rintro r w8 ⟨u8, rfl, ho8, hb8⟩; obtain ⟨a8, c8, hu8⟩ := ho8.shape; rw [List.length_append, List.length_singleton] at hu8; subst hu8))
          have hB47 := (hnew.trans hb6).trans hb7
          have HB8 := Lib.hid (bel_step (bel_step HB4.out hB47) hb8)
          have HL8 := Lib.hid ((HL4.out.step hB47).step hb8)
          have HP8 := Lib.hid ((HP4.out.step hB47).step hb8)
          have hI8 := ho8.isE
          obtain ⟨g8, o8, q8, e8, hu, he8, hat8⟩ := hI8.elem (k := L.length) (by simp)
          rw [List.length_append, List.length_singleton] at hu
          simp only [Value.slice.injEq] at hu
          obtain ⟨rfl, _, rfl⟩ := hu
          obtain rfl : e8 = E := by simpa using he8.symm
          have hup := IsE.upto (a := some ⟨g8, o8, none⟩) (cap := c8) (es := L ++ [e8]) (by simpa using hI8) L.length (by simp)
          rw [List.take_left] at hup
          have HI8 := Lib.hid hup
          have hsh := hup.shape
          obtain ⟨_, _, hcv, hcl8, _⟩ := hsh
          simp only [Value.slice.injEq] at hcv
          obtain ⟨rfl, _, rfl⟩ := hcv
          have HAT := Lib.hid hat8
          have hcl8' : (L.length : Int) ≤ (c8 : Int) := by omega
          clear hB47 ho8 hb8 ho7 hb7 ho6 hb6 hnew hI8 he8 hup hat8
          go_upto_region 13 with (go_at_call 18; with_reducible refine (same_any _ _ _ _ _ HI8.out HL8.out (by omega)).mono ?_; rintro r w9 ⟨bb, rfl, hbb, hb9⟩; obtain rfl : bb = true := hbb.2 rfl; clear hbb)
          have HB9 := Lib.hid (bel_step HB8.out hb9)
          have HP9 := Lib.hid (HP8.out.step hb9)
          obtain ⟨y0, y1, y2, y3, y4, y5, y6⟩ := HAT.out.step hb9
          clear hb9 HI8 HL8 HB8 HP8
          go_upto_region 16 with fail
          have hbx := EntAt.box w9 e8
          have hn1 := bel_new w9 (.cells #[.string ⟨e8.node.toArray⟩, .int .i64 e8.boot, .int .i64 e8.seq, .int .i64 e8.ten, .int .i64 e8.hits, .int .i64 e8.bytes, .int .i64 e8.att] 23)
          have HB10 := Lib.hid (bel_step HB9.out hn1)
          have HP10 := Lib.hid (HP9.out.step hn1)
          have HX10 := Lib.hid hbx
          obtain ⟨z0, z1, z2, z3, z4, z5, z6⟩ := hbx
          simp only [Nat.zero_add] at z0 z1 z2 z3 z4 z5 z6
          clear hn1 y0 y1 y2 y3 y4 y5 y6 HB9 HP9
          generalize w9.alloc (.cells #[.string ⟨e8.node.toArray⟩, .int .i64 e8.boot, .int .i64 e8.seq, .int .i64 e8.ten, .int .i64 e8.hits, .int .i64 e8.bytes, .int .i64 e8.att] 23) = W1 at *
          go_wp2_with (first | (go_at_call 15; refine (HCD.out _).mono ?_; rintro r W2 ⟨rfl, hb2⟩; obtain ⟨d0, d1, d2, d3, d4, d5, d6⟩ := HX10.out.step hb2; simp only [Nat.zero_add] at d0 d1 d2 d3 d4 d5 d6) | (go_at_call 31; refine (HPY.out _).mono ?_; rintro r W3 ⟨pa3, pn3, pc3, rfl, ho3, hb3⟩; have HP11 := Lib.hid ((HP10.out.step hb2).step hb3)) | (go_at_call 26; with_reducible refine (bytes_any _ _ _ _ _ ho3.isB HP11.out).mono ?_; rintro r W4 ⟨rfl, rfl⟩; simp only [beq_self_eq_true]))
          go_ret
          exact ⟨by simp, bel_step (bel_step HB10.out hb2) hb3⟩
end Go.Proofs.Ytdkaapkehmjepaa
