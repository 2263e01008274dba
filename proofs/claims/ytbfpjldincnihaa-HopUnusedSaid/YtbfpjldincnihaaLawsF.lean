/- The walk of the law HopCut: it returns true. No condition. -/
import Derived.Test.YtbfpjldincnihaaLawsE
namespace Go.Proofs.Ytbfpjldincnihaa
open Go.RowKit
set_option linter.unusedVariables false
set_option linter.unusedSimpArgs false

set_option maxRecDepth 100000 in
set_option maxHeartbeats 2000000 in
theorem hopCut_walk (m : Msg) (la da : Option Addr) (lc dc : Nat) (at' : Int) (vm : Value) (t : List UInt8) (w : World) (hT : IsT w (.slice la m.lst.length lc) m.lst) (hD : IsB w (.slice da m.dat.length dc) m.dat) (hM : IsB w vm t) :
    Calls Try.prog 8 #[m.val (.slice la m.lst.length lc) (.slice da m.dat.length dc), .int .i64 at', vm] w fun e w' => e = .returned (.bool true) ∧ Below w.heap.size w w' := by
  have HT := Lib.hid hT
  have HD := Lib.hid hD
  have HLG := Lib.hid (fun W h => lawlarge_all m la da lc dc W h)
  have HEN := Lib.hid (fun W h1 h2 => henc_any m la da lc dc W h1 h2)
  unfold EncPost at HEN
  have HB0 := Lib.hid (bel_new w (.cells #[.int .i64 m.kind, .int .i64 m.id, .int .i64 m.num, .int .i64 m.tot, .int .i64 m.off, .string ⟨m.txt.toArray⟩, .slice la m.lst.length lc, .slice da m.dat.length dc] 25))
  have hm0 := MCells.box w m.kind m.id m.num m.tot m.off m.txt (.slice la m.lst.length lc) (.slice da m.dat.length dc)
  have HM0 := Lib.hid hm0
  obtain ⟨c0, c1, c2, c3, c4, c5, c6, c7⟩ := hm0
  have HCT := Lib.hid (fun h i hi => hdec_cut (m := m) h i hi)
  have HMO := Lib.hid (fun h ht => hdec_more (m := m) h t ht)
  have HNE := Lib.hid (fun h => encM_ne (m := m) h)
  have HV := Lib.hid hM
  obtain ⟨am, cm, rfl, _, _, _⟩ := hM.shape
  unfold Msg.val at *
  clear hT hD hM
  go_enter Try.func8, Try.ntmps8
  go_upto_region 1 with fail
  generalize w.alloc (.cells #[.int .i64 m.kind, .int .i64 m.id, .int .i64 m.num, .int .i64 m.tot, .int .i64 m.off, .string ⟨m.txt.toArray⟩, .slice la m.lst.length lc, .slice da m.dat.length dc] 25) = W1 at *
  by_cases hbig : 1000 < t.length
  · have hbi : (1000 : Int) < (t.length : Int) := by omega
    clear hbig
    go_wp2_with (first | (go_at_call 12; refine (HLG.out _ (HT.out.step HB0.out)).mono ?_; rintro r W2 ⟨b, rfl, hb, hb2⟩; cases b) | (go_at_call 13; refine (awake_any _).mono ?_; rintro r W3 ⟨rfl, hb3⟩))
    all_goals
      go_ret
      exact ⟨rfl, bel_step (bel_step HB0.out hb2) hb3⟩
  · have hbi : ¬ (1000 : Int) < (t.length : Int) := by omega
    have ht9 : t.length ≤ 1000 := by omega
    clear hbig
    go_upto_region 3 with (first | (go_at_call 12; refine (HLG.out _ (HT.out.step HB0.out)).mono ?_; rintro r W2 ⟨b, rfl, hb, hb2⟩; cases b) | (go_at_call 13; refine (awake_any _).mono ?_; rintro r W3 ⟨rfl, hb3⟩))
    rotate_left
    · go_ret
      exact ⟨rfl, bel_step (bel_step HB0.out hb2) hb3⟩
    · have HB3 := Lib.hid (bel_step (bel_step HB0.out hb2) hb3)
      have HM3 := Lib.hid ((HM0.out.step hb2).step hb3)
      obtain ⟨d0, d1, d2, d3, d4, d5, d6, d7⟩ := HM3.out
      clear hb hb2 hb3 c0 c1 c2 c3 c4 c5 c6 c7 HM0 HB0 HLG
      by_cases hc : codeM m = 0
      · have HNE2 := Lib.hid (HNE.out hc)
        have HCT2 := Lib.hid (HCT.out hc)
        have HMO2 := Lib.hid (HMO.out hc)
        have hel := encM_len (m := m)
        rw [hc, show errV 0 = .nilIface from rfl] at HEN
        clear hc HNE HCT HMO
        generalize encM m = b at *
        have hbpos := List.length_pos_iff.2 HNE2.out
        obtain ⟨i, hi⟩ : ∃ i : Nat, max 0 (min at' ((b.length : Int) - 1)) = (i : Int) := ⟨(max 0 (min at' ((b.length : Int) - 1))).toNat, by omega⟩
        have HC := Lib.hid (fun W => clip_any at' 0 ((b.length : Int) - 1) W)
        rw [hi] at HC
        have hib : i < b.length := by omega
        have hib' : (i : Int) < (b.length : Int) := by omega
        have hi0 : (0 : Int) ≤ (i : Int) := by omega
        have hbzI : ((b.length : Int) == 0) = false := by simp; exact HNE2.out
        have hbzJ : ¬ (b.length : Int) = 0 := by omega
        have hB6 : (b.length : Int) ≤ 200000 := by omega
        have hb1I : (1 : Int) ≤ (b.length : Int) := by omega
        have HDN := Lib.hid (fun v W hI => hdec_none (HCT2.out i hib) v W hI (by rw [List.length_take]; omega))
        unfold zeroMsg at HDN
        clear hi
        go_upto_region 4 with (go_at_call 14; refine (HEN.out _ (HT.out.step HB3.out) (HD.out.step HB3.out)).mono ?_; rintro r w3 ⟨u, rfl, ho3, hb3⟩; obtain ⟨g3, c3, rfl, hg3, hg3lt⟩ := OwnB.shape ho3 HNE2.out)
        have HB4 := Lib.hid (bel_step HB3.out hb3)
        have HO3 := Lib.hid ho3
        have hsh3 := ho3.isB.shape
        obtain ⟨_, _, hcv, hq3, hq4, _⟩ := hsh3
        simp only [Value.slice.injEq] at hcv
        obtain ⟨rfl, _, rfl⟩ := hcv
        have hq3' : (b.length : Int) ≤ (c3 : Int) := by omega
        have hq5 : (i : Int) ≤ (c3 : Int) := by omega
        have HUP := Lib.hid (ho3.isB.upto i (by omega))
        have hww : w.heap.size ≤ W3.heap.size := HB3.out.size
        clear hb3 ho3 d0 d1 d2 d3 d4 d5 d6 d7 HM3 hq4
        go_upto_region 7 with (first | (go_at_call 24; refine (HC.out _).mono ?_; rintro r w4 ⟨rfl, rfl⟩) | (go_at_call 20; (refine (HDN.out _ _ HUP.out).mono ?_); rintro r W5 ⟨rfl, hb5⟩))
        have hn := bel_new W5 (.cells #[.int .i64 0, .int .i64 0, .int .i64 0, .int .i64 0, .int .i64 0, .string ⟨#[]⟩, .slice none 0 0, .slice none 0 0] 25)
        have hmb := MBox.new W5 0 0 0 0 0 [] (.slice none 0 0) (.slice none 0 0)
        have HB6 := Lib.hid (bel_step (bel_step HB4.out hb5) hn)
        have HO6 := Lib.hid ((HO3.out.step hb5).step hn)
        have HMB := Lib.hid hmb
        have hgW : g3 < W5.heap.size := Nat.lt_of_lt_of_le hg3lt hb5.size
        have hwW5 : w.heap.size ≤ W5.heap.size := Nat.le_trans HB4.out.size hb5.size
        obtain ⟨d0, d1, d2, d3, d4, d5, d6, d7⟩ := hmb.cells
        have hz6 : W3.heap.size ≤ (W5.alloc (.cells #[.int .i64 0, .int .i64 0, .int .i64 0, .int .i64 0, .int .i64 0, .string ⟨#[]⟩, .slice none 0 0, .slice none 0 0] 25)).heap.size := Nat.le_trans (Nat.le_of_lt (Nat.lt_of_le_of_lt hg3 hgW)) hn.size
        clear hn hb5 hmb HO3 HB4 HDN HUP HCT2
        generalize W5.alloc (.cells #[.int .i64 0, .int .i64 0, .int .i64 0, .int .i64 0, .int .i64 0, .string ⟨#[]⟩, .slice none 0 0, .slice none 0 0] 25) = W6 at *
        go_upto_region 9 with (first | (go_at_call 22; (refine (empty_zero _).mono ?_); rintro r W7 ⟨rfl, hb7⟩) | (go_at_call 23; (refine (is_yes 2 (by decide) _).mono ?_); rintro r W8 ⟨rfl, rfl⟩))
        have HB7 := Lib.hid (bel_step HB6.out hb7)
        have HO7 := Lib.hid (HO6.out.step hb7)
        have HMB7 := Lib.hid (HMB.out.step hb7)
        have hz7 : W3.heap.size ≤ W7.heap.size := Nat.le_trans hz6 hb7.size
        clear hb7 HB6 HO6 HMB d0 d1 d2 d3 d4 d5 d6 d7
        by_cases ht0 : t = []
        · subst ht0
          go_wp2_with fail
          go_ret
          exact ⟨rfl, HB7.out⟩
        · have htz : ((t.length : Int) == 0) = false := by simp; exact ht0
          have hLL : (b ++ t).length ≤ 1000000 := by rw [List.length_append]; omega
          have hLN := HMO2.out ht0
          obtain ⟨L, hL⟩ : ∃ L, b ++ t = L := ⟨_, rfl⟩
          rw [hL] at hLL hLN
          have HL := Lib.hid hL
          have HDM := Lib.hid (fun v W hI => hdec_none hLN v W hI hLL)
          unfold zeroMsg at HDM
          clear ht0 hL hLN hLL
          go_upto_region 11 with fail
          go_upto_region 12 with (first | (at_builtin; refine wpList_appG rfl (.tmp 60) (.tmp 61) rfl W3.heap.size (.slice (some ⟨g3, 0, none⟩) b.length c3) b rfl HO7.out _ t rfl (HV.out.step HB7.out) (by omega) hz7 ?_; intro v8 W8 ho8 hb8 hsz8 hgr8 _; rw [HL.out] at ho8; have HO8 := Lib.hid ho8.isB; obtain ⟨a8, c8, rfl, _, _, _⟩ := ho8.isB.shape; clear ho8))
          have ho9 : Only g3 W7 W8 := by simpa [Only, Value.ownBlock] using hgr8
          have hb8w := ho9.below (B := w.heap.size) (by omega) HB7.out.size
          have hmb8 := HMB7.out.only ho9 (by omega)
          refine (HDM.out _ _ HO8.out).mono ?_
          rintro r W9 ⟨rfl, hb9⟩
          have HMB9 := Lib.hid (hmb8.step hb9)
          have HB9 := Lib.hid (bel_step (HB7.out.trans hb8w) hb9)
          obtain ⟨d0, d1, d2, d3, d4, d5, d6, d7⟩ := HMB9.out.cells
          have f0 := HMB9.out.frozen 0
          have f1 := HMB9.out.frozen 1
          have f2 := HMB9.out.frozen 2
          have f3 := HMB9.out.frozen 3
          have f4 := HMB9.out.frozen 4
          have f5 := HMB9.out.frozen 5
          have f6 := HMB9.out.frozen 6
          have f7 := HMB9.out.frozen 7
          clear hb8 hsz8 hgr8 hb8w hmb8 hb9 ho9
          go_upto_region 12 with fail
          have hst := HMB9.out.sets 0 0 0 0 0 [] (.slice none 0 0) (.slice none 0 0)
          have hb10 := (Only.sets8 W9 W5.heap.size (.int .i64 0) (.int .i64 0) (.int .i64 0) (.int .i64 0) (.int .i64 0) (.string ⟨#[]⟩) (.slice none 0 0) (.slice none 0 0)).below (B := w.heap.size) hwW5 HB9.out.size
          have HST := Lib.hid hst
          have HB10 := Lib.hid (HB9.out.trans hb10)
          clear hst hb10 d0 d1 d2 d3 d4 d5 d6 d7 f0 f1 f2 f3 f4 f5 f6 f7 HB9 HMB9
          generalize ((((((((W9.setCell ⟨W5.heap.size, 0, none⟩ (.int .i64 0)).setCell ⟨W5.heap.size, 1, none⟩ (.int .i64 0)).setCell ⟨W5.heap.size, 2, none⟩ (.int .i64 0)).setCell ⟨W5.heap.size, 3, none⟩ (.int .i64 0)).setCell ⟨W5.heap.size, 4, none⟩ (.int .i64 0)).setCell ⟨W5.heap.size, 5, none⟩ (.string ⟨#[]⟩)).setCell ⟨W5.heap.size, 6, none⟩ (.slice none 0 0)).setCell ⟨W5.heap.size, 7, none⟩ (.slice none 0 0)) = W10 at *
          obtain ⟨d0, d1, d2, d3, d4, d5, d6, d7⟩ := HST.out.cells
          go_wp2_with (first | (go_at_call 22; (refine (empty_zero _).mono ?_); rintro r W11 ⟨rfl, hb11⟩) | (go_at_call 23; (refine (is_yes 2 (by decide) _).mono ?_); rintro r W12 ⟨rfl, rfl⟩))
          go_ret
          exact ⟨rfl, bel_step HB10.out hb11⟩
      · have hv : errV (codeM m) = .iface 43 (.int .i64 (codeM m)) := by unfold errV; rw [if_neg hc]
        rw [hv] at HEN
        generalize codeM m = cc at *
        go_wp2_with (go_at_call 14; refine (HEN.out _ (HT.out.step HB3.out) (HD.out.step HB3.out)).mono ?_; rintro r W4 ⟨u, rfl, hu, hb4⟩; obtain ⟨au, cu, rfl, _, _, _⟩ := hu.isB.shape; clear hu)
        go_ret
        exact ⟨rfl, bel_step HB3.out hb4⟩
end Go.Proofs.Ytbfpjldincnihaa
