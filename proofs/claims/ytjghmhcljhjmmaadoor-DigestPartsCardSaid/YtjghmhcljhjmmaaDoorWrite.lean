/- The walk of Write: bytes of any length into a Hash of the call's own. The one condition beyond the sizes: the constants lie as the program's text lays them. -/
import Derived.Test.YtjghmhcljhjmmaaDoorHash
namespace Go.Proofs.YtjghmhcljhjmmaaDoor
open Go.RowKit
set_option linter.unusedVariables false
set_option linter.unusedSimpArgs false

theorem blocks_snoc : ∀ (k : Nat) (s : S8) (l : List UInt8), blocksP (k + 1) s l = mixP (blocksP k s l) ((l.drop (k * 64)).take 64)
  | 0, s, l => by simp [blocksP]
  | k + 1, s, l => by
    rw [blocksP, blocks_snoc k, blocksP, List.drop_drop]
    congr 3
    omega
theorem hst_cells {w : World} {b : Nat} {s : S8} {v : Value} {t : Nat} (h : VBlk 52 w b (hC s v t)) :
    w.cell? ⟨b, 0, none⟩ = some (wV s.a) ∧ w.cell? ⟨b, 1, none⟩ = some (wV s.b) ∧ w.cell? ⟨b, 2, none⟩ = some (wV s.c) ∧ w.cell? ⟨b, 3, none⟩ = some (wV s.d) ∧
    w.cell? ⟨b, 4, none⟩ = some (wV s.e) ∧ w.cell? ⟨b, 5, none⟩ = some (wV s.f) ∧ w.cell? ⟨b, 6, none⟩ = some (wV s.g) ∧ w.cell? ⟨b, 7, none⟩ = some (wV s.h) ∧
    w.cell? ⟨b, 8, none⟩ = some v ∧ w.cell? ⟨b, 9, none⟩ = some (.int .i64 (t : Int)) := by
  refine ⟨?_, ?_, ?_, ?_, ?_, ?_, ?_, ?_, ?_, ?_⟩ <;> rw [h.cell] <;> rfl
/-- 'v[64:]'. -/
theorem OwnO.cut {w : World} {base n : Nat} {a : Option Addr} {cap : Nat} {l : List UInt8} (h : OwnO w base (.slice a n cap) l) (hn : n = l.length) (h64 : 64 ≤ n) :
    ∃ g off, a = some ⟨g, off, none⟩ ∧ (cap ≠ 64 → OwnO w base (.slice (some ⟨g, off + 64, none⟩) (n - 64) (cap - 64)) (l.drop 64)) ∧ (cap = 64 → OwnO w base (.slice (some ⟨g, off, none⟩) 0 0) (l.drop 64)) := by
  subst hn
  obtain ⟨g, off, rfl, h2⟩ := h.drop 64 h64 (by omega)
  refine ⟨g, off, rfl, fun _ => h2, fun hc => ?_⟩
  rcases h with ⟨rfl, _⟩ | ⟨g', off', cap', c, hv, hb, h3, h1, h2', h4, h5⟩
  · simp at h64
  · simp only [Value.slice.injEq, Option.some.injEq, Addr.mk.injEq] at hv
    obtain ⟨⟨rfl, rfl, _⟩, _, rfl⟩ := hv
    have hl : l.drop 64 = [] := List.eq_nil_of_length_eq_zero (by rw [List.length_drop]; omega)
    rw [hl]
    exact .inr ⟨g, off, 0, c, rfl, hb, h3, Nat.le_refl _, by unfold maxLen; omega, by omega, fun i x hi => by simp at hi⟩
theorem FrO.size' {w w' : World} {p : Nat} {ob ob' : Option Nat} (h : FrO w w' p ob ob') : w.heap.size ≤ w'.heap.size := h.size
theorem FrO.setMany (w : World) (p o : Nat) (ob : Option Nat) (vs : List Value) : FrO w (w.setCells p o vs) p ob ob :=
  ⟨fun k hk hp _ => setMany_other p vs o w k hp, .inl rfl, (bel_setMany (B := 0) (b := p) vs o w (Below.refl 0 _) (Nat.zero_le _)).size⟩
set_option maxRecDepth 20000 in
set_option maxHeartbeats 4000000 in
theorem write_any (base p : Nat) (ob : Option Nat) (s : S8) (rest : List UInt8) (tot : Nat) (u : Value) (l : List UInt8) (w : World) (hk : KW w) (h0 : 0 < base) (hbs : base ≤ w.heap.size)
    (h : HBk w base p ob s rest tot) (hu : IsB w u l) (hl : tot + l.length ≤ 1099511627776) (hr : rest.length + l.length ≤ 1099511627776) :
    Calls Tryd.prog 17 #[.pointer (some ⟨p, 0, none⟩), u] w fun e w' => e = .returned (.tuple #[]) ∧ WrP w w' base p ob (blocksP ((rest ++ l).length / 64) s (rest ++ l)) ((rest ++ l).drop ((rest ++ l).length / 64 * 64)) (tot + l.length) := by
  obtain ⟨v, hbp, hp, hO, hob, hne⟩ := h
  obtain ⟨ra, rc, rfl, hrc, hrm⟩ := hO.shape
  obtain ⟨ua, uc, rfl, huc, hum, _⟩ := hu.shape
  have HK := Lib.hid hk
  -- after the total
  have H1 := Lib.hid (show VBlk 52 (w.setCell ⟨p, 9, none⟩ (.int .i64 ((tot + l.length : Nat) : Int))) p (hC s (.slice ra rest.length rc) (tot + l.length)) by
    have := hp.set 9 (.int .i64 ((tot + l.length : Nat) : Int))
    rwa [hC_setTot] at this)
  have HU1 := Lib.hid (hu.keepH (w' := w.setCell ⟨p, 9, none⟩ (.int .i64 ((tot + l.length : Nat) : Int))) hp (fun k hk hn => Below.heap_setCell w ⟨p, 9, none⟩ _ k hn))
  have HO1 := Lib.hid (hO.keep (w' := w.setCell ⟨p, 9, none⟩ (.int .i64 ((tot + l.length : Nat) : Int))) (fun k hk => Below.heap_setCell w ⟨p, 9, none⟩ _ k (by rintro rfl; exact hne (hob.symm.trans hk))))
  have HB1 := Lib.hid ((Below.refl base w).setCell (p := ⟨p, 9, none⟩) hbp (.int .i64 ((tot + l.length : Nat) : Int)))
  have HF1 := Lib.hid (FrO.set w p 9 ob (.int .i64 ((tot + l.length : Nat) : Int)))
  have c9 := (hst_cells hp).2.2.2.2.2.2.2.2.2
  have f9 := hp.frozen 9
  have HLT := Lib.hid hp.lt
  have HOB := Lib.hid hob
  have HNE := Lib.hid hne
  have HBP := Lib.hid hbp
  have HBS := Lib.hid hbs
  have htl : (tot : Int) + (l.length : Int) ≤ 1099511627776 := by omega
  have htc : (((tot + l.length : Nat) : Int)) = (tot : Int) + (l.length : Int) := by omega
  rw [htc] at H1 HU1 HO1 HB1 HF1
  clear hk hp hO hu hob hne hbp htc hbs
  go_enter Tryd.func17, Tryd.ntmps17
  go_upto_region 2 with fail
  have hs1 := HF1.out.size
  generalize w.setCell ⟨p, 9, none⟩ (.int .i64 ((tot : Int) + (l.length : Int))) = W1 at *
  have hbs1 : base ≤ W1.heap.size := by have := HBS.out; omega
  clear c9 f9
  generalize hvv : Value.slice ra rest.length rc = v at *
  generalize Value.slice ua l.length uc = u at *
  clear hvv
  have c8 := (hst_cells H1.out).2.2.2.2.2.2.2.2.1
  have hlb : rest.length + l.length ≤ 140737488355328 := by omega
  refine wp_region_list ?_
  refine wpList_plain rfl fun K hK => ?_
  go_simp
  refine hK _ _ ?_
  clear hK K
  refine wpList_plain rfl fun K hK => ?_
  go_simp
  refine hK _ _ ?_
  clear hK K
  refine wpList_plain rfl fun K hK => ?_
  go_simp
  refine hK _ _ ?_
  clear hK K
  refine wpList_plain rfl fun K hK => ?_
  go_simp
  refine hK _ _ ?_
  clear hK K
  refine wpList_plain rfl fun K hK => ?_
  go_simp
  refine hK _ _ ?_
  clear hK K
  refine wpList_plain rfl fun K hK => ?_
  go_simp
  refine hK _ _ ?_
  clear hK K
  refine wpList_appO rfl (.tmp 19) (.tmp 20) rfl base v rest rfl HO1.out u l rfl HU1.out hlb hbs1 ?_
  intro v2 w2 hO2 hB2 hfr hown
  have H2 := Lib.hid (show VBlk 52 w2 p _ from (hfr p (by have := HLT.out; omega) (by rw [HOB.out]; exact HNE.out)).trans H1.out)
  have f82 := H2.out.frozen 8
  have c82 := (hst_cells H2.out).2.2.2.2.2.2.2.2.1
  have hs2 := hB2.size
  have HF2 := Lib.hid (show FrO W1 w2 p ob v2.ownBlock from ⟨fun k hk _ ho => hfr k hk (by rw [HOB.out]; exact ho), by rw [HOB.out] at hown; exact hown, hs2⟩)
  obtain ⟨a2, n2, rfl, hn2, hm2⟩ := hO2.shape
  have HO2 := Lib.hid hO2
  have HB2 := Lib.hid (HB1.out.trans hB2)
  clear hO2 hfr hown hB2
  refine wpList_plain rfl fun K hK => ?_
  go_simp
  refine hK _ _ ?_
  clear hK K
  refine wpList_plain rfl fun K hK => ?_
  go_simp
  refine hK _ _ ?_
  clear hK K
  refine wpList_plain rfl fun K hK => ?_
  go_simp
  refine hK _ _ ?_
  clear hK K
  rw [List.length_append] at HO2 HF2
  obtain ⟨V0, hV0⟩ : ∃ V0, V0 = Value.slice a2 (rest.length + l.length) n2 := ⟨_, rfl⟩
  rw [← hV0] at HO2 HF2 ⊢
  obtain ⟨ob2, hob2⟩ : ∃ o, o = V0.ownBlock := ⟨_, rfl⟩
  rw [← hob2] at HF2
  generalize hX : rest ++ l = X at *
  have hne2 : ob2 ≠ some p := by
    rcases HF2.out.own with e | ⟨k, e, hk⟩
    · rw [e]; exact HNE.out
    · rw [e]; intro x; injection x; have := HLT.out; omega
  have H3 := Lib.hid (show VBlk 52 (w2.setCell ⟨p, 8, none⟩ V0) p (hC s V0 (tot + l.length)) from H2.out.set 8 V0)
  have HO3 := Lib.hid (HO2.out.keep (w' := w2.setCell ⟨p, 8, none⟩ V0) (fun k hk => Below.heap_setCell w2 ⟨p, 8, none⟩ _ k (by rintro rfl; exact hne2 (hob2.trans hk))))
  have HB3 := Lib.hid (HB2.out.setCell (p := ⟨p, 8, none⟩) HBP.out V0)
  have HF3 := Lib.hid ((HF1.out.trans HF2.out).trans (FrO.set w2 p 8 ob2 V0))
  generalize w2.setCell ⟨p, 8, none⟩ V0 = W3 at *
  have HOB2 := Lib.hid hob2.symm
  have HNE2 := Lib.hid hne2
  have HX := Lib.hid hX
  obtain ⟨T, hT⟩ : ∃ T, T = tot + l.length := ⟨_, rfl⟩
  rw [← hT] at H3
  have HT := Lib.hid hT
  clear hX hV0 hob2 hne2 hT HB1 HF1 HO1 H1 H2 HO2 HB2 HF2 c8 c82 f82 HU1 HLT htl
  go_wp2_with fail
  go_loopg [] (X.length / 64) (fun g wr => ∃ (k : Nat) (V : Value), g + k = X.length / 64 ∧ VBlk 52 wr p (hC (blocksP k s X) V T) ∧ OwnO wr base V (X.drop (k * 64)) ∧ V.ownBlock = ob2 ∧ Below base w wr ∧ FrO w wr p ob ob2)
  case atStart => exact ⟨0, V0, rfl, H3.out, by rw [Nat.zero_mul, List.drop_zero]; exact HO3.out, HOB2.out, HB3.out, HF3.out⟩
  case round =>
    obtain ⟨k, V, hg, hV, hO, hvb, hbl, hfr⟩ := hrel
    obtain ⟨a, cap, rfl, hc1, hc2⟩ := hO.shape
    obtain ⟨n, hn⟩ : ∃ n, n = (X.drop (k * 64)).length := ⟨_, rfl⟩
    have hn' : n = X.length - k * 64 := by rw [hn, List.length_drop]
    have hkX : k * 64 ≤ X.length := by omega
    rw [← hn] at hV hO hvb hc1
    have HN := Lib.hid hn
    have HN' := Lib.hid hn'
    have HG := Lib.hid hg
    have HV := Lib.hid hV
    have HO := Lib.hid hO
    have HVB := Lib.hid hvb
    have HBL := Lib.hid hbl
    have HFR := Lib.hid hfr
    have c8 := (hst_cells hV).2.2.2.2.2.2.2.2.1
    clear hn hn' hg hV hO hvb hbl hfr
    by_cases hlt : 64 ≤ n
    · go_upto_region 4 with fail
      obtain ⟨c0, c1, c2, c3, c4, c5, c6, c7, _, _⟩ := hst_cells HV.out
      generalize hst : blocksP k s X = st at *
      have HST := Lib.hid hst
      clear hst
      have e0 := cell_regrown c0
      have e1 := cell_regrown c1
      have e2 := cell_regrown c2
      have e3 := cell_regrown c3
      have e4 := cell_regrown c4
      have e5 := cell_regrown c5
      have e6 := cell_regrown c6
      have e7 := cell_regrown c7
      have e8 := cell_regrown c8
      clear c0 c1 c2 c3 c4 c5 c6 c7 c8
      have hci : (64 : Int) ≤ (cap : Int) := by omega
      have HL := Lib.hid (show ((X.drop (k * 64)).take 64).length = 64 by rw [List.length_take, ← HN.out]; omega)
      have HBF := Lib.hid (show IsB wr (.slice a 64 cap) ((X.drop (k * 64)).take 64) from (show IsB wr (.slice a (X.drop (k * 64)).length cap) (X.drop (k * 64)) by rw [← HN.out]; exact HO.out.isB).first 64 (by rw [← HN.out]; exact hlt))
      have HKr := Lib.hid (HK.out.base HBL.out h0)
      generalize hXk : (X.drop (k * 64)).take 64 = Xk at *
      refine wp_region_last_of (fun w' => ∃ q : Regrown, w' = Go.Sort.grow (redrawn wr q.d) q.os) rfl rfl (by kernel_rfl) (by kernel_rfl) (by kernel_rfl) (by kernel_rfl) ⟨⟨wr.drawn + 1, #[]⟩, by rw [Go.Sort.grow_empty]; rfl⟩ ?_
      dsimp only [idleLast, lastOf, idle]
      repeat (go_big_quiet_step ((go_at_call 28; refine Calls.regrown_of (mix_any st Xk _ _ (HKr.out.step (below_regrown _ _ _)) (HBF.out.step (below_regrown _ _ _)) HL.out))))
      refine wpQuiet_nil ?_
      intro w6 hw6
      have hb6 : Below wr.heap.size wr w6 := by obtain ⟨q, rfl⟩ := hw6; exact below_regrown wr q.d q.os
      have H6 := Lib.hid (HV.out.step hb6)
      have HO6 := Lib.hid (HO.out.step hb6)
      have HB6 := Lib.hid (HBL.out.trans (hb6.mono (by have := HFR.out.size; have := HBS.out; omega)))
      have HF6 := Lib.hid (HFR.out.trans (FrO.below hb6 p ob2))
      have HSN := Lib.hid (show blocksP (k + 1) s X = mixP st Xk by rw [blocks_snoc, HST.out, hXk])
      generalize mixP st Xk = M at *
      refine wpList_store_mid rfl 48 (.tmp 42) (.tmp 40) rfl p 0 (stV M).toArray rfl rfl (H6.out.there 0 8 (by rw [hC_len]; omega)) size48 (all_oneCell_toArray (wV_one M.list)) ?_
      rw [List.toList_toArray]
      have H7 := Lib.hid (show VBlk 52 (w6.setCells p 0 (stV M)) p (hC M (.slice a n cap) T) from H6.out.setAt 0 (stV M) (by rw [hC_len, stV_len]; omega))
      have HO7 := Lib.hid (HO6.out.keep (w' := w6.setCells p 0 (stV M)) (fun q hq => setMany_other p (stV M) 0 w6 q (by rintro rfl; exact HNE2.out (HVB.out.symm.trans hq))))
      have HB7 := Lib.hid (bel_setMany (b := p) (stV M) 0 w6 HB6.out HBP.out)
      have HF7 := Lib.hid (HF6.out.trans (FrO.setMany w6 p 0 ob2 (stV M)))
      generalize w6.setCells p 0 (stV M) = W7 at *
      have d8 := (hst_cells H7.out).2.2.2.2.2.2.2.2.1
      have f8 := H7.out.frozen 8
      clear e0 e1 e2 e3 e4 e5 e6 e7 e8 hw6 hb6 HBF HKr HV HO HBL HFR
      obtain ⟨g, off, hag, hod1, hod2⟩ := OwnO.cut HO7.out HN.out hlt
      subst hag
      have HOD1 := Lib.hid hod1
      have HOD2 := Lib.hid hod2
      clear hod1 hod2
      by_cases hcc : cap = 64
      · subst hcc
        obtain rfl : n = 64 := by omega
        have HW := Lib.hid (show VBlk 52 (W7.setCell ⟨p, 8, none⟩ (.slice (some ⟨g, off, none⟩) 0 0)) p (hC M (.slice (some ⟨g, off, none⟩) 0 0) T) from H7.out.set 8 _)
        have HOW := Lib.hid ((HOD2.out rfl).keep (w' := W7.setCell ⟨p, 8, none⟩ (.slice (some ⟨g, off, none⟩) 0 0)) (fun q hq => Below.heap_setCell W7 ⟨p, 8, none⟩ _ q (by rintro rfl; exact HNE2.out (HVB.out.symm.trans hq))))
        have HBW := Lib.hid (HB7.out.setCell (p := ⟨p, 8, none⟩) HBP.out (.slice (some ⟨g, off, none⟩) 0 0))
        have HFW := Lib.hid (HF7.out.trans (FrO.set W7 p 8 ob2 (.slice (some ⟨g, off, none⟩) 0 0)))
        go_wp2_with fail
        go_roundg (gk - 1)
        case rel => exact ⟨k + 1, .slice (some ⟨g, off, none⟩) 0 0, by have := HG.out; have := HN'.out; omega, by rw [HSN.out]; exact HW.out, by rw [Nat.add_mul, Nat.one_mul, ← List.drop_drop]; exact HOW.out, HVB.out, HBW.out, HFW.out⟩
        case measure => have := HG.out; have := HN'.out; omega
      · have HW := Lib.hid (show VBlk 52 (W7.setCell ⟨p, 8, none⟩ (.slice (some ⟨g, off + 64, none⟩) (n - 64) (cap - 64))) p (hC M (.slice (some ⟨g, off + 64, none⟩) (n - 64) (cap - 64)) T) from H7.out.set 8 _)
        have HOW := Lib.hid ((HOD1.out hcc).keep (w' := W7.setCell ⟨p, 8, none⟩ (.slice (some ⟨g, off + 64, none⟩) (n - 64) (cap - 64))) (fun q hq => Below.heap_setCell W7 ⟨p, 8, none⟩ _ q (by rintro rfl; exact HNE2.out (HVB.out.symm.trans hq))))
        have HBW := Lib.hid (HB7.out.setCell (p := ⟨p, 8, none⟩) HBP.out (.slice (some ⟨g, off + 64, none⟩) (n - 64) (cap - 64)))
        have HFW := Lib.hid (HF7.out.trans (FrO.set W7 p 8 ob2 (.slice (some ⟨g, off + 64, none⟩) (n - 64) (cap - 64))))
        go_wp2_with fail
        go_roundg (gk - 1)
        case rel => exact ⟨k + 1, .slice (some ⟨g, off + 64, none⟩) (n - 64) (cap - 64), by have := HG.out; have := HN'.out; omega, by rw [HSN.out]; exact HW.out, by rw [Nat.add_mul, Nat.one_mul, ← List.drop_drop]; exact HOW.out, HVB.out, HBW.out, HFW.out⟩
        case measure => have := HG.out; have := HN'.out; omega
    · have hnl : n < 64 := by omega
      have hge : decide ((64 : Int) ≤ (n : Int)) = false := by rw [decide_eq_false_iff_not]; omega
      have hk2 : k = X.length / 64 := by have := HG.out; have := HN'.out; omega
      subst hk2
      have HR := Lib.hid (show WrP w wr base p ob (blocksP (X.length / 64) s X) (X.drop (X.length / 64 * 64)) T from ⟨ob2, ⟨.slice a n cap, HBP.out, HV.out, HO.out, HVB.out, HNE2.out⟩, HBL.out, HFR.out⟩)
      rw [HT.out, ← HX.out] at HR
      go_wp2_with fail
      go_end0
      exact ⟨rfl, HR.out⟩
end Go.Proofs.YtjghmhcljhjmmaaDoor
