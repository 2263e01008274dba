/- The walk of mix. The one condition: the constants lie as the program's text lays them. -/
import Derived.Test.YtjghmhcljhjmmaaDoorSched
namespace Go.Proofs.YtjghmhcljhjmmaaDoor
open Go.RowKit
set_option linter.unusedVariables false
set_option linter.unusedSimpArgs false

/-- What the constants' variable holds. -/
def KW (w : World) : Prop := ∀ t x, kC[t]? = some x → w.cell? ⟨0, t, none⟩ = some (wV x)
theorem KW.step {w w' : World} (h : KW w) (hb : Below w.heap.size w w') : KW w' := fun t x hx => keep_at hb (h t x hx)
/-- The cells of a block that holds a state. -/
theorem st_cells {w : World} {b : Nat} {s : S8} (h : VBlk 48 w b (stV s)) :
    w.cell? ⟨b, 0, none⟩ = some (wV s.a) ∧ w.cell? ⟨b, 1, none⟩ = some (wV s.b) ∧ w.cell? ⟨b, 2, none⟩ = some (wV s.c) ∧ w.cell? ⟨b, 3, none⟩ = some (wV s.d) ∧
    w.cell? ⟨b, 4, none⟩ = some (wV s.e) ∧ w.cell? ⟨b, 5, none⟩ = some (wV s.f) ∧ w.cell? ⟨b, 6, none⟩ = some (wV s.g) ∧ w.cell? ⟨b, 7, none⟩ = some (wV s.h) := by
  refine ⟨?_, ?_, ?_, ?_, ?_, ?_, ?_, ?_⟩ <;> rw [h.cell] <;> rfl
def zs : S8 := ⟨0, 0, 0, 0, 0, 0, 0, 0⟩
theorem kC_len : kC.length = 64 := by rfl
theorem rounds_snoc : ∀ (l : List (W32 × W32)) (s : S8) (k w : W32), roundsP s (l ++ [(k, w)]) = roundP (roundsP s l) k w
  | [], _, _, _ => rfl
  | (a, b) :: l, s, k, w => by rw [List.cons_append, roundsP, rounds_snoc l, roundsP]
theorem moreW_len : ∀ (n : Nat) (l : List W32), (moreW n l).length = l.length + n
  | 0, _ => rfl
  | n + 1, l => by rw [moreW, moreW_len n, List.length_append, List.length_singleton]; omega
theorem schedP_len (b : List UInt8) (h : b.length = 64) : (schedP b).length = 64 := by
  rw [schedP, moreW_len, firstW_len 16 b (by omega)]
/-- The complement of a word. -/
theorem not_w (x : W32) : bits .xor .u32 (if IntKind.u32.signed = true then -1 else IntKind.u32.max) (wn x : Int) = (wn (~~~x) : Int) := by
  have h := x.isLt
  rw [show (if IntKind.u32.signed = true then (-1 : Int) else IntKind.u32.max) = (wn (BitVec.allOnes 32) : Int) by decide, xor_w, BitVec.allOnes_xor]
theorem still_quiet2 {P : Program} {f : FuncId} {args : Array Value} {w : World} {a n : Nat} {v : Value} (h : Calls P f args (w.drewN (a + n)) fun e w' => e = .returned v ∧ w.drewN (a + n) = w') :
    Calls P f args (w.drewN (a + n)) fun e w' => e = .returned v ∧ ∃ m, w' = w.drewN (a + m) :=
  h.mono fun _ _ x => ⟨x.1, n, x.2.symm⟩
/-- All the rotations at once. -/
theorem rot_all (x : W32) (n : Int) (hn : n = 6 ∨ n = 11 ∨ n = 25 ∨ n = 2 ∨ n = 13 ∨ n = 22 ∨ n = 17 ∨ n = 19 ∨ n = 7 ∨ n = 18) (w : World) : Calls Tryd.prog 38 #[.int .u32 (wn x : Int), .int .i64 n] w fun e w' => e = .returned (.int .u32 (wn (rr x n.toNat) : Int)) ∧ w = w' := by
  rcases hn with rfl | rfl | rfl | rfl | rfl | rfl | rfl | rfl | rfl | rfl
  · exact rotr_6 x w
  · exact rotr_11 x w
  · exact rotr_25 x w
  · exact rotr_2 x w
  · exact rotr_13 x w
  · exact rotr_22 x w
  · exact rotr_17 x w
  · exact rotr_19 x w
  · exact rotr_7 x w
  · exact rotr_18 x w
/-- The sums, as far as they are made. -/
def mixL (st s : S8) (k : Nat) : List W32 := (List.range 8).map fun j => if j < k then st.list.getD j 0 + s.list.getD j 0 else st.list.getD j 0
theorem mixL_zero (st s : S8) : (mixL st s 0).map wV = stV st := rfl
theorem mixL_all (st s : S8) : mixL st s 8 = (addS st s).list := rfl
theorem mixL_at (st s : S8) {k : Nat} (h : k < 8) : ((mixL st s k).map wV)[k]? = some (wV (st.list.getD k 0)) := by
  match k, h with
  | 0, _ | 1, _ | 2, _ | 3, _ | 4, _ | 5, _ | 6, _ | 7, _ => rfl
  | n + 8, h => exact absurd h (by omega)
theorem stV_at (s : S8) {k : Nat} (h : k < 8) : (stV s)[k]? = some (wV (s.list.getD k 0)) := by
  match k, h with
  | 0, _ | 1, _ | 2, _ | 3, _ | 4, _ | 5, _ | 6, _ | 7, _ => rfl
  | n + 8, h => exact absurd h (by omega)
theorem mixL_set (st s : S8) {k : Nat} (h : k < 8) : (mixL st s k).set k (st.list.getD k 0 + s.list.getD k 0) = mixL st s (k + 1) := by
  match k, h with
  | 0, _ | 1, _ | 2, _ | 3, _ | 4, _ | 5, _ | 6, _ | 7, _ => rfl
  | n + 8, h => exact absurd h (by omega)
theorem zs_box (w : World) : VBlk 48 (w.alloc (.cells #[.int .u32 0, .int .u32 0, .int .u32 0, .int .u32 0, .int .u32 0, .int .u32 0, .int .u32 0, .int .u32 0] 48)) w.heap.size (stV zs) := heap_alloc_new w _
theorem size48 : (Tryd.prog.info? 48).map (·.size) = some 8 := by kernel_rfl
theorem size57 : (Tryd.prog.info? 57).map (·.size) = some 64 := by kernel_rfl
theorem range_all {T : TypeId} {w : World} {b : Nat} {c : List Value} (h : VBlk T w b c) : w.rangeAt b 0 c := h.range 0 c (fun j v hj => by rwa [Nat.zero_add])
abbrev z8 : Obj := .cells #[.int .u32 0, .int .u32 0, .int .u32 0, .int .u32 0, .int .u32 0, .int .u32 0, .int .u32 0, .int .u32 0] 48
set_option maxRecDepth 20000 in
set_option maxHeartbeats 8000000 in
theorem mix_any (s : S8) (b : List UInt8) (v : Value) (w : World) (hk : KW w) (hv : IsB w v b) (hb : b.length = 64) :
    Calls Tryd.prog 28 #[.agg (stV s).toArray, v] w fun e w' => e = .returned (.agg (stV (mixP s b)).toArray) ∧ Below w.heap.size w w' := by
  have HK := Lib.hid hk
  have HV := Lib.hid hv
  have HS := Lib.hid (fun W (h : IsB W v b) => sched_any b v W h hb)
  have HSL := Lib.hid (schedP_len b hb)
  have hsz : ((w.alloc (.cells (stV s).toArray 48)).alloc z8).heap.size = w.heap.size + 2 := by simp [go_sem]
  have H0 := Lib.hid ((VBlk.box 48 w (stV s)).alloc z8)
  have H1 := Lib.hid (zs_box (w.alloc (.cells (stV s).toArray 48)))
  have hs1 : (w.alloc (.cells (stV s).toArray 48)).heap.size = w.heap.size + 1 := by simp [go_sem]
  rw [hs1] at H1
  have HB1 := Lib.hid (bel_step (bel_new w (.cells (stV s).toArray 48)) (bel_new (w.alloc (.cells (stV s).toArray 48)) z8))
  have HO8 := Lib.hid (all_oneCell_toArray (wV_one s.list))
  have HR := Lib.hid (show mixP s b = addS (roundsP s (kC.zip (schedP b))) s from rfl)
  clear hk hv hb hs1
  generalize hM : mixP s b = M at *
  clear hM
  generalize schedP b = sch at *
  obtain ⟨SV, hSV⟩ : ∃ SV, SV = stV s := ⟨_, rfl⟩
  have HSV := Lib.hid hSV
  have HSVL := Lib.hid (show SV.length = 8 by rw [hSV]; rfl)
  rw [show s.list.map wV = stV s from rfl] at HO8
  rw [← hSV] at H0 H1 HB1 hsz HO8 ⊢
  have HI8 := Lib.hid (show (Tryd.prog.info? 48).map (·.size) = some SV.length by rw [HSVL.out]; exact size48)
  have HSA := Lib.hid (show SV.toArray.size = 8 by rw [List.size_toArray]; exact HSVL.out)
  have HI8a := Lib.hid (show (Tryd.prog.info? 48).map (·.size) = some SV.toArray.size by rw [List.size_toArray, HSVL.out]; exact size48)
  clear hSV
  obtain ⟨CV, hCV⟩ : ∃ CV, CV = sch.map wV := ⟨_, rfl⟩
  have HCV := Lib.hid hCV
  have HCL := Lib.hid (show CV.length = 64 by rw [hCV, List.length_map]; exact HSL.out)
  have HO64 := Lib.hid (all_oneCell_toArray (wV_one sch))
  rw [← hCV] at HO64 HS
  have HCA := Lib.hid (show CV.toArray.size = 64 by rw [List.size_toArray]; exact HCL.out)
  have HI64a := Lib.hid (show (Tryd.prog.info? 57).map (·.size) = some CV.toArray.size by rw [List.size_toArray, HCL.out]; exact size57)
  clear hCV
  go_enter Tryd.func28, Tryd.ntmps28
  go_upto_region 1 with fail
  change Code.wp _ _ _ _ ((w.alloc (.cells SV.toArray 48)).alloc z8)
  generalize (w.alloc (.cells SV.toArray 48)).alloc z8 = W1 at *
  refine wp_region_list ?_
  refine wpList_plain rfl fun K hK => ?_
  go_simp
  refine hK _ _ ?_
  clear hK K
  refine wpList_plain rfl fun K hK => ?_
  go_simp
  refine (HS.out _ (HV.out.step HB1.out)).mono ?_
  rintro e w2 ⟨rfl, hb2⟩
  have HB2 := Lib.hid (bel_step HB1.out hb2)
  have H02 := Lib.hid (H0.out.step hb2)
  have H12 := Lib.hid (H1.out.step hb2)
  have hsz2 := hb2.size
  clear hb2
  refine hK _ _ ?_
  clear hK K
  refine wpList_plain rfl fun K hK => ?_
  go_simp
  refine hK _ _ ?_
  clear hK K
  refine wpList_store_mid rfl 57 (.tmp 5) (.tmp 14) rfl w2.heap.size 0 CV.toArray rfl rfl (by have := (VBlk.zeros w2).there 0 64 (by rw [padW_len (by simp)]; omega); rw [HCA.out]; exact this) HI64a.out HO64.out ?_
  rw [List.toList_toArray]
  have hbw0 : w.heap.size + 2 ≤ w2.heap.size := by omega
  have H03 := Lib.hid ((H02.out.alloc (.cells z64 57)).otherMany (g := w2.heap.size) (o := 0) (vs := CV) (by omega))
  have H13 := Lib.hid ((H12.out.alloc (.cells z64 57)).otherMany (g := w2.heap.size) (o := 0) (vs := CV) (by omega))
  have HW3 := Lib.hid ((VBlk.zeros w2).whole (d := CV) (by rw [padW_len (by simp), HCL.out]))
  have HB3 := Lib.hid (bel_setMany CV 0 _ (bel_step HB2.out (bel_new w2 (.cells z64 57))) (show w.heap.size ≤ w2.heap.size by omega))
  have hsz3 : w2.heap.size + 1 ≤ ((w2.alloc (.cells z64 57)).setCells w2.heap.size 0 CV).heap.size := by
    have := (bel_setMany (B := 0) (b := w2.heap.size) CV 0 (w2.alloc (.cells z64 57)) (Below.refl 0 _) (Nat.zero_le _)).size
    simpa [go_sem] using this
  change wpList _ _ _ _ _ ((w2.alloc (.cells z64 57)).setCells w2.heap.size 0 CV)
  generalize (w2.alloc (.cells z64 57)).setCells w2.heap.size 0 CV = W3 at *
  obtain ⟨bW, hbW⟩ : ∃ bW, bW = w2.heap.size := ⟨_, rfl⟩
  rw [← hbW] at HW3 hsz3 hbw0 ⊢
  clear hbW HB2 H02 H12 hsz2
  go_upto_region 2 with fail
  refine wp_region_list ?_
  refine wpList_load_mid rfl 48 (.tmp 2) rfl w.heap.size 0 rfl SV _ (range_all H03.out) Tryd.underlying48 rfl HI8.out ?_
  refine wpList_plain rfl fun K hK => ?_
  go_simp
  refine hK _ _ ?_
  clear hK K
  refine wpList_store_mid rfl 48 (.tmp 6) (.tmp 15) rfl W3.heap.size 0 SV.toArray rfl rfl (by have := (zs_box W3).there 0 8 (by rw [stV_len]; omega); rw [HSA.out]; exact this) HI8a.out HO8.out ?_
  rw [List.toList_toArray]
  have H04 := Lib.hid ((H03.out.alloc z8).otherMany (g := W3.heap.size) (o := 0) (vs := SV) (by omega))
  have H14 := Lib.hid ((H13.out.alloc z8).otherMany (g := W3.heap.size) (o := 0) (vs := SV) (by omega))
  have HW4 := Lib.hid ((HW3.out.alloc z8).otherMany (g := W3.heap.size) (o := 0) (vs := SV) (by omega))
  have HS4 := Lib.hid ((zs_box W3).whole (d := SV) (by rw [stV_len, HSVL.out]))
  have HB4 := Lib.hid (bel_setMany SV 0 _ (bel_step HB3.out (bel_new W3 z8)) (show w.heap.size ≤ W3.heap.size by omega))
  change wpList _ _ _ _ _ ((W3.alloc z8).setCells W3.heap.size 0 SV)
  generalize (W3.alloc z8).setCells W3.heap.size 0 SV = W4 at *
  obtain ⟨bS, hbS⟩ : ∃ bS, bS = W3.heap.size := ⟨_, rfl⟩
  rw [← hbS] at HS4 hsz3 ⊢
  clear hbS HB3 H03 H13 HW3 HB1 H0 H1 hsz
  go_upto_region 3 with fail
  have hne0 : bS ≠ bW := by have := HW4.out.lt; omega
  go_wp2_with fail
  go_loopw [16] (fun i wr => ∃ k : Nat, i = .int .i64 k ∧ k ≤ 64 ∧ VBlk 48 wr bS (stV (roundsP s ((kC.zip sch).take k))) ∧ VBlk 57 wr bW CV ∧ VBlk 48 wr w.heap.size SV ∧ VBlk 48 wr (w.heap.size + 1) (stV zs) ∧ Below w.heap.size w wr) (fun i _ => 64 - (intOf i).toNat)
  case atStart => exact ⟨0, rfl, by omega, by rw [List.take_zero]; rw [HSV.out] at HS4; exact HS4.out, HW4.out, H04.out, H14.out, HB4.out⟩
  case round =>
    obtain ⟨k, rfl, hk, hS, hW, h0, h1, hbl⟩ := hrel
    by_cases hlt : k < 64
    · obtain ⟨kc, hkc⟩ : ∃ x, kC[k]? = some x := ⟨kC[k]'(by rw [kC_len]; exact hlt), List.getElem?_eq_getElem _⟩
      obtain ⟨wk, hwk⟩ : ∃ x, sch[k]? = some x := ⟨sch[k]'(by rw [HSL.out]; exact hlt), List.getElem?_eq_getElem _⟩
      have hzk : (kC.zip sch)[k]? = some (kc, wk) := by rw [List.getElem?_zip_eq_some]; exact ⟨hkc, hwk⟩
      have hcK := keep_at hbl (HK.out k kc hkc)
      have hcW : wr.cell? ⟨bW, k, none⟩ = some (wV wk) := by rw [hW.cell, HCV.out, List.getElem?_map, hwk]; rfl
      have HT := Lib.hid (show roundsP s ((kC.zip sch).take (k + 1)) = roundP (roundsP s ((kC.zip sch).take k)) kc wk by
        obtain ⟨hzl, hze⟩ := List.getElem?_eq_some_iff.1 hzk
        rw [List.take_succ_eq_append_getElem hzl, hze, rounds_snoc])
      generalize roundsP s ((kC.zip sch).take k) = st at hS HT
      obtain ⟨c0, c1, c2, c3, c4, c5, c6, c7⟩ := st_cells hS
      obtain ⟨xa, xb, xc, xd, xe, xf, xg, xh⟩ := st
      dsimp only at c0 c1 c2 c3 c4 c5 c6 c7
      have HS5 := Lib.hid hS
      have HW5 := Lib.hid hW
      have H05 := Lib.hid h0
      have H15 := Lib.hid h1
      have HB5 := Lib.hid hbl
      have r1 := xor_w (rr xe 6) (rr xe 11)
      have r2 := xor_w (rr xe 6 ^^^ rr xe 11) (rr xe 25)
      have r3 := and_w xe xf
      have r4 := not_w xe
      have r5 := and_w (~~~xe) xg
      have r6 := xor_w (xe &&& xf) (~~~xe &&& xg)
      have a1 := add_w xh (rr xe 6 ^^^ rr xe 11 ^^^ rr xe 25)
      have a2 := add_w (xh + (rr xe 6 ^^^ rr xe 11 ^^^ rr xe 25)) (xe &&& xf ^^^ ~~~xe &&& xg)
      have a3 := add_w (xh + (rr xe 6 ^^^ rr xe 11 ^^^ rr xe 25) + (xe &&& xf ^^^ ~~~xe &&& xg)) kc
      have a4 := add_w (xh + (rr xe 6 ^^^ rr xe 11 ^^^ rr xe 25) + (xe &&& xf ^^^ ~~~xe &&& xg) + kc) wk
      have hk0 : (0 : Int) ≤ (k : Int) := by omega
      have hki : (k : Int) < 64 := by omega
      unfold wV at hcK hcW c0 c1 c2 c3 c4 c5 c6 c7
      clear hkc hwk hzk hS hW h0 h1 hbl hk hlt
      go_upto_region 6 with fail
      go_quiet (fail)
      go_wp2_with fail
      go_quiet ((go_at_call 38; refine still_quiet2 (rot_all _ _ ?_ _); decide))
      rw [a4]
      clear r1 r2 r3 r4 r5 r6 a1 a2 a3 a4 hcK hcW
      have ht1 : xh + (rr xe 6 ^^^ rr xe 11 ^^^ rr xe 25) + (xe &&& xf ^^^ ~~~xe &&& xg) + kc + wk = t1P ⟨xa, xb, xc, xd, xe, xf, xg, xh⟩ kc wk := rfl
      rw [ht1]
      clear ht1
      generalize hT1 : t1P ⟨xa, xb, xc, xd, xe, xf, xg, xh⟩ kc wk = T1
      have HT1 := Lib.hid hT1
      have r1 := xor_w (rr xa 2) (rr xa 13)
      have r2 := xor_w (rr xa 2 ^^^ rr xa 13) (rr xa 22)
      have r3 := and_w xa xb
      have r4 := and_w xa xc
      have r5 := xor_w (xa &&& xb) (xa &&& xc)
      have r6 := and_w xb xc
      have r7 := xor_w (xa &&& xb ^^^ xa &&& xc) (xb &&& xc)
      have a1 : ((wn (rr xa 2 ^^^ rr xa 13 ^^^ rr xa 22) : Int) + (wn (xa &&& xb ^^^ xa &&& xc ^^^ xb &&& xc) : Int)) % 4294967296 = (wn (t2P ⟨xa, xb, xc, xd, xe, xf, xg, xh⟩) : Int) := add_w _ _
      clear hT1
      go_wp2_with fail
      go_quiet ((go_at_call 38; refine still_quiet2 (rot_all _ _ ?_ _); decide))
      try rw [a1]
      clear r1 r2 r3 r4 r5 r6 r7 a1
      generalize hT2 : t2P ⟨xa, xb, xc, xd, xe, xf, xg, xh⟩ = T2
      have HT2 := Lib.hid hT2
      clear hT2
      rename_i nq1 nq2 K9 a9
      have HS6 := Lib.hid (show VBlk 48 (((wr.drewN nq1).drewN nq2).drewN nq) bS _ from HS5.out)
      have HW6 := Lib.hid (show VBlk 57 (((wr.drewN nq1).drewN nq2).drewN nq) bW CV from HW5.out)
      have H06 := Lib.hid (show VBlk 48 (((wr.drewN nq1).drewN nq2).drewN nq) w.heap.size SV from H05.out)
      have H16 := Lib.hid (show VBlk 48 (((wr.drewN nq1).drewN nq2).drewN nq) (w.heap.size + 1) (stV zs) from H15.out)
      have HB6 := Lib.hid (bel_draws (bel_draws (bel_draws HB5.out nq1) nq2) nq)
      clear HS5 HW5 H05 H15 HB5 c0 c1 c2 c3 c4 c5 c6 c7
      generalize ((wr.drewN nq1).drewN nq2).drewN nq = W6 at *
      obtain ⟨c0, c1, c2, c3, c4, c5, c6, c7⟩ := st_cells HS6.out
      dsimp only at c0 c1 c2 c3 c4 c5 c6 c7
      have z0 := HS6.out.frozen 0
      have z1 := HS6.out.frozen 1
      have z2 := HS6.out.frozen 2
      have z3 := HS6.out.frozen 3
      have z4 := HS6.out.frozen 4
      have z5 := HS6.out.frozen 5
      have z6 := HS6.out.frozen 6
      have z7 := HS6.out.frozen 7
      have a1 := add_w T1 T2
      have a2 := add_w xd T1
      unfold wV at c0 c1 c2 c3 c4 c5 c6 c7
      go_upto_region 10 with fail
      change Code.wp _ _ _ _ (W6.setCells bS 0 (stV ⟨T1 + T2, xa, xb, xc, xd + T1, xe, xf, xg⟩))
      have HS7 := Lib.hid (HS6.out.whole (d := stV ⟨T1 + T2, xa, xb, xc, xd + T1, xe, xf, xg⟩) rfl)
      have HW7 := Lib.hid (HW6.out.otherMany (g := bS) (o := 0) (vs := stV ⟨T1 + T2, xa, xb, xc, xd + T1, xe, xf, xg⟩) (Ne.symm hne0))
      have H07 := Lib.hid (H06.out.otherMany (g := bS) (o := 0) (vs := stV ⟨T1 + T2, xa, xb, xc, xd + T1, xe, xf, xg⟩) (by omega))
      have H17 := Lib.hid (H16.out.otherMany (g := bS) (o := 0) (vs := stV ⟨T1 + T2, xa, xb, xc, xd + T1, xe, xf, xg⟩) (by omega))
      have HB7 := Lib.hid (bel_setMany (b := bS) (stV ⟨T1 + T2, xa, xb, xc, xd + T1, xe, xf, xg⟩) 0 W6 HB6.out (by omega))
      generalize W6.setCells bS 0 (stV ⟨T1 + T2, xa, xb, xc, xd + T1, xe, xf, xg⟩) = W7 at *
      clear c0 c1 c2 c3 c4 c5 c6 c7 z0 z1 z2 z3 z4 z5 z6 z7 a1 a2 HS6 HW6 H06 H16 HB6
      have HST := Lib.hid (show roundP ⟨xa, xb, xc, xd, xe, xf, xg, xh⟩ kc wk = ⟨T1 + T2, xa, xb, xc, xd + T1, xe, xf, xg⟩ by
        unfold roundP
        rw [HT1.out, HT2.out])
      go_wp2_with fail
      go_roundw
      case rel => exact ⟨k + 1, by go_num, by omega, by rw [HT.out, HST.out]; exact HS7.out, HW7.out, H07.out, H17.out, HB7.out⟩
      case measure => simp [intOf]; omega
    · obtain rfl : k = 64 := by omega
      rw [show (((64 : Nat)) : Int) = (64 : Int) from rfl]
      rw [List.take_of_length_le (by rw [List.length_zip, kC_len, HSL.out]; omega)] at hS
      obtain ⟨st, hst⟩ : ∃ st, st = roundsP s (kC.zip sch) := ⟨_, rfl⟩
      rw [← hst] at hS HR
      have HS5 := Lib.hid hS
      have H05 := Lib.hid h0
      have H15 := Lib.hid h1
      have HB5 := Lib.hid hbl
      clear hS hW h0 h1 hbl hst hk hlt
      go_wp2_with fail
      go_loopw [98] (fun i wr => ∃ k : Nat, i = .int .i64 k ∧ k ≤ 8 ∧ VBlk 48 wr bS ((mixL st s k).map wV) ∧ VBlk 48 wr w.heap.size SV ∧ VBlk 48 wr (w.heap.size + 1) (stV zs) ∧ Below w.heap.size w wr) (fun i _ => 8 - (intOf i).toNat)
      case atStart => exact ⟨0, rfl, by omega, by rw [mixL_zero]; exact HS5.out, H05.out, H15.out, HB5.out⟩
      case round =>
        obtain ⟨k, rfl, hk, hS, h0, h1, hbl⟩ := hrel
        by_cases hlt : k < 8
        · have c0 : wr.cell? ⟨bS, k, none⟩ = some (wV (st.list.getD k 0)) := by rw [hS.cell]; exact mixL_at st s hlt
          have c1 : wr.cell? ⟨w.heap.size, k, none⟩ = some (wV (s.list.getD k 0)) := by rw [h0.cell, HSV.out]; exact stV_at s hlt
          have hfz := hS.frozen k
          have a1 := add_w (st.list.getD k 0) (s.list.getD k 0)
          have HSET := Lib.hid (show VBlk 48 (wr.setCell ⟨bS, k, none⟩ (wV (st.list.getD k 0 + s.list.getD k 0))) bS ((mixL st s (k + 1)).map wV) by
            have := hS.set k (wV (st.list.getD k 0 + s.list.getD k 0))
            rwa [← List.map_set, mixL_set st s hlt] at this)
          have H0S := Lib.hid (h0.other (a := ⟨bS, k, none⟩) (by show w.heap.size ≠ bS; omega) (wV (st.list.getD k 0 + s.list.getD k 0)))
          have H1S := Lib.hid (h1.other (a := ⟨bS, k, none⟩) (by show w.heap.size + 1 ≠ bS; omega) (wV (st.list.getD k 0 + s.list.getD k 0)))
          have HBS := Lib.hid (hbl.setCell (p := ⟨bS, k, none⟩) (show w.heap.size ≤ bS by omega) (wV (st.list.getD k 0 + s.list.getD k 0)))
          generalize st.list.getD k 0 = p at *
          generalize s.list.getD k 0 = q at *
          unfold wV at c0 c1 HSET H0S H1S HBS
          have hk0 : (0 : Int) ≤ (k : Int) := by omega
          have hki : (k : Int) < 8 := by omega
          clear hS h0 h1 hbl
          go_wp2_with fail
          go_region
          have HSET2 := Lib.hid (show VBlk 48 (wr.setCell ⟨bS, k, none⟩ (.int .u32 (wn (p + q)))).drew bS _ from HSET.out)
          have H0S2 := Lib.hid (show VBlk 48 (wr.setCell ⟨bS, k, none⟩ (.int .u32 (wn (p + q)))).drew w.heap.size SV from H0S.out)
          have H1S2 := Lib.hid (show VBlk 48 (wr.setCell ⟨bS, k, none⟩ (.int .u32 (wn (p + q)))).drew (w.heap.size + 1) (stV zs) from H1S.out)
          have HBS2 := Lib.hid (bel_drew2 HBS.out)
          clear c0 c1 hfz a1 HSET H0S H1S HBS
          generalize (wr.setCell ⟨bS, k, none⟩ (.int .u32 (wn (p + q)))).drew = W8 at *
          go_wp2_with fail
          go_roundw
          case rel => exact ⟨k + 1, by go_num, by omega, HSET2.out, H0S2.out, H1S2.out, HBS2.out⟩
          case measure => simp [intOf]; omega
        · obtain rfl : k = 8 := by omega
          rw [show (((8 : Nat)) : Int) = (8 : Int) from rfl]
          rw [mixL_all, ← HR.out] at hS
          have HONE := Lib.hid (show (stV M).toArray.all (·.oneCell') = true from all_oneCell_toArray (wV_one M.list))
          have HRG := Lib.hid (range_all (show VBlk 48 wr bS (stV M) from hS))
          have HSZ := Lib.hid (show (Tryd.prog.info? 48).map (·.size) = some (stV M).length from size48)
          have HSZa := Lib.hid (show (Tryd.prog.info? 48).map (·.size) = some (stV M).toArray.size from size48)
          have HTH := Lib.hid (show wr.there (w.heap.size + 1) 0 (stV M).toArray.size from h1.there 0 8 (by rw [stV_len]; omega))
          have HRN := Lib.hid (show VBlk 48 (wr.setCells (w.heap.size + 1) 0 (stV M)) (w.heap.size + 1) (stV M) from h1.whole rfl)
          have HBN := Lib.hid (bel_setMany (b := w.heap.size + 1) (stV M) 0 wr hbl (Nat.le_succ _))
          have HLD := Lib.hid (show (loadVar 48 ⟨w.heap.size + 1, 0, none⟩).run Tryd.prog (wr.setCells (w.heap.size + 1) 0 (stV M)) = .ok (.agg (stV M).toArray) (wr.setCells (w.heap.size + 1) 0 (stV M)) from
            run_loadVar_mid _ (w.heap.size + 1) 0 48 (stV M) _ (range_all HRN.out) Tryd.underlying48 rfl HSZ.out)
          generalize hC : stV M = C at *
          have HC := Lib.hid hC
          clear hC
          clear hS h0 h1 hbl hk hlt
          go_upto_region 16 with fail
          refine wp_region_list ?_
          refine wpList_load_mid rfl 48 (.tmp 6) rfl bS 0 rfl C _ HRG.out Tryd.underlying48 rfl HSZ.out ?_
          refine wpList_store_mid rfl 48 (.tmp 4) (.tmp 110) rfl (w.heap.size + 1) 0 C.toArray rfl rfl HTH.out HSZa.out HONE.out ?_
          rw [List.toList_toArray]
          generalize wr.setCells (w.heap.size + 1) 0 C = W9 at *
          go_wp2_with fail
          refine bodyPost_ret (v := .agg C.toArray) (by simp [results, Tryd.results28, asAddr, HLD.out, Act.put]) rfl ⟨by rw [HC.out], HBN.out⟩
end Go.Proofs.YtjghmhcljhjmmaaDoor
