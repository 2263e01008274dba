/- The walk of schedule. No condition but that the block has 64 bytes. -/
import Derived.Test.YtjghmhcljhjmmaaDoorWords
import Derived.BigQuiet
import Derived.BigRegion
namespace Go.Proofs.YtjghmhcljhjmmaaDoor
open Go.RowKit
set_option linter.unusedVariables false
set_option linter.unusedSimpArgs false

theorem firstW_len : ∀ (n : Nat) (b : List UInt8), 4 * n ≤ b.length → (firstW n b).length = n
  | 0, _, _ => by simp [firstW]
  | n + 1, a :: b :: c :: d :: r, h => by
    rw [firstW, List.length_cons, firstW_len n r (by simp only [List.length_cons] at h; omega)]
  | n + 1, [], h => by simp at h
  | n + 1, [_], h => by simp at h; omega
  | n + 1, [_, _], h => by simp at h; omega
  | n + 1, [_, _, _], h => by simp at h; omega
theorem firstW_at : ∀ (n : Nat) (b : List UInt8) (t : Nat) (x0 x1 x2 x3 : UInt8), t < n → b[4 * t]? = some x0 → b[4 * t + 1]? = some x1 → b[4 * t + 2]? = some x2 → b[4 * t + 3]? = some x3 → (firstW n b)[t]? = some (word4 x0 x1 x2 x3)
  | n + 1, b0 :: b1 :: b2 :: b3 :: r, 0, x0, x1, x2, x3, ht, h0, h1, h2, h3 => by
    simp at h0 h1 h2 h3
    subst h0 h1 h2 h3
    simp [firstW]
  | n + 1, b0 :: b1 :: b2 :: b3 :: r, t + 1, x0, x1, x2, x3, ht, h0, h1, h2, h3 => by
    rw [firstW, List.getElem?_cons_succ]
    refine firstW_at n r t x0 x1 x2 x3 (by omega) ?_ ?_ ?_ ?_
    · rw [show 4 * (t + 1) = 4 * t + 4 by omega] at h0; simpa using h0
    · rw [show 4 * (t + 1) + 1 = 4 * t + 1 + 4 by omega] at h1; simpa using h1
    · rw [show 4 * (t + 1) + 2 = 4 * t + 2 + 4 by omega] at h2; simpa using h2
    · rw [show 4 * (t + 1) + 3 = 4 * t + 3 + 4 by omega] at h3; simpa using h3
  | n + 1, [], t, x0, x1, x2, x3, ht, h0, h1, h2, h3 => by simp at h0
  | n + 1, [_], t, x0, x1, x2, x3, ht, h0, h1, h2, h3 => by simp at h1
  | n + 1, [_, _], t, x0, x1, x2, x3, ht, h0, h1, h2, h3 => by simp at h2
  | n + 1, [_, _, _], t, x0, x1, x2, x3, ht, h0, h1, h2, h3 => by simp at h3
theorem wn_word (a b c d : UInt8) : bits .or .u32 (bits .or .u32 (bits .or .u32 ((a.toNat : Int) * 16777216) ((b.toNat : Int) * 65536)) ((c.toNat : Int) * 256)) (d.toNat : Int) = (wn (word4 a b c d) : Int) := by
  have ha := a.toNat_lt
  have hb := b.toNat_lt
  have hc := c.toNat_lt
  have hd := d.toNat_lt
  have h1 : ((a.toNat : Int) * (16777216 : Int)) = (wn (BitVec.ofNat 32 a.toNat <<< 24) : Int) := by
    unfold wn; rw [BitVec.toNat_shiftLeft, BitVec.toNat_ofNat, Nat.shiftLeft_eq]; omega
  have h2 : ((b.toNat : Int) * (65536 : Int)) = (wn (BitVec.ofNat 32 b.toNat <<< 16) : Int) := by
    unfold wn; rw [BitVec.toNat_shiftLeft, BitVec.toNat_ofNat, Nat.shiftLeft_eq]; omega
  have h3 : ((c.toNat : Int) * (256 : Int)) = (wn (BitVec.ofNat 32 c.toNat <<< 8) : Int) := by
    unfold wn; rw [BitVec.toNat_shiftLeft, BitVec.toNat_ofNat, Nat.shiftLeft_eq]; omega
  have h4 : (d.toNat : Int) = (wn (BitVec.ofNat 32 d.toNat) : Int) := by
    unfold wn; rw [BitVec.toNat_ofNat]; omega
  rw [h1, h2, h3, h4, or_w, or_w, or_w]
  rfl
abbrev z64 : Array Value := #[.int .u32 0, .int .u32 0, .int .u32 0, .int .u32 0, .int .u32 0, .int .u32 0, .int .u32 0, .int .u32 0, .int .u32 0, .int .u32 0, .int .u32 0, .int .u32 0, .int .u32 0, .int .u32 0, .int .u32 0, .int .u32 0, .int .u32 0, .int .u32 0, .int .u32 0, .int .u32 0, .int .u32 0, .int .u32 0, .int .u32 0, .int .u32 0, .int .u32 0, .int .u32 0, .int .u32 0, .int .u32 0, .int .u32 0, .int .u32 0, .int .u32 0, .int .u32 0, .int .u32 0, .int .u32 0, .int .u32 0, .int .u32 0, .int .u32 0, .int .u32 0, .int .u32 0, .int .u32 0, .int .u32 0, .int .u32 0, .int .u32 0, .int .u32 0, .int .u32 0, .int .u32 0, .int .u32 0, .int .u32 0, .int .u32 0, .int .u32 0, .int .u32 0, .int .u32 0, .int .u32 0, .int .u32 0, .int .u32 0, .int .u32 0, .int .u32 0, .int .u32 0, .int .u32 0, .int .u32 0, .int .u32 0, .int .u32 0, .int .u32 0, .int .u32 0]
theorem z64_pad : z64 = (padW []).toArray := by rfl
theorem VBlk.zeros (w : World) : VBlk 57 (w.alloc (.cells z64 57)) w.heap.size (padW []) := by
  rw [z64_pad]; exact VBlk.box 57 w _

theorem bel_drew2 {B : Nat} {a w : World} (h : Below B a w) : Below B a w.drew := h.drew
set_option maxRecDepth 20000 in
set_option maxHeartbeats 4000000 in
theorem sched_any (b : List UInt8) (v : Value) (w : World) (hv : IsB w v b) (hb : b.length = 64) :
    Calls Tryd.prog 37 #[v] w fun e w' => e = .returned (.agg ((schedP b).map wV).toArray) ∧ Below w.heap.size w w' := by
  rcases hv with ⟨rfl, _⟩ | ⟨_, bb, off, cap, rfl, hbc, hcm, hcell⟩
  · simp at hb
  have hbblt : bb < w.heap.size := World.block_lt_of_cell? w _ (hcell 0 _ (List.getElem?_eq_getElem (by omega)))
  have hF := firstW_len 16 b (by omega)
  have hFA := firstW_at 16 b
  have HCELL := Lib.hid hcell
  have h0 := (VBlk.zeros w).alloc (.cells z64 57)
  have h1 := VBlk.zeros (w.alloc (.cells z64 57))
  have hsz : (w.alloc (.cells z64 57)).heap.size = w.heap.size + 1 := by simp [go_sem]
  have hB := bel_step (bel_new w (.cells z64 57)) (bel_new (w.alloc (.cells z64 57)) (.cells z64 57))
  rw [hsz] at h1
  rw [hb]
  have HFL := Lib.hid hF
  have HFA := Lib.hid hFA
  have HB := Lib.hid hB
  have H0 := Lib.hid h0
  have H1 := Lib.hid h1
  have HBL := Lib.hid hb
  clear hF hFA hB h0 h1 hsz hcell hbc hcm hb
  go_enter Tryd.func37, Tryd.ntmps37
  go_upto_region 2 with fail
  change Code.wp _ _ _ _ ((w.alloc (.cells z64 57)).alloc (.cells z64 57))
  generalize (w.alloc (.cells z64 57)).alloc (.cells z64 57) = W1 at *
  obtain ⟨br, hbr⟩ : ∃ br, br = w.heap.size := ⟨_, rfl⟩
  obtain ⟨bw, hbw⟩ : ∃ bw, bw = w.heap.size + 1 := ⟨_, rfl⟩
  rw [← hbw] at H1
  rw [← hbr] at H0
  rw [← hbw, ← hbr]
  have hne1 : bw ≠ br := by omega
  have hne2 : bb ≠ bw := by omega
  have hlow1 : w.heap.size ≤ bw := by omega
  have hlow2 : w.heap.size ≤ br := by omega
  clear hbr hbw
  go_wp2_with fail
  go_loopw [10] (fun i wr => ∃ k : Nat, i = .int .i64 k ∧ k ≤ 16 ∧ VBlk 57 wr bw (padW ((firstW 16 b).take k)) ∧ VBlk 57 wr br (padW []) ∧ Below w.heap.size w wr) (fun i _ => 16 - (intOf i).toNat)
  case atStart => exact ⟨0, rfl, by omega, H1.out, H0.out, HB.out⟩
  case round =>
    obtain ⟨k, rfl, hk, hw, hr, hbl⟩ := hrel
    have HW := Lib.hid hw
    have HR := Lib.hid hr
    have HBr := Lib.hid hbl
    by_cases hlt : k < 16
    · have hx : ∀ j, j < 64 → ∃ x, b[j]? = some x := fun j hj => ⟨b[j]'(by rw [HBL.out]; exact hj), List.getElem?_eq_getElem _⟩
      obtain ⟨x0, e0⟩ := hx (4 * k) (by omega)
      obtain ⟨x1, e1⟩ := hx (4 * k + 1) (by omega)
      obtain ⟨x2, e2⟩ := hx (4 * k + 2) (by omega)
      obtain ⟨x3, e3⟩ := hx (4 * k + 3) (by omega)
      have hfw := HFA.out k x0 x1 x2 x3 hlt e0 e1 e2 e3
      have hcs := fun j x (h : b[j]? = some x) => keep_at hbl (HCELL.out j x h)
      have c0 := hcs _ _ e0
      have c1 := hcs _ _ e1
      have c2 := hcs _ _ e2
      have c3 := hcs _ _ e3
      have hfz := hw.frozen k
      have hcw : wr.cell? ⟨bw, k, none⟩ = some (wV (((firstW 16 b).take k).getD k 0)) := by
        rw [hw.cell, padW_at (by rw [List.length_take, HFL.out]; omega) (by omega)]
      unfold wV at hcw
      have hlk : ((firstW 16 b).take k).length = k := by rw [List.length_take, HFL.out]; omega
      have htk : (firstW 16 b).take (k + 1) = (firstW 16 b).take k ++ [word4 x0 x1 x2 x3] := by
        have hk16 : k < (firstW 16 b).length := by rw [HFL.out]; exact hlt
        rw [List.take_succ_eq_append_getElem hk16]
        rw [List.getElem?_eq_getElem hk16] at hfw
        injection hfw with hfw
        rw [hfw]
      have HW2 := Lib.hid (show VBlk 57 (wr.setCell ⟨bw, k, none⟩ (wV (word4 x0 x1 x2 x3))) bw (padW ((firstW 16 b).take (k + 1))) by
        have := hw.set k (wV (word4 x0 x1 x2 x3))
        rw [htk]
        have h2 := padW_set (L := (firstW 16 b).take k) (by omega) (word4 x0 x1 x2 x3)
        rw [hlk] at h2
        rwa [h2] at this)
      have HR2 := Lib.hid (hr.other (a := ⟨bw, k, none⟩) (Ne.symm hne1) (wV (word4 x0 x1 x2 x3)))
      have HB2 := Lib.hid (hbl.setCell (p := ⟨bw, k, none⟩) hlow1 (wV (word4 x0 x1 x2 x3)))
      have hwd := wn_word x0 x1 x2 x3
      have t0 := x0.toNat_lt
      have t1 := x1.toNat_lt
      have t2 := x2.toNat_lt
      have t3 := x3.toNat_lt
      unfold wV at HW2 HR2 HB2
      clear hw hr hbl hx e0 e1 e2 e3 hfw hcs htk hlk
      go_wp2_with fail
      go_region
      have HW3 := Lib.hid (show VBlk 57 (wr.setCell ⟨bw, k, none⟩ (.int .u32 (wn (word4 x0 x1 x2 x3)))).drew bw _ from HW2.out)
      have HR3 := Lib.hid (show VBlk 57 (wr.setCell ⟨bw, k, none⟩ (.int .u32 (wn (word4 x0 x1 x2 x3)))).drew br _ from HR2.out)
      have HB3 := Lib.hid (bel_drew2 HB2.out)
      clear c0 c1 c2 c3 hcw hfz HW2 HR2 HB2 hwd
      generalize (wr.setCell ⟨bw, k, none⟩ (.int .u32 (wn (word4 x0 x1 x2 x3)))).drew = W2 at *
      go_wp2_with fail
      go_roundw
      case rel => exact ⟨k + 1, by go_num, by omega, HW3.out, HR3.out, HB3.out⟩
      case measure => simp [intOf]; omega
    · obtain rfl : k = 16 := by omega
      rw [show (((16 : Nat)) : Int) = (16 : Int) from rfl]
      rw [List.take_of_length_le (by rw [HFL.out]; omega)] at HW
      clear hw hr hbl hk hlt
      generalize HF0 : firstW 16 b = F at HFL HW
      have HF := Lib.hid HF0
      clear HF0
      go_wp2_with fail
      go_loopw [5] (fun i wz => ∃ (k : Nat) (L : List W32), i = .int .i64 k ∧ 16 ≤ k ∧ k ≤ 64 ∧ L.length = k ∧ moreW (64 - k) L = schedP b ∧ VBlk 57 wz bw (padW L) ∧ VBlk 57 wz br (padW []) ∧ Below w.heap.size w wz) (fun i _ => 64 - (intOf i).toNat)
      case atStart => exact ⟨16, F, rfl, by omega, by omega, HFL.out, by rw [← HF.out]; rfl, HW.out, HR.out, HBr.out⟩
      case round =>
        obtain ⟨k, L, rfl, hk1, hk, hL, hm, hw, hr, hbl⟩ := hrel
        have HM := Lib.hid hm
        have HW := Lib.hid hw
        have HR := Lib.hid hr
        have HBz := Lib.hid hbl
        by_cases hlt : k < 64
        · obtain ⟨k2, hk2⟩ : ∃ k2, k = k2 + 2 := ⟨k - 2, by omega⟩
          obtain ⟨k7, hk7⟩ : ∃ k7, k = k7 + 7 := ⟨k - 7, by omega⟩
          obtain ⟨k15, hk15⟩ : ∃ k15, k = k15 + 15 := ⟨k - 15, by omega⟩
          obtain ⟨k16, hk16⟩ : ∃ k16, k = k16 + 16 := ⟨k - 16, by omega⟩
          have f2 : (k : Int) - 2 = (k2 : Int) := by omega
          have f7 : (k : Int) - 7 = (k7 : Int) := by omega
          have f15 : (k : Int) - 15 = (k15 : Int) := by omega
          have f16 : (k : Int) - 16 = (k16 : Int) := by omega
          have g2 : (k2 : Int) < 64 := by omega
          have g7 : (k7 : Int) < 64 := by omega
          have g15 : (k15 : Int) < 64 := by omega
          have g16 : (k16 : Int) < 64 := by omega
          have hnx : nextW L = sig1 (L.getD k2 0) + L.getD k7 0 + sig0 (L.getD k15 0) + L.getD k16 0 := by
            unfold nextW
            rw [hL, show k - 2 = k2 by omega, show k - 7 = k7 by omega, show k - 15 = k15 by omega, show k - 16 = k16 by omega]
          have hat := fun j (hj : j < 64) => (hw.cell j).trans (padW_at (L := L) (by omega) hj)
          have c2 := hat k2 (by omega)
          have c7 := hat k7 (by omega)
          have c15 := hat k15 (by omega)
          have c16 := hat k16 (by omega)
          have ck := hat k hlt
          have hfz := hw.frozen k
          have hset := padW_set (L := L) (by omega) (nextW L)
          rw [hL] at hset
          have HW2 := Lib.hid (show ∀ n, VBlk 57 ((wr.drewN n).setCell ⟨bw, k, none⟩ (wV (nextW L))) bw (padW (L ++ [nextW L])) by intro n; rw [← hset]; exact (VBlk.drewN (n := n) hw).set k _)
          have HR2 := Lib.hid (fun n => (VBlk.drewN (n := n) hr).other (a := ⟨bw, k, none⟩) (Ne.symm hne1) (wV (nextW L)))
          have HB2 := Lib.hid (fun n => (bel_draws hbl n).setCell (p := ⟨bw, k, none⟩) hlow1 (wV (nextW L)))
          have HM2 := Lib.hid (show moreW (64 - (k + 1)) (L ++ [nextW L]) = schedP b by
            rw [← HM.out, show 64 - k = (64 - (k + 1)) + 1 by omega]; rfl)
          have HLL := Lib.hid (show (L ++ [nextW L]).length = k + 1 by simp [hL])
          rw [hnx] at HW2 HR2 HB2 HM2 HLL
          generalize L.getD k2 0 = x at c2 HW2 HR2 HB2 HM2 HLL
          generalize L.getD k7 0 = y7 at c7 HW2 HR2 HB2 HM2 HLL
          generalize L.getD k15 0 = y at c15 HW2 HR2 HB2 HM2 HLL
          generalize L.getD k16 0 = y16 at c16 HW2 HR2 HB2 HM2 HLL
          generalize L.getD k 0 = yk at ck
          have s1 : (wn x : Int) / (1024 : Int) = (wn (x >>> (10 : Nat)) : Int) := shrI x 10
          have s2 : (wn y : Int) / (8 : Int) = (wn (y >>> (3 : Nat)) : Int) := shrI y 3
          have x1 := xor_w (rr x 17) (rr x 19)
          have x2 : bits .xor .u32 (wn (rr x 17 ^^^ rr x 19) : Int) (wn (x >>> (10 : Nat)) : Int) = (wn (sig1 x) : Int) := xor_w _ _
          have x3 := xor_w (rr y 7) (rr y 18)
          have x4 : bits .xor .u32 (wn (rr y 7 ^^^ rr y 18) : Int) (wn (y >>> (3 : Nat)) : Int) = (wn (sig0 y) : Int) := xor_w _ _
          have a1 := add_w (sig1 x) y7
          have a2 := add_w (sig1 x + y7) (sig0 y)
          have a3 := add_w (sig1 x + y7 + sig0 y) y16
          have R17 := Lib.hid (rotr_17 x)
          have R19 := Lib.hid (rotr_19 x)
          have R7 := Lib.hid (rotr_7 y)
          have R18 := Lib.hid (rotr_18 y)
          unfold wV at c2 c7 c15 c16 ck HW2 HR2 HB2 R17 R19 R7 R18
          clear hw hr hbl hat hset hnx HM HW HR HBz hm hk2 hk7 hk15 hk16
          go_wp2_with fail
          go_quiet (fail)
          go_wp2_with (first | (go_at_call 38; with_reducible refine (R17.out _).mono ?_; rintro e w' ⟨rfl, rfl⟩) | (go_at_call 38; with_reducible refine (R19.out _).mono ?_; rintro e w' ⟨rfl, rfl⟩) | (go_at_call 38; with_reducible refine (R7.out _).mono ?_; rintro e w' ⟨rfl, rfl⟩) | (go_at_call 38; with_reducible refine (R18.out _).mono ?_; rintro e w' ⟨rfl, rfl⟩))
          clear c2 c15 s1 s2 x1 x2 x3 x4 f2 f15 g2 g15 R17 R19 R7 R18 hne1 hne2 hlow1 hlow2 hk1 hbblt hL
          generalize sig1 x = sx at *
          generalize sig0 y = sy at *
          go_region
          have HW3 := Lib.hid (HW2.out (nq + 1))
          have HR3 := Lib.hid (HR2.out (nq + 1))
          have HB3 := Lib.hid (HB2.out (nq + 1))
          clear c7 c16 ck hfz HW2 HR2 HB2 a1 a2 a3
          generalize (wr.drewN (nq + 1)).setCell ⟨bw, k, none⟩ (.int .u32 (wn (sx + y7 + sy + y16))) = W4 at *
          go_wp2_with fail
          go_roundw
          case rel => exact ⟨k + 1, _, by go_num, by omega, by omega, HLL.out, HM2.out, HW3.out, HR3.out, HB3.out⟩
          case measure => simp [intOf]; omega
        · obtain rfl : k = 64 := by omega
          have hm0 : moreW 0 L = schedP b := by rw [Nat.sub_self] at hm; exact hm
          have HLS := Lib.hid ((show L = moreW 0 L from rfl).trans hm0)
          clear hm0
          have hpl := padW_full hL
          rw [hpl] at HW
          have HLM := Lib.hid (show (L.map wV).length = 64 by simp [hL])
          have HONE := Lib.hid (all_oneCell_toArray (wV_one L))
          have HRG := Lib.hid (HW.out.range 0 (L.map wV) (fun j v h => by rwa [Nat.zero_add]))
          have HTH := Lib.hid (show wr.there br 0 (L.map wV).toArray.size by rw [List.size_toArray, HLM.out]; exact hr.there 0 64 (by rw [padW_len (by simp)]; omega))
          have HSZ := Lib.hid (show (Tryd.prog.info? 57).map (·.size) = some (L.map wV).length by rw [HLM.out]; kernel_rfl)
          have HSA := Lib.hid (show (Tryd.prog.info? 57).map (·.size) = some (L.map wV).toArray.size by rw [List.size_toArray, HLM.out]; kernel_rfl)
          have HRN := Lib.hid (show VBlk 57 (wr.setCells br 0 (L.map wV)) br (L.map wV) from hr.whole (by rw [padW_len (by simp), HLM.out]))
          have HBN := Lib.hid (bel_setMany (L.map wV) 0 wr hbl hlow2)
          have HLD := Lib.hid (show (loadVar 57 ⟨br, 0, none⟩).run Tryd.prog (wr.setCells br 0 (L.map wV)) = .ok (.agg (L.map wV).toArray) (wr.setCells br 0 (L.map wV)) from
            run_loadVar_mid _ br 0 57 (L.map wV) _ (HRN.out.range 0 _ (fun j v h => by rwa [Nat.zero_add])) Tryd.underlying57 rfl HSZ.out)
          clear hw hr hbl hm hpl hk1 hk hlt HM HR HBz
          generalize hC : L.map wV = C at *
          have HC := Lib.hid hC
          clear hC
          go_upto_region 14 with fail
          refine wp_region_list ?_
          refine wpList_load_mid rfl 57 (.tmp 3) rfl bw 0 rfl C _ HRG.out Tryd.underlying57 rfl HSZ.out ?_
          refine wpList_store_mid rfl 57 (.tmp 2) (.tmp 92) rfl br 0 C.toArray rfl rfl HTH.out HSA.out HONE.out ?_
          rw [List.toList_toArray]
          generalize wr.setCells br 0 C = W5 at *
          go_wp2_with fail
          refine bodyPost_ret (v := .agg C.toArray) (by simp [results, Tryd.results37, asAddr, HLD.out, Act.put]) rfl ⟨by rw [← HLS.out, HC.out], HBN.out⟩
end Go.Proofs.YtjghmhcljhjmmaaDoor
