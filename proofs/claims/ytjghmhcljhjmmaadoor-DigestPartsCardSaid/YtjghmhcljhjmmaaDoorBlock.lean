/- The walk of the reference's block: the words. No condition but that the block has 64 bytes. -/
import Derived.Test.YtjghmhcljhjmmaaDoorLastOp
import Derived.Lib.QuietBelow
namespace Go.Proofs.YtjghmhcljhjmmaaDoor
open Go.RowKit
set_option linter.unusedVariables false
set_option linter.unusedSimpArgs false

/-- All the reference's rotations at once. -/
theorem rrot_all (x : W32) (n : Int) (hn : n = 6 ∨ n = 11 ∨ n = 25 ∨ n = 2 ∨ n = 13 ∨ n = 22 ∨ n = 17 ∨ n = 19 ∨ n = 7 ∨ n = 18) (w : World) (m : Nat) : Calls Tryd.prog 35 #[.int .u32 (wn x : Int), .int .i64 n] (w.drewN m) fun e w' => e = .returned (.int .u32 (wn (rr x n.toNat) : Int)) ∧ ∃ k, w' = w.drewN k := by
  rcases hn with rfl | rfl | rfl | rfl | rfl | rfl | rfl | rfl | rfl | rfl
  · exact rrot_6 x w m
  · exact rrot_11 x w m
  · exact rrot_25 x w m
  · exact rrot_2 x w m
  · exact rrot_13 x w m
  · exact rrot_22 x w m
  · exact rrot_17 x w m
  · exact rrot_19 x w m
  · exact rrot_7 x w m
  · exact rrot_18 x w m
theorem rrot_one (x : W32) (n : Int) (hn : n = 6 ∨ n = 11 ∨ n = 25 ∨ n = 2 ∨ n = 13 ∨ n = 22 ∨ n = 17 ∨ n = 19 ∨ n = 7 ∨ n = 18) (w : World) : Calls Tryd.prog 35 #[.int .u32 (wn x : Int), .int .i64 n] w fun e w' => e = .returned (.int .u32 (wn (rr x n.toNat) : Int)) ∧ ∃ k, w' = w.drewN k := rrot_all x n hn w 0
/-- The words, as the reference's loop makes them. -/
def WInv (b : List UInt8) (k : Nat) (L : List W32) : Prop := L.length = k ∧ ((k ≤ 16 ∧ L = (firstW 16 b).take k) ∨ (16 < k ∧ moreW (64 - k) L = schedP b))
theorem WInv.more {b : List UInt8} {k : Nat} {L : List W32} (h : WInv b k L) (hb : b.length = 64) (hk : 16 ≤ k) : moreW (64 - k) L = schedP b := by
  rcases h.2 with ⟨h1, h2⟩ | ⟨_, h2⟩
  · obtain rfl : k = 16 := by omega
    rw [h2, List.take_of_length_le (by rw [firstW_len 16 b (by omega)]; omega)]
    rfl
  · exact h2
theorem WInv.next {b : List UInt8} {k : Nat} {L : List W32} (h : WInv b k L) (hb : b.length = 64) (hk : 16 ≤ k) (hk2 : k < 64) : WInv b (k + 1) (L ++ [nextW L]) := by
  refine ⟨by rw [List.length_append, h.1]; rfl, .inr ⟨by omega, ?_⟩⟩
  rw [← h.more hb hk, show 64 - k = (64 - (k + 1)) + 1 by omega]
  rfl

theorem still_quiet3 {P : Program} {f : FuncId} {args : Array Value} {w : World} {a : Nat} {v : Value} (h : Calls P f args ((w.drewN a).drewN 0) fun e w' => e = .returned v ∧ ∃ k, w' = (w.drewN a).drewN k) :
    Calls P f args (w.drewN a) fun e w' => e = .returned v ∧ ∃ m, w' = w.drewN m :=
  h.mono fun _ _ x => ⟨x.1, by obtain ⟨_, k, rfl⟩ := x; exact ⟨_, drewN_two _ _ _⟩⟩
theorem bel_of_drewN {w w' : World} (h : ∃ k, w' = w.drewN k) : Below w.heap.size w w' := by
  obtain ⟨k, rfl⟩ := h
  exact bel_draws (Below.refl _ w) k
theorem addS_comm (s t : S8) : addS s t = addS t s := by
  simp [addS, BitVec.add_comm]
theorem frz_drewN {W : World} {a : Addr} {n : Nat} {x : Bool} (h : W.frozen? a = x) : (W.drewN n).frozen? a = x := h
theorem frz_drew {W : World} {a : Addr} {x : Bool} (h : W.frozen? a = x) : W.drew.frozen? a = x := h
set_option maxRecDepth 20000 in
set_option maxHeartbeats 8000000 in
theorem block_any (s : S8) (b : List UInt8) (v : Value) (w : World) (hv : IsB w v b) (hb : b.length = 64) :
    Calls Tryd.prog 27 #[.agg (stV s).toArray, v] w fun e w' => e = .returned (.agg (stV (mixP s b)).toArray) ∧ Below w.heap.size w w' := by
  rcases hv with ⟨rfl, _⟩ | ⟨_, bb, off, cap, rfl, hbc, hcm, hcell⟩
  · simp at hb
  have hbblt : bb < w.heap.size := World.block_lt_of_cell? w _ (hcell 0 _ (List.getElem?_eq_getElem (by omega)))
  have HCELL := Lib.hid hcell
  have HBL := Lib.hid hb
  have HSL := Lib.hid (schedP_len b hb)
  have HF := Lib.hid (firstW_at 16 b)
  have HFL := Lib.hid (firstW_len 16 b (by omega))
  have hsz : (((w.alloc (.cells (stV s).toArray 48)).alloc z8).alloc (.cells z64 57)).heap.size = w.heap.size + 3 := by simp [go_sem]
  have H0 := Lib.hid (((VBlk.box 48 w (stV s)).alloc z8).alloc (.cells z64 57))
  have H1 := Lib.hid ((zs_box (w.alloc (.cells (stV s).toArray 48))).alloc (.cells z64 57))
  have H2 := Lib.hid (VBlk.zeros ((w.alloc (.cells (stV s).toArray 48)).alloc z8))
  have hs1 : (w.alloc (.cells (stV s).toArray 48)).heap.size = w.heap.size + 1 := by simp [go_sem]
  have hs2 : ((w.alloc (.cells (stV s).toArray 48)).alloc z8).heap.size = w.heap.size + 2 := by simp [go_sem]
  rw [hs1] at H1
  rw [hs2] at H2
  have HB1 := Lib.hid (bel_step (bel_step (bel_new w (.cells (stV s).toArray 48)) (bel_new (w.alloc (.cells (stV s).toArray 48)) z8)) (bel_new ((w.alloc (.cells (stV s).toArray 48)).alloc z8) (.cells z64 57)))
  have HO8 := Lib.hid (all_oneCell_toArray (wV_one s.list))
  have HR := Lib.hid (show mixP s b = addS (roundsP s (kC.zip (schedP b))) s from rfl)
  rw [hb]
  have hc64 : 64 ≤ cap := by omega
  clear hcell hbc hb hs1 hs2
  generalize hM : mixP s b = M at *
  clear hM
  obtain ⟨SV, hSV⟩ : ∃ SV, SV = stV s := ⟨_, rfl⟩
  have HSV := Lib.hid hSV
  have HSVL := Lib.hid (show SV.length = 8 by rw [hSV]; rfl)
  rw [show s.list.map wV = stV s from rfl] at HO8
  rw [← hSV] at H0 H1 H2 HB1 hsz HO8 ⊢
  have HI8 := Lib.hid (show (Tryd.prog.info? 48).map (·.size) = some SV.length by rw [HSVL.out]; exact size48)
  have HSA := Lib.hid (show SV.toArray.size = 8 by rw [List.size_toArray]; exact HSVL.out)
  have HI8a := Lib.hid (show (Tryd.prog.info? 48).map (·.size) = some SV.toArray.size by rw [HSA.out]; exact size48)
  clear hSV
  go_enter Tryd.func27, Tryd.ntmps27
  go_upto_region 2 with fail
  change Code.wp _ _ _ _ (((w.alloc (.cells SV.toArray 48)).alloc z8).alloc (.cells z64 57))
  generalize ((w.alloc (.cells SV.toArray 48)).alloc z8).alloc (.cells z64 57) = W1 at *
  go_wp2_with fail
  go_loopw [16] (fun i wr => ∃ (k : Nat) (L : List W32), i = .int .i64 k ∧ k ≤ 64 ∧ WInv b k L ∧ VBlk 57 wr (w.heap.size + 2) (padW L) ∧ VBlk 48 wr w.heap.size SV ∧ VBlk 48 wr (w.heap.size + 1) (stV zs) ∧ Below w.heap.size w wr) (fun i _ => 64 - (intOf i).toNat)
  case atStart => exact ⟨0, [], rfl, by omega, ⟨rfl, .inl ⟨by omega, rfl⟩⟩, H2.out, H0.out, H1.out, HB1.out⟩
  case round =>
    obtain ⟨k, L, rfl, hk, hin, hW, h0, h1, hbl⟩ := hrel
    have HIN := Lib.hid hin
    have hL := hin.1
    by_cases hlt : k < 64
    · have hfz := hW.frozen k
      have ck := (hW.cell k).trans (padW_at (L := L) (by omega) hlt)
      have hnext : ∀ x n, VBlk 57 ((wr.drewN n).setCell ⟨w.heap.size + 2, k, none⟩ (wV x)) (w.heap.size + 2) (padW (L ++ [x])) := by
        intro x n
        have hset := padW_set (L := L) (by omega) x
        rw [hL] at hset
        rw [← hset]
        exact (VBlk.drewN (n := n) hW).set k _
      have HNX := Lib.hid hnext
      have H0S := Lib.hid (fun n x => (VBlk.drewN (n := n) h0).other (a := ⟨w.heap.size + 2, k, none⟩) (show w.heap.size ≠ w.heap.size + 2 by omega) (wV x))
      have H1S := Lib.hid (fun n x => (VBlk.drewN (n := n) h1).other (a := ⟨w.heap.size + 2, k, none⟩) (show w.heap.size + 1 ≠ w.heap.size + 2 by omega) (wV x))
      have HBS := Lib.hid (fun n x => (bel_draws hbl n).setCell (p := ⟨w.heap.size + 2, k, none⟩) (show w.heap.size ≤ w.heap.size + 2 by omega) (wV x))
      have HWk := Lib.hid hW
      have HBk := Lib.hid hbl
      generalize L.getD k 0 = yk at ck
      have hk0 : (0 : Int) ≤ (k : Int) := by omega
      have hki : (k : Int) < 64 := by omega
      clear hin hW h0 h1 hnext
      by_cases h16 : k < 16
      · have h16i : (k : Int) < 16 := by omega
        obtain ⟨x0, hx0⟩ : ∃ x, b[4 * k]? = some x := ⟨b[4 * k]'(by have := HBL.out; omega), List.getElem?_eq_getElem _⟩
        obtain ⟨x1, hx1⟩ : ∃ x, b[4 * k + 1]? = some x := ⟨b[4 * k + 1]'(by have := HBL.out; omega), List.getElem?_eq_getElem _⟩
        obtain ⟨x2, hx2⟩ : ∃ x, b[4 * k + 2]? = some x := ⟨b[4 * k + 2]'(by have := HBL.out; omega), List.getElem?_eq_getElem _⟩
        obtain ⟨x3, hx3⟩ : ∃ x, b[4 * k + 3]? = some x := ⟨b[4 * k + 3]'(by have := HBL.out; omega), List.getElem?_eq_getElem _⟩
        have HC0 := Lib.hid (keep_at HBk.out (HCELL.out _ _ hx0))
        have HC1 := Lib.hid (keep_at HBk.out (HCELL.out _ _ hx1))
        have HC2 := Lib.hid (keep_at HBk.out (HCELL.out _ _ hx2))
        have HC3 := Lib.hid (keep_at HBk.out (HCELL.out _ _ hx3))
        have HFk := Lib.hid (HF.out k x0 x1 x2 x3 h16 hx0 hx1 hx2 hx3)
        generalize hX : word4 x0 x1 x2 x3 = X
        have HX := Lib.hid hX
        clear hX hx0 hx1 hx2 hx3
        obtain ⟨m, hm⟩ : ∃ m, m = 4 * k := ⟨_, rfl⟩
        have e4 : (4 : Int) * (k : Int) = (m : Int) := by omega
        have m0 : (0 : Int) ≤ (m : Int) := by omega
        have m1 : (m : Int) ≤ 64 := by omega
        have hm64 : m ≤ 64 := by omega
        have m2 : (m : Int) ≤ (cap : Int) := by omega
        rw [← hm] at HC0 HC1 HC2 HC3
        have HM := Lib.hid hm
        clear hm
        go_upto_region 6 with fail
        refine wp_region_list ?_
        have e5 : IntKind.i64.wrap (m : Int) = (m : Int) := IntWalk.i64_in _ (by omega)
        have e6 : (m : Int).toNat = m := Int.toNat_natCast m
        have e7 : ¬ cap = m := by omega
        iterate 4 (refine wpList_plain rfl fun K hK => ?_; go_simp; refine hK _ _ ?_; clear hK K)
        refine wpList_plain rfl fun K hK => ?_
        go_simp
        try simp only [e5, e6, e7, if_false, m0, m1, and_self, if_true]
        refine hK _ _ ?_
        clear hK K
        refine wpList_plain rfl fun K hK => ?_
        go_simp
        refine (word_any bb (off + m) (64 - m) (cap - m) x0 x1 x2 x3 wr (by omega) HC0.out (by rw [Nat.add_assoc]; exact HC1.out) (by rw [Nat.add_assoc]; exact HC2.out) (by rw [Nat.add_assoc]; exact HC3.out)).mono ?_
        rintro e w2 ⟨rfl, nq, rfl⟩
        refine hK _ _ ?_
        clear hK K
        rw [HX.out]
        have ek : (wr.drewN nq).cell? ⟨w.heap.size + 2, k, none⟩ = _ := ck
        have ez : (wr.drewN nq).frozen? ⟨w.heap.size + 2, k, none⟩ = false := hfz
        refine wpList_plain rfl fun K hK => ?_
        go_simp
        refine hK _ _ ?_
        clear hK K
        refine wpList_plain rfl fun K hK => ?_
        go_simp
        refine hK _ _ ?_
        clear hK K
        have HNX2 := Lib.hid (HNX.out X nq)
        have H0S2 := Lib.hid (H0S.out nq X)
        have H1S2 := Lib.hid (H1S.out nq X)
        have HBS2 := Lib.hid (HBS.out nq X)
        have HIN2 := Lib.hid (show WInv b (k + 1) (L ++ [X]) from ⟨by rw [List.length_append, hL]; rfl, .inl ⟨by omega, by
          have hle : ∀ h, (firstW 16 b)[k]'h = X := fun h => by have := HFk.out; rw [List.getElem?_eq_getElem h] at this; exact (Option.some.inj this).trans HX.out
          rcases HIN.out.2 with ⟨_, h2⟩ | ⟨h2, _⟩
          · rw [List.take_succ_eq_append_getElem (by rw [HFL.out]; omega), ← h2, hle]
          · omega⟩⟩)
        change wpList _ _ _ _ _ ((wr.drewN nq).setCell ⟨w.heap.size + 2, k, none⟩ (wV X))
        generalize (wr.drewN nq).setCell ⟨w.heap.size + 2, k, none⟩ (wV X) = W8 at *
        go_wp2_with fail
        go_roundw
        case rel => exact ⟨k + 1, L ++ [X], by go_num, by omega, HIN2.out, HNX2.out, H0S2.out, H1S2.out, HBS2.out⟩
        case measure => simp [intOf]; omega
      · have h16i : ¬ (k : Int) < 16 := by omega
        have hk1 : 16 ≤ k := by omega
        obtain ⟨k2, hk2⟩ : ∃ k2, k = k2 + 2 := ⟨k - 2, by omega⟩
        obtain ⟨k7, hk7⟩ : ∃ k7, k = k7 + 7 := ⟨k - 7, by omega⟩
        obtain ⟨k15, hk15⟩ : ∃ k15, k = k15 + 15 := ⟨k - 15, by omega⟩
        obtain ⟨k16, hk16⟩ : ∃ k16, k = k16 + 16 := ⟨k - 16, by omega⟩
        have f2 : (k : Int) - 2 = (k2 : Int) := by omega
        have f7 : (k : Int) - 7 = (k7 : Int) := by omega
        have f15 : (k : Int) - 15 = (k15 : Int) := by omega
        have f16 : (k : Int) - 16 = (k16 : Int) := by omega
        have g2 : (k2 : Int) < 64 := by omega
        have g7 : (k7 : Int) < 64 := by omega
        have g15 : (k15 : Int) < 64 := by omega
        have g16 : (k16 : Int) < 64 := by omega
        have hat := fun j (hj : j < 64) => (HWk.out.cell j).trans (padW_at (L := L) (by omega) hj)
        have c2 := hat k2 (by omega)
        have c7 := hat k7 (by omega)
        have c15 := hat k15 (by omega)
        have c16 := hat k16 (by omega)
        have HNW := Lib.hid (show nextW L = sig1 (L.getD k2 0) + L.getD k7 0 + sig0 (L.getD k15 0) + L.getD k16 0 by
          unfold nextW
          rw [hL, show k - 2 = k2 by omega, show k - 7 = k7 by omega, show k - 15 = k15 by omega, show k - 16 = k16 by omega])
        have HIN2 := Lib.hid (HIN.out.next HBL.out (by omega) hlt)
        generalize L.getD k2 0 = x at c2 HNW
        generalize L.getD k7 0 = y7 at c7 HNW
        generalize L.getD k15 0 = y at c15 HNW
        generalize L.getD k16 0 = y16 at c16 HNW
        have hn7 : k7 ≠ k := by omega
        have hn16 : k16 ≠ k := by omega
        unfold wV at c2 c7 c15 c16 ck
        clear hbl hat hk2 hk7 hk15 hk16
        go_wp2_with fail
        go_quiet (fail)
        go_wp2_with fail
        clear c2 c15 f2 f15 g2 g15
        have d7 : (wr.drewN nq).cell? ⟨w.heap.size + 2, k7, none⟩ = _ := c7
        have d16 : (wr.drewN nq).cell? ⟨w.heap.size + 2, k16, none⟩ = _ := c16
        have dk : (wr.drewN nq).cell? ⟨w.heap.size + 2, k, none⟩ = _ := ck
        have dz : (wr.drewN nq).frozen? ⟨w.heap.size + 2, k, none⟩ = false := hfz
        have HE := Lib.hid (show ∃ n, wr.drewN nq = wr.drewN n from ⟨nq, rfl⟩)
        clear c7 c16 ck hfz
        generalize wr.drewN nq = W5 at *
        have s1 : (wn x : Int) / (1024 : Int) = (wn (x >>> (10 : Nat)) : Int) := shrI x 10
        have s2 : (wn y : Int) / (8 : Int) = (wn (y >>> (3 : Nat)) : Int) := shrI y 3
        have x1 := xor_w (rr x 17) (rr x 19)
        have x2 : bits .xor .u32 (wn (rr x 17 ^^^ rr x 19) : Int) (wn (x >>> (10 : Nat)) : Int) = (wn (sig1 x) : Int) := xor_w _ _
        have x3 := xor_w (rr y 7) (rr y 18)
        have x4 : bits .xor .u32 (wn (rr y 7 ^^^ rr y 18) : Int) (wn (y >>> (3 : Nat)) : Int) = (wn (sig0 y) : Int) := xor_w _ _
        have a1 := add_w (sig1 x) y7
        have a2 := add_w (sig1 x + y7) (sig0 y)
        have a3 := add_w (sig1 x + y7 + sig0 y) y16
        refine wp_region_last_of (fun w' => ∃ n, w' = World.drewN W5 n) rfl rfl (by kernel_rfl) (by kernel_rfl) (by kernel_rfl) (by kernel_rfl) ⟨1, rfl⟩ ?_
        dsimp only [idleLast, lastOf, idle]
        repeat (go_big_quiet_step ((go_at_call 35; refine still_quiet3 (rrot_all _ _ ?_ _ _); decide)))
        refine wpQuiet_nil ?_
        intro _ hw'
        obtain ⟨nq, hw''⟩ := hw'
        subst hw''
        rw [a3]
        clear s1 s2 x1 x2 x3 x4 a1 a2 a3 d7 d16
        have ek : (W5.drewN nq).cell? ⟨w.heap.size + 2, k, none⟩ = _ := dk
        have ez : (W5.drewN nq).frozen? ⟨w.heap.size + 2, k, none⟩ = false := dz
        refine wpList_plain rfl fun K hK => ?_
        go_simp
        refine hK _ _ ?_
        clear hK K
        obtain ⟨n5, h5⟩ := HE.out
        rw [h5, drewN_two]
        rw [← HNW.out]
        generalize n5 + nq = n6
        have HNX2 := Lib.hid (HNX.out (nextW L) n6)
        have H0S2 := Lib.hid (H0S.out n6 (nextW L))
        have H1S2 := Lib.hid (H1S.out n6 (nextW L))
        have HBS2 := Lib.hid (HBS.out n6 (nextW L))
        change wpList _ _ _ _ _ ((wr.drewN n6).setCell ⟨w.heap.size + 2, k, none⟩ (wV (nextW L)))
        generalize (wr.drewN n6).setCell ⟨w.heap.size + 2, k, none⟩ (wV (nextW L)) = W8 at *
        go_wp2_with fail
        go_roundw
        case rel => exact ⟨k + 1, L ++ [nextW L], by go_num, by omega, HIN2.out, HNX2.out, H0S2.out, H1S2.out, HBS2.out⟩
        case measure => simp [intOf]; omega
    · obtain rfl : k = 64 := by omega
      rw [show (((64 : Nat)) : Int) = (64 : Int) from rfl]
      have hLs : L = schedP b := by
        have h1 := hin.more HBL.out (by omega)
        exact h1
      rw [hLs] at hW
      obtain ⟨sch, hsch⟩ : ∃ x, x = schedP b := ⟨_, rfl⟩
      rw [← hsch] at hW HR HSL
      have HCV := Lib.hid (show padW sch = sch.map wV by unfold padW; rw [HSL.out]; simp)
      have HW1 := Lib.hid hW
      have H0W := Lib.hid h0
      have H1W := Lib.hid h1
      have HB1' := Lib.hid hbl
      have HOa := Lib.hid (H0W.out.alloc z8)
      clear hin hW h0 h1 hbl hLs hsch hk hlt HF HFL HCELL
      go_upto_region 10 with fail
      refine wp_region_list ?_
      refine wpList_load_mid rfl 48 (.tmp 2) rfl w.heap.size 0 rfl SV _ (range_all H0W.out) Tryd.underlying48 rfl HI8.out ?_
      refine wpList_plain rfl fun K hK => ?_
      go_simp
      refine hK _ _ ?_
      clear hK K
      refine wpList_store_mid rfl 48 (.tmp 9) (.tmp 66) rfl wr.heap.size 0 SV.toArray rfl rfl (by have := (zs_box wr).there 0 8 (by rw [stV_len]; omega); rw [HSA.out]; exact this) HI8a.out HO8.out ?_
      rw [List.toList_toArray]
      have hgt : w.heap.size + 3 ≤ wr.heap.size := by have := HW1.out.lt; omega
      have H04 := Lib.hid ((H0W.out.alloc z8).otherMany (g := wr.heap.size) (o := 0) (vs := SV) (by omega))
      have H14 := Lib.hid ((H1W.out.alloc z8).otherMany (g := wr.heap.size) (o := 0) (vs := SV) (by omega))
      have HW4 := Lib.hid ((HW1.out.alloc z8).otherMany (g := wr.heap.size) (o := 0) (vs := SV) (by omega))
      have HS4 := Lib.hid ((zs_box wr).whole (d := SV) (by rw [stV_len, HSVL.out]))
      have HB4 := Lib.hid (bel_setMany SV 0 _ (bel_step HB1'.out (bel_new wr z8)) (show w.heap.size ≤ wr.heap.size by omega))
      change wpList _ _ _ _ _ ((wr.alloc z8).setCells wr.heap.size 0 SV)
      generalize (wr.alloc z8).setCells wr.heap.size 0 SV = W4 at *
      obtain ⟨bS, hbS⟩ : ∃ bS, bS = wr.heap.size := ⟨_, rfl⟩
      rw [← hbS] at HS4 hgt ⊢
      clear hbS HB1' H0W H1W HW1 HOa
      go_upto_region 11 with fail
      have hne0 : bS ≠ w.heap.size + 2 := by omega
      go_wp2_with fail
      go_loopw [67] (fun i wr => ∃ k : Nat, i = .int .i64 k ∧ k ≤ 64 ∧ VBlk 48 wr bS (stV (roundsP s ((kC.zip sch).take k))) ∧ VBlk 57 wr (w.heap.size + 2) (padW sch) ∧ VBlk 48 wr w.heap.size SV ∧ VBlk 48 wr (w.heap.size + 1) (stV zs) ∧ Below w.heap.size w wr) (fun i _ => 64 - (intOf i).toNat)
      case atStart => exact ⟨0, rfl, by omega, by rw [List.take_zero]; rw [HSV.out] at HS4; exact HS4.out, HW4.out, H04.out, H14.out, HB4.out⟩
      case round =>
        obtain ⟨k, rfl, hk, hS, hW, h0, h1, hbl⟩ := hrel
        by_cases hlt : k < 64
        · obtain ⟨kc, hkc⟩ : ∃ x, kC[k]? = some x := ⟨kC[k]'(by rw [kC_len]; exact hlt), List.getElem?_eq_getElem _⟩
          obtain ⟨wk, hwk⟩ : ∃ x, sch[k]? = some x := ⟨sch[k]'(by rw [HSL.out]; exact hlt), List.getElem?_eq_getElem _⟩
          have hzk : (kC.zip sch)[k]? = some (kc, wk) := by rw [List.getElem?_zip_eq_some]; exact ⟨hkc, hwk⟩
          have hcW : wr.cell? ⟨w.heap.size + 2, k, none⟩ = some (wV wk) := by rw [hW.cell, HCV.out, List.getElem?_map, hwk]; rfl
          have HT := Lib.hid (show roundsP s ((kC.zip sch).take (k + 1)) = roundP (roundsP s ((kC.zip sch).take k)) kc wk by
            obtain ⟨hzl, hze⟩ := List.getElem?_eq_some_iff.1 hzk
            rw [List.take_succ_eq_append_getElem hzl, hze, rounds_snoc])
          generalize roundsP s ((kC.zip sch).take k) = st at hS HT
          obtain ⟨c0, c1, c2, c3, c4, c5, c6, c7⟩ := st_cells hS
          obtain ⟨xa, xb, xc, xd, xe, xf, xg, xh⟩ := st
          dsimp only at c0 c1 c2 c3 c4 c5 c6 c7
          have HS5 := Lib.hid hS
          have HW5 := Lib.hid hW
          have H05 := Lib.hid h0
          have H15 := Lib.hid h1
          have HB5 := Lib.hid hbl
          have HKC := Lib.hid hkc
          have hk0 : (0 : Int) ≤ (k : Int) := by omega
          have hki : (k : Int) < 64 := by omega
          unfold wV at hcW c0 c1 c2 c3 c4 c5 c6 c7
          clear hkc hwk hzk hS hW h0 h1 hbl hk hlt
          go_upto_region 14 with fail
          go_quiet (fail)
          have HSq := Lib.hid (show VBlk 48 (wr.drewN nq) bS _ from HS5.out)
          have HWq := Lib.hid (show VBlk 57 (wr.drewN nq) (w.heap.size + 2) _ from HW5.out)
          have H0q := Lib.hid (show VBlk 48 (wr.drewN nq) w.heap.size _ from H05.out)
          have H1q := Lib.hid (show VBlk 48 (wr.drewN nq) (w.heap.size + 1) _ from H15.out)
          have HBq := Lib.hid (bel_draws HB5.out nq)
          clear HS5 HW5 H05 H15 HB5 c0 c1 c2 c3 c4
          have d5 : (wr.drewN nq).cell? ⟨bS, 5, none⟩ = _ := c5
          have d6 : (wr.drewN nq).cell? ⟨bS, 6, none⟩ = _ := c6
          have d7 : (wr.drewN nq).cell? ⟨bS, 7, none⟩ = _ := c7
          have dW : (wr.drewN nq).cell? ⟨w.heap.size + 2, k, none⟩ = _ := hcW
          clear c5 c6 c7 hcW
          generalize wr.drewN nq = W5 at *
          have e5 := cell_regrown d5
          have e6 := cell_regrown d6
          have e7 := cell_regrown d7
          have eW := cell_regrown dW
          have r1 := xor_w (rr xe 6) (rr xe 11)
          have r2 := xor_w (rr xe 6 ^^^ rr xe 11) (rr xe 25)
          have r3 := and_w xe xf
          have r4 := not_w xe
          have r5 := and_w (~~~xe) xg
          have r6 := xor_w (xe &&& xf) (~~~xe &&& xg)
          have a1 := add_w xh (rr xe 6 ^^^ rr xe 11 ^^^ rr xe 25)
          have a2 := add_w (xh + (rr xe 6 ^^^ rr xe 11 ^^^ rr xe 25)) (xe &&& xf ^^^ ~~~xe &&& xg)
          have a3 := add_w (xh + (rr xe 6 ^^^ rr xe 11 ^^^ rr xe 25) + (xe &&& xf ^^^ ~~~xe &&& xg)) kc
          have a4 := add_w (xh + (rr xe 6 ^^^ rr xe 11 ^^^ rr xe 25) + (xe &&& xf ^^^ ~~~xe &&& xg) + kc) wk
          clear d5 d6 d7 dW
          go_wp2_with fail
          refine wp_region_quiet_below (by kernel_rfl) (by kernel_rfl) ?_
          repeat (go_big_quiet_step ((first | (go_at_call 35; refine Calls.regrown_of ((rrot_one _ _ ?_ _).mono fun _ _ x => ⟨x.1, bel_of_drewN x.2⟩); decide) | (go_at_call 36; refine Calls.regrown_of (const_any k kc ?_ _); exact HKC.out))))
          rw [a4]
          clear r1 r2 r3 r4 r5 r6 a1 a2 a3 a4 e5 e6 e7 eW
          refine wpQuiet_nil ?_
          intro w6 hw6
          have hb6 : Below W5.heap.size W5 w6 := by obtain ⟨p, rfl⟩ := hw6; exact below_regrown W5 p.d p.os
          have HS6 := Lib.hid (HSq.out.step hb6)
          have HW6 := Lib.hid (HWq.out.step hb6)
          have H06 := Lib.hid (H0q.out.step hb6)
          have H16 := Lib.hid (H1q.out.step hb6)
          have HB6 := Lib.hid (bel_step HBq.out hb6)
          clear hw6 hb6 HSq HWq H0q H1q HBq HKC
          have ht1 : xh + (rr xe 6 ^^^ rr xe 11 ^^^ rr xe 25) + (xe &&& xf ^^^ ~~~xe &&& xg) + kc + wk = t1P ⟨xa, xb, xc, xd, xe, xf, xg, xh⟩ kc wk := rfl
          rw [ht1]
          clear ht1
          generalize hT1 : t1P ⟨xa, xb, xc, xd, xe, xf, xg, xh⟩ kc wk = T1
          have HT1 := Lib.hid hT1
          clear hT1
          obtain ⟨c0, c1, c2, c3, c4, c5, c6, c7⟩ := st_cells HS6.out
          dsimp only at c0 c1 c2 c3 c4 c5 c6 c7
          unfold wV at c0 c1 c2 c3 c4 c5 c6 c7
          have r1 := xor_w (rr xa 2) (rr xa 13)
          have r2 := xor_w (rr xa 2 ^^^ rr xa 13) (rr xa 22)
          have r3 := and_w xa xb
          have r4 := and_w xa xc
          have r5 := xor_w (xa &&& xb) (xa &&& xc)
          have r6 := and_w xb xc
          have r7 := xor_w (xa &&& xb ^^^ xa &&& xc) (xb &&& xc)
          have a1 : ((wn (rr xa 2 ^^^ rr xa 13 ^^^ rr xa 22) : Int) + (wn (xa &&& xb ^^^ xa &&& xc ^^^ xb &&& xc) : Int)) % 4294967296 = (wn (t2P ⟨xa, xb, xc, xd, xe, xf, xg, xh⟩) : Int) := add_w _ _
          clear c0 c3 c4 c5 c6 c7
          go_upto_region 16 with fail
          go_quiet ((go_at_call 35; refine still_quiet3 (rrot_all _ _ ?_ _ _); decide))
          try rw [a1]
          clear r1 r2 r3 r4 r5 r6 r7 a1 c1 c2
          generalize hT2 : t2P ⟨xa, xb, xc, xd, xe, xf, xg, xh⟩ = T2
          have HT2 := Lib.hid hT2
          clear hT2
          have HS6' := Lib.hid (show VBlk 48 (w6.drewN nq) bS _ from HS6.out)
          have HW6' := Lib.hid (show VBlk 57 (w6.drewN nq) (w.heap.size + 2) (padW sch) from HW6.out)
          have H06' := Lib.hid (show VBlk 48 (w6.drewN nq) w.heap.size SV from H06.out)
          have H16' := Lib.hid (show VBlk 48 (w6.drewN nq) (w.heap.size + 1) (stV zs) from H16.out)
          have HB6' := Lib.hid (bel_draws HB6.out nq)
          clear HS6 HW6 H06 H16 HB6
          generalize w6.drewN nq = W6 at *
          obtain ⟨c0, c1, c2, c3, c4, c5, c6, c7⟩ := st_cells HS6'.out
          dsimp only at c0 c1 c2 c3 c4 c5 c6 c7
          have z0 := HS6'.out.frozen 0
          have z1 := HS6'.out.frozen 1
          have z2 := HS6'.out.frozen 2
          have z3 := HS6'.out.frozen 3
          have z4 := HS6'.out.frozen 4
          have z5 := HS6'.out.frozen 5
          have z6 := HS6'.out.frozen 6
          have z7 := HS6'.out.frozen 7
          have a1 := add_w T1 T2
          have a2 := add_w xd T1
          unfold wV at c0 c1 c2 c3 c4 c5 c6 c7
          go_upto_region 18 with fail
          change Code.wp _ _ _ _ (W6.setCells bS 0 (stV ⟨T1 + T2, xa, xb, xc, xd + T1, xe, xf, xg⟩))
          have HS7 := Lib.hid (HS6'.out.whole (d := stV ⟨T1 + T2, xa, xb, xc, xd + T1, xe, xf, xg⟩) rfl)
          have HW7 := Lib.hid (HW6'.out.otherMany (g := bS) (o := 0) (vs := stV ⟨T1 + T2, xa, xb, xc, xd + T1, xe, xf, xg⟩) (Ne.symm hne0))
          have H07 := Lib.hid (H06'.out.otherMany (g := bS) (o := 0) (vs := stV ⟨T1 + T2, xa, xb, xc, xd + T1, xe, xf, xg⟩) (by omega))
          have H17 := Lib.hid (H16'.out.otherMany (g := bS) (o := 0) (vs := stV ⟨T1 + T2, xa, xb, xc, xd + T1, xe, xf, xg⟩) (by omega))
          have HB7 := Lib.hid (bel_setMany (b := bS) (stV ⟨T1 + T2, xa, xb, xc, xd + T1, xe, xf, xg⟩) 0 W6 HB6'.out (by omega))
          generalize W6.setCells bS 0 (stV ⟨T1 + T2, xa, xb, xc, xd + T1, xe, xf, xg⟩) = W7 at *
          clear c0 c1 c2 c3 c4 c5 c6 c7 z0 z1 z2 z3 z4 z5 z6 z7 a1 a2 HS6' HW6' H06' H16' HB6'
          have HST := Lib.hid (show roundP ⟨xa, xb, xc, xd, xe, xf, xg, xh⟩ kc wk = ⟨T1 + T2, xa, xb, xc, xd + T1, xe, xf, xg⟩ by
            unfold roundP
            rw [HT1.out, HT2.out])
          go_wp2_with fail
          go_roundw
          case rel => exact ⟨k + 1, by go_num, by omega, by rw [HT.out, HST.out]; exact HS7.out, HW7.out, H07.out, H17.out, HB7.out⟩
          case measure => simp [intOf]; omega
        · obtain rfl : k = 64 := by omega
          rw [show (((64 : Nat)) : Int) = (64 : Int) from rfl]
          rw [List.take_of_length_le (by rw [List.length_zip, kC_len, HSL.out]; omega)] at hS
          obtain ⟨st, hst⟩ : ∃ st, st = roundsP s (kC.zip sch) := ⟨_, rfl⟩
          rw [← hst] at hS HR
          rw [addS_comm] at HR
          rw [HSV.out, show stV s = (mixL s st 0).map wV from rfl] at h0
          have HS5 := Lib.hid hS
          have H05 := Lib.hid h0
          have H15 := Lib.hid h1
          have HB5 := Lib.hid hbl
          clear hS hW h0 h1 hbl hst hk hlt
          go_wp2_with fail
          go_loopw [148] (fun i wr => ∃ k : Nat, i = .int .i64 k ∧ k ≤ 8 ∧ VBlk 48 wr w.heap.size ((mixL s st k).map wV) ∧ VBlk 48 wr bS (stV st) ∧ VBlk 48 wr (w.heap.size + 1) (stV zs) ∧ Below w.heap.size w wr) (fun i _ => 8 - (intOf i).toNat)
          case atStart => exact ⟨0, rfl, by omega, H05.out, HS5.out, H15.out, HB5.out⟩
          case round =>
            obtain ⟨k, rfl, hk, h0, hS, h1, hbl⟩ := hrel
            by_cases hlt : k < 8
            · have c0 : wr.cell? ⟨w.heap.size, k, none⟩ = some (wV (s.list.getD k 0)) := by rw [h0.cell]; exact mixL_at s st hlt
              have c1 : wr.cell? ⟨bS, k, none⟩ = some (wV (st.list.getD k 0)) := by rw [hS.cell]; exact stV_at st hlt
              have hfz := h0.frozen k
              have a1 := add_w (s.list.getD k 0) (st.list.getD k 0)
              have HSET := Lib.hid (show VBlk 48 (wr.setCell ⟨w.heap.size, k, none⟩ (wV (s.list.getD k 0 + st.list.getD k 0))) w.heap.size ((mixL s st (k + 1)).map wV) by
                have := h0.set k (wV (s.list.getD k 0 + st.list.getD k 0))
                rwa [← List.map_set, mixL_set s st hlt] at this)
              have H0S := Lib.hid (hS.other (a := ⟨w.heap.size, k, none⟩) (by show bS ≠ w.heap.size; omega) (wV (s.list.getD k 0 + st.list.getD k 0)))
              have H1S := Lib.hid (h1.other (a := ⟨w.heap.size, k, none⟩) (by show w.heap.size + 1 ≠ w.heap.size; omega) (wV (s.list.getD k 0 + st.list.getD k 0)))
              have HBS := Lib.hid (hbl.setCell (p := ⟨w.heap.size, k, none⟩) (Nat.le_refl _) (wV (s.list.getD k 0 + st.list.getD k 0)))
              generalize st.list.getD k 0 = p at *
              generalize s.list.getD k 0 = q at *
              unfold wV at c0 c1 HSET H0S H1S HBS
              have hk0 : (0 : Int) ≤ (k : Int) := by omega
              have hki : (k : Int) < 8 := by omega
              clear hS h0 h1 hbl
              go_wp2_with fail
              go_region
              have HSET2 := Lib.hid (show VBlk 48 (wr.setCell ⟨w.heap.size, k, none⟩ (.int .u32 (wn (q + p)))).drew w.heap.size _ from HSET.out)
              have H0S2 := Lib.hid (show VBlk 48 (wr.setCell ⟨w.heap.size, k, none⟩ (.int .u32 (wn (q + p)))).drew bS (stV st) from H0S.out)
              have H1S2 := Lib.hid (show VBlk 48 (wr.setCell ⟨w.heap.size, k, none⟩ (.int .u32 (wn (q + p)))).drew (w.heap.size + 1) (stV zs) from H1S.out)
              have HBS2 := Lib.hid (bel_drew2 HBS.out)
              clear c0 c1 hfz a1 HSET H0S H1S HBS
              generalize (wr.setCell ⟨w.heap.size, k, none⟩ (.int .u32 (wn (q + p)))).drew = W8 at *
              go_wp2_with fail
              go_roundw
              case rel => exact ⟨k + 1, by go_num, by omega, HSET2.out, H0S2.out, H1S2.out, HBS2.out⟩
              case measure => simp [intOf]; omega
            · obtain rfl : k = 8 := by omega
              rw [show (((8 : Nat)) : Int) = (8 : Int) from rfl]
              rw [mixL_all, ← HR.out] at h0
              have HONE := Lib.hid (show (stV M).toArray.all (·.oneCell') = true from all_oneCell_toArray (wV_one M.list))
              have HRG := Lib.hid (range_all (show VBlk 48 wr w.heap.size (stV M) from h0))
              have HSZ := Lib.hid (show (Tryd.prog.info? 48).map (·.size) = some (stV M).length from size48)
              have HSZa := Lib.hid (show (Tryd.prog.info? 48).map (·.size) = some (stV M).toArray.size from size48)
              have HTH := Lib.hid (show wr.there (w.heap.size + 1) 0 (stV M).toArray.size from h1.there 0 8 (by rw [stV_len]; omega))
              have HRN := Lib.hid (show VBlk 48 (wr.setCells (w.heap.size + 1) 0 (stV M)) (w.heap.size + 1) (stV M) from h1.whole rfl)
              have HBN := Lib.hid (bel_setMany (b := w.heap.size + 1) (stV M) 0 wr hbl (Nat.le_succ _))
              have HLD := Lib.hid (show (loadVar 48 ⟨w.heap.size + 1, 0, none⟩).run Tryd.prog (wr.setCells (w.heap.size + 1) 0 (stV M)) = .ok (.agg (stV M).toArray) (wr.setCells (w.heap.size + 1) 0 (stV M)) from
                run_loadVar_mid _ (w.heap.size + 1) 0 48 (stV M) _ (range_all HRN.out) Tryd.underlying48 rfl HSZ.out)
              generalize hC : stV M = C at *
              have HC := Lib.hid hC
              clear hC
              clear hS h0 h1 hbl hk hlt
              go_upto_region 24 with fail
              refine wp_region_list ?_
              refine wpList_load_mid rfl 48 (.tmp 2) rfl w.heap.size 0 rfl C _ HRG.out Tryd.underlying48 rfl HSZ.out ?_
              refine wpList_store_mid rfl 48 (.tmp 4) (.tmp 160) rfl (w.heap.size + 1) 0 C.toArray rfl rfl HTH.out HSZa.out HONE.out ?_
              rw [List.toList_toArray]
              generalize wr.setCells (w.heap.size + 1) 0 C = W9 at *
              go_wp2_with fail
              refine bodyPost_ret (v := .agg C.toArray) (by simp [results, Tryd.results27, asAddr, HLD.out, Act.put]) rfl ⟨by rw [HC.out], HBN.out⟩
end Go.Proofs.YtjghmhcljhjmmaaDoor
