/- The walk of Grow's statement, at If. Condition: a list's length. -/
import Derived.Test.YtogkiifljdnjgaaDoorGexpr
namespace Go.Proofs.YtogkiifljdnjgaaDoor
open Go.RowKit
set_option linter.unusedVariables false
set_option linter.unusedSimpArgs false

theorem stmtP_if0 (l : List SeedP) (h : stmtK (takeP l).1 = 2) : stmtP 0 l = (.node 10 [] [] 0, (takeP l).2) := by rw [stmtP, if_pos h]
theorem stmtP_ifS (d : Nat) (l : List SeedP) (h : stmtK (takeP l).1 = 2) : stmtP (d + 1) l = ifP (stmtP d) (takeP l).1.2 (takeP l).2 := by rw [stmtP, if_pos h]
theorem ifP_one (f : List SeedP → Tree × List SeedP) (n : Nat) (r : List SeedP) (h : n / 4 % 3 = 1) : ifP f n r = (.node 2 [] [(exprP 3 r).1, blkT (listP f (n % 4) (exprP 3 r).2).1, blkT (listP f (n / 16 % 3) (listP f (n % 4) (exprP 3 r).2).2).1] 0, (listP f (n / 16 % 3) (listP f (n % 4) (exprP 3 r).2).2).2) := by unfold ifP; rw [if_pos h]
theorem ifP_none (f : List SeedP → Tree × List SeedP) (n : Nat) (r : List SeedP) (h : ¬ n / 4 % 3 = 1) (g : ¬ (n / 4 % 3 = 2 ∧ (listP f (n % 4) (exprP 3 r).2).2 ≠ [])) : ifP f n r = (.node 2 [] [(exprP 3 r).1, blkT (listP f (n % 4) (exprP 3 r).2).1] 0, (listP f (n % 4) (exprP 3 r).2).2) := by unfold ifP; rw [if_neg h, if_neg g]
theorem ifP_two (f : List SeedP → Tree × List SeedP) (n : Nat) (r : List SeedP) (h : ¬ n / 4 % 3 = 1) (g : n / 4 % 3 = 2 ∧ (listP f (n % 4) (exprP 3 r).2).2 ≠ []) : ifP f n r =
    if (f ((0, n / 16) :: (listP f (n % 4) (exprP 3 r).2).2)).1.kind = 2 then (.node 2 [] [(exprP 3 r).1, blkT (listP f (n % 4) (exprP 3 r).2).1, (f ((0, n / 16) :: (listP f (n % 4) (exprP 3 r).2).2)).1] 0, (f ((0, n / 16) :: (listP f (n % 4) (exprP 3 r).2).2)).2)
    else (.node 2 [] [(exprP 3 r).1, blkT (listP f (n % 4) (exprP 3 r).2).1] 0, (f ((0, n / 16) :: (listP f (n % 4) (exprP 3 r).2).2)).2) := by unfold ifP; rw [if_neg h, if_pos g]
set_option maxRecDepth 20000 in
set_option maxHeartbeats 4000000 in
theorem gif0 : ∀ (w : World) (N gb : Nat) (l : List SeedP) (di : Int), GAt w N gb l → di = 0 → stmtK (takeP l).1 = 2 → Calls Tryd.prog 40 #[.pointer (some ⟨gb, 0, none⟩), .int .i64 di] w fun e w' => PostG w w' N gb (stmtP 0 l) e := by
  intro w N gb l di hg hdi hk2
  rw [stmtP_if0 l hk2]
  obtain ⟨R, hR⟩ : ∃ R, ((Tree.node 10 [] [] 0, (takeP l).2) : Tree × List SeedP) = R := ⟨_, rfl⟩
  rw [hR]
  have hsk : stmtK (takeP l).1 = 2 + ((takeP l).1.1 : Int) % 10 := by unfold stmtK; omega
  rw [hsk] at hk2
  have HR := Lib.hid hR
  have HK2 := Lib.hid hk2
  clear hR hk2 hsk
  have hlt := hg.lt
  have hdi1 : di ≤ 100 := by omega
  have hdi0 : (0 : Int) ≤ di := by omega
  have HG := Lib.hid hg
  have HDI := Lib.hid hdi
  obtain ⟨hb1, hb2⟩ := hg.bnd
  have HB2 := Lib.hid hb2
  have HNG := Lib.hid (show N ≤ gb from hg.2.1)
  have hpw : ¬ gb = w.heap.size := by omega
  have hpw2 : ¬ w.heap.size = gb := by omega
  have hy1 : (0 : Int) ≤ ((takeP l).1.1 : Int) := by omega
  have hy2 : ((takeP l).1.1 : Int) < 256 := by omega
  clear hg hdi
  go_enter Tryd.func40, Tryd.ntmps40
  go_upto_region 3 with (go_at_call 53; (with_reducible refine (take_any _ N gb l (HG.out.step (bel_new _ _))).mono ?_); rintro e w1 ⟨rfl, hg1, ho1⟩; have HG1 := Lib.hid hg1; have HO1 := Lib.hid ((Only.of_below (b := gb) (bel_new w (.cells #[.int .i64 0, .string ⟨#[]⟩, .slice none 0 0, .int .i64 0] 26))).trans ho1); have HR1 := Lib.hid (ho1.keep (heap_alloc_new w (.cells #[.int .i64 0, .string ⟨#[]⟩, .slice none 0 0, .int .i64 0] 26)) hpw2); clear hg1 ho1)
  have hz0 : w.heap.size < w1.heap.size := block_lt HR1.out
  have H0 : Hid (Gst w ((w1.alloc (.cells #[.int .u8 ((takeP l).1.1 : Int), .int .u8 ((takeP l).1.2 : Int)] 82)).alloc (.cells #[.int .i64 (2 + ((takeP l).1.1 : Int) % 10), .string ⟨#[]⟩, .slice none 0 0, .int .i64 0] 26)) N gb w1.heap.size (w1.heap.size + 1) (takeP l).1 (2 + ((takeP l).1.1 : Int) % 10) ⟨#[]⟩ (.slice none 0 0) (takeP l).2) :=
    Lib.hid ⟨hz0, Nat.lt_succ_self _, by simp, hlt, new_blk (new_blk HR1.out), new_blk (heap_alloc_new w1 _), by have h := heap_alloc_new (w1.alloc (.cells #[.int .u8 ((takeP l).1.1 : Int), .int .u8 ((takeP l).1.2 : Int)] 82)) (.cells #[.int .i64 (2 + ((takeP l).1.1 : Int) % 10), .string ⟨#[]⟩, .slice none 0 0, .int .i64 0] 26); simpa using h, ⟨_, _, _, rfl⟩, (HG1.out.step (bel_new _ _)).step (bel_new _ _), HO1.out.alloc.alloc⟩
  clear HG1 HO1 HR1 hz0
  generalize World.alloc (World.alloc w1 _) _ = W0 at *
  generalize w1.heap.size + 1 = nb at *
  generalize w1.heap.size = sb at *
  generalize hx : (takeP l).1 = x at *
  generalize hr : (takeP l).2 = r at *
  clear hx hr
  obtain ⟨x1, x2⟩ := x
  dsimp only at *
  have n1 : ¬ w.heap.size = nb := by have h1 := H0.out.lt1; have h2 := H0.out.lt2; omega
  have n2 : ¬ nb = w.heap.size := by omega
  have n3 : ¬ w.heap.size = sb := by have h1 := H0.out.lt1; omega
  have n4 : ¬ sb = w.heap.size := by omega
  have n5 : ¬ nb = sb := by have h2 := H0.out.lt2; omega
  have n6 : ¬ sb = nb := by omega
  have hx2 : (0 : Int) ≤ (x2 : Int) := by omega
  have hx4 : (x2 : Int) < 256 := by omega
  obtain ⟨r0, r1, r2, r3, q0, q1, q2, q3⟩ := box4 H0.out.res
  obtain ⟨b0, b1, b2, b3, z0, z1, z2, z3⟩ := box4 H0.out.node
  obtain ⟨t0, t1⟩ := box2 H0.out.seed
  have hs0 := H0.out.lt3
  have hs1 := Nat.lt_trans H0.out.lt2 H0.out.lt3
  have e0 : (x1 : Int) % 10 = 0 := by have := HK2.out; omega
  have hdz : di ≤ 0 := by have := HDI.out; omega
  have ek : ((2 : Int) + (x1 : Int) % 10 == 2) = true := by rw [e0]; rfl
  rw [e0] at b0
  go_wp2_with fail
  refine bodyPost_ret (v := .agg #[.int .i64 10, .string ⟨#[]⟩, .slice none 0 0, .int .i64 0]) (by simp [results, Tryd.results40, go_sem, r0, r1, r2, r3, q0, q1, q2, q3]) rfl ?_
  rw [← HR.out]
  have hz := Only.set4 w.heap.size W0 (.int .i64 10) (.string ⟨#[]⟩) (.slice none 0 0) (.int .i64 0)
  exact ⟨⟨_, rfl, IsT.of (IsKids.nil _ _)⟩, H0.out.g.node hz H0.out.res (by have := H0.out.pl; omega), H0.out.only.new hz (Nat.le_refl _)⟩
set_option maxRecDepth 20000 in
set_option maxHeartbeats 16000000 in
theorem gifS (d : Nat) (HC : GstC d) (hd4 : d ≤ 90) : ∀ (w : World) (N gb : Nat) (l : List SeedP) (di : Int), GAt w N gb l → di = ((d + 1 : Nat) : Int) → stmtK (takeP l).1 = 2 → Calls Tryd.prog 40 #[.pointer (some ⟨gb, 0, none⟩), .int .i64 di] w fun e w' => PostG w w' N gb (stmtP (d + 1) l) e := by
  intro w N gb l di hg hdi hk2
  rw [stmtP_ifS d l hk2]
  have HCall := Lib.hid HC
  have HList := Lib.hid (gli_con d HC)
  have hlen : (listP (stmtP d) ((takeP l).1.2 % 4) (exprP 3 (takeP l).2).2).2.length ≤ (takeP l).2.length := Nat.le_trans (listP_len (stmtP_len d) _ _) (exprP_len 3 _)
  have HLEN := Lib.hid hlen
  obtain ⟨R, hR⟩ : ∃ R, ifP (stmtP d) (takeP l).1.2 (takeP l).2 = R := ⟨_, rfl⟩
  rw [hR]
  have hsk : stmtK (takeP l).1 = 2 + ((takeP l).1.1 : Int) % 10 := by unfold stmtK; omega
  rw [hsk] at hk2
  have HR := Lib.hid hR
  have HK2 := Lib.hid hk2
  have HLT := Lib.hid (show (takeP l).2.length < l.length ∨ (takeP l).2 = [] by cases l with | nil => exact .inr rfl | cons s r => exact .inl (Nat.lt_succ_self _))
  have HL2 := Lib.hid hg.1
  clear hR hk2 hsk HC hlen
  have hlt := hg.lt
  have hdi1 : di ≤ 100 := by omega
  have hdi0 : (0 : Int) ≤ di := by omega
  have HG := Lib.hid hg
  have HDI := Lib.hid hdi
  obtain ⟨hb1, hb2⟩ := hg.bnd
  have HB2 := Lib.hid hb2
  have HNG := Lib.hid (show N ≤ gb from hg.2.1)
  have hpw : ¬ gb = w.heap.size := by omega
  have hpw2 : ¬ w.heap.size = gb := by omega
  have hy1 : (0 : Int) ≤ ((takeP l).1.1 : Int) := by omega
  have hy2 : ((takeP l).1.1 : Int) < 256 := by omega
  clear hg hdi
  go_enter Tryd.func40, Tryd.ntmps40
  go_upto_region 3 with (go_at_call 53; (with_reducible refine (take_any _ N gb l (HG.out.step (bel_new _ _))).mono ?_); rintro e w1 ⟨rfl, hg1, ho1⟩; have HG1 := Lib.hid hg1; have HO1 := Lib.hid ((Only.of_below (b := gb) (bel_new w (.cells #[.int .i64 0, .string ⟨#[]⟩, .slice none 0 0, .int .i64 0] 26))).trans ho1); have HR1 := Lib.hid (ho1.keep (heap_alloc_new w (.cells #[.int .i64 0, .string ⟨#[]⟩, .slice none 0 0, .int .i64 0] 26)) hpw2); clear hg1 ho1)
  have hz0 : w.heap.size < w1.heap.size := block_lt HR1.out
  have H0 : Hid (Gst w ((w1.alloc (.cells #[.int .u8 ((takeP l).1.1 : Int), .int .u8 ((takeP l).1.2 : Int)] 82)).alloc (.cells #[.int .i64 (2 + ((takeP l).1.1 : Int) % 10), .string ⟨#[]⟩, .slice none 0 0, .int .i64 0] 26)) N gb w1.heap.size (w1.heap.size + 1) (takeP l).1 (2 + ((takeP l).1.1 : Int) % 10) ⟨#[]⟩ (.slice none 0 0) (takeP l).2) :=
    Lib.hid ⟨hz0, Nat.lt_succ_self _, by simp, hlt, new_blk (new_blk HR1.out), new_blk (heap_alloc_new w1 _), by have h := heap_alloc_new (w1.alloc (.cells #[.int .u8 ((takeP l).1.1 : Int), .int .u8 ((takeP l).1.2 : Int)] 82)) (.cells #[.int .i64 (2 + ((takeP l).1.1 : Int) % 10), .string ⟨#[]⟩, .slice none 0 0, .int .i64 0] 26); simpa using h, ⟨_, _, _, rfl⟩, (HG1.out.step (bel_new _ _)).step (bel_new _ _), HO1.out.alloc.alloc⟩
  clear HG1 HO1 HR1 hz0
  generalize World.alloc (World.alloc w1 _) _ = W0 at *
  generalize w1.heap.size + 1 = nb at *
  generalize w1.heap.size = sb at *
  generalize hx : (takeP l).1 = x at *
  generalize hr : (takeP l).2 = r at *
  clear hx hr
  obtain ⟨x1, x2⟩ := x
  dsimp only at *
  have n1 : ¬ w.heap.size = nb := by have h1 := H0.out.lt1; have h2 := H0.out.lt2; omega
  have n2 : ¬ nb = w.heap.size := by omega
  have n3 : ¬ w.heap.size = sb := by have h1 := H0.out.lt1; omega
  have n4 : ¬ sb = w.heap.size := by omega
  have n5 : ¬ nb = sb := by have h2 := H0.out.lt2; omega
  have n6 : ¬ sb = nb := by omega
  have hx2 : (0 : Int) ≤ (x2 : Int) := by omega
  have hx4 : (x2 : Int) < 256 := by omega
  obtain ⟨r0, r1, r2, r3, q0, q1, q2, q3⟩ := box4 H0.out.res
  obtain ⟨b0, b1, b2, b3, z0, z1, z2, z3⟩ := box4 H0.out.node
  obtain ⟨t0, t1⟩ := box2 H0.out.seed
  have hs0 := H0.out.lt3
  have hs1 := Nat.lt_trans H0.out.lt2 H0.out.lt3
  have hdi2 : 1 ≤ di := by have := HDI.out; omega
  have hdz : ¬ di ≤ 0 := by omega
  have ek : ((2 : Int) + (x1 : Int) % 10 == 2) = true := beq_iff_eq.2 (by have := HK2.out; omega)
  have e0 : (x1 : Int) % 10 = 0 := by have := HK2.out; omega
  have hwr : IntKind.i64.wrap (di - 1) = di - 1 := IntWalk.i64_in _ (by omega)
  have HD1 := Lib.hid (show di - 1 = (d : Int) by have := HDI.out; omega)
  have hm4 : ((x2 % 4 : Nat) : Int) = (x2 : Int) % 4 := by omega
  have HCE := Lib.hid (fun W (hW : GAt W N gb r) => gex_any 3 (by decide) W N gb r 3 hW rfl)
  have hcl := fun W l' (hW : GAt W N gb l') => HList.out W N gb l' (x2 % 4) (di - 1) hW (by omega) HD1.out
  rw [hm4] at hcl
  have HCL := Lib.hid hcl
  have hm16 : ((x2 / 16 % 3 : Nat) : Int) = (x2 : Int) / 16 % 3 := by omega
  have hcl2 := fun W l' (hW : GAt W N gb l') => HList.out W N gb l' (x2 / 16 % 3) (di - 1) hW (by omega) HD1.out
  rw [hm16] at hcl2
  have HCL2 := Lib.hid hcl2
  have HM1 := Lib.hid (show x2 / 4 % 3 = 1 ↔ (x2 : Int) / 4 % 3 = 1 by omega)
  have HM2 := Lib.hid (show x2 / 4 % 3 = 2 ↔ (x2 : Int) / 4 % 3 = 2 by omega)
  have HCS := Lib.hid (fun W l' (hW : GAt W N gb l') => HCall.out W N gb l' (di - 1) hW HD1.out)
  have hd1 : (0 : Int) ≤ (x2 : Int) / 4 := by omega
  have hd2 : (0 : Int) ≤ (x2 : Int) / 16 := by omega
  have hw1 : IntKind.i64.wrap ((x2 : Int).tmod 4) = (x2 : Int) % 4 := by rw [Int.tmod_eq_emod_of_nonneg hx2]; exact IntWalk.i64_in _ (by omega)
  have hw2 : IntKind.u8.wrap ((x2 : Int) / 16) = (x2 : Int) / 16 := IntWalk.u8_in _ (by omega)
  have hw3 : IntKind.i64.wrap (((x2 : Int) / 16).tmod 3) = (x2 : Int) / 16 % 3 := by rw [Int.tmod_eq_emod_of_nonneg hd2]; exact IntWalk.i64_in _ (by omega)
  clear hcl hcl2 hm4 hm16 HCall HList ek
  rw [e0] at b0
  go_upto_region 7 with fail
  go_cut [] (fun wx => ∃ kv, Gst w wx N gb sb nb (x1, x2) (2 + (x1 : Int) % 10) ⟨#[]⟩ kv (listP (stmtP d) (x2 % 4) (exprP 3 r).2).2 ∧ OwnTs 26 wx (nb + 1) kv [(exprP 3 r).1, blkT (listP (stmtP d) (x2 % 4) (exprP 3 r).2).1])
  case first =>
    go_region_law (first | (go_simp; go_at_call 54; (with_reducible refine (HCE.out _ H0.out.g.drew).mono ?_); rintro e w1 ⟨⟨v1, rfl, ht1⟩, hg1, ho1⟩; obtain ⟨k1, xx1, a1, m1, c1, l1, rfl⟩ := isT_shape ht1; have HT1 := Lib.hid ht1; have HO1 := Lib.hid ho1.of_drew; have H5 := Lib.hid (H0.out.call HO1.out hg1); obtain ⟨b0, b1, b2, b3, z0, z1, z2, z3⟩ := box4 H5.out.node; obtain ⟨t0, t1⟩ := box2 H5.out.seed; have hln := H5.out.lt3; clear ht1 hg1 ho1) | (go_simp; go_at_call 24; (with_reducible refine (HCL.out _ _ H5.out.g).mono ?_); rintro e w2 ⟨⟨v2, rfl, hk2⟩, hg2, ho2⟩; obtain ⟨a2, c2, rfl⟩ := isKids_shape hk2; have HK2' := Lib.hid hk2; have HO2 := Lib.hid ho2; have H6 := Lib.hid (H5.out.call ho2 hg2); obtain ⟨b0, b1, b2, b3, z0, z1, z2, z3⟩ := box4 H6.out.node; obtain ⟨t0, t1⟩ := box2 H6.out.seed; have hln2 := H6.out.lt3; clear hk2 hg2 ho2))
    all_goals
      go_wp2_with fail
      go_meet
      have hF : ∀ k, New w2 (nb + 1) k → nb + 1 ≤ k ∧ k < w2.heap.size := fun k hk => hk
      have hz1 := HO1.out.size
      have hz2 := HO2.out.size
      have hn1 : nb + 1 ≤ w1.heap.size := H5.out.lt3
      have hgl : gb < nb + 1 := (by have h0 := H0.out.lt1; have h1 := H0.out.lt2; have h2 := H0.out.pl; omega)
      have hn0 : nb + 1 ≤ W0.heap.size := H0.out.lt3
      have hte : IsT w2 (New w2 (nb + 1)) (exprP 3 r).1 _ := (HT1.out.mono (G := New w1 (nb + 1)) (fun k hk hlt => ⟨by have h1 : W0.heap.size ≤ k := hk.1; omega, hlt⟩)).only HO2.out hgl
      have hkb := HK2'.out.mono (G := New w2 (nb + 1)) (fun k hk hlt => ⟨by have h1 := hk.1; omega, hlt⟩)
      have htb := IsT.of (k := 12) (t := []) (l := 0) hkb
      have hsz : (w2.setCell ⟨nb, 2, none⟩ (.slice (some ⟨w2.heap.size, 0, none⟩) 2 2)).heap.size = w2.heap.size := by simp [World.setCell]
      have how := OwnTs.two (T := 26) (w := w2.setCell ⟨nb, 2, none⟩ (.slice (some ⟨w2.heap.size, 0, none⟩) 2 2)) (base := nb + 1) (F := New (w2.setCell ⟨nb, 2, none⟩ (.slice (some ⟨w2.heap.size, 0, none⟩) 2 2)) (nb + 1)) (hte.only Only.set (Nat.lt_succ_self _)) (htb.only Only.set (Nat.lt_succ_self _)) (fun k hk => hk) (by rw [hsz]; omega)
      rw [hsz] at how
      exact ⟨_, ((H6.out.set2 ⟨_, _, _, rfl⟩).alloc _), how⟩
  case rest =>
    obtain ⟨kv, hst, how⟩ := hcut
    obtain ⟨ak, ck, rfl⟩ := how.shape
    have HST := Lib.hid hst
    have HOW := Lib.hid how
    have HGL := Lib.hid (show gb < nb + 1 from (by have h0 := H0.out.lt1; have h1 := H0.out.lt2; have h2 := H0.out.pl; omega))
    clear hst how H0 b0 b1 b2 b3 z0 z1 z2 z3 r0 r1 r2 r3 q0 q1 q2 q3 t0 t1 hs0 hs1
    generalize hE : exprP 3 r = E at *
    generalize hL : listP (stmtP d) (x2 % 4) E.2 = L at *
    have HE := Lib.hid hE
    have HLL := Lib.hid hL
    clear hE hL
    obtain ⟨r0, r1, r2, r3, q0, q1, q2, q3⟩ := box4 HST.out.res
    obtain ⟨b0, b1, b2, b3, z0, z1, z2, z3⟩ := box4 HST.out.node
    obtain ⟨t0, t1⟩ := box2 HST.out.seed
    have hs0 := HST.out.lt3
    have hs1 := Nat.lt_trans HST.out.lt2 HST.out.lt3
    by_cases hone : x2 / 4 % 3 = 1
    · have HQ0 := Lib.hid ((ifP_one (stmtP d) x2 r hone).symm.trans HR.out)
      have e1 : (x2 : Int) / 4 % 3 = 1 := HM1.out.1 hone
      have hq0 := HQ0.out
      rw [HE.out, HLL.out] at hq0
      have HQ := Lib.hid hq0
      clear hone hq0 HQ0 HR HLEN HLT
      generalize hL2 : listP (stmtP d) (x2 / 16 % 3) L.2 = L2 at *
      have HL3 := Lib.hid hL2
      clear hL2
      go_upto_region 9 with fail
      go_region_law (first | (go_simp; go_at_call 24; (with_reducible refine (HCL2.out _ _ HST.out.g.drew).mono ?_); rintro e w1 ⟨⟨v1, rfl, hk1⟩, hg1, ho1⟩; rw [HL3.out] at hk1 hg1; obtain ⟨a1, c1, rfl⟩ := isKids_shape hk1; have HK1' := Lib.hid (IsT.of (k := 12) (t := []) (l := 0) hk1); have HO1 := Lib.hid ho1.of_drew; have H5 := Lib.hid (HST.out.call HO1.out hg1); obtain ⟨b0, b1, b2, b3, z0, z1, z2, z3⟩ := box4 H5.out.node; obtain ⟨t0, t1⟩ := box2 H5.out.seed; have hln := H5.out.lt3; clear hk1 hg1 ho1) | (refine step_appR rfl (.tmp 42) (.tmp 53) rfl (nb + 1) _ [E.1, blkT L.1] rfl (HOW.out.only HO1.out HGL.out) (blkT L2.1) _ _ _ _ rfl (New w1 wc.drew.heap.size) HK1'.out (fun k hk => ⟨by have h1 := hk.1; have h2 : wc.drew.heap.size = wc.heap.size := rfl; have h3 := HST.out.lt3; omega, hk.2, fun e => by have h1 := (HOW.out.lt k e).2; have h2 := hk.1; have h3 : wc.drew.heap.size = wc.heap.size := rfl; omega⟩) (by simp) (by have h1 := HO1.out.size; have h3 := HST.out.lt3; omega) ?_; intro v2 w2 ho2 hb2 hk2; have HOW2 := Lib.hid ho2; obtain ⟨a2, c2, rfl⟩ := ho2.shape; have H6 := Lib.hid (H5.out.app hb2 (H5.out.g.grown (HOW.out.only HO1.out HGL.out) (by have h0 := HNG.out; have h1 := HGL.out; omega) HGL.out hk2)); obtain ⟨b0, b1, b2, b3, z0, z1, z2, z3⟩ := box4 H6.out.node; obtain ⟨r0, r1, r2, r3, q0, q1, q2, q3⟩ := box4 H6.out.res; clear ho2 hb2 hk2))
      all_goals
        go_wp2_with fail
        refine bodyPost_ret (v := .agg #[.int .i64 2, .string ⟨#[]⟩, .slice a2 3 c2, .int .i64 0]) (by simp [results, Tryd.results40, go_sem, r0, r1, r2, r3, q0, q1, q2, q3]) rfl ?_
        rw [← HQ.out]
        have hfin := (H6.out.set2 (u := .slice a2 3 c2) ⟨_, _, _, rfl⟩).done rfl (HOW2.out.only (pb := nb) Only.set (Nat.lt_succ_self _)).kids (by have h0 := HST.out.lt1; have h1 := HST.out.lt2; omega) (Only.set4 w.heap.size _ (.int .i64 (2 + (x1 : Int) % 10)) (.string ⟨#[]⟩) (.slice a2 3 c2) (.int .i64 0))
        rw [e0] at hfin
        exact hfin
    have e1 : ¬ (x2 : Int) / 4 % 3 = 1 := fun h => hone (HM1.out.2 h)
    have e1' : ((x2 : Int) / 4 % 3 == 1) = false := beq_eq_false_iff_ne.2 e1
    obtain ⟨ga, gc, hgc, hgs⟩ := HST.out.g.cellS
    have HGC := Lib.hid hgc
    have HGS := Lib.hid hgs
    have p0 : wc.cell? ⟨gb, 0, none⟩ = some (.slice ga L.2.length gc) := by simp [World.cell?, hgc]
    have hl2 : L.2.length ≤ 200 := HST.out.g.1
    clear hgc hgs
    by_cases htwo : x2 / 4 % 3 = 2 ∧ L.2 ≠ []
    · have HQ0 := Lib.hid ((ifP_two (stmtP d) x2 r hone (by rw [HE.out, HLL.out]; exact htwo)).symm.trans HR.out)
      have e2 : (x2 : Int) / 4 % 3 = 2 := HM2.out.1 htwo.1
      have hpos : (0 : Int) < (L.2.length : Int) := by have := List.length_pos_iff.2 htwo.2; omega
      have HNE := Lib.hid htwo.2
      have hq0 := HQ0.out
      rw [HE.out, HLL.out] at hq0
      have HQ1 := Lib.hid hq0
      have HLE2 := Lib.hid (show ((0, x2 / 16) :: L.2).length ≤ 200 by have h1 := HLEN.out; have h2 := HLT.out; have h3 := HL2.out; rw [List.length_cons]; rcases h2 with h2 | h2; omega; rw [h2, List.length_nil] at h1; omega)
      clear hone htwo hq0 HQ0 HR HLEN HLT
      have hy : x2 / 16 < 256 := by omega
      have HY := Lib.hid (show (x2 : Int) / 16 = ((x2 / 16 : Nat) : Int) by omega)
      clear hw1 hw3
      have p1 : wc.frozen? ⟨gb, 0, none⟩ = false := by simp [World.frozen?, HGC.out]
      have hgw : gb < wc.heap.size := block_lt HGC.out
      go_upto_region 11 with fail
      go_cut [] (fun wx => Gst w wx N gb sb nb (x1, x2) (2 + (x1 : Int) % 10) ⟨#[]⟩ (.slice ak [E.1, blkT L.1].length ck) ((0, x2 / 16) :: L.2) ∧ OwnTs 26 wx (nb + 1) (.slice ak [E.1, blkT L.1].length ck) [E.1, blkT L.1])
      case first =>
        go_region_law (refine step_appS rfl (.tmp 74) (.tmp 78) rfl N gb (x2 / 16) _ HY.out hy L.2 _ rfl rfl HGS.out HNE.out hl2 hgw HNG.out ?_; intro g2 c2 w2 hS2 hb2; have HS2 := Lib.hid hS2; have HB2 := Lib.hid hb2; have HP2 := Lib.hid (keep_blk HB2.out HGC.out); have p2 : w2.frozen? ⟨gb, 0, none⟩ = false := (by simp [World.frozen?, HP2.out]); have p3 : w2.cell? ⟨gb, 0, none⟩ = some (.slice ga L.2.length gc) := (by simp [World.cell?, HP2.out]); clear hS2 hb2)
        all_goals
          go_wp2_with fail
          go_meet
          exact ⟨(HST.out.step HB2.out).call (Only.set (b := gb)) (GAt.put HP2.out HS2.out HLE2.out HNG.out), (HOW.out.step HB2.out).only (pb := gb) Only.set HGL.out⟩
      case rest =>
        obtain ⟨hst2, how2⟩ := hcut
        have HSU := Lib.hid hst2
        have HOU := Lib.hid how2
        clear hst2 how2 r0 r1 r2 r3 q0 q1 q2 q3 b0 b1 b2 b3 z0 z1 z2 z3 t0 t1 hs0 hs1 p0 p1 hgw HGC HGS HST HOW
        obtain ⟨r0, r1, r2, r3, q0, q1, q2, q3⟩ := box4 HSU.out.res
        obtain ⟨b0, b1, b2, b3, z0, z1, z2, z3⟩ := box4 HSU.out.node
        obtain ⟨t0, t1⟩ := box2 HSU.out.seed
        have hs0 := HSU.out.lt3
        have hs1 := Nat.lt_trans HSU.out.lt2 HSU.out.lt3
        generalize hF : stmtP d ((0, x2 / 16) :: L.2) = X at *
        have HX := Lib.hid hF
        clear hF
        by_cases hk : X.1.kind = 2
        · have HQ := Lib.hid (show (Tree.node 2 [] [E.1, blkT L.1, X.1] 0, X.2) = R by have h := HQ1.out; rw [if_pos hk] at h; exact h)
          have HK2' := Lib.hid hk
          clear hk HQ1
          go_wp2_with (first | (go_at_call 40; (with_reducible refine (HCS.out _ _ HSU.out.g).mono ?_); rintro e w1 hpost; rw [HX.out] at hpost; obtain ⟨⟨v1, rfl, ht1⟩, hg1, ho1⟩ := hpost; obtain ⟨k1, xx1, a1, m1, c1, l1, rfl⟩ := isT_shape ht1; have HKK := Lib.hid (isT_kind ht1); have HT1 := Lib.hid ht1; have HO1 := Lib.hid ho1; have H5 := Lib.hid ((HSU.out.call ho1 hg1).alloc (.cells #[.int .i64 k1, .string ⟨xx1.toArray⟩, .slice a1 m1 c1, .int .i64 l1] 26)); have HOW5 := Lib.hid ((HOU.out.only ho1 HGL.out).step (bel_new w1 (.cells #[.int .i64 k1, .string ⟨xx1.toArray⟩, .slice a1 m1 c1, .int .i64 l1] 26))); have HSX := Lib.hid (show (w1.alloc (.cells #[.int .i64 k1, .string ⟨xx1.toArray⟩, .slice a1 m1 c1, .int .i64 l1] 26)).heap.size = w1.heap.size + 1 by simp); have HT5 := Lib.hid (ht1.bel (bel_new w1 (.cells #[.int .i64 k1, .string ⟨xx1.toArray⟩, .slice a1 m1 c1, .int .i64 l1] 26))); have hkk : k1 = 2 := HKK.out.trans HK2'.out; subst hkk; obtain ⟨b0, b1, b2, b3, z0, z1, z2, z3⟩ := box4 H5.out.node; obtain ⟨r0, r1, r2, r3, q0, q1, q2, q3⟩ := box4 H5.out.res; have hln := H5.out.lt3; clear ht1 hg1 ho1) | (at_builtin; refine wpList_appR rfl (.tmp 90) (.tmp 92) rfl (nb + 1) _ [E.1, blkT L.1] rfl HOW5.out X.1 _ _ _ _ (by rw [HSX.out]; rfl) (New _ wc.heap.size) HT5.out (fun k hk => ⟨by have h1 := hk.1; have h3 := HSU.out.lt3; omega, hk.2, fun e => by have h1 := (HOU.out.lt k e).2; have h2 := hk.1; omega⟩) (by simp) (by have h1 := H5.out.lt3; omega) ?_; intro v2 w2 ho2 hb2 hk2; have HOW2 := Lib.hid ho2; obtain ⟨a2, c2, rfl⟩ := ho2.shape; have H6 := Lib.hid (H5.out.app hb2 (H5.out.g.grown HOW5.out (by have h0 := HNG.out; have h1 := HGL.out; omega) HGL.out hk2)); obtain ⟨b0, b1, b2, b3, z0, z1, z2, z3⟩ := box4 H6.out.node; obtain ⟨r0, r1, r2, r3, q0, q1, q2, q3⟩ := box4 H6.out.res; clear ho2 hb2 hk2))
          refine bodyPost_ret (v := .agg #[.int .i64 2, .string ⟨#[]⟩, .slice a2 3 c2, .int .i64 0]) (by simp [results, Tryd.results40, go_sem, r0, r1, r2, r3, q0, q1, q2, q3]) rfl ?_
          rw [← HQ.out]
          have hfin := (H6.out.set2 (u := .slice a2 3 c2) ⟨_, _, _, rfl⟩).done rfl (HOW2.out.only (pb := nb) Only.set (Nat.lt_succ_self _)).kids (by have h0 := HSU.out.lt1; have h1 := HSU.out.lt2; omega) (Only.set4 w.heap.size _ (.int .i64 (2 + (x1 : Int) % 10)) (.string ⟨#[]⟩) (.slice a2 3 c2) (.int .i64 0))
          rw [e0] at hfin
          exact hfin
        · have HQ := Lib.hid (show (Tree.node 2 [] [E.1, blkT L.1] 0, X.2) = R by have h := HQ1.out; rw [if_neg hk] at h; exact h)
          have HK2' := Lib.hid hk
          clear hk HQ1
          go_wp2_with (go_at_call 40; (with_reducible refine (HCS.out _ _ HSU.out.g).mono ?_); rintro e w1 hpost; rw [HX.out] at hpost; obtain ⟨⟨v1, rfl, ht1⟩, hg1, ho1⟩ := hpost; obtain ⟨k1, xx1, a1, m1, c1, l1, rfl⟩ := isT_shape ht1; have HKK := Lib.hid (isT_kind ht1); have HT1 := Lib.hid ht1; have HO1 := Lib.hid ho1; have H5 := Lib.hid ((HSU.out.call ho1 hg1).alloc (.cells #[.int .i64 k1, .string ⟨xx1.toArray⟩, .slice a1 m1 c1, .int .i64 l1] 26)); have HOW5 := Lib.hid ((HOU.out.only ho1 HGL.out).step (bel_new w1 (.cells #[.int .i64 k1, .string ⟨xx1.toArray⟩, .slice a1 m1 c1, .int .i64 l1] 26))); have HSX := Lib.hid (show (w1.alloc (.cells #[.int .i64 k1, .string ⟨xx1.toArray⟩, .slice a1 m1 c1, .int .i64 l1] 26)).heap.size = w1.heap.size + 1 by simp); have HT5 := Lib.hid (ht1.bel (bel_new w1 (.cells #[.int .i64 k1, .string ⟨xx1.toArray⟩, .slice a1 m1 c1, .int .i64 l1] 26))); have hkk : (k1 == 2) = false := beq_eq_false_iff_ne.2 (fun e => HK2'.out (HKK.out.symm.trans e)); obtain ⟨b0, b1, b2, b3, z0, z1, z2, z3⟩ := box4 H5.out.node; obtain ⟨r0, r1, r2, r3, q0, q1, q2, q3⟩ := box4 H5.out.res; have hln := H5.out.lt3; clear ht1 hg1 ho1)
          refine bodyPost_ret (v := .agg #[.int .i64 2, .string ⟨#[]⟩, .slice ak 2 ck, .int .i64 0]) (by simp [results, Tryd.results40, go_sem, r0, r1, r2, r3, q0, q1, q2, q3]) rfl ?_
          rw [← HQ.out]
          have hfin := (H5.out).done rfl (HOW5.out).kids (by have h0 := HSU.out.lt1; have h1 := HSU.out.lt2; omega) (Only.set4 w.heap.size _ (.int .i64 (2 + (x1 : Int) % 10)) (.string ⟨#[]⟩) (.slice ak 2 ck) (.int .i64 0))
          rw [e0] at hfin
          exact hfin
    · have HQ0 := Lib.hid ((ifP_none (stmtP d) x2 r hone (by rw [HE.out, HLL.out]; exact htwo)).symm.trans HR.out)
      have hq0 := HQ0.out
      rw [HE.out, HLL.out] at hq0
      have HQ := Lib.hid hq0
      have HT3 := Lib.hid (show (x2 : Int) / 4 % 3 = 2 → L.2.length = 0 by intro h; exact Decidable.byContradiction fun g => htwo ⟨HM2.out.2 h, fun e => g (by rw [e]; rfl)⟩)
      clear hone htwo hq0 HQ0 HR HLEN HLT
      by_cases h2 : (x2 : Int) / 4 % 3 = 2
      · rw [HT3.out h2] at p0
        go_wp2_with fail
        refine bodyPost_ret (v := .agg #[.int .i64 2, .string ⟨#[]⟩, .slice ak 2 ck, .int .i64 0]) (by simp [results, Tryd.results40, go_sem, r0, r1, r2, r3, q0, q1, q2, q3]) rfl ?_
        rw [← HQ.out]
        have hfin := (HST.out).done rfl (HOW.out).kids (by have h0 := HST.out.lt1; have h1 := HST.out.lt2; omega) (Only.set4 w.heap.size _ (.int .i64 (2 + (x1 : Int) % 10)) (.string ⟨#[]⟩) (.slice ak 2 ck) (.int .i64 0))
        rw [e0] at hfin
        exact hfin
      · have e2 : ((x2 : Int) / 4 % 3 == 2) = false := beq_eq_false_iff_ne.2 h2
        go_wp2_with fail
        refine bodyPost_ret (v := .agg #[.int .i64 2, .string ⟨#[]⟩, .slice ak 2 ck, .int .i64 0]) (by simp [results, Tryd.results40, go_sem, r0, r1, r2, r3, q0, q1, q2, q3]) rfl ?_
        rw [← HQ.out]
        have hfin := (HST.out).done rfl (HOW.out).kids (by have h0 := HST.out.lt1; have h1 := HST.out.lt2; omega) (Only.set4 w.heap.size _ (.int .i64 (2 + (x1 : Int) % 10)) (.string ⟨#[]⟩) (.slice ak 2 ck) (.int .i64 0))
        rw [e0] at hfin
        exact hfin
end Go.Proofs.YtogkiifljdnjgaaDoor
