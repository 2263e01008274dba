/- The walk of the law RuletreeSame. Condition: the keywords lie in memory. -/
import Derived.Test.YtogkiifljdnjgaaDoorGrow
import Derived.Test.YtogkiifljdnjgaaDoorParse
import Derived.Test.YtogkiifljdnjgaaDoorTwo
import Derived.Test.YtogkiifljdnjgaaDoorNodes
import Derived.Test.YtogkiifljdnjgaaDoorPair
import Derived.Deep.RegionHeld3
namespace Go.Proofs.YtogkiifljdnjgaaDoor
open Go.RowKit
set_option linter.unusedVariables false
set_option linter.unusedSimpArgs false

mutual
theorem sameT_comm : ∀ (t u : Tree), sameT t u = sameT u t
  | .node k t ks l, .node k' t' us l' => by
    rw [sameT_node, sameT_node]
    by_cases hl : ks.length = us.length
    · rw [sameL_comm ks us hl, Bool.beq_comm (a := k), Bool.beq_comm (a := t), Bool.beq_comm (a := ks.length)]
    · have e1 : (ks.length == us.length) = false := beq_eq_false_iff_ne.2 hl
      have e2 : (us.length == ks.length) = false := beq_eq_false_iff_ne.2 (fun e => hl e.symm)
      rw [e1, e2]; simp
theorem sameL_comm : ∀ (ks us : List Tree), ks.length = us.length → sameL ks us = sameL us ks
  | [], [], _ => rfl
  | [], u :: us, h => by simp at h
  | t :: ts, [], h => by simp at h
  | t :: ts, u :: us, h => by rw [sameL_cons, sameL_cons, sameT_comm t u, sameL_comm ts us (by simpa using h)]
end
theorem same_line (k l l' : Int) (t : List UInt8) (ks : List Tree) : sameT (.node k t ks l) (.node k t ks l') = true := by
  rw [sameT_node, sameL_refl]; simp
theorem same_val (t u : Tree) (F G : Nat → Prop) (w : World) (v x : Value) (b : Bool) (ht : IsT w F t v) (hu : IsT w G u x) (hs : sizeT t ≤ 1000000000) (hb : sameT t u = b) :
    Calls Tryd.prog 12 #[v, x] w fun e w' => e = .returned (.bool b) ∧ Below w.heap.size w w' := by rw [← hb]; exact same_any t u F G w v x ht hu hs
theorem rsame_val (t u : Tree) (F G : Nat → Prop) (w : World) (v x : Value) (b : Bool) (ht : IsT w F t v) (hu : IsT w G u x) (hs : sizeT t ≤ 1000000000) (hb : sameT t u = b) :
    Calls Tryd.prog 13 #[v, x] w fun e w' => e = .returned (.bool b) ∧ Below w.heap.size w w' := by rw [← hb]; exact rsame_any t u F G w v x ht hu hs
theorem rsize_val (t : Tree) (F : Nat → Prop) (w : World) (v : Value) (n : Int) (ht : IsT w F t v) (hs : sizeT t ≤ 1000000000) (hn : (sizeT t : Int) = n) :
    Calls Tryd.prog 14 #[v] w fun e w' => e = .returned (.int .i64 n) ∧ Below w.heap.size w w' := by rw [← hn]; exact rsize_any t F w v ht hs
/-- Of, called in a later world. -/
theorem of_at {w5 W : World} {t : Tree} {v : Value} {F : Nat → Prop} (h : IsT w5 F t v) (hs : sizeT t ≤ 1000000) (hW : Below w5.heap.size w5 W) :
    Calls Tryd.prog 11 #[v] W fun e w' => (∃ v', e = .returned v' ∧ IsT w' (New w' W.heap.size) t v') ∧ Below W.heap.size W w' ∧ Below w5.heap.size w5 w' :=
  (of_any t F W v (h.step hW) hs).mono fun e w' h => ⟨h.1, h.2, hW.trans (h.2.mono hW.size)⟩
set_option maxRecDepth 20000 in
set_option maxHeartbeats 4000000 in
theorem same_walk (w : World) (va vb : Value) (l m : List SeedP) (c : Nat) (hk : KW w) (ha : ArgS w va l) (hb : ArgS w vb m) (hc : c < 256) : Calls Tryd.prog 3 #[va, vb, .int .u8 (c : Int)] w fun e w' => e = .returned (.bool true) ∧ Below w.heap.size w w' := by
  have HK := Lib.hid hk
  have HA := Lib.hid ha
  have HB := Lib.hid hb
  have hc0 : (0 : Int) ≤ (c : Int) := by omega
  have hc1 : (c : Int) < 256 := by omega
  clear hk ha hb
  go_enter Tryd.func3, Tryd.ntmps3
  go_upto_region 5 with (first | (go_at_call 8; (with_reducible refine (awake_any _ HK.out).mono ?_); rintro e w1 ⟨rfl, hb1⟩; have HB1 := Lib.hid hb1; clear hb1) | (go_at_call 9; (with_reducible refine (grow_any _ _ l (HA.out.step HB1.out)).mono ?_); rintro e w2 ⟨⟨v2, rfl, ht2⟩, hb2⟩; obtain ⟨k2, x2, a2, m2, c2, l2, rfl⟩ := isT_shape ht2; have HB2 := Lib.hid (HB1.out.trans (hb2.mono HB1.out.size)); have HT2 := Lib.hid ht2; clear ht2 hb2) | (go_at_call 9; (with_reducible refine (grow_any _ _ m (HB.out.step HB2.out)).mono ?_); rintro e w3 ⟨⟨v3, rfl, ht3⟩, hb3⟩; obtain ⟨k3, x3, a3, m3, c3, l3, rfl⟩ := isT_shape ht3; have HB3 := Lib.hid (HB2.out.trans (hb3.mono HB2.out.size)); have HB32 := Lib.hid hb3; have HT2' := Lib.hid (HT2.out.step hb3); have HT3 := Lib.hid ht3; clear ht3 hb3))
  have HA0 := Lib.hid (show Below w3.heap.size w3 (((w3.alloc (.cells #[.int .i64 k2, .string ⟨x2.toArray⟩, .slice a2 m2 c2, .int .i64 l2] 26)).alloc (.cells #[.int .i64 k3, .string ⟨x3.toArray⟩, .slice a3 m3 c3, .int .i64 l3] 26)).alloc (.cells #[.int .i64 (c : Int)] 3)) from ((bel_new w3 _).alloc (by simp) _).alloc (by simp; omega) _)
  have HPK : Hid ((((w3.alloc (.cells #[.int .i64 k2, .string ⟨x2.toArray⟩, .slice a2 m2 c2, .int .i64 l2] 26)).alloc (.cells #[.int .i64 k3, .string ⟨x3.toArray⟩, .slice a3 m3 c3, .int .i64 l3] 26)).alloc (.cells #[.int .i64 (c : Int)] 3)).heap[w3.heap.size + 1 + 1]? = some (.cells #[.int .i64 (c : Int)] 3 (0, 0))) := Lib.hid (by have h := heap_alloc_new ((w3.alloc (.cells #[.int .i64 k2, .string ⟨x2.toArray⟩, .slice a2 m2 c2, .int .i64 l2] 26)).alloc (.cells #[.int .i64 k3, .string ⟨x3.toArray⟩, .slice a3 m3 c3, .int .i64 l3] 26)) (.cells #[.int .i64 (c : Int)] 3); simpa using h)
  have HX2 := Lib.hid (new_blk (y := (.cells #[.int .i64 (c : Int)] 3)) (new_blk (y := (.cells #[.int .i64 k3, .string ⟨x3.toArray⟩, .slice a3 m3 c3, .int .i64 l3] 26)) (heap_alloc_new w3 (.cells #[.int .i64 k2, .string ⟨x2.toArray⟩, .slice a2 m2 c2, .int .i64 l2] 26))))
  have HX3 : Hid ((((w3.alloc (.cells #[.int .i64 k2, .string ⟨x2.toArray⟩, .slice a2 m2 c2, .int .i64 l2] 26)).alloc (.cells #[.int .i64 k3, .string ⟨x3.toArray⟩, .slice a3 m3 c3, .int .i64 l3] 26)).alloc (.cells #[.int .i64 (c : Int)] 3)).heap[w3.heap.size + 1]? = some (.cells #[.int .i64 k3, .string ⟨x3.toArray⟩, .slice a3 m3 c3, .int .i64 l3] 26 (0, 0))) := Lib.hid (by have h := new_blk (y := (.cells #[.int .i64 (c : Int)] 3)) (heap_alloc_new (w3.alloc (.cells #[.int .i64 k2, .string ⟨x2.toArray⟩, .slice a2 m2 c2, .int .i64 l2] 26)) (.cells #[.int .i64 k3, .string ⟨x3.toArray⟩, .slice a3 m3 c3, .int .i64 l3] 26)); simpa using h)
  have HFP := Lib.hid (show ∀ b, New w2 w1.heap.size b → b ≠ w3.heap.size + 1 + 1 from fun b hb => by have h1 := hb.2; have h2 := HB32.out.size; omega)
  have HSA := Lib.hid (show (((w3.alloc (.cells #[.int .i64 k2, .string ⟨x2.toArray⟩, .slice a2 m2 c2, .int .i64 l2] 26)).alloc (.cells #[.int .i64 k3, .string ⟨x3.toArray⟩, .slice a3 m3 c3, .int .i64 l3] 26)).alloc (.cells #[.int .i64 (c : Int)] 3)).heap.size = w3.heap.size + 3 by simp)
  go_upto_region 6 with (go_at_call 10; (with_reducible refine (ch_any (growP l) _ _ _ (w3.heap.size + 1 + 1) (c : Int) (HT2'.out.step HA0.out) (Nat.le_trans (growP_size l) (by decide)) HPK.out HFP.out (by omega) (by omega)).mono ?_); rintro e w4 ⟨⟨v4, rfl, ht4⟩, hp4, ho4⟩; obtain ⟨k4, x4, a4, m4, c4, l4, rfl⟩ := isT_shape ht4; have HT4 := Lib.hid ht4; have HO4 := Lib.hid ho4; clear ht4 hp4 ho4)
  have h45 := bel_new w4 (.cells #[.int .i64 k4, .string ⟨x4.toArray⟩, .slice a4 m4 c4, .int .i64 l4] 26)
  have hz4 := HO4.out.size
  have hz0 := HSA.out
  have hon := HO4.out
  have HXA := Lib.hid (new_blk (y := (.cells #[.int .i64 k4, .string ⟨x4.toArray⟩, .slice a4 m4 c4, .int .i64 l4] 26)) (hon.keep HX2.out (by omega)))
  have HXB := Lib.hid (new_blk (y := (.cells #[.int .i64 k4, .string ⟨x4.toArray⟩, .slice a4 m4 c4, .int .i64 l4] 26)) (hon.keep HX3.out (by omega)))
  have HXC := Lib.hid (heap_alloc_new w4 (.cells #[.int .i64 k4, .string ⟨x4.toArray⟩, .slice a4 m4 c4, .int .i64 l4] 26))
  have HTA := Lib.hid (((HT2'.out.step HA0.out).other hon HFP.out).step h45 |>.mono (G := (fun _ => True)) (fun _ _ _ => trivial))
  have HTB := Lib.hid (((HT3.out.step HA0.out).other hon (fun b hb => by have h1 := hb.2; omega)).step h45 |>.mono (G := (fun _ => True)) (fun _ _ _ => trivial))
  have HTC := Lib.hid ((HT4.out.bel h45).mono (G := (fun _ => True)) (fun _ _ _ => trivial))
  have HB5 := Lib.hid (show Below w.heap.size w (w4.alloc (.cells #[.int .i64 k4, .string ⟨x4.toArray⟩, .slice a4 m4 c4, .int .i64 l4] 26)) from ((HB3.out.trans (HA0.out.mono HB3.out.size)).trans (hon.below (by have := HB3.out.size; omega) (by have := HB3.out.size; omega))).alloc (by have := HB3.out.size; omega) _)
  have HAB := Lib.hid (show w3.heap.size < w4.heap.size by omega)
  clear HT2 HT2' HT3 HT4 HO4 h45 hz4 hz0 hon HX2 HX3 HPK HFP HA0 HB1 HB2 HB3 HB32 HSA HK HA HB
  generalize hcb : w4.heap.size = cb at *
  generalize World.alloc w4 _ = w5 at *
  clear hcb
  generalize hbb : w3.heap.size + 1 = bb at *
  generalize hab : w3.heap.size = ab at *
  have h5a : ab < w5.heap.size := block_lt HXA.out
  have h5b : bb < w5.heap.size := block_lt HXB.out
  have h5c : cb < w5.heap.size := block_lt HXC.out
  clear hbb hab
  have HSG := Lib.hid (show sizeT (growP l) ≤ 1000000 from Nat.le_trans (growP_size l) (by decide))
  obtain ⟨d0, d1, d2, d3, y0, y1, y2, y3⟩ := box4 HXA.out
  go_cut [11, 12] (fun x y wx => ∃ xb yb, x = .pointer (some ⟨xb, 0, none⟩) ∧ y = .pointer (some ⟨yb, 0, none⟩) ∧ TwoB w5 wx (growP l) xb yb)
  case first =>
    refine two_copies (t := growP l) (ab := ab) rfl ⟨_, rfl, rfl, rfl, rfl⟩ ⟨_, rfl, rfl, rfl, rfl⟩ ⟨_, rfl, rfl, rfl, rfl⟩ ⟨_, rfl, rfl, rfl, rfl⟩ ⟨_, rfl, rfl, rfl, rfl⟩ ⟨_, rfl, rfl, rfl, rfl⟩ ⟨_, rfl, rfl, rfl, rfl⟩ ⟨_, rfl, rfl, rfl, rfl⟩ ?r1 ?r3 ?r6 ?r7 ?hend rfl (by simp) HXA.out HTA.out HSG.out ?hQ
    case r1 => exact fun L h => by obtain ⟨_, _, o, ho, hh⟩ := ready_mem h; cases ho; simpa [Region.binds] using hh
    case r3 => exact fun L h => by obtain ⟨_, _, o, ho, hh⟩ := ready_mem h; cases ho; rw [Array.getD_eq_getD_getElem?]; simp [Region.binds] at hh; exact hh.1
    case r6 => exact fun L h => by obtain ⟨_, _, o, ho, hh⟩ := ready_mem h; cases ho; rw [Array.getD_eq_getD_getElem?, Array.getD_eq_getD_getElem?]; simp [Region.binds] at hh; exact ⟨hh.1, hh.2.1⟩
    case r7 => exact fun L h => by obtain ⟨_, _, o, ho, hh⟩ := ready_mem h; cases ho; rw [Array.getD_eq_getD_getElem?, Array.getD_eq_getD_getElem?]; simp [Region.binds] at hh; exact ⟨hh.1, hh.2.1⟩
    case hend =>
      intro L hL
      match L, hL with
      | ⟨[b0, b1, b2, b3, b4, b5, b6, b7]⟩, _ =>
        revert b0 b1 b2 b3 b4 b5 b6 b7
        decide +kernel
    case hQ =>
      intro xb yb u24 u25 u26 u27 wx hB
      simp only [List.setIfInBounds_toArray, List.set_cons_succ, List.set_cons_zero]
      go_wp2_with fail
      go_meet
      exact ⟨xb, yb, rfl, rfl, hB⟩
  case rest =>
    obtain ⟨xb, yb, rfl, rfl, k6, x6, a6, m6, c6, l6, k7, x7, a7, m7, c7, l7, hbel, hx5, hy5, hne, hxb, hyb, htx, hty⟩ := hcut
    have HB8 := Lib.hid (show Below w5.heap.size w5 (wc.setCell ⟨yb, 3, none⟩ (.int .i64 77)) from hbel.trans (Only.set.below hy5 hbel.size))
    have HO8 := Lib.hid (Only.set (b := yb) (k := 3) (w := wc) (u := .int .i64 77))
    have HX8 := Lib.hid (HO8.out.keep hxb hne)
    have HY8 : Hid ((wc.setCell ⟨yb, 3, none⟩ (.int .i64 77)).heap[yb]? = some (.cells #[.int .i64 k7, .string ⟨x7.toArray⟩, .slice a7 m7 c7, .int .i64 77] 32 (0, 0))) := Lib.hid (by have h := Joins.block_setCell (i := 3) hyb (.int .i64 77); simpa using h)
    have HTX := Lib.hid ((htx.other HO8.out (fun k hk => hk)).mono (G := (fun _ => True)) (fun _ _ _ => trivial))
    have HTY : Hid (IsT (wc.setCell ⟨yb, 3, none⟩ (.int .i64 77)) (fun _ => True) (.node 1 [] (growP l).kids 77) (.agg #[.int .i64 k7, .string ⟨x7.toArray⟩, .slice a7 m7 c7, .int .i64 77])) := by
      have hk := hty
      unfold growP at hk
      obtain ⟨kv, he, hks⟩ := isT_node.1 hk
      simp only [Value.agg.injEq, Array.mk.injEq, List.cons.injEq, Value.int.injEq, Value.string.injEq, and_true, true_and] at he
      obtain ⟨rfl, e2, rfl, rfl⟩ := he
      have hx0 : x7 = [] := by
        have h := congrArg ByteArray.data e2
        simpa using h
      subst hx0
      exact Lib.hid (IsT.of ((hks.other HO8.out (fun k hk => hk)).mono (fun _ _ _ => trivial)))
    have HSY := Lib.hid (show sameT (growP l) (.node 1 [] (growP l).kids 77) = true by unfold growP; exact same_line _ _ _ _ _)
    have HA8 := Lib.hid (keep_blk HB8.out HXA.out)
    have HBB8 := Lib.hid (keep_blk HB8.out HXB.out)
    have HC8 := Lib.hid (keep_blk HB8.out HXC.out)
    have HTA8 := Lib.hid (HTA.out.step HB8.out)
    have HTB8 := Lib.hid (HTB.out.step HB8.out)
    have HTC8 := Lib.hid (HTC.out.step HB8.out)
    have HSB := Lib.hid (show sizeT (growP m) ≤ 1000000 from Nat.le_trans (growP_size m) (by decide))
    have HSC := Lib.hid (show sizeT (chT (growP l) (c : Int)).1 ≤ 1000000 by rw [chT_size]; exact HSG.out)
    have HCM := Lib.hid (sameT_comm (chT (growP l) (c : Int)).1 (growP l))
    have HEQ := Lib.hid (fun (h : (sizeT (growP l) : Int) ≤ (c : Int)) => show sameT (growP l) (chT (growP l) (c : Int)).1 = true by rw [chT_same _ _ (.inr h)]; exact sameT_refl _)
    have HBW := Lib.hid (HB5.out.trans (HB8.out.mono HB5.out.size))
    obtain ⟨g0, g1, g2, g3, z0, z1, z2, z3⟩ := box4 hyb
    go_upto_region 8 with fail
    clear hbel hx5 hy5 hne hxb hyb htx hty HB8 HO8 HXA HXB HXC HTA HTB HTC HB5 g0 g1 g2 g3 z0 z1 z2 z3 d0 d1 d2 d3 y0 y1 y2 y3 h5a h5b h5c HAB
    generalize World.setCell wc _ _ = W at *
    have HKS := Lib.hid (show ∀ V, Below W.heap.size W V → (V.cell? ⟨ab, 0, none⟩ = some (.int .i64 k2) ∧ V.cell? ⟨ab, 1, none⟩ = some (.string ⟨x2.toArray⟩) ∧ V.cell? ⟨ab, 2, none⟩ = some (.slice a2 m2 c2) ∧ V.cell? ⟨ab, 3, none⟩ = some (.int .i64 l2) ∧ V.cell? ⟨bb, 0, none⟩ = some (.int .i64 k3) ∧ V.cell? ⟨bb, 1, none⟩ = some (.string ⟨x3.toArray⟩) ∧ V.cell? ⟨bb, 2, none⟩ = some (.slice a3 m3 c3) ∧ V.cell? ⟨bb, 3, none⟩ = some (.int .i64 l3) ∧ V.cell? ⟨cb, 0, none⟩ = some (.int .i64 k4) ∧ V.cell? ⟨cb, 1, none⟩ = some (.string ⟨x4.toArray⟩) ∧ V.cell? ⟨cb, 2, none⟩ = some (.slice a4 m4 c4) ∧ V.cell? ⟨cb, 3, none⟩ = some (.int .i64 l4) ∧ V.cell? ⟨xb, 0, none⟩ = some (.int .i64 k6) ∧ V.cell? ⟨xb, 1, none⟩ = some (.string ⟨x6.toArray⟩) ∧ V.cell? ⟨xb, 2, none⟩ = some (.slice a6 m6 c6) ∧ V.cell? ⟨xb, 3, none⟩ = some (.int .i64 l6) ∧ V.cell? ⟨yb, 0, none⟩ = some (.int .i64 k7) ∧ V.cell? ⟨yb, 1, none⟩ = some (.string ⟨x7.toArray⟩) ∧ V.cell? ⟨yb, 2, none⟩ = some (.slice a7 m7 c7) ∧ V.cell? ⟨yb, 3, none⟩ = some (.int .i64 77)) from fun V hV => by
      obtain ⟨a0', a1', a2', a3', _⟩ := box4 (keep_blk hV HA8.out)
      obtain ⟨b0', b1', b2', b3', _⟩ := box4 (keep_blk hV HBB8.out)
      obtain ⟨c0', c1', c2', c3', _⟩ := box4 (keep_blk hV HC8.out)
      obtain ⟨e0', e1', e2', e3', _⟩ := box4 (keep_blk hV HX8.out)
      obtain ⟨f0', f1', f2', f3', _⟩ := box4 (keep_blk hV HY8.out)
      exact ⟨a0', a1', a2', a3', b0', b1', b2', b3', c0', c1', c2', c3', e0', e1', e2', e3', f0', f1', f2', f3'⟩)
    generalize (chT (growP l) (c : Int)).1 = C at *
    generalize growP m = B at *
    generalize Tree.node 1 [] (growP l).kids 77 = Y at *
    generalize growP l = A at *
    generalize hp : sameT A B = p at *
    generalize hq : sameT A C = q at *
    have HP := Lib.hid hp
    have HQ := Lib.hid hq
    generalize hn : sizeT A = N at *
    have HN := Lib.hid hn
    clear hp hq hn
    have hN := HSG.out
    have hn0 : (0 : Int) ≤ (N : Int) := by omega
    have hn1 : (N : Int) ≤ 1000000 := by omega
    clear hN
    have hwc : IntKind.i64.wrap (c : Int) = (c : Int) := IntWalk.i64_in _ (by omega)
    by_cases hsz : (N : Int) ≤ (c : Int)
    · have hqt := HEQ.out hsz
      have HQ1 := Lib.hid (show sameT A C = true by rw [HQ.out]; exact hqt)
      have HQ2 := Lib.hid (show sameT C A = true by rw [HCM.out]; exact hqt)
      have hszN : N ≤ c := by omega
      have hdz : decide (N ≤ c) = true := decide_eq_true hszN
      clear hqt HEQ
      refine wp_region_held_drew (S := fun w' => w'.cell? ⟨ab, 0, none⟩ = some (.int .i64 k2) ∧ w'.cell? ⟨ab, 1, none⟩ = some (.string ⟨x2.toArray⟩) ∧ w'.cell? ⟨ab, 2, none⟩ = some (.slice a2 m2 c2) ∧ w'.cell? ⟨ab, 3, none⟩ = some (.int .i64 l2) ∧ w'.cell? ⟨bb, 0, none⟩ = some (.int .i64 k3) ∧ w'.cell? ⟨bb, 1, none⟩ = some (.string ⟨x3.toArray⟩) ∧ w'.cell? ⟨bb, 2, none⟩ = some (.slice a3 m3 c3) ∧ w'.cell? ⟨bb, 3, none⟩ = some (.int .i64 l3) ∧ w'.cell? ⟨cb, 0, none⟩ = some (.int .i64 k4) ∧ w'.cell? ⟨cb, 1, none⟩ = some (.string ⟨x4.toArray⟩) ∧ w'.cell? ⟨cb, 2, none⟩ = some (.slice a4 m4 c4) ∧ w'.cell? ⟨cb, 3, none⟩ = some (.int .i64 l4) ∧ w'.cell? ⟨xb, 0, none⟩ = some (.int .i64 k6) ∧ w'.cell? ⟨xb, 1, none⟩ = some (.string ⟨x6.toArray⟩) ∧ w'.cell? ⟨xb, 2, none⟩ = some (.slice a6 m6 c6) ∧ w'.cell? ⟨xb, 3, none⟩ = some (.int .i64 l6) ∧ w'.cell? ⟨yb, 0, none⟩ = some (.int .i64 k7) ∧ w'.cell? ⟨yb, 1, none⟩ = some (.string ⟨x7.toArray⟩) ∧ w'.cell? ⟨yb, 2, none⟩ = some (.slice a7 m7 c7) ∧ w'.cell? ⟨yb, 3, none⟩ = some (.int .i64 77)) (by kernel_rfl) (HKS.out _ (Below.refl _ _).drew) (fun hHeld => ?_)
      refine wpAnyH_take (i := 0) (oi := ⟨some 29, _, _, _, _, _⟩) (v := ?_) rfl (by kernel_rfl) (by kernel_rfl) (by kernel_rfl) (fun _ _ _ h => h) (Or.inl ⟨by rfl, ?hy0⟩) (by assumption) ?rest0
      case hy0 => (intro w hSw; (try dsimp only at hSw); go_simp; (try with_reducible rfl))
      try simp only [Act.put, List.setIfInBounds_toArray, List.set_cons_zero, List.set_cons_succ]
      refine wpAnyH_take (i := 1) (oi := ⟨some 30, _, _, _, _, _⟩) (v := ?_) rfl (by kernel_rfl) (by kernel_rfl) (by kernel_rfl) (fun _ _ _ h => h) (Or.inl ⟨by rfl, ?hy1⟩) (by assumption) ?rest1
      case hy1 => (intro w hSw; (try dsimp only at hSw); go_simp; (try with_reducible rfl))
      try simp only [Act.put, List.setIfInBounds_toArray, List.set_cons_zero, List.set_cons_succ]
      refine wpAnyH_ready (rs := [2]) (by kernel_rfl) (by simp) ?_
      refine AllReadyH.cons (o := ⟨some 31, _, _, _, _, _⟩) rfl (fun K hK => ?_) AllReadyH.nil
      go_simp
      go_at_call 12; (with_reducible refine (same_val A Y _ _ _ _ _ true (HTX.out.step ((Below.refl W.heap.size W).drew)) (HTY.out.step ((Below.refl W.heap.size W).drew)) (Nat.le_trans (Nat.le_trans (Nat.le_of_eq HN.out) HSG.out) (by decide)) HSY.out).mono ?_); rintro e w11 ⟨rfl, hb11⟩; have HB11 := Lib.hid (((Below.refl W.heap.size W).drew).trans (hb11.mono ((Below.refl W.heap.size W).drew).size)); clear hb11
      refine hK.out _ _ ?_ (fun hHeld => ?_)
      · exact HKS.out _ HB11.out
      clear hK K
      try simp only [Act.put, List.setIfInBounds_toArray, List.set_cons_zero, List.set_cons_succ]
      refine wpAnyH_take (i := 3) (oi := ⟨some 32, _, _, _, _, _⟩) (v := ?_) rfl (by kernel_rfl) (by kernel_rfl) (by kernel_rfl) (fun _ _ _ h => h) (Or.inl ⟨by rfl, ?hy3⟩) (by assumption) ?rest3
      case hy3 => (intro w hSw; (try dsimp only at hSw); go_simp; (try with_reducible rfl))
      try simp only [Act.put, List.setIfInBounds_toArray, List.set_cons_zero, List.set_cons_succ]
      refine wpAnyH_take (i := 4) (oi := ⟨some 33, _, _, _, _, _⟩) (v := ?_) rfl (by kernel_rfl) (by kernel_rfl) (by kernel_rfl) (fun _ _ _ h => h) (Or.inl ⟨by rfl, ?hy4⟩) (by assumption) ?rest4
      case hy4 => (intro w hSw; (try dsimp only at hSw); go_simp; (try with_reducible rfl))
      try simp only [Act.put, List.setIfInBounds_toArray, List.set_cons_zero, List.set_cons_succ]
      refine wpAnyH_take (i := 5) (oi := ⟨some 34, _, _, _, _, _⟩) (v := ?_) rfl (by kernel_rfl) (by kernel_rfl) (by kernel_rfl) (fun _ _ _ h => h) (Or.inl ⟨by rfl, ?hy5⟩) (by assumption) ?rest5
      case hy5 => (intro w hSw; (try dsimp only at hSw); go_simp; (try with_reducible rfl))
      try simp only [Act.put, List.setIfInBounds_toArray, List.set_cons_zero, List.set_cons_succ]
      refine wpAnyH_take (i := 8) (oi := ⟨some 37, _, _, _, _, _⟩) (v := ?_) rfl (by kernel_rfl) (by kernel_rfl) (by kernel_rfl) (fun _ _ _ h => h) (Or.inl ⟨by rfl, ?hy8⟩) (by assumption) ?rest8
      case hy8 => (intro w hSw; (try dsimp only at hSw); go_simp; (try with_reducible rfl))
      try simp only [Act.put, List.setIfInBounds_toArray, List.set_cons_zero, List.set_cons_succ]
      refine wpAnyH_take (i := 9) (oi := ⟨some 38, _, _, _, _, _⟩) (v := ?_) rfl (by kernel_rfl) (by kernel_rfl) (by kernel_rfl) (fun _ _ _ h => h) (Or.inl ⟨by rfl, ?hy9⟩) (by assumption) ?rest9
      case hy9 => (intro w hSw; (try dsimp only at hSw); go_simp; (try with_reducible rfl))
      try simp only [Act.put, List.setIfInBounds_toArray, List.set_cons_zero, List.set_cons_succ]
      refine wpAnyH_ready (rs := [6]) (by kernel_rfl) (by simp) ?_
      refine AllReadyH.cons (o := ⟨some 35, _, _, _, _, _⟩) rfl (fun K hK => ?_) AllReadyH.nil
      go_simp
      go_at_call 11; (with_reducible refine (of_any B _ _ _ (HTB8.out.step HB11.out) HSB.out).mono ?_); rintro e w12 ⟨⟨v12, rfl, ht12⟩, hb12⟩; obtain ⟨k12, x12, a12, m12, c12, l12, rfl⟩ := isT_shape ht12; have HB12 := Lib.hid (HB11.out.trans (hb12.mono HB11.out.size)); have HT12 := Lib.hid ht12; clear ht12 hb12
      refine hK.out _ _ ?_ (fun hHeld => ?_)
      · exact HKS.out _ HB12.out
      clear hK K
      try simp only [Act.put, List.setIfInBounds_toArray, List.set_cons_zero, List.set_cons_succ]
      refine wpAnyH_ready (rs := [7]) (by kernel_rfl) (by simp) ?_
      refine AllReadyH.cons (o := ⟨some 36, _, _, _, _, _⟩) rfl (fun K hK => ?_) AllReadyH.nil
      go_simp
      go_at_call 12; (with_reducible refine (same_val A B _ _ _ _ _ p (HTX.out.step HB12.out) HT12.out (Nat.le_trans (Nat.le_trans (Nat.le_of_eq HN.out) HSG.out) (by decide)) HP.out).mono ?_); rintro e w13 ⟨rfl, hb13⟩; have HB13 := Lib.hid (HB12.out.trans (hb13.mono HB12.out.size)); clear hb13
      refine hK.out _ _ ?_ (fun hHeld => ?_)
      · exact HKS.out _ HB13.out
      clear hK K
      try simp only [Act.put, List.setIfInBounds_toArray, List.set_cons_zero, List.set_cons_succ]
      refine wpAnyH_ready (rs := [10]) (by kernel_rfl) (by simp) ?_
      refine AllReadyH.cons (o := ⟨some 39, _, _, _, _, _⟩) rfl (fun K hK => ?_) AllReadyH.nil
      go_simp
      go_at_call 13; (with_reducible refine (rsame_val A B _ _ _ _ _ p (HTA8.out.step HB13.out) (HTB8.out.step HB13.out) (Nat.le_trans (Nat.le_trans (Nat.le_of_eq HN.out) HSG.out) (by decide)) HP.out).mono ?_); rintro e w14 ⟨rfl, hb14⟩; have HB14 := Lib.hid (HB13.out.trans (hb14.mono HB13.out.size)); clear hb14
      refine hK.out _ _ ?_ (fun hHeld => ?_)
      · exact HKS.out _ HB14.out
      clear hK K
      try simp only [Act.put, List.setIfInBounds_toArray, List.set_cons_zero, List.set_cons_succ]
      refine wpAnyH_take (i := 11) (oi := ⟨some 40, _, _, _, _, _⟩) (v := ?_) rfl (by kernel_rfl) (by kernel_rfl) (by kernel_rfl) (fun _ _ _ h => h) (Or.inl ⟨by rfl, ?hy11⟩) (by assumption) ?rest11
      case hy11 => (intro w hSw; (try dsimp only at hSw); go_simp; (try with_reducible rfl))
      try simp only [Act.put, List.setIfInBounds_toArray, List.set_cons_zero, List.set_cons_succ]
      refine wpAnyH_take (i := 12) (oi := ⟨some 41, _, _, _, _, _⟩) (v := ?_) rfl (by kernel_rfl) (by kernel_rfl) (by kernel_rfl) (fun _ _ _ h => h) (Or.inl ⟨by rfl, ?hy12⟩) (by assumption) ?rest12
      case hy12 => (intro w hSw; (try dsimp only at hSw); go_simp; (try with_reducible rfl))
      try simp only [Act.put, List.setIfInBounds_toArray, List.set_cons_zero, List.set_cons_succ]
      refine wpAnyH_take (i := 13) (oi := ⟨some 42, _, _, _, _, _⟩) (v := ?_) rfl (by kernel_rfl) (by kernel_rfl) (by kernel_rfl) (fun _ _ _ h => h) (Or.inl ⟨by rfl, ?hy13⟩) (by assumption) ?rest13
      case hy13 => (intro w hSw; (try dsimp only at hSw); go_simp; (try with_reducible rfl))
      try simp only [Act.put, List.setIfInBounds_toArray, List.set_cons_zero, List.set_cons_succ]
      refine wpAnyH_take (i := 14) (oi := ⟨some 43, _, _, _, _, _⟩) (v := ?_) rfl (by kernel_rfl) (by kernel_rfl) (by kernel_rfl) (fun _ _ _ h => h) (Or.inl ⟨by rfl, ?hy14⟩) (by assumption) ?rest14
      case hy14 => (intro w hSw; (try dsimp only at hSw); go_simp; (try with_reducible rfl))
      try simp only [Act.put, List.setIfInBounds_toArray, List.set_cons_zero, List.set_cons_succ]
      refine wpAnyH_take (i := 15) (oi := ⟨some 44, _, _, _, _, _⟩) (v := ?_) rfl (by kernel_rfl) (by kernel_rfl) (by kernel_rfl) (fun _ _ _ h => h) (Or.inl ⟨by rfl, ?hy15⟩) (by assumption) ?rest15
      case hy15 => (intro w hSw; (try dsimp only at hSw); go_simp; (try with_reducible rfl))
      try simp only [Act.put, List.setIfInBounds_toArray, List.set_cons_zero, List.set_cons_succ]
      refine wpAnyH_take (i := 18) (oi := ⟨some 47, _, _, _, _, _⟩) (v := ?_) rfl (by kernel_rfl) (by kernel_rfl) (by kernel_rfl) (fun _ _ _ h => h) (Or.inl ⟨by rfl, ?hy18⟩) (by assumption) ?rest18
      case hy18 => (intro w hSw; (try dsimp only at hSw); go_simp; (try with_reducible rfl))
      try simp only [Act.put, List.setIfInBounds_toArray, List.set_cons_zero, List.set_cons_succ]
      refine wpAnyH_take (i := 19) (oi := ⟨some 48, _, _, _, _, _⟩) (v := ?_) rfl (by kernel_rfl) (by kernel_rfl) (by kernel_rfl) (fun _ _ _ h => h) (Or.inl ⟨by rfl, ?hy19⟩) (by assumption) ?rest19
      case hy19 => (intro w hSw; (try dsimp only at hSw); go_simp; (try with_reducible rfl))
      try simp only [Act.put, List.setIfInBounds_toArray, List.set_cons_zero, List.set_cons_succ]
      refine wpAnyH_take (i := 20) (oi := ⟨some 49, _, _, _, _, _⟩) (v := ?_) rfl (by kernel_rfl) (by kernel_rfl) (by kernel_rfl) (fun _ _ _ h => h) (Or.inl ⟨by rfl, ?hy20⟩) (by assumption) ?rest20
      case hy20 => (intro w hSw; (try dsimp only at hSw); go_simp; (try with_reducible rfl))
      try simp only [Act.put, List.setIfInBounds_toArray, List.set_cons_zero, List.set_cons_succ]
      refine wpAnyH_ready (rs := [16]) (by kernel_rfl) (by simp) ?_
      refine AllReadyH.cons (o := ⟨some 45, _, _, _, _, _⟩) rfl (fun K hK => ?_) AllReadyH.nil
      go_simp
      go_at_call 11; (with_reducible refine (of_any C _ _ _ (HTC8.out.step HB14.out) HSC.out).mono ?_); rintro e w15 ⟨⟨v15, rfl, ht15⟩, hb15⟩; obtain ⟨k15, x15, a15, m15, c15, l15, rfl⟩ := isT_shape ht15; have HB15 := Lib.hid (HB14.out.trans (hb15.mono HB14.out.size)); have HT15 := Lib.hid ht15; clear ht15 hb15
      refine hK.out _ _ ?_ (fun hHeld => ?_)
      · exact HKS.out _ HB15.out
      clear hK K
      try simp only [Act.put, List.setIfInBounds_toArray, List.set_cons_zero, List.set_cons_succ]
      refine wpAnyH_ready (rs := [17]) (by kernel_rfl) (by simp) ?_
      refine AllReadyH.cons (o := ⟨some 46, _, _, _, _, _⟩) rfl (fun K hK => ?_) AllReadyH.nil
      go_simp
      go_at_call 12; (with_reducible refine (same_val A C _ _ _ _ _ true (HTX.out.step HB15.out) HT15.out (Nat.le_trans (Nat.le_trans (Nat.le_of_eq HN.out) HSG.out) (by decide)) HQ1.out).mono ?_); rintro e w16 ⟨rfl, hb16⟩; have HB16 := Lib.hid (HB15.out.trans (hb16.mono HB15.out.size)); clear hb16
      refine hK.out _ _ ?_ (fun hHeld => ?_)
      · exact HKS.out _ HB16.out
      clear hK K
      try simp only [Act.put, List.setIfInBounds_toArray, List.set_cons_zero, List.set_cons_succ]
      refine wpAnyH_ready (rs := [21]) (by kernel_rfl) (by simp) ?_
      refine AllReadyH.cons (o := ⟨some 50, _, _, _, _, _⟩) rfl (fun K hK => ?_) AllReadyH.nil
      go_simp
      go_at_call 14; (with_reducible refine (rsize_val A _ _ _ (N : Int) (HTA8.out.step HB16.out) (Nat.le_trans (Nat.le_trans (Nat.le_of_eq HN.out) HSG.out) (by decide)) (by rw [HN.out])).mono ?_); rintro e w17 ⟨rfl, hb17⟩; have HB17 := Lib.hid (HB16.out.trans (hb17.mono HB16.out.size)); clear hb17
      refine hK.out _ _ ?_ (fun hHeld => ?_)
      · exact HKS.out _ HB17.out
      clear hK K
      try simp only [Act.put, List.setIfInBounds_toArray, List.set_cons_zero, List.set_cons_succ]
      refine wpAnyH_take (i := 22) (oi := ⟨some 51, _, _, _, _, _⟩) (v := ?_) rfl (by kernel_rfl) (by kernel_rfl) (by kernel_rfl) (fun _ _ _ h => h) (Or.inl ⟨by rfl, ?hy22⟩) (by assumption) ?rest22
      case hy22 => (intro w hSw; (try dsimp only at hSw); go_simp; (try with_reducible rfl))
      try simp only [Act.put, List.setIfInBounds_toArray, List.set_cons_zero, List.set_cons_succ]
      refine wpAnyH_take (i := 23) (oi := ⟨some 52, _, _, _, _, _⟩) (v := ?_) rfl (by kernel_rfl) (by kernel_rfl) (by kernel_rfl) (fun _ _ _ h => h) (Or.inl ⟨by rfl, ?hy23⟩) (by assumption) ?rest23
      case hy23 => (intro w hSw; (try dsimp only at hSw); go_simp; (try with_reducible rfl))
      try simp only [Act.put, List.setIfInBounds_toArray, List.set_cons_zero, List.set_cons_succ]
      refine wpAnyH_take (i := 24) (oi := ⟨some 53, _, _, _, _, _⟩) (v := undef) rfl (by kernel_rfl) (by kernel_rfl) (by kernel_rfl) (fun _ _ _ h => h) (Or.inr ⟨by rfl, rfl⟩) (by assumption) ?_
      try simp only [Act.put, List.setIfInBounds_toArray, List.set_cons_zero, List.set_cons_succ]
      refine wpAnyH_take (i := 25) (oi := ⟨some 54, _, _, _, _, _⟩) (v := undef) rfl (by kernel_rfl) (by kernel_rfl) (by kernel_rfl) (fun _ _ _ h => h) (Or.inr ⟨by rfl, rfl⟩) (by assumption) ?_
      try simp only [Act.put, List.setIfInBounds_toArray, List.set_cons_zero, List.set_cons_succ]
      refine wpAnyH_take (i := 26) (oi := ⟨some 55, _, _, _, _, _⟩) (v := undef) rfl (by kernel_rfl) (by kernel_rfl) (by kernel_rfl) (fun _ _ _ h => h) (Or.inr ⟨by rfl, rfl⟩) (by assumption) ?_
      try simp only [Act.put, List.setIfInBounds_toArray, List.set_cons_zero, List.set_cons_succ]
      refine wpAnyH_take (i := 27) (oi := ⟨some 56, _, _, _, _, _⟩) (v := ?_) rfl (by kernel_rfl) (by kernel_rfl) (by kernel_rfl) (fun _ _ _ h => h) (Or.inl ⟨by rfl, ?hy27⟩) (by assumption) ?rest27
      case hy27 => (intro w hSw; (try dsimp only at hSw); go_simp; (try with_reducible rfl))
      try simp only [Act.put, List.setIfInBounds_toArray, List.set_cons_zero, List.set_cons_succ]
      refine wpAnyH_take (i := 28) (oi := ⟨some 57, _, _, _, _, _⟩) (v := ?_) rfl (by kernel_rfl) (by kernel_rfl) (by kernel_rfl) (fun _ _ _ h => h) (Or.inl ⟨by rfl, ?hy28⟩) (by assumption) ?rest28
      case hy28 => (intro w hSw; (try dsimp only at hSw); go_simp; (try with_reducible rfl))
      try simp only [Act.put, List.setIfInBounds_toArray, List.set_cons_zero, List.set_cons_succ]
      refine wpAnyH_take (i := 29) (oi := ⟨some 58, _, _, _, _, _⟩) (v := ?_) rfl (by kernel_rfl) (by kernel_rfl) (by kernel_rfl) (fun _ _ _ h => h) (Or.inl ⟨by rfl, ?hy29⟩) (by assumption) ?rest29
      case hy29 => (intro w hSw; (try dsimp only at hSw); go_simp; (try with_reducible rfl))
      try simp only [Act.put, List.setIfInBounds_toArray, List.set_cons_zero, List.set_cons_succ]
      refine wpAnyH_take (i := 30) (oi := ⟨some 59, _, _, _, _, _⟩) (v := ?_) rfl (by kernel_rfl) (by kernel_rfl) (by kernel_rfl) (fun _ _ _ h => h) (Or.inl ⟨by rfl, ?hy30⟩) (by assumption) ?rest30
      case hy30 => (intro w hSw; (try dsimp only at hSw); go_simp; (try with_reducible rfl))
      try simp only [Act.put, List.setIfInBounds_toArray, List.set_cons_zero, List.set_cons_succ]
      refine wpAnyH_take (i := 31) (oi := ⟨some 60, _, _, _, _, _⟩) (v := ?_) rfl (by kernel_rfl) (by kernel_rfl) (by kernel_rfl) (fun _ _ _ h => h) (Or.inl ⟨by rfl, ?hy31⟩) (by assumption) ?rest31
      case hy31 => (intro w hSw; (try dsimp only at hSw); go_simp; (try with_reducible rfl))
      try simp only [Act.put, List.setIfInBounds_toArray, List.set_cons_zero, List.set_cons_succ]
      refine wpAnyH_take (i := 33) (oi := ⟨some 62, _, _, _, _, _⟩) (v := ?_) rfl (by kernel_rfl) (by kernel_rfl) (by kernel_rfl) (fun _ _ _ h => h) (Or.inl ⟨by rfl, ?hy33⟩) (by assumption) ?rest33
      case hy33 => (intro w hSw; (try dsimp only at hSw); go_simp; (try with_reducible rfl))
      try simp only [Act.put, List.setIfInBounds_toArray, List.set_cons_zero, List.set_cons_succ]
      refine wpAnyH_take (i := 35) (oi := ⟨some 64, _, _, _, _, _⟩) (v := ?_) rfl (by kernel_rfl) (by kernel_rfl) (by kernel_rfl) (fun _ _ _ h => h) (Or.inl ⟨by rfl, ?hy35⟩) (by assumption) ?rest35
      case hy35 => (intro w hSw; (try dsimp only at hSw); go_simp; (try with_reducible rfl))
      try simp only [Act.put, List.setIfInBounds_toArray, List.set_cons_zero, List.set_cons_succ]
      refine wpAnyH_take (i := 36) (oi := ⟨some 65, _, _, _, _, _⟩) (v := ?_) rfl (by kernel_rfl) (by kernel_rfl) (by kernel_rfl) (fun _ _ _ h => h) (Or.inl ⟨by rfl, ?hy36⟩) (by assumption) ?rest36
      case hy36 => (intro w hSw; (try dsimp only at hSw); go_simp; (try with_reducible rfl))
      try simp only [Act.put, List.setIfInBounds_toArray, List.set_cons_zero, List.set_cons_succ]
      refine wpAnyH_ready (rs := [32]) (by kernel_rfl) (by simp) ?_
      refine AllReadyH.cons (o := ⟨some 61, _, _, _, _, _⟩) rfl (fun K hK => ?_) AllReadyH.nil
      go_simp
      go_at_call 11; (with_reducible refine (of_any C _ _ _ (HTC8.out.step HB17.out) HSC.out).mono ?_); rintro e w19 ⟨⟨v19, rfl, ht19⟩, hb19⟩; obtain ⟨k19, x19, a19, m19, c19, l19, rfl⟩ := isT_shape ht19; have HB19 := Lib.hid (HB17.out.trans (hb19.mono HB17.out.size)); have HT19 := Lib.hid ht19; clear ht19 hb19
      refine hK.out _ _ ?_ (fun hHeld => ?_)
      · exact HKS.out _ HB19.out
      clear hK K
      try simp only [Act.put, List.setIfInBounds_toArray, List.set_cons_zero, List.set_cons_succ]
      refine wpAnyH_ready (rs := [34]) (by kernel_rfl) (by simp) ?_
      refine AllReadyH.cons (o := ⟨some 63, _, _, _, _, _⟩) rfl (fun K hK => ?_) AllReadyH.nil
      go_simp
      go_at_call 12; (with_reducible refine (same_val C A _ _ _ _ _ true HT19.out (HTX.out.step HB19.out) (Nat.le_trans HSC.out (by decide)) HQ2.out).mono ?_); rintro e w20 ⟨rfl, hb20⟩; have HB20 := Lib.hid (HB19.out.trans (hb20.mono HB19.out.size)); clear hb20
      refine hK.out _ _ ?_ (fun hHeld => ?_)
      · exact HKS.out _ HB20.out
      clear hK K
      try simp only [Act.put, List.setIfInBounds_toArray, List.set_cons_zero, List.set_cons_succ]
      refine wpAnyH_ready (rs := [37]) (by kernel_rfl) (by simp) ?_
      refine AllReadyH.cons (o := ⟨some 66, _, _, _, _, _⟩) rfl (fun K hK => ?_) AllReadyH.nil
      go_simp
      go_at_call 13; (with_reducible refine (rsame_val A C _ _ _ _ _ true (HTA8.out.step HB20.out) (HTC8.out.step HB20.out) (Nat.le_trans (Nat.le_trans (Nat.le_of_eq HN.out) HSG.out) (by decide)) HQ1.out).mono ?_); rintro e w21 ⟨rfl, hb21⟩; have HB21 := Lib.hid (HB20.out.trans (hb21.mono HB20.out.size)); clear hb21
      refine hK.out _ _ ?_ (fun hHeld => ?_)
      · exact HKS.out _ HB21.out
      clear hK K
      try simp only [Act.put, List.setIfInBounds_toArray, List.set_cons_zero, List.set_cons_succ]
      refine wpAnyH_take (i := 38) (oi := ⟨some 67, _, _, _, _, _⟩) (v := ?_) rfl (by kernel_rfl) (by kernel_rfl) (by kernel_rfl) (fun _ _ _ h => h) (Or.inl ⟨by rfl, ?hy38⟩) (by assumption) ?rest38
      case hy38 => (intro w hSw; (try dsimp only at hSw); go_simp; (try with_reducible rfl))
      try simp only [Act.put, List.setIfInBounds_toArray, List.set_cons_zero, List.set_cons_succ]
      refine wpAnyH_take (i := 39) (oi := ⟨some 68, _, _, _, _, _⟩) (v := ?_) rfl (by kernel_rfl) (by kernel_rfl) (by kernel_rfl) (fun _ _ _ h => h) (Or.inl ⟨by rfl, ?hy39⟩) (by assumption) ?rest39
      case hy39 => (intro w hSw; (try dsimp only at hSw); go_simp; (try with_reducible rfl))
      try simp only [Act.put, List.setIfInBounds_toArray, List.set_cons_zero, List.set_cons_succ]
      refine wpAnyH_take (i := 40) (oi := ⟨some 6, _, _, _, _, _⟩) (v := ?_) rfl (by kernel_rfl) (by kernel_rfl) (by kernel_rfl) (fun _ _ _ h => h) (Or.inl ⟨by rfl, ?hy40⟩) (by assumption) ?rest40
      case hy40 => (intro w hSw; (try dsimp only at hSw); go_simp; (try with_reducible rfl))
      try simp only [Act.put, List.setIfInBounds_toArray, List.set_cons_zero, List.set_cons_succ]
      refine wpAnyH_done (by kernel_rfl) ?_ _
      go_wp2_with fail
      go_ret
      exact ⟨by simp, HBW.out.trans (HB21.out.mono HBW.out.size)⟩
    · have hszN : ¬ N ≤ c := by omega
      have hdz : decide (N ≤ c) = false := decide_eq_false hszN
      clear HEQ
      go_region_held3 (fun w' => w'.cell? ⟨ab, 0, none⟩ = some (.int .i64 k2) ∧ w'.cell? ⟨ab, 1, none⟩ = some (.string ⟨x2.toArray⟩) ∧ w'.cell? ⟨ab, 2, none⟩ = some (.slice a2 m2 c2) ∧ w'.cell? ⟨ab, 3, none⟩ = some (.int .i64 l2) ∧ w'.cell? ⟨bb, 0, none⟩ = some (.int .i64 k3) ∧ w'.cell? ⟨bb, 1, none⟩ = some (.string ⟨x3.toArray⟩) ∧ w'.cell? ⟨bb, 2, none⟩ = some (.slice a3 m3 c3) ∧ w'.cell? ⟨bb, 3, none⟩ = some (.int .i64 l3) ∧ w'.cell? ⟨cb, 0, none⟩ = some (.int .i64 k4) ∧ w'.cell? ⟨cb, 1, none⟩ = some (.string ⟨x4.toArray⟩) ∧ w'.cell? ⟨cb, 2, none⟩ = some (.slice a4 m4 c4) ∧ w'.cell? ⟨cb, 3, none⟩ = some (.int .i64 l4) ∧ w'.cell? ⟨xb, 0, none⟩ = some (.int .i64 k6) ∧ w'.cell? ⟨xb, 1, none⟩ = some (.string ⟨x6.toArray⟩) ∧ w'.cell? ⟨xb, 2, none⟩ = some (.slice a6 m6 c6) ∧ w'.cell? ⟨xb, 3, none⟩ = some (.int .i64 l6) ∧ w'.cell? ⟨yb, 0, none⟩ = some (.int .i64 k7) ∧ w'.cell? ⟨yb, 1, none⟩ = some (.string ⟨x7.toArray⟩) ∧ w'.cell? ⟨yb, 2, none⟩ = some (.slice a7 m7 c7) ∧ w'.cell? ⟨yb, 3, none⟩ = some (.int .i64 77)) ((first | exact HKS.out _ (Below.refl _ _).drew | exact HKS.out _ HB21.out | exact HKS.out _ HB20.out | exact HKS.out _ HB19.out | exact HKS.out _ HB18.out | exact HKS.out _ HB17.out | exact HKS.out _ HB16.out | exact HKS.out _ HB15.out | exact HKS.out _ HB14.out | exact HKS.out _ HB13.out | exact HKS.out _ HB12.out | exact HKS.out _ HB11.out)) (first | (go_at_call 12; (with_reducible refine (same_val A Y _ _ _ _ _ true (HTX.out.step ((Below.refl W.heap.size W).drew)) (HTY.out.step ((Below.refl W.heap.size W).drew)) (Nat.le_trans (Nat.le_trans (Nat.le_of_eq HN.out) HSG.out) (by decide)) HSY.out).mono ?_); rintro e w11 ⟨rfl, hb11⟩; have HB11 := Lib.hid (((Below.refl W.heap.size W).drew).trans (hb11.mono ((Below.refl W.heap.size W).drew).size)); clear hb11) | (go_at_call 11; (with_reducible refine (of_any B _ _ _ (HTB8.out.step HB11.out) HSB.out).mono ?_); rintro e w12 ⟨⟨v12, rfl, ht12⟩, hb12⟩; obtain ⟨k12, x12, a12, m12, c12, l12, rfl⟩ := isT_shape ht12; have HB12 := Lib.hid (HB11.out.trans (hb12.mono HB11.out.size)); have HT12 := Lib.hid ht12; clear ht12 hb12) | (go_at_call 12; (with_reducible refine (same_val A B _ _ _ _ _ p (HTX.out.step HB12.out) HT12.out (Nat.le_trans (Nat.le_trans (Nat.le_of_eq HN.out) HSG.out) (by decide)) HP.out).mono ?_); rintro e w13 ⟨rfl, hb13⟩; have HB13 := Lib.hid (HB12.out.trans (hb13.mono HB12.out.size)); clear hb13) | (go_at_call 13; (with_reducible refine (rsame_val A B _ _ _ _ _ p (HTA8.out.step HB13.out) (HTB8.out.step HB13.out) (Nat.le_trans (Nat.le_trans (Nat.le_of_eq HN.out) HSG.out) (by decide)) HP.out).mono ?_); rintro e w14 ⟨rfl, hb14⟩; have HB14 := Lib.hid (HB13.out.trans (hb14.mono HB13.out.size)); clear hb14) | (go_at_call 11; (with_reducible refine (of_any C _ _ _ (HTC8.out.step HB14.out) HSC.out).mono ?_); rintro e w15 ⟨⟨v15, rfl, ht15⟩, hb15⟩; obtain ⟨k15, x15, a15, m15, c15, l15, rfl⟩ := isT_shape ht15; have HB15 := Lib.hid (HB14.out.trans (hb15.mono HB14.out.size)); have HT15 := Lib.hid ht15; clear ht15 hb15) | (go_at_call 12; (with_reducible refine (same_val A C _ _ _ _ _ q (HTX.out.step HB15.out) HT15.out (Nat.le_trans (Nat.le_trans (Nat.le_of_eq HN.out) HSG.out) (by decide)) HQ.out).mono ?_); rintro e w16 ⟨rfl, hb16⟩; have HB16 := Lib.hid (HB15.out.trans (hb16.mono HB15.out.size)); clear hb16) | (go_at_call 14; (with_reducible refine (rsize_val A _ _ _ (N : Int) (HTA8.out.step HB16.out) (Nat.le_trans (Nat.le_trans (Nat.le_of_eq HN.out) HSG.out) (by decide)) (by rw [HN.out])).mono ?_); rintro e w17 ⟨rfl, hb17⟩; have HB17 := Lib.hid (HB16.out.trans (hb17.mono HB16.out.size)); clear hb17) | (go_at_call 13; (with_reducible refine (rsame_val A C _ _ _ _ _ q (HTA8.out.step HB17.out) (HTC8.out.step HB17.out) (Nat.le_trans (Nat.le_trans (Nat.le_of_eq HN.out) HSG.out) (by decide)) HQ.out).mono ?_); rintro e w18 ⟨rfl, hb18⟩; have HB18 := Lib.hid (HB17.out.trans (hb18.mono HB17.out.size)); clear hb18) | (go_at_call 11; (with_reducible refine (of_any C _ _ _ (HTC8.out.step HB18.out) HSC.out).mono ?_); rintro e w19 ⟨⟨v19, rfl, ht19⟩, hb19⟩; obtain ⟨k19, x19, a19, m19, c19, l19, rfl⟩ := isT_shape ht19; have HB19 := Lib.hid (HB18.out.trans (hb19.mono HB18.out.size)); have HT19 := Lib.hid ht19; clear ht19 hb19) | (go_at_call 12; (with_reducible refine (same_val C A _ _ _ _ _ q HT19.out (HTX.out.step HB19.out) (Nat.le_trans HSC.out (by decide)) HCM.out).mono ?_); rintro e w20 ⟨rfl, hb20⟩; have HB20 := Lib.hid (HB19.out.trans (hb20.mono HB19.out.size)); clear hb20) | (go_at_call 13; (with_reducible refine (rsame_val A C _ _ _ _ _ q (HTA8.out.step HB20.out) (HTC8.out.step HB20.out) (Nat.le_trans (Nat.le_trans (Nat.le_of_eq HN.out) HSG.out) (by decide)) HQ.out).mono ?_); rintro e w21 ⟨rfl, hb21⟩; have HB21 := Lib.hid (HB20.out.trans (hb21.mono HB20.out.size)); clear hb21))
      go_wp2_with fail
      go_ret
      exact ⟨by simp, HBW.out.trans (HB21.out.mono HBW.out.size)⟩
end Go.Proofs.YtogkiifljdnjgaaDoor
