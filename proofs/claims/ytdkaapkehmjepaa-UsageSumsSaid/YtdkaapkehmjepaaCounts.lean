/- The walk of the law UsageSums. No condition. -/
import Derived.Test.YtdkaapkehmjepaaArrs
namespace Go.Proofs.Ytdkaapkehmjepaa
open Go.RowKit
set_option linter.unusedVariables false
set_option linter.unusedSimpArgs false

theorem new_node (W : World) : Calls Try.prog 16 #[.string ⟨#[110, 111, 100, 101, 45, 49]⟩, .int .i64 0] W fun e w' => ∃ b, e = .returned (.tuple #[.pointer (some ⟨b, 0, none⟩), .nilIface]) ∧ W.heap.size ≤ b ∧ MBlk w' b (newM nodeN 0) ∧ Below W.heap.size W w' :=
  new_ok nodeN 0 W (by decide) (by decide)
theorem Inv.count {m : Mtr} {all : List Ent} {h y : Nat → Int} {k : Nat} (I : Inv m all h y k) : 0 ≤ m.seq ∧ m.seq ≤ all.length := by have := I.seq; omega
theorem OwnE.ne {w : World} {base b : Nat} {v : Value} {es : List Ent} (h : OwnE w base v es) (hb : b < base) : v.ownBlock ≠ some b := fun e => by have := (World.ownsRow.lt h b e).1; omega

set_option maxRecDepth 100000 in
set_option maxHeartbeats 8000000 in
theorem usageSums_walk (v0 v1 v2 : Value) (ps : List (Int × Int)) (bs : List Bool) (ns : List Int) (w : World) (hP : IsP w v0 ps) (hBs : IsV1 w v1 (bs.map fun b => .bool b)) (hNs : IsV1 w v2 (ns.map fun n => .int .i64 n)) :
    Calls Try.prog 5 #[v0, v1, v2] w fun r w' => r = .returned (.bool true) ∧ Below w.heap.size w w' := by
  obtain ⟨a0, c0, rfl⟩ := hP.shape
  obtain ⟨a1, c1, rfl⟩ := hBs.shape
  obtain ⟨a2, c2, rfl⟩ := hNs.shape
  have HP := Lib.hid hP
  have HV := Lib.hid hBs
  have HN := Lib.hid hNs
  rw [List.length_map, List.length_map]
  rw [List.length_map] at HV HN
  clear hP hBs hNs
  by_cases hl : 100 < ps.length
  · have hl' : (100 : Int) < (ps.length : Int) := by omega
    clear hl
    go_enter Try.func5, Try.ntmps5
    go_wp2_with (go_at_call 12; refine (awake_any _).mono ?_; rintro r w1 ⟨rfl, hb1⟩)
    go_ret
    exact ⟨rfl, hb1⟩
  · have hl' : (ps.length : Int) ≤ 100 := by omega
    go_enter Try.func5, Try.ntmps5
    go_upto_region 3 with (go_at_call 12; refine (awake_any _).mono ?_; rintro r w1 ⟨rfl, hb1⟩)
    have HB1 := Lib.hid hb1
    clear hb1
    go_upto_region 6 with (go_at_call 16; refine (new_node _).mono ?_; rintro r w2 ⟨bm, rfl, hbm, hM, hb2⟩)
    have HB2 := Lib.hid (bel_step HB1.out hb2)
    have HM2 := Lib.hid hM
    have hbm0 : w.heap.size ≤ bm := Nat.le_trans HB1.out.size hbm
    have hbmlt := hM.lt
    have hzw2 : w.heap.size ≤ w2.heap.size := HB2.out.size
    clear hM hb2 HB1 hbm
    go_upto_region 7 with fail
    have hA1 := ABlk.new w2
    have hn1 := bel_new w2 (.cells #[.int .i64 0, .int .i64 0, .int .i64 0, .int .i64 0, .int .i64 0, .int .i64 0, .int .i64 0, .int .i64 0, .int .i64 0, .int .i64 0, .int .i64 0, .int .i64 0, .int .i64 0, .int .i64 0, .int .i64 0, .int .i64 0] 35)
    have hA2 := ABlk.new (w2.alloc (.cells #[.int .i64 0, .int .i64 0, .int .i64 0, .int .i64 0, .int .i64 0, .int .i64 0, .int .i64 0, .int .i64 0, .int .i64 0, .int .i64 0, .int .i64 0, .int .i64 0, .int .i64 0, .int .i64 0, .int .i64 0, .int .i64 0] 35))
    have hn2 := bel_new (w2.alloc (.cells #[.int .i64 0, .int .i64 0, .int .i64 0, .int .i64 0, .int .i64 0, .int .i64 0, .int .i64 0, .int .i64 0, .int .i64 0, .int .i64 0, .int .i64 0, .int .i64 0, .int .i64 0, .int .i64 0, .int .i64 0, .int .i64 0] 35)) (.cells #[.int .i64 0, .int .i64 0, .int .i64 0, .int .i64 0, .int .i64 0, .int .i64 0, .int .i64 0, .int .i64 0, .int .i64 0, .int .i64 0, .int .i64 0, .int .i64 0, .int .i64 0, .int .i64 0, .int .i64 0, .int .i64 0] 35)
    have HA1 := Lib.hid (hA1.step hn2)
    have HA2 := Lib.hid hA2
    have HM3 := Lib.hid ((HM2.out.step hn1).step hn2)
    have HB3 := Lib.hid (bel_step (bel_step HB2.out hn1) hn2)
    have hsz3 : ((w2.alloc (.cells #[.int .i64 0, .int .i64 0, .int .i64 0, .int .i64 0, .int .i64 0, .int .i64 0, .int .i64 0, .int .i64 0, .int .i64 0, .int .i64 0, .int .i64 0, .int .i64 0, .int .i64 0, .int .i64 0, .int .i64 0, .int .i64 0] 35)).alloc (.cells #[.int .i64 0, .int .i64 0, .int .i64 0, .int .i64 0, .int .i64 0, .int .i64 0, .int .i64 0, .int .i64 0, .int .i64 0, .int .i64 0, .int .i64 0, .int .i64 0, .int .i64 0, .int .i64 0, .int .i64 0, .int .i64 0] 35)).heap.size = w2.heap.size + 2 := by simp [go_sem]
    have hsz2 : (w2.alloc (.cells #[.int .i64 0, .int .i64 0, .int .i64 0, .int .i64 0, .int .i64 0, .int .i64 0, .int .i64 0, .int .i64 0, .int .i64 0, .int .i64 0, .int .i64 0, .int .i64 0, .int .i64 0, .int .i64 0, .int .i64 0, .int .i64 0] 35)).heap.size = w2.heap.size + 1 := by simp [go_sem]
    rw [hsz2] at HA2
    clear hA1 hA2 hn1 hn2 HM2 HB2 hsz2
    generalize (w2.alloc (.cells #[.int .i64 0, .int .i64 0, .int .i64 0, .int .i64 0, .int .i64 0, .int .i64 0, .int .i64 0, .int .i64 0, .int .i64 0, .int .i64 0, .int .i64 0, .int .i64 0, .int .i64 0, .int .i64 0, .int .i64 0, .int .i64 0] 35)).alloc (.cells #[.int .i64 0, .int .i64 0, .int .i64 0, .int .i64 0, .int .i64 0, .int .i64 0, .int .i64 0, .int .i64 0, .int .i64 0, .int .i64 0, .int .i64 0, .int .i64 0, .int .i64 0, .int .i64 0, .int .i64 0, .int .i64 0] 35) = W3 at *
    obtain ⟨bh, hbh⟩ : ∃ b, b = w2.heap.size := ⟨_, rfl⟩
    obtain ⟨by', hby⟩ : ∃ b, b = w2.heap.size + 1 := ⟨_, rfl⟩
    rw [← hby] at HA2
    rw [← hbh] at HA1
    obtain ⟨B3, hB3⟩ : ∃ b, b = W3.heap.size := ⟨_, rfl⟩
    have o1 : bm ≠ bh := by omega
    have o2 : bm ≠ by' := by omega
    have o3 : bh ≠ by' := by omega
    have o4 : bm < B3 := by omega
    have o5 : bh < B3 := by omega
    have o6 : by' < B3 := by omega
    have o7 : w.heap.size ≤ bh := by omega
    have o8 : w.heap.size ≤ by' := by omega
    have o9 : w.heap.size ≤ B3 := by omega
    have O9 := Lib.hid hB3
    rw [← hby, ← hbh]
    clear hbh hby hB3 hsz3 hbmlt hzw2
    go_wp2_with fail
    go_loopw [11, 36] (fun av i wr => ∃ (k : Nat) (m : Mtr) (all : List Ent) (h y : Nat → Int), i = .int .i64 k ∧ k ≤ ps.length ∧ all.length ≤ 16 * k ∧ Inv m all h y k ∧ MBlk wr bm m ∧ ABlk wr bh h ∧ ABlk wr by' y ∧ OwnE wr B3 av all ∧ Below w.heap.size w wr ∧ B3 ≤ wr.heap.size) (fun _ i _ => ps.length - (intOf i).toNat)
    case atStart => exact ⟨0, _, [], _, _, rfl, Nat.zero_le _, by simp, Inv.zero, HM3.out, HA1.out, HA2.out, OwnE.nil _ _, HB3.out, Nat.le_of_eq O9.out⟩
    case round =>
      obtain ⟨k, m, all, h, y, rfl, hk, hal, hI, hM, hH, hY, hA, hB, hBs⟩ := hrel
      clear HM3 HA1 HA2 HB3
      have HI := Lib.hid hI
      have HM := Lib.hid hM
      have HH := Lib.hid hH
      have HY := Lib.hid hY
      have HA := Lib.hid hA
      have HB := Lib.hid hB
      clear hI hM hH hY hA hB
      by_cases hlt : k < ps.length
      · obtain ⟨g, o, cap', hv, x0, x1⟩ := (HP.out.step HB.out).elem hlt
        simp only [Value.slice.injEq] at hv
        obtain ⟨rfl, _, rfl⟩ := hv
        have hq0 : (0 : Int) ≤ (k : Int) := by omega
        have hq1 : (k : Int) < (ps.length : Int) := by omega
        have hk100 : (k : Int) ≤ 100 := by omega
        generalize ps[k].1 = p1 at *
        generalize ps[k].2 = p2 at *
        go_upto_region 11 with fail
        have hn1 := bel_new wr (.cells #[.int .i64 p1, .int .i64 p2] 54)
        have z0 : (wr.alloc (.cells #[.int .i64 p1, .int .i64 p2] 54)).cell? ⟨wr.heap.size, 0, none⟩ = some (.int .i64 p1) := by simp [go_sem]
        have z1 : (wr.alloc (.cells #[.int .i64 p1, .int .i64 p2] 54)).cell? ⟨wr.heap.size, 1, none⟩ = some (.int .i64 p2) := by simp [go_sem]
        have HM4 := Lib.hid (HM.out.step hn1)
        have HH4 := Lib.hid (HH.out.step hn1)
        have HY4 := Lib.hid (HY.out.step hn1)
        have HA4 := Lib.hid (HA.out.step hn1)
        have HB4 := Lib.hid (bel_step HB.out hn1)
        have hB4 : B3 ≤ (wr.alloc (.cells #[.int .i64 p1, .int .i64 p2] 54)).heap.size := by simp [go_sem]; omega
        have HX := Lib.hid (Box2.new wr 54 (.int .i64 p1) (.int .i64 p2))
        clear hn1 x0 x1 HM HH HY HA HB
        generalize hW4 : wr.alloc (.cells #[.int .i64 p1, .int .i64 p2] 54) = W4 at *
        clear hW4
        by_cases hok : addOk m p1 p2
        · obtain ⟨t, rfl⟩ : ∃ t : Nat, p1 = t := ⟨p1.toNat, by have := hok.1; omega⟩
          have ht : t < 16 := by have := hok.2.1; omega
          have HI' := Lib.hid (HI.out.add t p2 hok)
          have HADD := Lib.hid (fun W hM => add_ok bm t p2 m W hM (HI.out.fit (by omega)) hok)
          have hy2 : 0 ≤ p2 ∧ p2 ≤ 1073741824 := ⟨hok.2.2.1, hok.2.2.2.1⟩
          have hbh := HI.out.hb t ht
          obtain ⟨g1, g2, g3, g4⟩ := hbh
          obtain ⟨p2a, p2b⟩ := hy2
          clear hok
          have ht0 : (0 : Int) ≤ (t : Int) := by omega
          have ht1 : ¬ (t : Int) < 0 := by omega
          have ht2 : (t : Int) < 16 := by omega
          have ht3 : (t : Int) ≤ 15 := by omega
          go_upto_region 14 with (go_at_call 21; refine (HADD.out _ HM4.out).mono ?_; rintro r W5 ⟨rfl, hM5, ho5⟩; have y0 := keep_only ho5 (by omega) z0; have y1 := keep_only ho5 (by omega) z1)
          have HM5 := Lib.hid hM5
          have HH5 := Lib.hid (HH4.out.only ho5 (fun e => o1 e.symm))
          have HY5 := Lib.hid (HY4.out.only ho5 (fun e => o2 e.symm))
          have HA5 := Lib.hid (HA4.out.only ho5 o4)
          have HB5 := Lib.hid (HB4.out.trans (ho5.below hbm0 (Nat.le_trans o9 hB4)))
          have hB5 : B3 ≤ W5.heap.size := Nat.le_trans hB4 ho5.sz
          have hwz : wr.heap.size < W4.heap.size := HX.out.lt
          have hch := HH5.out.cell t ht
          have hfh := HH5.out.frozen t
          clear hM5 ho5 z0 z1 HM4 HH4 HY4 HA4 HB4 HADD
          generalize hht : h t = x at *
          generalize hyt : y t = z at *
          have hx1 : x ≤ 100 := by omega
          have hz1 : z ≤ 107374182400 := by omega
          have HHT := Lib.hid hht
          have HYT := Lib.hid hyt
          clear g2 g4 hht hyt
          go_upto_region 15 with fail
          have hwne : wr.heap.size ≠ bh := by omega
          have HH6 := Lib.hid (HH5.out.set t (x + 1) ht)
          have hs6 := Only.set (b := bh) (k := t) (u := .int .i64 (x + 1)) (w := W5)
          have HM6 := Lib.hid (HM5.out.only hs6 o1)
          have HY6 := Lib.hid (HY5.out.only hs6 (fun e => o3 e.symm))
          have HA6 := Lib.hid (HA5.out.only hs6 o5)
          have HB6 := Lib.hid (HB5.out.trans (hs6.below o7 (Nat.le_trans o9 hB5)))
          have hB6 : B3 ≤ (W5.setCell ⟨bh, t, none⟩ (.int .i64 (x + 1))).heap.size := Nat.le_trans hB5 hs6.sz
          have y0' := keep_only hs6 hwne y0
          have y1' := keep_only hs6 hwne y1
          have hcy := HY6.out.cell t ht
          have hfy := HY6.out.frozen t
          rw [HYT.out] at hcy
          clear hs6 y0 y1 hch hfh HM5 HH5 HY5 HA5 HB5
          generalize W5.setCell ⟨bh, t, none⟩ (.int .i64 (x + 1)) = W6 at *
          go_region
          have hs7 := Only.set (b := by') (k := t) (u := .int .i64 (z + p2)) (w := W6)
          have HMt := Lib.hid (HM6.out.only hs7 o2).drew
          have HHt := Lib.hid (HH6.out.only hs7 o3).drew
          have HYt := Lib.hid (HY6.out.set t (z + p2) ht).drew
          have HAt := Lib.hid (HA6.out.only hs7 o6).drew
          have HBt := Lib.hid (HB6.out.trans (hs7.below o8 (Nat.le_trans o9 hB6))).drew
          have hBt : B3 ≤ (W6.setCell ⟨by', t, none⟩ (.int .i64 (z + p2))).drew.heap.size := Nat.le_trans hB6 hs7.sz
          clear hs7 y0' y1' hcy hfy HM6 HH6 HY6 HA6 HB6
          generalize (W6.setCell ⟨by', t, none⟩ (.int .i64 (z + p2))).drew = Wt at *
          have HVt := Lib.hid (HV.out.step HBt.out)
          have HNt := Lib.hid (HN.out.step HBt.out)
          by_cases hkb : k < bs.length
          · obtain ⟨gv, ov, cv, hv, vx⟩ := HVt.out.elem (k := k) (by rw [List.length_map]; exact hkb)
            rw [List.length_map] at hv
            simp only [Value.slice.injEq] at hv
            obtain ⟨rfl, _, rfl⟩ := hv
            rw [List.getElem_map] at vx
            have hkbI : (k : Int) < (bs.length : Int) := by omega
            generalize bs[k] = bk at *
            cases bk with
            | true =>
              by_cases hkn : k < ns.length
              · obtain ⟨gn, on, cn, hv, nx⟩ := HNt.out.elem (k := k) (by rw [List.length_map]; exact hkn)
                rw [List.length_map] at hv
                simp only [Value.slice.injEq] at hv
                obtain ⟨rfl, _, rfl⟩ := hv
                rw [List.getElem_map] at nx
                have hknI : (k : Int) < (ns.length : Int) := by omega
                generalize ns[k] = nk at *
                clear hkb hkn
                have HF := Lib.hid (fun W (hM : MBlk W bm (addM m t p2)) => flush_any bm nk (addM m t p2) W hM (HI'.out.mz) (by have := HI'.out.count; omega))
                have HI2 := Lib.hid (HI'.out.flush (by omega) (by omega) nk)
                have hFl := (flushEs_bd (addM m t p2) (clampT nk) 16).2.2
                go_wp2_with (first | (go_at_call 19; with_reducible refine (HF.out _ HMt.out).mono ?_; rintro r W8 ⟨v8, rfl, hE8, hM8, ho8⟩) | (at_builtin; refine wpList_appEs rfl (.tmp 88) (.tmp 91) rfl B3 _ all rfl (HAt.out.only ho8 o4) _ _ _ rfl hE8 (by omega) (Nat.le_trans hBt ho8.sz) ?_; intro v9 W9 hE9 hb9 hz9 hg9))
                have HM9 := Lib.hid (hM8.bel hb9 o4)
                have HH9 := Lib.hid ((HHt.out.only ho8 (fun e => o1 e.symm)).bel hb9 o5)
                have HY9 := Lib.hid ((HYt.out.only ho8 (fun e => o2 e.symm)).bel hb9 o6)
                have HB9 := Lib.hid (HBt.out.trans ((ho8.below hbm0 (Nat.le_trans o9 hBt)).trans (hb9.mono o9)))
                have HE9 := Lib.hid hE9
                have hB9 := Nat.le_trans hBt (Nat.le_trans ho8.sz hz9)
                clear hE8 hM8 ho8 hE9 hb9 hg9
                go_roundw
                case rel => exact ⟨k + 1, _, _, _, _, by go_num, by omega, by rw [List.length_append]; omega, HI2.out, HM9.out, HH9.out, HY9.out, HE9.out, HB9.out, hB9⟩
                case measure => simp [intOf]; omega
              · have hknI : ¬ (k : Int) < (ns.length : Int) := by omega
                clear hkb hkn
                have HF := Lib.hid (fun W (hM : MBlk W bm (addM m t p2)) => flush_any bm 0 (addM m t p2) W hM (HI'.out.mz) (by have := HI'.out.count; omega))
                have HI2 := Lib.hid (HI'.out.flush (by omega) (by omega) 0)
                have hFl := (flushEs_bd (addM m t p2) (clampT 0) 16).2.2
                go_wp2_with (first | (go_at_call 19; with_reducible refine (HF.out _ HMt.out).mono ?_; rintro r W8 ⟨v8, rfl, hE8, hM8, ho8⟩) | (at_builtin; refine wpList_appEs rfl (.tmp 88) (.tmp 91) rfl B3 _ all rfl (HAt.out.only ho8 o4) _ _ _ rfl hE8 (by omega) (Nat.le_trans hBt ho8.sz) ?_; intro v9 W9 hE9 hb9 hz9 hg9))
                have HM9 := Lib.hid (hM8.bel hb9 o4)
                have HH9 := Lib.hid ((HHt.out.only ho8 (fun e => o1 e.symm)).bel hb9 o5)
                have HY9 := Lib.hid ((HYt.out.only ho8 (fun e => o2 e.symm)).bel hb9 o6)
                have HB9 := Lib.hid (HBt.out.trans ((ho8.below hbm0 (Nat.le_trans o9 hBt)).trans (hb9.mono o9)))
                have HE9 := Lib.hid hE9
                have hB9 := Nat.le_trans hBt (Nat.le_trans ho8.sz hz9)
                clear hE8 hM8 ho8 hE9 hb9 hg9
                go_roundw
                case rel => exact ⟨k + 1, _, _, _, _, by go_num, by omega, by rw [List.length_append]; omega, HI2.out, HM9.out, HH9.out, HY9.out, HE9.out, HB9.out, hB9⟩
                case measure => simp [intOf]; omega
            | false =>
              clear hkb
              go_wp2_with fail
              go_roundw
              case rel => exact ⟨k + 1, _, _, _, _, by go_num, by omega, by omega, HI'.out, HMt.out, HHt.out, HYt.out, HAt.out, HBt.out, hBt⟩
              case measure => simp [intOf]; omega
          · have hkbI : ¬ (k : Int) < (bs.length : Int) := by omega
            clear hkb
            go_wp2_with fail
            go_roundw
            case rel => exact ⟨k + 1, _, _, _, _, by go_num, by omega, by omega, HI'.out, HMt.out, HHt.out, HYt.out, HAt.out, HBt.out, hBt⟩
            case measure => simp [intOf]; omega
        · have HI' := Lib.hid HI.out.more
          have HADD := Lib.hid (fun W hM => add_bad bm p1 p2 m W hM (HI.out.fit (by omega)) hok)
          clear hok
          go_upto_region 16 with (go_at_call 21; refine (HADD.out _ HM4.out).mono ?_; rintro r W5 ⟨rfl, rfl⟩)
          have HMt := HM4
          have HHt := HH4
          have HYt := HY4
          have HAt := HA4
          have HBt := HB4
          have hBt := hB4
          clear HM4 HH4 HY4 HA4 HB4 hB4
          have HVt := Lib.hid (HV.out.step HBt.out)
          have HNt := Lib.hid (HN.out.step HBt.out)
          by_cases hkb : k < bs.length
          · obtain ⟨gv, ov, cv, hv, vx⟩ := HVt.out.elem (k := k) (by rw [List.length_map]; exact hkb)
            rw [List.length_map] at hv
            simp only [Value.slice.injEq] at hv
            obtain ⟨rfl, _, rfl⟩ := hv
            rw [List.getElem_map] at vx
            have hkbI : (k : Int) < (bs.length : Int) := by omega
            generalize bs[k] = bk at *
            cases bk with
            | true =>
              by_cases hkn : k < ns.length
              · obtain ⟨gn, on, cn, hv, nx⟩ := HNt.out.elem (k := k) (by rw [List.length_map]; exact hkn)
                rw [List.length_map] at hv
                simp only [Value.slice.injEq] at hv
                obtain ⟨rfl, _, rfl⟩ := hv
                rw [List.getElem_map] at nx
                have hknI : (k : Int) < (ns.length : Int) := by omega
                generalize ns[k] = nk at *
                clear hkb hkn
                have HF := Lib.hid (fun W (hM : MBlk W bm (m)) => flush_any bm nk (m) W hM (HI'.out.mz) (by have := HI'.out.count; omega))
                have HI2 := Lib.hid (HI'.out.flush (by omega) (by omega) nk)
                have hFl := (flushEs_bd (m) (clampT nk) 16).2.2
                go_wp2_with (first | (go_at_call 19; with_reducible refine (HF.out _ HMt.out).mono ?_; rintro r W8 ⟨v8, rfl, hE8, hM8, ho8⟩) | (at_builtin; refine wpList_appEs rfl (.tmp 88) (.tmp 91) rfl B3 _ all rfl (HAt.out.only ho8 o4) _ _ _ rfl hE8 (by omega) (Nat.le_trans hBt ho8.sz) ?_; intro v9 W9 hE9 hb9 hz9 hg9))
                have HM9 := Lib.hid (hM8.bel hb9 o4)
                have HH9 := Lib.hid ((HHt.out.only ho8 (fun e => o1 e.symm)).bel hb9 o5)
                have HY9 := Lib.hid ((HYt.out.only ho8 (fun e => o2 e.symm)).bel hb9 o6)
                have HB9 := Lib.hid (HBt.out.trans ((ho8.below hbm0 (Nat.le_trans o9 hBt)).trans (hb9.mono o9)))
                have HE9 := Lib.hid hE9
                have hB9 := Nat.le_trans hBt (Nat.le_trans ho8.sz hz9)
                clear hE8 hM8 ho8 hE9 hb9 hg9
                go_roundw
                case rel => exact ⟨k + 1, _, _, _, _, by go_num, by omega, by rw [List.length_append]; omega, HI2.out, HM9.out, HH9.out, HY9.out, HE9.out, HB9.out, hB9⟩
                case measure => simp [intOf]; omega
              · have hknI : ¬ (k : Int) < (ns.length : Int) := by omega
                clear hkb hkn
                have HF := Lib.hid (fun W (hM : MBlk W bm (m)) => flush_any bm 0 (m) W hM (HI'.out.mz) (by have := HI'.out.count; omega))
                have HI2 := Lib.hid (HI'.out.flush (by omega) (by omega) 0)
                have hFl := (flushEs_bd (m) (clampT 0) 16).2.2
                go_wp2_with (first | (go_at_call 19; with_reducible refine (HF.out _ HMt.out).mono ?_; rintro r W8 ⟨v8, rfl, hE8, hM8, ho8⟩) | (at_builtin; refine wpList_appEs rfl (.tmp 88) (.tmp 91) rfl B3 _ all rfl (HAt.out.only ho8 o4) _ _ _ rfl hE8 (by omega) (Nat.le_trans hBt ho8.sz) ?_; intro v9 W9 hE9 hb9 hz9 hg9))
                have HM9 := Lib.hid (hM8.bel hb9 o4)
                have HH9 := Lib.hid ((HHt.out.only ho8 (fun e => o1 e.symm)).bel hb9 o5)
                have HY9 := Lib.hid ((HYt.out.only ho8 (fun e => o2 e.symm)).bel hb9 o6)
                have HB9 := Lib.hid (HBt.out.trans ((ho8.below hbm0 (Nat.le_trans o9 hBt)).trans (hb9.mono o9)))
                have HE9 := Lib.hid hE9
                have hB9 := Nat.le_trans hBt (Nat.le_trans ho8.sz hz9)
                clear hE8 hM8 ho8 hE9 hb9 hg9
                go_roundw
                case rel => exact ⟨k + 1, _, _, _, _, by go_num, by omega, by rw [List.length_append]; omega, HI2.out, HM9.out, HH9.out, HY9.out, HE9.out, HB9.out, hB9⟩
                case measure => simp [intOf]; omega
            | false =>
              clear hkb
              go_wp2_with fail
              go_roundw
              case rel => exact ⟨k + 1, _, _, _, _, by go_num, by omega, by omega, HI'.out, HMt.out, HHt.out, HYt.out, HAt.out, HBt.out, hBt⟩
              case measure => simp [intOf]; omega
          · have hkbI : ¬ (k : Int) < (bs.length : Int) := by omega
            clear hkb
            go_wp2_with fail
            go_roundw
            case rel => exact ⟨k + 1, _, _, _, _, by go_num, by omega, by omega, HI'.out, HMt.out, HHt.out, HYt.out, HAt.out, HBt.out, hBt⟩
            case measure => simp [intOf]; omega
      · obtain rfl : k = ps.length := by omega
        obtain ⟨aa, ca, rfl⟩ := HA.out.shape
        have hall : (all.length : Int) ≤ 1600 := by omega
        have HI0 := Lib.hid (fun t ht => HI.out.hs t ht)
        go_wp2_with fail
        go_loopw [96] (fun i wx => ∃ (j : Nat) (h' y' : Nat → Int), i = .int .i64 j ∧ j ≤ all.length ∧ (∀ t, t < 16 → h' t = m.H t + sumH (all.drop j) t ∧ y' t = m.Y t + sumY (all.drop j) t ∧ h' t ≤ 100 ∧ y' t ≤ 107374182400) ∧ MBlk wx bm m ∧ ABlk wx bh h' ∧ ABlk wx by' y' ∧ OwnE wx B3 (.slice aa all.length ca) all ∧ Below w.heap.size w wx ∧ B3 ≤ wx.heap.size) (fun i _ => all.length - (intOf i).toNat)
        case atStart => exact ⟨0, h, y, rfl, Nat.zero_le _, fun t ht => ⟨HI.out.hs t ht, HI.out.ys t ht, by have := HI.out.hb t ht; omega, by have := HI.out.hb t ht; omega⟩, HM.out, HH.out, HY.out, HA.out, HB.out, hBs⟩
        case round =>
          obtain ⟨j, h', y', rfl, hj, hsum, hM, hH, hY, hA, hB, hBs2⟩ := hrel
          have HS2 := Lib.hid hsum
          have HM2 := Lib.hid hM
          have HH2 := Lib.hid hH
          have HY2 := Lib.hid hY
          have HA2 := Lib.hid hA
          have HB2 := Lib.hid hB
          clear hsum hM hH hY hA hB HM HH HY HA HB
          by_cases hlt2 : j < all.length
          · obtain ⟨g, o, cap', e, hv, he, hat⟩ := HA2.out.isE.elem hlt2
            simp only [Value.slice.injEq] at hv
            obtain ⟨rfl, _, rfl⟩ := hv
            obtain ⟨hc, hsq, hnd, hbt, hh1, hy0, t, ht, htn⟩ := HI.out.ents j e he
            have HDM := Lib.hid (drop_more he)
            have HSG := Lib.hid (fun t => sum_good (all.drop (j + 1)) t (fun x hx => by
              obtain ⟨i, hi⟩ := List.getElem?_of_mem (List.mem_of_mem_drop hx)
              have := HI.out.ents i x hi
              have h5 := this.2.2.2.2.1
              have h6 := this.2.2.2.2.2.1
              omega))
            obtain ⟨nd, bt, sq, tn, hh, yy, at'⟩ := e
            dsimp only at hc hsq hnd hbt hh1 hy0 htn
            subst hnd hbt hsq htn
            have hj16 : (j : Int) ≤ 1600 := by omega
            have HCK := Lib.hid (fun W => (show Calls Try.prog 14 #[.agg #[.string ⟨#[110, 111, 100, 101, 45, 49]⟩, .int .i64 0, .int .i64 ((j : Int) + 1), .int .i64 t, .int .i64 hh, .int .i64 yy, .int .i64 at']] W fun r w' => r = .returned .nilIface ∧ Below W.heap.size W w' from by
              have h9 := check_any ⟨nodeN, 0, (j : Int) + 1, t, hh, yy, at'⟩ W (by show nodeN.length ≤ _; decide) (by dsimp only; omega)
              rw [hc] at h9
              exact h9))
            obtain ⟨x0, x1, x2, x3, x4, x5, x6⟩ := hat
            dsimp only at x0 x1 x2 x3 x4 x5 x6
            change _ = some (Value.string ⟨#[110, 111, 100, 101, 45, 49]⟩) at x0
            have hq0 : (0 : Int) ≤ (j : Int) := by omega
            have hq1 : (j : Int) < (all.length : Int) := by omega
            clear hc he
            go_upto_region 25 with fail
            have hbx := EntAt.box wr ⟨nodeN, 0, (j : Int) + 1, t, hh, yy, at'⟩
            have hn1 := bel_new wr (.cells #[.string ⟨#[110, 111, 100, 101, 45, 49]⟩, .int .i64 0, .int .i64 ((j : Int) + 1), .int .i64 t, .int .i64 hh, .int .i64 yy, .int .i64 at'] 23)
            obtain ⟨c0, c1, c2, c3, c4, c5, c6⟩ := hbx
            simp only [Nat.zero_add] at c0 c1 c2 c3 c4 c5 c6
            change _ = some (Value.string ⟨#[110, 111, 100, 101, 45, 49]⟩) at c0
            change (wr.alloc (.cells #[.string ⟨#[110, 111, 100, 101, 45, 49]⟩, .int .i64 0, .int .i64 ((j : Int) + 1), .int .i64 t, .int .i64 hh, .int .i64 yy, .int .i64 at'] 23)).cell? _ = _ at c0 c1 c2 c3 c4 c5 c6
            have HM3 := Lib.hid (HM2.out.step hn1)
            have HH3 := Lib.hid (HH2.out.step hn1)
            have HY3 := Lib.hid (HY2.out.step hn1)
            have HA3 := Lib.hid (HA2.out.step hn1)
            have HB3 := Lib.hid (bel_step HB2.out hn1)
            have hB3z : B3 ≤ (wr.alloc (.cells #[.string ⟨#[110, 111, 100, 101, 45, 49]⟩, .int .i64 0, .int .i64 ((j : Int) + 1), .int .i64 t, .int .i64 hh, .int .i64 yy, .int .i64 at'] 23)).heap.size := by simp [go_sem]; omega
            clear hn1 x0 x1 x2 x3 x4 x5 x6 HM2 HH2 HY2 HA2 HB2
            generalize wr.alloc (.cells #[.string ⟨#[110, 111, 100, 101, 45, 49]⟩, .int .i64 0, .int .i64 ((j : Int) + 1), .int .i64 t, .int .i64 hh, .int .i64 yy, .int .i64 at'] 23) = W4 at *
            have hse : ((j : Int) + 1 == (j : Int) + 1) = true := by simp
            go_upto_region 27 with (go_at_call 14; refine (HCK.out _).mono ?_; rintro r W5 ⟨rfl, hb5⟩; replace c0 := keep_at hb5 c0; replace c1 := keep_at hb5 c1; replace c2 := keep_at hb5 c2; replace c3 := keep_at hb5 c3; replace c4 := keep_at hb5 c4; replace c5 := keep_at hb5 c5)
            have HM5 := Lib.hid (HM3.out.step hb5)
            have HH5 := Lib.hid (HH3.out.step hb5)
            have HY5 := Lib.hid (HY3.out.step hb5)
            have HA5 := Lib.hid (HA3.out.step hb5)
            have HB5 := Lib.hid (bel_step HB3.out hb5)
            have hB5z := Nat.le_trans hB3z hb5.size
            have hwlt : B3 ≤ wr.heap.size := hBs2
            have hw1 : wr.heap.size ≠ bh := by omega
            have hw2 : wr.heap.size ≠ by' := by omega
            obtain ⟨q1, q2, q3, q4⟩ := HS2.out t ht
            have hmb := HI.out.mb t ht
            have hsg := HSG.out t
            rw [HDM.out] at q1 q2
            simp only [sumH, sumY, if_true] at q1 q2
            have b1 : 0 ≤ h' t - hh := by omega
            have b2 : h' t ≤ 100 := q3
            have b3 : 0 ≤ y' t - yy := by omega
            have b4 : y' t ≤ 107374182400 := q4
            have b5 : hh ≤ 100 := by omega
            have b6 : yy ≤ 107374182400 := by omega
            have hch := HH5.out.cell t ht
            have hfh := HH5.out.frozen t
            have ht0 : (0 : Int) ≤ (t : Int) := by omega
            have ht1 : (t : Int) < 16 := by omega
            clear hb5 HM3 HH3 HY3 HA3 HB3 q1 q2 q3 q4 hmb hsg
            generalize hht : h' t = x at *
            generalize hyt : y' t = z at *
            have HHT := Lib.hid hht
            have HYT := Lib.hid hyt
            clear hht hyt
            go_region
            have hs6 := Only.set (b := bh) (k := t) (u := .int .i64 (x - hh)) (w := W5)
            have HH6 := Lib.hid (HH5.out.set t (x - hh) ht).drew
            have HM6 := Lib.hid (HM5.out.only hs6 o1).drew
            have HY6 := Lib.hid (HY5.out.only hs6 (fun e => o3 e.symm)).drew
            have HA6 := Lib.hid (HA5.out.only hs6 o5).drew
            have HB6 := Lib.hid (HB5.out.trans (hs6.below o7 (Nat.le_trans o9 hB5z))).drew
            have hB6 : B3 ≤ (W5.setCell ⟨bh, t, none⟩ (.int .i64 (x - hh))).drew.heap.size := Nat.le_trans hB5z hs6.sz
            replace c3 := keep_drew (keep_only hs6 hw1 c3)
            replace c4 := keep_drew (keep_only hs6 hw1 c4)
            replace c5 := keep_drew (keep_only hs6 hw1 c5)
            have hcy := HY6.out.cell t ht
            have hfy := HY6.out.frozen t
            rw [HYT.out] at hcy
            clear hs6 c0 c1 c2 hch hfh HM5 HH5 HY5 HA5 HB5 hB5z
            generalize (W5.setCell ⟨bh, t, none⟩ (.int .i64 (x - hh))).drew = W6 at *
            go_upto_region 28 with fail
            go_region
            have hs7 := Only.set (b := by') (k := t) (u := .int .i64 (z - yy)) (w := W6)
            have HM7 := Lib.hid (HM6.out.only hs7 o2).drew
            have HH7 := Lib.hid (HH6.out.only hs7 o3).drew
            have HY7 := Lib.hid (HY6.out.set t (z - yy) ht).drew
            have HA7 := Lib.hid (HA6.out.only hs7 o6).drew
            have HB7 := Lib.hid (HB6.out.trans (hs7.below o8 (Nat.le_trans o9 hB6))).drew
            have hB7 : B3 ≤ (W6.setCell ⟨by', t, none⟩ (.int .i64 (z - yy))).drew.heap.size := Nat.le_trans hB6 hs7.sz
            clear hs7 c3 c4 c5 hcy hfy HM6 HH6 HY6 HA6 HB6
            generalize (W6.setCell ⟨by', t, none⟩ (.int .i64 (z - yy))).drew = W7 at *
            go_wp2_with fail
            go_roundw
            case rel => exact ⟨j + 1, upd h' t (x - hh), upd y' t (z - yy), by go_num, by omega, fun s hs => by
              obtain ⟨q1, q2, q3, q4⟩ := HS2.out s hs
              rw [HDM.out] at q1 q2
              simp only [sumH, sumY] at q1 q2
              simp only [upd]
              have e1 := HHT.out
              have e2 := HYT.out
              by_cases hst : s = t
              · subst hst
                simp only [if_true] at q1 q2 ⊢
                omega
              · have hn : ¬ ((t : Int) = (s : Int)) := by omega
                rw [if_neg hn] at q1 q2
                rw [if_neg hst, if_neg hst]
                omega, HM7.out, HH7.out, HY7.out, HA7.out, HB7.out, hB7⟩
            case measure => simp [intOf]; omega
          · obtain rfl : j = all.length := by omega
            have hfin : ∀ t, t < 16 → h' t = m.H t ∧ y' t = m.Y t := fun t ht => by
              obtain ⟨q1, q2, _, _⟩ := HS2.out t ht
              rw [List.drop_length] at q1 q2
              simp only [sumH, sumY] at q1 q2
              omega
            have HFIN := Lib.hid hfin
            clear hfin HS2
            go_wp2_with fail
            go_loopw [143] (fun i wx => ∃ j : Nat, i = .int .i64 j ∧ j ≤ 16 ∧ MBlk wx bm m ∧ ABlk wx bh h' ∧ ABlk wx by' y' ∧ Below w.heap.size w wx) (fun i _ => 16 - (intOf i).toNat)
            case atStart => exact ⟨0, rfl, by omega, HM2.out, HH2.out, HY2.out, HB2.out⟩
            case round =>
              obtain ⟨j, rfl, hj, hM, hH, hY, hB⟩ := hrel
              have HM3 := Lib.hid hM
              have HH3 := Lib.hid hH
              have HY3 := Lib.hid hY
              have HB3 := Lib.hid hB
              clear hM hH hY hB HM2 HH2 HY2 HA2 HB2
              by_cases hlt3 : j < 16
              · have c0 := HH3.out.cell j hlt3
                have c1 := HY3.out.cell j hlt3
                rw [(HFIN.out j hlt3).1] at c0
                rw [(HFIN.out j hlt3).2] at c1
                have HPD := Lib.hid (fun W hM => pending_in bm j m W hM hlt3)
                have hj0 : (0 : Int) ≤ (j : Int) := by omega
                have hj1 : (j : Int) < 16 := by omega
                generalize m.H j = q0 at *
                generalize m.Y j = q1 at *
                go_wp2_with (go_at_call 22; refine (HPD.out _ HM3.out).mono ?_; rintro r W7 ⟨rfl, nd, rfl⟩)
                go_roundw
                case rel => exact ⟨j + 1, by go_num, by omega, HM3.out, HH3.out, HY3.out, bel_drewN HB3.out⟩
                case measure => simp [intOf]; omega
              · obtain rfl : j = 16 := by omega
                go_wp2_with fail
                go_ret
                exact ⟨rfl, HB3.out⟩
end Go.Proofs.Ytdkaapkehmjepaa
