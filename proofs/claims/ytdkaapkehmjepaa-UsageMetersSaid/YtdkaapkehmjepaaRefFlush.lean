/- The walk of the reference's Flush. No condition beyond that the counts are counts. -/
import Derived.Test.YtdkaapkehmjepaaRef
namespace Go.Proofs.Ytdkaapkehmjepaa
open Go.RowKit
set_option linter.unusedVariables false
set_option linter.unusedSimpArgs false

theorem rlist_congr {m m' : Mtr} (h0 : m.node = m'.node) (h1 : m.boot = m'.boot) (h2 : m.seq = m'.seq) (h : ∀ t, t < 16 → m.H t = m'.H t ∧ m.Y t = m'.Y t) : rlist m = rlist m' := by
  have e : ∀ f g : Nat → Int, (∀ t, t < 16 → f t = g t) → ints f = ints g := by
    intro f g hfg
    unfold ints
    exact List.map_congr_left fun t ht => by rw [hfg t (List.mem_range.1 ht)]
  unfold rlist
  rw [h0, h1, h2, e m.H m'.H (fun t ht => (h t ht).1), e m.Y m'.Y (fun t ht => (h t ht).2)]
abbrev z16 : Array Value := #[.int .i64 0, .int .i64 0, .int .i64 0, .int .i64 0, .int .i64 0, .int .i64 0, .int .i64 0, .int .i64 0, .int .i64 0, .int .i64 0, .int .i64 0, .int .i64 0, .int .i64 0, .int .i64 0, .int .i64 0, .int .i64 0]
theorem z16_list : z16.toList = ints fun _ => 0 := rfl
theorem z16_one : z16.all (·.oneCell') = true := all_oneCell_toArray (ints_one fun _ => 0)
theorem seqM_next (m : Mtr) (x y : Int) : ({ { m with seq := x } with seq := y } : Mtr) = { m with seq := y } := rfl

set_option maxRecDepth 100000 in
set_option maxHeartbeats 4000000 in
theorem rflush_any (m : Mtr) (n : Int) (w : World) (hf : Fit m) (hs : 0 ≤ m.seq ∧ m.seq ≤ 1099511627776) :
    Calls Try.prog 17 #[.agg (rlist m).toArray, .int .i64 n] w fun r w' => ∃ v, r = .returned (.tuple #[.agg (rlist (flushM m (clampT n) 16)).toArray, v]) ∧ OwnE w' w.heap.size v (flushEs m (clampT n) 16).2 ∧ Below w.heap.size w w' := by
  have hnb := bel_new w (.cells (rlist m).toArray 37)
  have HB := Lib.hid (bel_step hnb (bel_new _ z37))
  have HR1 := Lib.hid ((RBlk.box w m).step (bel_new _ z37))
  have HR2 := Lib.hid (RBlk.zbox (w.alloc (.cells (rlist m).toArray 37)))
  have hsz : (w.alloc (.cells (rlist m).toArray 37)).heap.size = w.heap.size + 1 := by simp [go_sem]
  have hsz2 : ((w.alloc (.cells (rlist m).toArray 37)).alloc z37).heap.size = w.heap.size + 2 := by simp [go_sem]
  rw [hsz] at HR2
  have HF := Lib.hid hf
  obtain ⟨PA, hPA⟩ : ∃ PA, PA = rlist m := ⟨_, rfl⟩
  have HPA := Lib.hid hPA.symm
  rw [← hPA] at HB HR1 HR2 hsz2 ⊢
  clear hPA hnb hsz hf
  go_enter Try.func17, Try.ntmps17
  go_upto_region 1 with fail
  change Code.wp _ _ _ _ ((w.alloc (.cells PA.toArray 37)).alloc z37)
  generalize (w.alloc (.cells PA.toArray 37)).alloc z37 = W1 at *
  go_upto_region 2 with fail
  go_cut [7] (fun v wx => v = .int .i64 (clampT n) ∧ wx = W1)
  case first =>
    have hn3 : (1099511627776 < n ∧ clampT n = 1099511627776) ∨ (¬ 1099511627776 < n ∧ 0 < n ∧ clampT n = n) ∨ (¬ 1099511627776 < n ∧ ¬ 0 < n ∧ clampT n = 0) := by unfold clampT; omega
    rcases hn3 with ⟨n1, n2⟩ | ⟨n1, n3, n2⟩ | ⟨n1, n3, n2⟩
    all_goals
      have N2 := Lib.hid n2
      clear n2
      go_wp2_with fail
      go_meet
      exact ⟨by rw [N2.out], rfl⟩
  case rest =>
    obtain ⟨rfl, rfl⟩ := hcut
    go_wp2_with fail
    have HZ := Lib.hid hsz2
    have hB2 : w.heap.size + 2 ≤ wc.heap.size := Nat.le_of_eq hsz2.symm
    go_loopw [6, 12] (fun v i wr => ∃ k : Nat, i = .int .i64 k ∧ k ≤ 16 ∧ OwnE wr (w.heap.size + 2) v (flushEs m (clampT n) k).2 ∧ RBlk wr w.heap.size { m with seq := (flushEs m (clampT n) k).1 } ∧ RBlk wr (w.heap.size + 1) m00 ∧ Below w.heap.size w wr ∧ w.heap.size + 2 ≤ wr.heap.size) (fun _ i _ => 16 - (intOf i).toNat)
    case atStart => exact ⟨0, rfl, by omega, OwnE.nil _ _, HR1.out, HR2.out, HB.out, hB2⟩
    case round =>
      obtain ⟨k, rfl, hk, hE, hR, hR0, hB, hsz⟩ := hrel
      have HE := Lib.hid hE
      have HR := Lib.hid hR
      have HR0 := Lib.hid hR0
      have HBr := Lib.hid hB
      clear hE hR hR0 hB HR1 HR2 HB
      by_cases hlt : k < 16
      · have hk0 : (0 : Int) ≤ (k : Int) := by omega
        have hk1 : (k : Int) < 16 := by omega
        have hfk := HF.out k hlt
        have c3 : wr.cell? ⟨w.heap.size, 3 + k, none⟩ = some (.int .i64 (m.H k)) := HR.out.atH k hlt
        by_cases h0 : m.H k = 0
        · have HFE := Lib.hid (show flushEs m (clampT n) (k + 1) = flushEs m (clampT n) k by simp only [flushEs, if_pos h0])
          rw [h0] at c3
          clear hfk h0
          go_wp2_with fail
          go_roundw
          case rel => exact ⟨k + 1, by go_num, by omega, by rw [HFE.out]; exact HE.out, by rw [HFE.out]; exact HR.out, HR0.out, HBr.out, hsz⟩
          case measure => simp [intOf]; omega
        · have HFE := Lib.hid (show flushEs m (clampT n) (k + 1) = ((flushEs m (clampT n) k).1 + 1, (flushEs m (clampT n) k).2 ++ [⟨m.node, m.boot, (flushEs m (clampT n) k).1 + 1, k, m.H k, m.Y k, clampT n⟩]) by simp only [flushEs, if_neg h0])
          have hbd := flushEs_bd m (clampT n) k
          have hel := hbd.2.2
          have HEL := Lib.hid hel
          have hpos : 0 < m.H k := by omega
          have hsq : 0 ≤ (flushEs m (clampT n) k).1 ∧ (flushEs m (clampT n) k).1 ≤ 1099511627776 + 16 := by omega
          obtain ⟨q1, q2⟩ := hsq
          obtain ⟨d0, d1, d2⟩ := HR.out.head
          dsimp only at d0 d1 d2
          have f2 := HR.out.frozen 2
          clear hbd hel h0 hfk
          generalize flushEs m (clampT n) k = fe at *
          obtain ⟨sq, es⟩ := fe
          dsimp only at *
          go_upto_region 8 with fail
          have hs5 := Only.set (b := w.heap.size) (k := 2) (u := .int .i64 (sq + 1)) (w := wr)
          have hR5 : RBlk (wr.setCell ⟨w.heap.size, 2, none⟩ (.int .i64 (sq + 1))) w.heap.size { m with seq := sq + 1 } := HR.out.setSeq (sq + 1)
          have HE5 := Lib.hid (HE.out.only hs5 (by omega))
          have HR05 := Lib.hid (HR0.out.only hs5 (by omega))
          have HB5 := Lib.hid (HBr.out.trans (hs5.below (Nat.le_refl _) (Nat.le_trans (Nat.le_add_right _ 2) hsz)))
          have hsz5 := Nat.le_trans hsz hs5.sz
          obtain ⟨e0, e1, e2⟩ := hR5.head
          have e3 := hR5.atH k hlt
          have e4 := hR5.atY k hlt
          have HR5 := Lib.hid hR5
          dsimp only at e0 e1 e2 e3 e4
          clear hs5 hR5 c3 d0 d1 d2 f2 HE HR HR0 HBr
          generalize wr.setCell ⟨w.heap.size, 2, none⟩ (.int .i64 (sq + 1)) = W5 at *
          have hnb : some w.heap.size ≠ u6.ownBlock := fun e => by have := (World.ownsRow.lt HE5.out _ e.symm).1; omega
          go_region_held3 (fun w' => w'.cell? ⟨w.heap.size, 0, none⟩ = some (.string ⟨m.node.toArray⟩) ∧ w'.cell? ⟨w.heap.size, 1, none⟩ = some (.int .i64 m.boot) ∧ w'.cell? ⟨w.heap.size, 2, none⟩ = some (.int .i64 (sq + 1)) ∧ w'.cell? ⟨w.heap.size, 3 + k, none⟩ = some (.int .i64 (m.H k)) ∧ w'.cell? ⟨w.heap.size, 19 + k, none⟩ = some (.int .i64 (m.Y k)))
            ((go_split_ands; refine ⟨?_, ?_, ?_, ?_, ?_⟩ <;> (repeat (with_reducible (first | assumption | refine keep_drew ?_ | refine keep_alloc ?_ | refine keep_grown hg' hnb ?_)))))
            ((refine step_appE ?_ (.tmp 24) (.tmp 42) ?_ (w.heap.size + 2) u6 es ?_ ?_ W5.heap.size ⟨m.node, m.boot, sq + 1, k, m.H k, m.Y k, clampT n⟩ ?_ ?_ ?_ ?_ ?_; rfl; rfl; rfl; (first | exact (HE5.out.step (bel_new W5 _)).drew | exact HE5.out.drew.step (bel_new W5.drew _)); rfl; (first | exact ent_cells W5 ⟨m.node, m.boot, sq + 1, k, m.H k, m.Y k, _⟩ | exact ent_cells W5.drew ⟨m.node, m.boot, sq + 1, k, m.H k, m.Y k, _⟩); (have := HEL.out; omega); (first | (simp [go_sem]; omega) | omega); intro v' w' ho' hb' hz' hg'))
          have HRw := Lib.hid ((HR5.out.step (bel_new W5 _)).drew.bel hb' (by omega))
          have HR0w := Lib.hid ((HR05.out.step (bel_new W5 _)).drew.bel hb' (by omega))
          have HBw := Lib.hid ((bel_drew (bel_step HB5.out (bel_new W5 _))).trans (hb'.mono (by omega)))
          have HEw := Lib.hid ho'
          have hszw : w.heap.size + 2 ≤ w'.heap.size := by refine Nat.le_trans hsz5 (Nat.le_trans ?_ hz'); simp [go_sem]
          clear ho' hb' hz' hg' HR5 HE5 HR05 HB5 e0 e1 e2 e3 e4
          go_wp2_with fail
          go_roundw
          case rel => exact ⟨k + 1, by go_num, by omega, by rw [HFE.out]; exact HEw.out, by rw [HFE.out]; exact HRw.out, HR0w.out, HBw.out, hszw⟩
          case measure => simp [intOf]; omega
      · obtain rfl : k = 16 := by omega
        obtain ⟨m', hm'⟩ : ∃ m' : Mtr, m' = ⟨m.node, m.boot, (flushEs m (clampT n) 16).1, fun _ => 0, fun _ => 0⟩ := ⟨_, rfl⟩
        have hml : rlist m' = rlist (flushM m (clampT n) 16) := by
          rw [hm']
          exact rlist_congr rfl rfl rfl (fun t ht => by simp only [flushM]; rw [if_pos ht, if_pos ht]; exact ⟨rfl, rfl⟩)
        have HML := Lib.hid hml
        have hz1 := HR.out.zeros
        dsimp only at hz1
        rw [← hm'] at hz1
        have hsA := Only.setMany w.heap.size (ints fun _ => 0) 3 wr
        have hsB := Only.setMany w.heap.size (ints fun _ => 0) 19 (wr.setCells w.heap.size 3 (ints fun _ => 0))
        have HR6 := Lib.hid hz1
        have HT1 := Lib.hid (HR.out.there 3 16 (by omega))
        have HT2 := Lib.hid (World.there_setCells (HR.out.there 19 16 (by omega)) w.heap.size 3 (ints fun _ => 0))
        have HR06 := Lib.hid ((HR0.out.only hsA (by omega)).only hsB (by omega))
        have HB6 := Lib.hid ((HBr.out.trans (hsA.below (Nat.le_refl _) (Nat.le_trans (Nat.le_add_right _ 2) hsz))).trans (hsB.below (Nat.le_refl _) (Nat.le_trans (Nat.le_add_right _ 2) (Nat.le_trans hsz hsA.sz))))
        have HE6 := Lib.hid ((HE.out.only hsA (by omega)).only hsB (by omega))
        have hsz6 := Nat.le_trans hsz (Nat.le_trans hsA.sz hsB.sz)
        have HOZ := Lib.hid z16_one
        clear hm' hml hz1 hsA hsB HR HR0 HBr HE
        go_upto_region 10 with fail
        refine wp_region_list ?_
        refine wpList_plain rfl fun K hK => ?_
        go_simp
        refine hK _ _ ?_
        clear hK K
        refine wpList_plain rfl fun K hK => ?_
        go_simp
        refine hK _ _ ?_
        clear hK K
        refine wpList_plain rfl fun K hK => ?_
        go_simp
        refine hK _ _ ?_
        clear hK K
        refine wpList_store_mid rfl 35 (.tmp 47) (.tmp 45) rfl w.heap.size 3 z16 rfl rfl HT1.out size35 HOZ.out ?_
        rw [z16_list]
        refine wpList_plain rfl fun K hK => ?_
        go_simp
        refine hK _ _ ?_
        clear hK K
        refine wpList_store_mid rfl 35 (.tmp 48) (.tmp 46) rfl w.heap.size 19 z16 rfl rfl HT2.out size35 HOZ.out ?_
        rw [z16_list]
        go_upto_region 11 with fail
        generalize (wr.setCells w.heap.size 3 (ints fun _ => 0)).setCells w.heap.size 19 (ints fun _ => 0) = W6 at *
        have HO := Lib.hid (all_oneCell_toArray (rlist_one m'))
        have HLD := Lib.hid ((HR06.out.whole m').load)
        have hsm := Only.setMany (w.heap.size + 1) (rlist m') 0 W6
        have HBF := Lib.hid (HB6.out.trans (hsm.below (Nat.le_succ _) (Nat.le_trans (Nat.le_add_right _ 2) hsz6)))
        have HEF := Lib.hid ((HE6.out.only hsm (by omega)).mono (Nat.le_add_right _ 2))
        clear hsm
        go_wp2_with (first | (refine wpList_load_mid rfl 37 (.tmp 2) rfl w.heap.size 0 rfl (rlist m') _ HR6.out.range Try.underlying37 rfl size37 ?_) | (refine wpList_store_mid rfl 37 (.tmp 4) (.tmp 49) rfl (w.heap.size + 1) 0 (rlist m').toArray rfl rfl (HR06.out.there 0 35 (Nat.le_refl _)) size37 HO.out ?_; rw [List.toList_toArray]))
        refine bodyPost_ret (v := .tuple #[.agg (rlist m').toArray, u6]) (by simp [results, Try.results17, asAddr, HLD.out]) rfl ⟨u6, by rw [HML.out], HEF.out, HBF.out⟩
end Go.Proofs.Ytdkaapkehmjepaa
