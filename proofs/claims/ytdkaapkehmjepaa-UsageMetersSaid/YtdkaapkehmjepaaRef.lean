/- The reference's meter in memory. No condition. -/
import Derived.Test.YtdkaapkehmjepaaAdds
namespace Go.Proofs.Ytdkaapkehmjepaa
open Go.RowKit
set_option linter.unusedVariables false
set_option linter.unusedSimpArgs false

def ints (f : Nat → Int) : List Value := (List.range 16).map fun t => .int .i64 (f t)
def rlist (m : Mtr) : List Value := .string ⟨m.node.toArray⟩ :: .int .i64 m.boot :: .int .i64 m.seq :: (ints m.H ++ ints m.Y)
theorem rlist_len (m : Mtr) : (rlist m).length = 35 := rfl
theorem rlist_one (m : Mtr) : ∀ u ∈ rlist m, u.oneCell' = true := by
  intro u hu
  simp only [rlist, ints, List.mem_cons, List.mem_append, List.mem_map] at hu
  rcases hu with rfl | rfl | rfl | ⟨_, _, rfl⟩ | ⟨_, _, rfl⟩ <;> rfl
theorem ints_one (f : Nat → Int) : ∀ u ∈ ints f, u.oneCell' = true := by
  intro u hu
  simp only [ints, List.mem_map] at hu
  obtain ⟨_, _, rfl⟩ := hu
  rfl
def RBlk (w : World) (b : Nat) (m : Mtr) : Prop := w.heap[b]? = some (.cells (rlist m).toArray 37 (0, 0))
theorem RBlk.cell {w : World} {b : Nat} {m : Mtr} (h : RBlk w b m) (i : Nat) : w.cell? ⟨b, i, none⟩ = (rlist m)[i]? := by
  unfold RBlk at h
  simp [World.cell?, h]
theorem RBlk.frozen {w : World} {b : Nat} {m : Mtr} (h : RBlk w b m) (i : Nat) : w.frozen? ⟨b, i, none⟩ = false := by
  unfold RBlk at h
  simp [World.frozen?, h]
theorem RBlk.lt {w : World} {b : Nat} {m : Mtr} (h : RBlk w b m) : b < w.heap.size := by
  rcases Nat.lt_or_ge b w.heap.size with h' | h'
  · exact h'
  · unfold RBlk at h; rw [Array.getElem?_eq_none h'] at h; cases h
theorem RBlk.bel {w w' : World} {B b : Nat} {m : Mtr} (h : RBlk w b m) (hb : Below B w w') (hB : b < B) : RBlk w' b m := (hb.block b hB).trans h
theorem RBlk.step {w w' : World} {b : Nat} {m : Mtr} (h : RBlk w b m) (hb : Below w.heap.size w w') : RBlk w' b m := h.bel hb h.lt
theorem RBlk.only {w w' : World} {b c : Nat} {m : Mtr} (h : RBlk w b m) (ho : Only c w w') (hn : b ≠ c) : RBlk w' b m := (ho.block b h.lt (by simpa using hn)).trans h
theorem RBlk.drew {w : World} {b : Nat} {m : Mtr} (h : RBlk w b m) : RBlk w.drew b m := h
theorem rlist_H (m : Mtr) (t : Nat) (ht : t < 16) : (rlist m)[3 + t]? = some (.int .i64 (m.H t)) := by
  match t, ht with
  | 0, _ | 1, _ | 2, _ | 3, _ | 4, _ | 5, _ | 6, _ | 7, _ | 8, _ | 9, _ | 10, _ | 11, _ | 12, _ | 13, _ | 14, _ | 15, _ => rfl
  | n + 16, h => exact absurd h (by omega)
theorem rlist_Y (m : Mtr) (t : Nat) (ht : t < 16) : (rlist m)[19 + t]? = some (.int .i64 (m.Y t)) := by
  match t, ht with
  | 0, _ | 1, _ | 2, _ | 3, _ | 4, _ | 5, _ | 6, _ | 7, _ | 8, _ | 9, _ | 10, _ | 11, _ | 12, _ | 13, _ | 14, _ | 15, _ => rfl
  | n + 16, h => exact absurd h (by omega)
theorem RBlk.atH {w : World} {b : Nat} {m : Mtr} (h : RBlk w b m) (t : Nat) (ht : t < 16) : w.cell? ⟨b, 3 + t, none⟩ = some (.int .i64 (m.H t)) := by rw [h.cell, rlist_H m t ht]
theorem RBlk.atY {w : World} {b : Nat} {m : Mtr} (h : RBlk w b m) (t : Nat) (ht : t < 16) : w.cell? ⟨b, 19 + t, none⟩ = some (.int .i64 (m.Y t)) := by rw [h.cell, rlist_Y m t ht]
theorem RBlk.head {w : World} {b : Nat} {m : Mtr} (h : RBlk w b m) : w.cell? ⟨b, 0, none⟩ = some (.string ⟨m.node.toArray⟩) ∧ w.cell? ⟨b, 1, none⟩ = some (.int .i64 m.boot) ∧ w.cell? ⟨b, 2, none⟩ = some (.int .i64 m.seq) := by
  rw [h.cell, h.cell, h.cell]
  exact ⟨rfl, rfl, rfl⟩
theorem rset_H (m : Mtr) (t : Nat) (x : Int) (ht : t < 16) : (rlist m).toArray.setIfInBounds (3 + t) (.int .i64 x) = (rlist { m with H := upd m.H t x }).toArray := by
  match t, ht with
  | 0, _ | 1, _ | 2, _ | 3, _ | 4, _ | 5, _ | 6, _ | 7, _ | 8, _ | 9, _ | 10, _ | 11, _ | 12, _ | 13, _ | 14, _ | 15, _ => rfl
  | n + 16, h => exact absurd h (by omega)
theorem rset_Y (m : Mtr) (t : Nat) (x : Int) (ht : t < 16) : (rlist m).toArray.setIfInBounds (19 + t) (.int .i64 x) = (rlist { m with Y := upd m.Y t x }).toArray := by
  match t, ht with
  | 0, _ | 1, _ | 2, _ | 3, _ | 4, _ | 5, _ | 6, _ | 7, _ | 8, _ | 9, _ | 10, _ | 11, _ | 12, _ | 13, _ | 14, _ | 15, _ => rfl
  | n + 16, h => exact absurd h (by omega)
theorem RBlk.setH {w : World} {b : Nat} {m : Mtr} (h : RBlk w b m) (t : Nat) (x : Int) (ht : t < 16) : RBlk (w.setCell ⟨b, 3 + t, none⟩ (.int .i64 x)) b { m with H := upd m.H t x } := by
  have := Joins.block_setCell (i := 3 + t) h (.int .i64 x)
  rw [rset_H m t x ht] at this
  exact this
theorem RBlk.setY {w : World} {b : Nat} {m : Mtr} (h : RBlk w b m) (t : Nat) (x : Int) (ht : t < 16) : RBlk (w.setCell ⟨b, 19 + t, none⟩ (.int .i64 x)) b { m with Y := upd m.Y t x } := by
  have := Joins.block_setCell (i := 19 + t) h (.int .i64 x)
  rw [rset_Y m t x ht] at this
  exact this
theorem RBlk.setSeq {w : World} {b : Nat} {m : Mtr} (h : RBlk w b m) (x : Int) : RBlk (w.setCell ⟨b, 2, none⟩ (.int .i64 x)) b { m with seq := x } :=
  Joins.block_setCell (i := 2) h (.int .i64 x)

/-! ### Many cells at once -/
theorem block_setMany {b : Nat} {ty : TypeId} {fr : Nat × Nat} : ∀ (vs pre old post : List Value) (w : World), w.heap[b]? = some (.cells (pre ++ (old ++ post)).toArray ty fr) → old.length = vs.length →
    (w.setCells b pre.length vs).heap[b]? = some (.cells (pre ++ (vs ++ post)).toArray ty fr)
  | [], pre, old, post, w, h, hl => by
    obtain rfl := List.eq_nil_of_length_eq_zero hl
    exact h
  | v :: vs, pre, [], post, w, h, hl => by simp at hl
  | v :: vs, pre, o :: old, post, w, h, hl => by
    have h1 := Joins.block_setCell (i := pre.length) h v
    have e : (pre ++ (o :: old ++ post)).toArray.setIfInBounds pre.length v = ((pre ++ [v]) ++ (old ++ post)).toArray := by
      simp [List.setIfInBounds_toArray]
    rw [e] at h1
    have ih := block_setMany vs (pre ++ [v]) old post _ h1 (by simpa using hl)
    rw [List.length_append, List.length_singleton] at ih
    rw [World.setCells]
    simpa using ih
theorem Only.setMany (b : Nat) : ∀ (vs : List Value) (o : Nat) (w : World), Only b w (w.setCells b o vs)
  | [], o, w => Only.refl b w
  | v :: vs, o, w => Only.set.trans (Only.setMany b vs (o + 1) _)
theorem RBlk.whole {w : World} {b : Nat} {m : Mtr} (h : RBlk w b m) (m' : Mtr) : RBlk (w.setCells b 0 (rlist m')) b m' := by
  have := block_setMany (b := b) (ty := 37) (fr := (0, 0)) (rlist m') [] (rlist m) [] w (by unfold RBlk at h; simpa using h) (by rw [rlist_len, rlist_len])
  simpa [RBlk] using this
theorem RBlk.zeros {w : World} {b : Nat} {m : Mtr} (h : RBlk w b m) : RBlk ((w.setCells b 3 (ints fun _ => 0)).setCells b 19 (ints fun _ => 0)) b { m with H := fun _ => 0, Y := fun _ => 0 } := by
  have h1 := block_setMany (b := b) (ty := 37) (fr := (0, 0)) (ints fun _ => 0) [.string ⟨m.node.toArray⟩, .int .i64 m.boot, .int .i64 m.seq] (ints m.H) (ints m.Y) w h rfl
  have h2 := block_setMany (b := b) (ty := 37) (fr := (0, 0)) (ints fun _ => 0) ([.string ⟨m.node.toArray⟩, .int .i64 m.boot, .int .i64 m.seq] ++ ints fun _ => 0) (ints m.Y) [] _ (by simpa using h1) rfl
  have h3 : ((w.setCells b 3 (ints fun _ => 0)).setCells b 19 (ints fun _ => 0)).heap[b]? = some (.cells ((([.string ⟨m.node.toArray⟩, .int .i64 m.boot, .int .i64 m.seq] : List Value) ++ ints fun _ => 0) ++ ((ints fun _ => 0) ++ [])).toArray 37 (0, 0)) := h2
  unfold RBlk rlist
  rw [h3]
  simp
theorem RBlk.range {w : World} {b : Nat} {m : Mtr} (h : RBlk w b m) : w.rangeAt b 0 (rlist m) := by
  intro j v hj
  rw [h.cell, Nat.zero_add]
  exact hj
theorem RBlk.there {w : World} {b : Nat} {m : Mtr} (h : RBlk w b m) (o n : Nat) (hn : o + n ≤ 35) : w.there b o n := by
  intro j hj
  refine ⟨?_, h.frozen _⟩
  rw [h.cell, List.getElem?_eq_getElem (by rw [rlist_len]; omega)]
  rfl
theorem size37 : (Try.prog.info? 37).map (·.size) = some 35 := by kernel_rfl
theorem size35 : (Try.prog.info? 35).map (·.size) = some 16 := by kernel_rfl

theorem RBlk.box (w : World) (m : Mtr) : RBlk (w.alloc (.cells (rlist m).toArray 37)) w.heap.size m := heap_alloc_new w _
def m00 : Mtr := ⟨[], 0, 0, fun _ => 0, fun _ => 0⟩
abbrev z37 : Obj := .cells #[.string ⟨#[]⟩, .int .i64 0, .int .i64 0, .int .i64 0, .int .i64 0, .int .i64 0, .int .i64 0, .int .i64 0, .int .i64 0, .int .i64 0, .int .i64 0, .int .i64 0, .int .i64 0, .int .i64 0, .int .i64 0, .int .i64 0, .int .i64 0, .int .i64 0, .int .i64 0, .int .i64 0, .int .i64 0, .int .i64 0, .int .i64 0, .int .i64 0, .int .i64 0, .int .i64 0, .int .i64 0, .int .i64 0, .int .i64 0, .int .i64 0, .int .i64 0, .int .i64 0, .int .i64 0, .int .i64 0, .int .i64 0] 37
theorem RBlk.zbox (w : World) : RBlk (w.alloc z37) w.heap.size m00 := heap_alloc_new w _
theorem RBlk.load {w : World} {b : Nat} {m : Mtr} (h : RBlk w b m) : (loadVar 37 ⟨b, 0, none⟩).run Try.prog w = .ok (.agg (rlist m).toArray) w :=
  run_loadVar_mid w b 0 37 (rlist m) _ h.range Try.underlying37 rfl size37

set_option maxRecDepth 20000 in
set_option maxHeartbeats 2000000 in
theorem radd_ok (m : Mtr) (t : Nat) (y : Int) (w : World) (hf : Fit m) (ho : addOk m t y) :
    Calls Try.prog 20 #[.agg (rlist m).toArray, .int .i64 t, .int .i64 y] w fun r w' => r = .returned (.tuple #[.agg (rlist (addM m t y)).toArray, .int .i64 0]) ∧ Below w.heap.size w w' := by
  obtain ⟨h1, h2, h3, h4, h5, h6⟩ := ho
  rw [Int.toNat_natCast] at h5 h6
  have ht : t < 16 := by omega
  obtain ⟨g1, g2, g3, g4⟩ := hf t ht
  have ht15 : (t : Int) ≤ 15 := by omega
  have ht0 : ¬ (t : Int) < 0 := by omega
  have hnb := bel_new w (.cells (rlist m).toArray 37)
  have HB := Lib.hid (bel_step hnb (bel_new _ z37))
  have hR1 := (RBlk.box w m).step (bel_new _ z37)
  have HR1 := Lib.hid hR1
  have HR2 := Lib.hid (RBlk.zbox (w.alloc (.cells (rlist m).toArray 37)))
  have c0 := hR1.atH t ht
  have c1 := hR1.atY t ht
  have f0 := hR1.frozen (3 + t)
  have f1 := hR1.frozen (19 + t)
  have hsz : (w.alloc (.cells (rlist m).toArray 37)).heap.size = w.heap.size + 1 := by simp [go_sem]
  rw [hsz] at HR2
  generalize hPA : rlist m = PA at *
  clear hR1 hnb hf hsz
  go_enter Try.func20, Try.ntmps20
  go_upto_region 1 with fail
  change Code.wp _ _ _ _ ((w.alloc (.cells PA.toArray 37)).alloc z37)
  generalize (w.alloc (.cells PA.toArray 37)).alloc z37 = W1 at *
  generalize hx : m.H t = x at *
  generalize hz : m.Y t = z at *
  have HX := Lib.hid hx
  have HZ := Lib.hid hz
  clear hx hz
  go_upto_region 5 with fail
  have hs := (Only.set (b := w.heap.size) (k := 3 + t) (u := .int .i64 (x + 1)) (w := W1)).trans (Only.set (b := w.heap.size) (k := 19 + t) (u := .int .i64 (z + y)))
  have HR4 := Lib.hid (HR2.out.only hs (by omega))
  have HB4 := Lib.hid (HB.out.trans (hs.below (Nat.le_refl _) HB.out.size))
  have HR3 := Lib.hid (show RBlk _ w.heap.size (addM m t y) from by
    have := (HR1.out.setH t (x + 1) ht).setY t (z + y) ht
    simpa only [addM, HX.out, HZ.out] using this)
  clear hs c0 c1 f0 f1 HR1 HR2 HB
  generalize (W1.setCell ⟨w.heap.size, 3 + t, none⟩ (.int .i64 (x + 1))).setCell ⟨w.heap.size, 19 + t, none⟩ (.int .i64 (z + y)) = W4 at *
  obtain ⟨m', hm'⟩ : ∃ m', m' = addM m t y := ⟨_, rfl⟩
  have HM' := Lib.hid hm'
  rw [← hm'] at HR3
  clear hm'
  have HO := Lib.hid (all_oneCell_toArray (rlist_one m'))
  have HLD := Lib.hid ((HR4.out.whole m').load)
  have HRW := Lib.hid (HR4.out.whole m')
  have hsm := Only.setMany (w.heap.size + 1) (rlist m') 0 W4
  have HBF := Lib.hid (HB4.out.trans (hsm.below (Nat.le_succ _) HB4.out.size))
  clear hsm
  go_wp2_with (first | (refine wpList_load_mid rfl 37 (.tmp 3) rfl w.heap.size 0 rfl (rlist m') _ HR3.out.range Try.underlying37 rfl size37 ?_) | (refine wpList_store_mid rfl 37 (.tmp 6) (.tmp 56) rfl (w.heap.size + 1) 0 (rlist m').toArray rfl rfl (HR4.out.there 0 35 (Nat.le_refl _)) size37 HO.out ?_; rw [List.toList_toArray]))
  refine bodyPost_ret (v := .tuple #[.agg (rlist m').toArray, .int .i64 0]) (by simp [results, Try.results20, asAddr, HLD.out]) rfl ⟨by rw [HM'.out], HBF.out⟩
set_option maxRecDepth 20000 in
set_option maxHeartbeats 4000000 in
theorem radd_bad (m : Mtr) (t y : Int) (w : World) (hf : Fit m) (ho : ¬ addOk m t y) :
    Calls Try.prog 20 #[.agg (rlist m).toArray, .int .i64 t, .int .i64 y] w fun r w' => r = .returned (.tuple #[.agg (rlist m).toArray, .int .i64 1]) ∧ Below w.heap.size w w' := by
  have hnb := bel_new w (.cells (rlist m).toArray 37)
  have HB := Lib.hid (bel_step hnb (bel_new _ z37))
  have hR1 := (RBlk.box w m).step (bel_new _ z37)
  have HR2 := Lib.hid (RBlk.zbox (w.alloc (.cells (rlist m).toArray 37)))
  have HRG := Lib.hid hR1.range
  have HO := Lib.hid (all_oneCell_toArray (rlist_one m))
  have HLN := Lib.hid (rlist_len m)
  have HSZ : Hid ((Try.prog.info? 37).map (·.size) = some (rlist m).length) := Lib.hid size37
  have hat : ∀ n, n < 16 → _ ∧ _ := fun n hn => And.intro (hR1.atH n hn) (hR1.atY n hn)
  have HAT := Lib.hid hat
  have hsz : (w.alloc (.cells (rlist m).toArray 37)).heap.size = w.heap.size + 1 := by simp [go_sem]
  rw [hsz] at HR2
  clear hR1 hnb hsz hat
  obtain ⟨PA, hPA⟩ : ∃ PA, PA = rlist m := ⟨_, rfl⟩
  have HPA := Lib.hid hPA.symm
  rw [← hPA] at HB HRG HO HLN HSZ HAT HR2 ⊢
  have HSA : Hid (PA.toArray.size = 35) := Lib.hid (by rw [List.size_toArray]; exact HLN.out)
  clear hPA
  by_cases h1 : t < 0
  · clear ho HAT
    go_enter Try.func20, Try.ntmps20
    go_upto_region 1 with fail
    change Code.wp _ _ _ _ ((w.alloc (.cells PA.toArray 37)).alloc z37)
    generalize (w.alloc (.cells PA.toArray 37)).alloc z37 = W1 at *
    have HTH := Lib.hid (show W1.there (w.heap.size + 1) 0 PA.toArray.size from by have := HR2.out.there 0 35 (Nat.le_refl _); rw [HSA.out]; exact this)
    have HS2 := Lib.hid (show (Try.prog.info? 37).map (·.size) = some PA.toArray.size from by rw [HSA.out]; exact size37)
    have HLD := Lib.hid ((HR2.out.whole m).load)
    rw [HPA.out] at HLD
    have hsm := Only.setMany (w.heap.size + 1) (rlist m) 0 W1
    have HBF := Lib.hid (HB.out.trans (hsm.below (Nat.le_succ _) HB.out.size))
    rw [HPA.out] at HBF
    clear hsm
    go_wp2_with (first | (refine wpList_load_mid rfl 37 (.tmp 3) rfl w.heap.size 0 rfl PA _ HRG.out Try.underlying37 rfl HSZ.out ?_) | (refine wpList_store_mid rfl 37 (.tmp 6) (.tmp 39) rfl (w.heap.size + 1) 0 PA.toArray rfl rfl HTH.out HS2.out HO.out ?_; rw [List.toList_toArray]))
    refine bodyPost_ret (v := .tuple #[.agg PA.toArray, .int .i64 1]) (by simp [results, Try.results20, asAddr, HLD.out]) rfl ⟨rfl, HBF.out⟩
  · by_cases h2 : 15 < t
    · clear ho HAT
      go_enter Try.func20, Try.ntmps20
      go_upto_region 1 with fail
      change Code.wp _ _ _ _ ((w.alloc (.cells PA.toArray 37)).alloc z37)
      generalize (w.alloc (.cells PA.toArray 37)).alloc z37 = W1 at *
      have HTH := Lib.hid (show W1.there (w.heap.size + 1) 0 PA.toArray.size from by have := HR2.out.there 0 35 (Nat.le_refl _); rw [HSA.out]; exact this)
      have HS2 := Lib.hid (show (Try.prog.info? 37).map (·.size) = some PA.toArray.size from by rw [HSA.out]; exact size37)
      have HLD := Lib.hid ((HR2.out.whole m).load)
      rw [HPA.out] at HLD
      have hsm := Only.setMany (w.heap.size + 1) (rlist m) 0 W1
      have HBF := Lib.hid (HB.out.trans (hsm.below (Nat.le_succ _) HB.out.size))
      rw [HPA.out] at HBF
      clear hsm
      go_wp2_with (first | (refine wpList_load_mid rfl 37 (.tmp 3) rfl w.heap.size 0 rfl PA _ HRG.out Try.underlying37 rfl HSZ.out ?_) | (refine wpList_store_mid rfl 37 (.tmp 6) (.tmp 39) rfl (w.heap.size + 1) 0 PA.toArray rfl rfl HTH.out HS2.out HO.out ?_; rw [List.toList_toArray]))
      refine bodyPost_ret (v := .tuple #[.agg PA.toArray, .int .i64 1]) (by simp [results, Try.results20, asAddr, HLD.out]) rfl ⟨rfl, HBF.out⟩
    · by_cases h3 : y < 0
      · clear ho HAT
        go_enter Try.func20, Try.ntmps20
        go_upto_region 1 with fail
        change Code.wp _ _ _ _ ((w.alloc (.cells PA.toArray 37)).alloc z37)
        generalize (w.alloc (.cells PA.toArray 37)).alloc z37 = W1 at *
        have HTH := Lib.hid (show W1.there (w.heap.size + 1) 0 PA.toArray.size from by have := HR2.out.there 0 35 (Nat.le_refl _); rw [HSA.out]; exact this)
        have HS2 := Lib.hid (show (Try.prog.info? 37).map (·.size) = some PA.toArray.size from by rw [HSA.out]; exact size37)
        have HLD := Lib.hid ((HR2.out.whole m).load)
        rw [HPA.out] at HLD
        have hsm := Only.setMany (w.heap.size + 1) (rlist m) 0 W1
        have HBF := Lib.hid (HB.out.trans (hsm.below (Nat.le_succ _) HB.out.size))
        rw [HPA.out] at HBF
        clear hsm
        go_wp2_with (first | (refine wpList_load_mid rfl 37 (.tmp 3) rfl w.heap.size 0 rfl PA _ HRG.out Try.underlying37 rfl HSZ.out ?_) | (refine wpList_store_mid rfl 37 (.tmp 6) (.tmp 39) rfl (w.heap.size + 1) 0 PA.toArray rfl rfl HTH.out HS2.out HO.out ?_; rw [List.toList_toArray]))
        refine bodyPost_ret (v := .tuple #[.agg PA.toArray, .int .i64 1]) (by simp [results, Try.results20, asAddr, HLD.out]) rfl ⟨rfl, HBF.out⟩
      · by_cases h4 : 1073741824 < y
        · clear ho HAT
          go_enter Try.func20, Try.ntmps20
          go_upto_region 1 with fail
          change Code.wp _ _ _ _ ((w.alloc (.cells PA.toArray 37)).alloc z37)
          generalize (w.alloc (.cells PA.toArray 37)).alloc z37 = W1 at *
          have HTH := Lib.hid (show W1.there (w.heap.size + 1) 0 PA.toArray.size from by have := HR2.out.there 0 35 (Nat.le_refl _); rw [HSA.out]; exact this)
          have HS2 := Lib.hid (show (Try.prog.info? 37).map (·.size) = some PA.toArray.size from by rw [HSA.out]; exact size37)
          have HLD := Lib.hid ((HR2.out.whole m).load)
          rw [HPA.out] at HLD
          have hsm := Only.setMany (w.heap.size + 1) (rlist m) 0 W1
          have HBF := Lib.hid (HB.out.trans (hsm.below (Nat.le_succ _) HB.out.size))
          rw [HPA.out] at HBF
          clear hsm
          go_wp2_with (first | (refine wpList_load_mid rfl 37 (.tmp 3) rfl w.heap.size 0 rfl PA _ HRG.out Try.underlying37 rfl HSZ.out ?_) | (refine wpList_store_mid rfl 37 (.tmp 6) (.tmp 39) rfl (w.heap.size + 1) 0 PA.toArray rfl rfl HTH.out HS2.out HO.out ?_; rw [List.toList_toArray]))
          refine bodyPost_ret (v := .tuple #[.agg PA.toArray, .int .i64 1]) (by simp [results, Try.results20, asAddr, HLD.out]) rfl ⟨rfl, HBF.out⟩
        · obtain ⟨n, rfl⟩ : ∃ n : Nat, t = n := ⟨t.toNat, by omega⟩
          have ht : n < 16 := by omega
          obtain ⟨c0, c1⟩ := HAT.out n ht
          obtain ⟨g1, g2, g3, g4⟩ := hf n ht
          have ho' : 1099511627776 < m.H n + 1 ∨ (¬ 1099511627776 < m.H n + 1 ∧ 1099511627776 < m.Y n + y) := by
            unfold addOk at ho
            rw [Int.toNat_natCast] at ho
            omega
          have ht16 : (n : Int) < 16 := by omega
          have hn0 : (0 : Int) ≤ (n : Int) := by omega
          clear hf ho ht HAT
          generalize m.H n = x at *
          generalize m.Y n = z at *
          rcases ho' with h5 | ⟨h5, h6⟩
          · skip
            go_enter Try.func20, Try.ntmps20
            go_upto_region 1 with fail
            change Code.wp _ _ _ _ ((w.alloc (.cells PA.toArray 37)).alloc z37)
            generalize (w.alloc (.cells PA.toArray 37)).alloc z37 = W1 at *
            have HTH := Lib.hid (show W1.there (w.heap.size + 1) 0 PA.toArray.size from by have := HR2.out.there 0 35 (Nat.le_refl _); rw [HSA.out]; exact this)
            have HS2 := Lib.hid (show (Try.prog.info? 37).map (·.size) = some PA.toArray.size from by rw [HSA.out]; exact size37)
            have HLD := Lib.hid ((HR2.out.whole m).load)
            rw [HPA.out] at HLD
            have hsm := Only.setMany (w.heap.size + 1) (rlist m) 0 W1
            have HBF := Lib.hid (HB.out.trans (hsm.below (Nat.le_succ _) HB.out.size))
            rw [HPA.out] at HBF
            clear hsm
            go_wp2_with (first | (refine wpList_load_mid rfl 37 (.tmp 3) rfl w.heap.size 0 rfl PA _ HRG.out Try.underlying37 rfl HSZ.out ?_) | (refine wpList_store_mid rfl 37 (.tmp 6) (.tmp 39) rfl (w.heap.size + 1) 0 PA.toArray rfl rfl HTH.out HS2.out HO.out ?_; rw [List.toList_toArray]))
            refine bodyPost_ret (v := .tuple #[.agg PA.toArray, .int .i64 1]) (by simp [results, Try.results20, asAddr, HLD.out]) rfl ⟨rfl, HBF.out⟩
          · skip
            go_enter Try.func20, Try.ntmps20
            go_upto_region 1 with fail
            change Code.wp _ _ _ _ ((w.alloc (.cells PA.toArray 37)).alloc z37)
            generalize (w.alloc (.cells PA.toArray 37)).alloc z37 = W1 at *
            have HTH := Lib.hid (show W1.there (w.heap.size + 1) 0 PA.toArray.size from by have := HR2.out.there 0 35 (Nat.le_refl _); rw [HSA.out]; exact this)
            have HS2 := Lib.hid (show (Try.prog.info? 37).map (·.size) = some PA.toArray.size from by rw [HSA.out]; exact size37)
            have HLD := Lib.hid ((HR2.out.whole m).load)
            rw [HPA.out] at HLD
            have hsm := Only.setMany (w.heap.size + 1) (rlist m) 0 W1
            have HBF := Lib.hid (HB.out.trans (hsm.below (Nat.le_succ _) HB.out.size))
            rw [HPA.out] at HBF
            clear hsm
            go_wp2_with (first | (refine wpList_load_mid rfl 37 (.tmp 3) rfl w.heap.size 0 rfl PA _ HRG.out Try.underlying37 rfl HSZ.out ?_) | (refine wpList_store_mid rfl 37 (.tmp 6) (.tmp 39) rfl (w.heap.size + 1) 0 PA.toArray rfl rfl HTH.out HS2.out HO.out ?_; rw [List.toList_toArray]))
            refine bodyPost_ret (v := .tuple #[.agg PA.toArray, .int .i64 1]) (by simp [results, Try.results20, asAddr, HLD.out]) rfl ⟨rfl, HBF.out⟩
end Go.Proofs.Ytdkaapkehmjepaa
