/- The walk of the law UsageMeters. No condition. -/
import Derived.Test.YtdkaapkehmjepaaRefFlush
import Derived.Test.YtdkaapkehmjepaaArrs
namespace Go.Proofs.Ytdkaapkehmjepaa
open Go.ChangeShapes Go.WideShapes Go.ChangeAt Go.RowKit Go.Deep
set_option linter.unusedVariables false
set_option linter.unusedSimpArgs false

structure Act3 where
  kind : UInt8
  ten : Int
  bytes : Int
instance : Inhabited Act3 := ⟨⟨0, 0, 0⟩⟩
def Act3At (w : World) (g o : Nat) (x : Act3) : Prop := w.cell? ⟨g, o, none⟩ = some (.int .u8 (x.kind.toNat : Int)) ∧ w.cell? ⟨g, o + 1, none⟩ = some (.int .i64 x.ten) ∧ w.cell? ⟨g, o + 2, none⟩ = some (.int .i64 x.bytes)
def IsA (w : World) (v : Value) (xs : List Act3) : Prop :=
  (xs = [] ∧ ∃ a cap, v = .slice a 0 cap) ∨
  (xs ≠ [] ∧ ∃ g o cap, v = .slice (some ⟨g, o, none⟩) xs.length cap ∧ ∀ k x, xs[k]? = some x → Act3At w g (o + k * 3) x)
theorem IsA.shape {w : World} {v : Value} {xs : List Act3} (h : IsA w v xs) : ∃ a cap, v = .slice a xs.length cap := by
  rcases h with ⟨rfl, a, cap, rfl⟩ | ⟨_, g, o, cap, rfl, _⟩
  · exact ⟨a, cap, rfl⟩
  · exact ⟨_, cap, rfl⟩
theorem IsA.step {w w' : World} {v : Value} {xs : List Act3} (h : IsA w v xs) (hb : Below w.heap.size w w') : IsA w' v xs := by
  rcases h with h | ⟨h0, g, o, cap, hv, hc⟩
  · exact .inl h
  · exact .inr ⟨h0, g, o, cap, hv, fun k p hk => ⟨keep_at hb (hc k p hk).1, keep_at hb (hc k p hk).2.1, keep_at hb (hc k p hk).2.2⟩⟩
theorem IsA.elem {w : World} {v : Value} {xs : List Act3} (h : IsA w v xs) {k : Nat} (hk : k < xs.length) : ∃ g o cap, v = .slice (some ⟨g, o, none⟩) xs.length cap ∧ Act3At w g (o + k * 3) xs[k] := by
  rcases h with ⟨rfl, _⟩ | ⟨_, g, o, cap, hv, hc⟩
  · simp at hk
  · exact ⟨g, o, cap, hv, hc k _ (List.getElem?_eq_getElem hk)⟩
theorem cells_39 : Try.prog.cellsOf 39 = 3 := by kernel_rfl
theorem open31 {H : Type} {enc : TypeId × Value → H} {base : Nat} {W : World} {v : Value} {d : DataW H} {p : List MemPlace} (o : Value.okWide Try.prog W .any base 31 v) (h : DataW.Trod enc Try.prog W 0 (fun _ => true) true 31 v d p) :
    ∃ xs, IsA W v xs := by
  obtain ⟨a, len, cap, rfl⟩ := okWide_slice Try.underlying31 o
  obtain ⟨fuel, hf⟩ := h
  simp only [Value.cells] at hf
  rcases open_slice_fields Try.underlying31 Try.underlying39 (by kernel_rfl) cells_39 hf with ⟨h1, _⟩ | ⟨a', len', cap', m, D, Pl, h1, _, hl, hm, hmm, hx2, hx⟩
  · simp only [List.cons.injEq, and_true, Value.slice.injEq] at h1
    obtain ⟨rfl, rfl, rfl⟩ := h1
    exact ⟨[], .inl ⟨rfl, _, _, rfl⟩⟩
  · simp only [List.cons.injEq, and_true, Value.slice.injEq] at h1
    obtain ⟨rfl, rfl, rfl⟩ := h1
    simp only [if_true] at hmm
    subst hmm
    by_cases h0 : len = 0
    · subst h0
      exact ⟨[], .inl ⟨rfl, _, _, rfl⟩⟩
    · obtain ⟨b, off, spot⟩ := a'
      have hspot : spot = none := by
        obtain ⟨ys, n, _, _, _, hj⟩ := hx 0 (by omega)
        obtain ⟨v, y, hc, _⟩ := hj 0 _ rfl
        simpa [Addr.add] using World.cell?_spot hc
      subst hspot
      obtain ⟨C, hC⟩ := choose_lt (α := Act3) (p := fun i x => Act3At W b (off + i * 3) x) (n := m) (fun i hi => by
        obtain ⟨ys, n, hD, _, hyl, hj⟩ := hx i hi
        obtain ⟨v0, y0, c0, e0, t0⟩ := hj 0 _ rfl
        obtain ⟨v1, y1, c1, e1, t1⟩ := hj 1 _ rfl
        obtain ⟨v2, y2, c2, e2, t2⟩ := hj 2 _ rfl
        obtain ⟨n0, q0, r0, w0⟩ := DataW.trod_int Try.underlying5 t0
        obtain ⟨n1, q1, r1, w1⟩ := DataW.trod_int Try.underlying3 t1
        obtain ⟨n2, q2, r2, w2⟩ := DataW.trod_int Try.underlying3 t2
        obtain ⟨c, rfl⟩ := byte_of w0
        simp only [List.cons.injEq, and_true] at q0 q1 q2
        subst q0 q1 q2
        rw [add_plain] at c0 c1 c2
        exact ⟨⟨c, n1, n2⟩, by simpa using c0, by simpa [Nat.add_assoc] using c1, by simpa [Nat.add_assoc] using c2⟩)
      refine ⟨(List.range len).map C, .inr ⟨by simp [h0], b, off, m, by simp, fun i c hi => ?_⟩⟩
      rw [List.getElem?_map] at hi
      have hil : i < len := by
        rcases Nat.lt_or_ge i len with h | h
        · exact h
        · simp [List.getElem?_eq_none (show (List.range len).length ≤ i by simpa using h)] at hi
      simp [List.getElem?_eq_getElem (show i < (List.range len).length by simpa using hil)] at hi
      subst hi
      exact hC i (by omega)

abbrev q37 (node : List UInt8) (boot : Int) : Array Value := #[.string ⟨node.toArray⟩, .int .i64 boot, .int .i64 0, .int .i64 0, .int .i64 0, .int .i64 0, .int .i64 0, .int .i64 0, .int .i64 0, .int .i64 0, .int .i64 0, .int .i64 0, .int .i64 0, .int .i64 0, .int .i64 0, .int .i64 0, .int .i64 0, .int .i64 0, .int .i64 0, .int .i64 0, .int .i64 0, .int .i64 0, .int .i64 0, .int .i64 0, .int .i64 0, .int .i64 0, .int .i64 0, .int .i64 0, .int .i64 0, .int .i64 0, .int .i64 0, .int .i64 0, .int .i64 0, .int .i64 0, .int .i64 0]
theorem q37_list (node : List UInt8) (boot : Int) : (q37 node boot).toList = rlist (newM node boot) := rfl
theorem q37_one (node : List UInt8) (boot : Int) : (q37 node boot).all (·.oneCell') = true := all_oneCell_toArray (rlist_one (newM node boot))
theorem RBlk.storeRun {w : World} {b : Nat} {m : Mtr} (h : RBlk w b m) (m' : Mtr) : (storeCells ⟨b, 0, none⟩ (rlist m')).run Try.prog w = .ok () (w.setCells b 0 (rlist m')) := by
  have ht := h.there 0 35 (Nat.le_refl _)
  have := run_storeCells_cells (P := Try.prog) b 0 (rlist m') 0 w (fun j hj => by simpa using (ht j hj).1) (fun j hj => by simpa using (ht j hj).2) (fun v hv => rlist_one m' v hv)
  simpa using this
/-- What holds of a meter after k acts. -/
structure MInv (m : Mtr) (k : Nat) : Prop where
  fit : Fit m
  mz : ∀ t, t < 16 → m.H t = 0 → m.Y t = 0
  sq : 0 ≤ m.seq ∧ m.seq ≤ 16 * (k : Int)
theorem MInv.new (node : List UInt8) (boot : Int) : MInv (newM node boot) 0 := ⟨fit_new node boot, fun t _ _ => rfl, by simp [newM]⟩
theorem MInv.more {m : Mtr} {k : Nat} (h : MInv m k) : MInv m (k + 1) := ⟨h.fit, h.mz, by have := h.sq; push_cast; omega⟩
theorem MInv.add {m : Mtr} {k : Nat} (h : MInv m k) (t : Nat) (y : Int) (ho : addOk m t y) : MInv (addM m t y) (k + 1) := by
  obtain ⟨h1, h2, h3, h4, h5, h6⟩ := ho
  rw [Int.toNat_natCast] at h5 h6
  refine ⟨fun j hj => ?_, fun j hj h0 => ?_, by have := h.sq; simp only [addM]; push_cast; omega⟩
  · have := h.fit j hj
    simp only [addM, upd]
    split
    · subst_vars; omega
    · exact this
  · have := h.fit j hj
    simp only [addM, upd] at h0 ⊢
    split at h0
    · subst_vars; omega
    · rename_i hne; rw [if_neg hne]; exact h.mz j hj h0
theorem MInv.flush {m : Mtr} {k : Nat} (h : MInv m k) (n : Int) : MInv (flushM m (clampT n) 16) (k + 1) := by
  have hb := flushEs_bd m (clampT n) 16
  have hq := flushEs_seq m (clampT n) 16
  refine ⟨fun t ht => ?_, fun t ht _ => ?_, ?_⟩
  · simp only [flushM]
    rw [if_pos ht, if_pos ht]
    omega
  · simp only [flushM]
    rw [if_pos ht]
  · have := h.sq
    simp only [flushM]
    push_cast
    omega

set_option maxRecDepth 100000 in
set_option maxHeartbeats 8000000 in
theorem usageMeters_walk (node : List UInt8) (boot : Int) (v : Value) (xs : List Act3) (w : World) (hn : node.length ≤ 9223372036854775807) (hx : IsA w v xs) :
    Calls Try.prog 4 #[.string ⟨node.toArray⟩, .int .i64 boot, v] w fun r w' => r = .returned (.bool true) ∧ Below w.heap.size w w' := by
  obtain ⟨a, cap, rfl⟩ := hx.shape
  have HX := Lib.hid hx
  have HND := Lib.hid hn
  clear hx
  by_cases hl : 100 < xs.length
  · have hl' : (100 : Int) < (xs.length : Int) := by omega
    clear hl hn
    go_enter Try.func4, Try.ntmps4
    go_wp2_with (go_at_call 12; refine (awake_any _).mono ?_; rintro r w1 ⟨rfl, hb1⟩)
    go_ret
    exact ⟨rfl, hb1⟩
  · have hl' : (xs.length : Int) ≤ 100 := by omega
    have HCD := Lib.hid (fun W => codeE_any ⟨node, boot, 1, 0, 0, 0, 0⟩ W hn (by dsimp only; omega))
    unfold Ent.val at HCD
    dsimp only at HCD
    clear hn
    go_enter Try.func4, Try.ntmps4
    go_upto_region 3 with (go_at_call 12; refine (awake_any _).mono ?_; rintro r w1 ⟨rfl, hb1⟩)
    have HB1 := Lib.hid hb1
    clear hb1
    by_cases hc : codeE ⟨node, boot, 1, 0, 0, 0, 0⟩ = 0
    · have HNEW := Lib.hid (fun W => new_ok node boot W HND.out hc)
      rw [hc] at HCD
      clear hc
      go_upto_region 9 with (first | (go_at_call 16; refine (HNEW.out _).mono ?_; rintro r w2 ⟨bm, rfl, hbm, hM, hb2⟩) | (go_at_call 15; refine (HCD.out _).mono ?_; rintro r w3 ⟨rfl, hb3⟩))
      have HB3 := Lib.hid (bel_step (bel_step HB1.out hb2) hb3)
      have HM3 := Lib.hid (hM.step hb3)
      have hbm0 : w.heap.size ≤ bm := Nat.le_trans HB1.out.size hbm
      have hbmlt : bm < w3.heap.size := (hM.step hb3).lt
      clear hb2 hb3 hM HB1 hbm HNEW HCD
      refine wp_region_list ?_
      refine wpList_plain rfl fun K hK => ?_
      go_simp
      refine hK _ _ ?_
      clear hK K
      refine wpList_plain rfl fun K hK => ?_
      go_simp
      refine hK _ _ ?_
      clear hK K
      refine wpList_plain rfl fun K hK => ?_
      go_simp
      refine hK _ _ ?_
      clear hK K
      refine wpList_plain rfl fun K hK => ?_
      go_simp
      refine hK _ _ ?_
      clear hK K
      refine wpList_store_mid rfl 37 (.tmp 10) (.tmp 53) rfl w3.heap.size 0 (q37 node boot) rfl rfl ((RBlk.zbox w3).there 0 35 (Nat.le_refl _)) size37 (q37_one node boot) ?_
      rw [q37_list]
      have HR4 := Lib.hid ((RBlk.zbox w3).whole (newM node boot))
      have hsm := Only.setMany w3.heap.size (rlist (newM node boot)) 0 (w3.alloc z37)
      have hn1 := bel_new w3 z37
      have hz1 : (w3.alloc z37).heap.size = w3.heap.size + 1 := by simp [go_sem]
      have HM4 := Lib.hid ((HM3.out.step hn1).only hsm (by omega))
      have HB4 := Lib.hid (HB3.out.trans ((hn1.mono HB3.out.size).trans (hsm.below (HB3.out.size) (by have := HB3.out.size; omega))))
      have hsz4 := hsm.sz
      rw [hz1] at hsz4
      change wpList _ _ _ _ _ ((w3.alloc z37).setCells w3.heap.size 0 (rlist (newM node boot)))
      clear hsm hn1 hz1
      generalize (w3.alloc z37).setCells w3.heap.size 0 (rlist (newM node boot)) = W4 at *
      obtain ⟨br, hbr⟩ : ∃ b, b = w3.heap.size := ⟨_, rfl⟩
      have o1 : bm ≠ br := by omega
      have o2 : w.heap.size ≤ br := by have := HB3.out.size; omega
      rw [← hbr] at hsz4 HR4 ⊢
      have o3 : bm < br + 1 := by omega
      clear hbr hbmlt HM3 HB3
      go_wp2_with fail
      go_loopw [56] (fun i wr => ∃ (k : Nat) (m : Mtr), i = .int .i64 k ∧ k ≤ xs.length ∧ MInv m k ∧ MBlk wr bm m ∧ RBlk wr br m ∧ Below w.heap.size w wr ∧ br + 1 ≤ wr.heap.size) (fun i _ => xs.length - (intOf i).toNat)
      case atStart => exact ⟨0, _, rfl, Nat.zero_le _, MInv.new node boot, HM4.out, HR4.out, HB4.out, hsz4⟩
      case round =>
        obtain ⟨k, m, rfl, hk, hI, hM, hR, hB, hsz⟩ := hrel
        have HI := Lib.hid hI
        have HM := Lib.hid hM
        have HR := Lib.hid hR
        have HB := Lib.hid hB
        clear hI hM hR hB HM4 HR4 HB4
        by_cases hlt : k < xs.length
        · obtain ⟨g, o, cap', hv, hat⟩ := (HX.out.step HB.out).elem hlt
          simp only [Value.slice.injEq] at hv
          obtain ⟨rfl, _, rfl⟩ := hv
          have hq0 : (0 : Int) ≤ (k : Int) := by omega
          have hq1 : (k : Int) < (xs.length : Int) := by omega
          generalize xs[k] = x at *
          obtain ⟨kd, tn, yy⟩ := x
          obtain ⟨x0, x1, x2⟩ := hat
          dsimp only at x0 x1 x2
          go_upto_region 13 with fail
          have hn1 := bel_new wr (.cells #[.int .u8 (kd.toNat : Int), .int .i64 tn, .int .i64 yy] 39)
          have z0 : (wr.alloc (.cells #[.int .u8 (kd.toNat : Int), .int .i64 tn, .int .i64 yy] 39)).cell? ⟨wr.heap.size, 0, none⟩ = some (.int .u8 (kd.toNat : Int)) := by simp [go_sem]
          have z1 : (wr.alloc (.cells #[.int .u8 (kd.toNat : Int), .int .i64 tn, .int .i64 yy] 39)).cell? ⟨wr.heap.size, 1, none⟩ = some (.int .i64 tn) := by simp [go_sem]
          have z2 : (wr.alloc (.cells #[.int .u8 (kd.toNat : Int), .int .i64 tn, .int .i64 yy] 39)).cell? ⟨wr.heap.size, 2, none⟩ = some (.int .i64 yy) := by simp [go_sem]
          have HM5 := Lib.hid (HM.out.step hn1)
          have HR5 := Lib.hid (HR.out.step hn1)
          have HB5 := Lib.hid (bel_step HB.out hn1)
          have hsz5 : br + 1 ≤ (wr.alloc (.cells #[.int .u8 (kd.toNat : Int), .int .i64 tn, .int .i64 yy] 39)).heap.size := by simp [go_sem]; omega
          have hwr : wr.heap.size < (wr.alloc (.cells #[.int .u8 (kd.toNat : Int), .int .i64 tn, .int .i64 yy] 39)).heap.size := by simp [go_sem]
          clear hn1 x0 x1 x2 HM HR HB
          generalize wr.alloc (.cells #[.int .u8 (kd.toNat : Int), .int .i64 tn, .int .i64 yy] 39) = W5 at *
          have hwm : wr.heap.size ≠ bm := by omega
          have hwb : wr.heap.size ≠ br := by omega
          have hkd : (kd.toNat : Int) < 256 := by have := kd.toNat_lt; omega
          have hkd0 : (0 : Int) ≤ (kd.toNat : Int) := by omega
          by_cases h3 : (kd.toNat : Int) % 4 = 3
          · skip
            have hsq := HI.out.sq
            have HRF := Lib.hid (fun W => rflush_any m yy W HI.out.fit (by omega))
            have HPF := Lib.hid (fun W (h : MBlk W bm m) => flush_any bm yy m W h HI.out.mz (by omega))
            have HOF := Lib.hid (all_oneCell_toArray (rlist_one (flushM m (clampT yy) 16)))
            have hF16 := (flushEs_bd m (clampT yy) 16).2.2
            have HF16 := Lib.hid hF16
            have HI2 := Lib.hid (HI.out.flush yy)
            clear hsq hF16
            go_upto_region 15 with fail
            refine wp_region_list ?_
            refine wpList_load_mid rfl 37 (.tmp 10) rfl br 0 rfl (rlist m) _ HR5.out.range Try.underlying37 rfl size37 ?_
            refine wpList_plain rfl fun K hK => ?_
            go_simp
            refine hK _ _ ?_
            clear hK K
            refine wpList_plain rfl fun K hK => ?_
            go_simp
            refine hK _ _ ?_
            clear hK K
            refine wpList_plain rfl fun K hK => ?_
            go_simp
            refine (HRF.out _).mono ?_
            rintro r W6 ⟨v6, rfl, ho6, hb6⟩
            obtain ⟨a6, c6, rfl⟩ := ho6.shape
            refine hK _ _ ?_
            clear hK K
            refine wpList_plain rfl fun K hK => ?_
            go_simp
            refine hK _ _ ?_
            clear hK K
            refine wpList_plain rfl fun K hK => ?_
            go_simp
            refine hK _ _ ?_
            clear hK K
            refine wpList_plain rfl fun K hK => ?_
            go_simp
            refine hK _ _ ?_
            clear hK K
            refine wpList_store_mid rfl 37 (.tmp 10) (.tmp 69) rfl br 0 (rlist (flushM m (clampT yy) 16)).toArray rfl rfl ((HR5.out.step hb6).there 0 35 (Nat.le_refl _)) size37 HOF.out ?_
            rw [List.toList_toArray]
            have hsm := Only.setMany br (rlist (flushM m (clampT yy) 16)) 0 W6
            have HR7 := Lib.hid ((HR5.out.step hb6).whole (flushM m (clampT yy) 16))
            have HM7 := Lib.hid ((HM5.out.step hb6).only hsm o1)
            have HE7 := Lib.hid (ho6.only hsm (by omega))
            have HB7 := Lib.hid ((bel_step HB5.out hb6).trans (hsm.below o2 (Nat.le_trans (Nat.le_trans o2 (Nat.le_of_lt (Nat.lt_of_lt_of_le (Nat.lt_succ_self br) hsz5))) hb6.size)))
            have hz7 := keep_only hsm hwb (keep_at hb6 z2)
            have hsz7 := Nat.le_trans hsz5 (Nat.le_trans hb6.size hsm.sz)
            have hw57 := Nat.le_trans hb6.size hsm.sz
            clear hsm hb6 ho6 z0 z1 z2 HR5 HM5 HB5
            generalize W6.setCells br 0 (rlist (flushM m (clampT yy) 16)) = W7 at *
            go_wp2_with (first | (go_at_call 19; refine (HPF.out _ HM7.out).mono ?_; rintro r W8 ⟨v8, rfl, ho8, hM8, hon8⟩; obtain ⟨a8, c8, rfl⟩ := ho8.shape) | (go_at_call 18; refine (same_any _ _ _ _ _ ho8.isE (HE7.out.only hon8 (by omega)).isE (by have := HF16.out; omega)).mono ?_; rintro r W9 ⟨bb, rfl, hbb, hb9⟩; obtain rfl : bb = true := hbb.2 rfl; clear hbb))
            have HM9 := Lib.hid (hM8.step hb9)
            have HR9 := Lib.hid ((HR7.out.only hon8 (fun e => o1 e.symm)).step hb9)
            have HB9 := Lib.hid (bel_step (HB7.out.trans (hon8.below hbm0 HB7.out.size)) hb9)
            have hsz9 := Nat.le_trans hsz7 (Nat.le_trans hon8.sz hb9.size)
            clear hM8 hon8 ho8 hb9
            go_roundw
            case rel => exact ⟨k + 1, _, by go_num, by omega, HI2.out, HM9.out, HR9.out, HB9.out, hsz9⟩
            case measure => simp [intOf]; omega
          · skip
            by_cases hok : addOk m tn yy
            · obtain ⟨t, rfl⟩ : ∃ t : Nat, tn = t := ⟨tn.toNat, by have := hok.1; omega⟩
              have ht : t < 16 := by have := hok.2.1; omega
              have HRA := Lib.hid (fun W => radd_ok m t yy W HI.out.fit hok)
              have HPD := Lib.hid (fun W (h : MBlk W bm m) => add_ok bm t yy m W h HI.out.fit hok)
              have HI2 := Lib.hid (HI.out.add t yy hok)
              have HPN := Lib.hid (fun W (h : MBlk W bm (addM m t yy)) => pending_in bm t (addM m t yy) W h ht)
              have ht0 : (0 : Int) ≤ (t : Int) := by omega
              have ht1 : ¬ (t : Int) < 0 := by omega
              have ht2 : (t : Int) < 16 := by omega
              have ht3 : (t : Int) ≤ 15 := by omega
              clear hok
              have HOF := Lib.hid (all_oneCell_toArray (rlist_one (addM m t yy)))
              go_upto_region 19 with fail
              refine wp_region_list ?_
              refine wpList_load_mid rfl 37 (.tmp 10) rfl br 0 rfl (rlist m) _ HR5.out.range Try.underlying37 rfl size37 ?_
              refine wpList_plain rfl fun K hK => ?_
              go_simp
              refine hK _ _ ?_
              clear hK K
              refine wpList_plain rfl fun K hK => ?_
              go_simp
              refine hK _ _ ?_
              clear hK K
              refine wpList_plain rfl fun K hK => ?_
              go_simp
              refine hK _ _ ?_
              clear hK K
              refine wpList_plain rfl fun K hK => ?_
              go_simp
              refine hK _ _ ?_
              clear hK K
              refine wpList_plain rfl fun K hK => ?_
              go_simp
              refine (HRA.out _).mono ?_
              rintro r W6 ⟨rfl, hb6⟩
              refine hK _ _ ?_
              clear hK K
              refine wpList_plain rfl fun K hK => ?_
              go_simp
              refine hK _ _ ?_
              clear hK K
              refine wpList_plain rfl fun K hK => ?_
              go_simp
              refine hK _ _ ?_
              clear hK K
              refine wpList_plain rfl fun K hK => ?_
              go_simp
              refine hK _ _ ?_
              clear hK K
              refine wpList_store_mid rfl 37 (.tmp 10) (.tmp 85) rfl br 0 (rlist (addM m t yy)).toArray rfl rfl ((HR5.out.step hb6).there 0 35 (Nat.le_refl _)) size37 HOF.out ?_
              rw [List.toList_toArray]
              have hsm := Only.setMany br (rlist (addM m t yy)) 0 W6
              have HR7 := Lib.hid ((HR5.out.step hb6).whole (addM m t yy))
              have HM7 := Lib.hid ((HM5.out.step hb6).only hsm o1)
              have HB7 := Lib.hid ((bel_step HB5.out hb6).trans (hsm.below o2 (Nat.le_trans (Nat.le_trans o2 (Nat.le_of_lt (Nat.lt_of_lt_of_le (Nat.lt_succ_self br) hsz5))) hb6.size)))
              have y1 := keep_only hsm hwb (keep_at hb6 z1)
              have y2 := keep_only hsm hwb (keep_at hb6 z2)
              have hsz7 := Nat.le_trans hsz5 (Nat.le_trans hb6.size hsm.sz)
              clear hsm hb6 z0 z1 z2 HR5 HM5 HB5
              generalize W6.setCells br 0 (rlist (addM m t yy)) = W7 at *
              go_upto_region 22 with (first | (go_at_call 21; refine (HPD.out _ HM7.out).mono ?_; rintro r W8 ⟨rfl, hM8, hon8⟩; replace y1 := keep_only hon8 hwm y1) | (go_at_call 13; refine (num_nil _).mono ?_; rintro r W9 ⟨rfl, rfl⟩))
              have HM8 := Lib.hid hM8
              have HR8 := Lib.hid (HR7.out.only hon8 (fun e => o1 e.symm))
              have HB8 := Lib.hid (HB7.out.trans (hon8.below hbm0 HB7.out.size))
              have hsz8 := Nat.le_trans hsz7 hon8.sz
              have c3 := HR8.out.atH t ht
              have c4 := HR8.out.atY t ht
              clear hM8 hon8 HM7 HR7 HB7
              generalize hm' : addM m t yy = m' at *
              clear hm'
              generalize m'.H t = q0 at *
              generalize m'.Y t = q1 at *
              go_wp2_with (go_at_call 22; refine (HPN.out _ HM8.out).mono ?_; rintro r W10 ⟨rfl, nd, rfl⟩)
              go_roundw
              case rel => exact ⟨k + 1, _, by go_num, by omega, HI2.out, HM8.out, HR8.out, bel_drewN HB8.out, hsz8⟩
              case measure => simp [intOf]; omega
            · have HRA := Lib.hid (fun W => radd_bad m tn yy W HI.out.fit hok)
              have HPD := Lib.hid (fun W (h : MBlk W bm m) => add_bad bm tn yy m W h HI.out.fit hok)
              have HI2 := Lib.hid HI.out.more
              clear hok
              have HOF := Lib.hid (all_oneCell_toArray (rlist_one (m)))
              go_upto_region 19 with fail
              refine wp_region_list ?_
              refine wpList_load_mid rfl 37 (.tmp 10) rfl br 0 rfl (rlist m) _ HR5.out.range Try.underlying37 rfl size37 ?_
              refine wpList_plain rfl fun K hK => ?_
              go_simp
              refine hK _ _ ?_
              clear hK K
              refine wpList_plain rfl fun K hK => ?_
              go_simp
              refine hK _ _ ?_
              clear hK K
              refine wpList_plain rfl fun K hK => ?_
              go_simp
              refine hK _ _ ?_
              clear hK K
              refine wpList_plain rfl fun K hK => ?_
              go_simp
              refine hK _ _ ?_
              clear hK K
              refine wpList_plain rfl fun K hK => ?_
              go_simp
              refine (HRA.out _).mono ?_
              rintro r W6 ⟨rfl, hb6⟩
              refine hK _ _ ?_
              clear hK K
              refine wpList_plain rfl fun K hK => ?_
              go_simp
              refine hK _ _ ?_
              clear hK K
              refine wpList_plain rfl fun K hK => ?_
              go_simp
              refine hK _ _ ?_
              clear hK K
              refine wpList_plain rfl fun K hK => ?_
              go_simp
              refine hK _ _ ?_
              clear hK K
              refine wpList_store_mid rfl 37 (.tmp 10) (.tmp 85) rfl br 0 (rlist (m)).toArray rfl rfl ((HR5.out.step hb6).there 0 35 (Nat.le_refl _)) size37 HOF.out ?_
              rw [List.toList_toArray]
              have hsm := Only.setMany br (rlist (m)) 0 W6
              have HR7 := Lib.hid ((HR5.out.step hb6).whole (m))
              have HM7 := Lib.hid ((HM5.out.step hb6).only hsm o1)
              have HB7 := Lib.hid ((bel_step HB5.out hb6).trans (hsm.below o2 (Nat.le_trans (Nat.le_trans o2 (Nat.le_of_lt (Nat.lt_of_lt_of_le (Nat.lt_succ_self br) hsz5))) hb6.size)))
              have y1 := keep_only hsm hwb (keep_at hb6 z1)
              have y2 := keep_only hsm hwb (keep_at hb6 z2)
              have hsz7 := Nat.le_trans hsz5 (Nat.le_trans hb6.size hsm.sz)
              clear hsm hb6 z0 z1 z2 HR5 HM5 HB5
              generalize W6.setCells br 0 (rlist (m)) = W7 at *
              go_upto_region 22 with (first | (go_at_call 21; refine (HPD.out _ HM7.out).mono ?_; rintro r W8 ⟨rfl, rfl⟩) | (go_at_call 13; refine (num_err 1 _).mono ?_; rintro r W9 ⟨rfl, rfl⟩))
              by_cases hout : tn < 0 ∨ 16 ≤ tn
              · have HPN := Lib.hid (fun W => pending_out bm tn W hout)
                have hcs : tn < 0 ∨ (¬ tn < 0 ∧ 15 < tn) := by omega
                clear hout
                rcases hcs with h1 | ⟨h1, h2⟩
                all_goals
                  go_wp2_with (go_at_call 22; refine (HPN.out _).mono ?_; rintro r W10 ⟨rfl, rfl⟩)
                  go_roundw
                  case rel => exact ⟨k + 1, _, by go_num, by omega, HI2.out, HM7.out, HR7.out, HB7.out, hsz7⟩
                  case measure => simp [intOf]; omega
              · obtain ⟨t, rfl⟩ : ∃ t : Nat, tn = t := ⟨tn.toNat, by omega⟩
                have ht : t < 16 := by omega
                have HPN := Lib.hid (fun W (h : MBlk W bm m) => pending_in bm t m W h ht)
                have ht0 : (0 : Int) ≤ (t : Int) := by omega
                have ht1 : ¬ (t : Int) < 0 := by omega
                have ht2 : (t : Int) < 16 := by omega
                have ht3 : (t : Int) ≤ 15 := by omega
                have c3 := HR7.out.atH t ht
                have c4 := HR7.out.atY t ht
                clear hout
                generalize m.H t = q0 at *
                generalize m.Y t = q1 at *
                go_wp2_with (go_at_call 22; refine (HPN.out _ HM7.out).mono ?_; rintro r W10 ⟨rfl, nd, rfl⟩)
                go_roundw
                case rel => exact ⟨k + 1, _, by go_num, by omega, HI2.out, HM7.out, HR7.out, bel_drewN HB7.out, hsz7⟩
                case measure => simp [intOf]; omega
        · obtain rfl : k = xs.length := by omega
          go_wp2_with fail
          go_ret
          exact ⟨rfl, HB.out⟩
    · have HNEW := Lib.hid (fun W => new_bad node boot _ W HND.out rfl hc)
      have hcb : (codeE ⟨node, boot, 1, 0, 0, 0, 0⟩ == 0) = false := by simpa using hc
      have hv : errV (codeE ⟨node, boot, 1, 0, 0, 0, 0⟩) = .iface 57 (.int .i64 (codeE ⟨node, boot, 1, 0, 0, 0, 0⟩)) := by unfold errV; rw [if_neg hc]
      have HNC := Lib.hid (fun W => num_code (codeE ⟨node, boot, 1, 0, 0, 0, 0⟩) W)
      rw [hv] at HNC
      have hcn : ¬ codeE ⟨node, boot, 1, 0, 0, 0, 0⟩ = 0 := hc
      clear hc hv
      generalize codeE ⟨node, boot, 1, 0, 0, 0, 0⟩ = c at *
      go_wp2_with (first | (go_at_call 16; refine (HNEW.out _).mono ?_; rintro r w2 ⟨rfl, hb2⟩) | (go_at_call 15; refine (HCD.out _).mono ?_; rintro r w3 ⟨rfl, hb3⟩) | (go_at_call 13; refine (HNC.out _).mono ?_; rintro r w4 ⟨rfl, rfl⟩))
      go_ret
      exact ⟨by simp, bel_step (bel_step HB1.out hb2) hb3⟩
end Go.Proofs.Ytdkaapkehmjepaa
