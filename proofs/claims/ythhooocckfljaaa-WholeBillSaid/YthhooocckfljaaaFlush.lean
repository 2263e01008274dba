/- The walk of a meter's Flush. No condition beyond what a meter in memory is. -/
import Derived.Test.YthhooocckfljaaaMeter
import Derived.Test.YthhooocckfljaaaStep
import Derived.Maps.AppendAt
namespace Go.Proofs.Ythhooocckfljaaa
open Go.RowKit
set_option linter.unusedVariables false
set_option linter.unusedSimpArgs false

/-! ### Lists of entries of the call's own -/
def ecells (e : Ent) : List Value := [.string ⟨e.node.toArray⟩, .int .i64 e.boot, .int .i64 e.seq, .int .i64 e.ten, .int .i64 e.hits, .int .i64 e.bytes, .int .i64 e.att]
def OwnE (w : World) (base : Nat) (v : Value) (es : List Ent) : Prop := w.ownsRow base 46 7 v es.length (es.flatMap ecells)
theorem OwnE.nil (w : World) (base : Nat) : OwnE w base (.slice none 0 0) [] := World.ownsRow_nil _ _ _ _
theorem OwnE.step {w w' : World} {base : Nat} {v : Value} {es : List Ent} (h : OwnE w base v es) (hb : Below w.heap.size w w') : OwnE w' base v es := by
  refine World.ownsRow.kept (row := none) h ⟨hb.os, hb.tape, hb.output, hb.size, fun k hk _ => hb.block k hk⟩ ?_
  cases v.ownBlock with
  | none => exact .inl rfl
  | some g => exact .inr (by simp)
theorem OwnE.only {w w' : World} {base b : Nat} {v : Value} {es : List Ent} (h : OwnE w base v es) (ho : Only b w w') (hb : b < base) : OwnE w' base v es :=
  World.ownsRow.kept (row := some b) h ho (by
    rcases h.2 with ⟨rfl, _⟩ | ⟨g, cap, cur, rfl, hg, _⟩
    · exact .inl rfl
    · right
      simp only [Value.ownBlock, ne_eq, Option.some.injEq]
      omega)
theorem OwnE.mono {w : World} {base B : Nat} {v : Value} {es : List Ent} (h : OwnE w base v es) (hB : B ≤ base) : OwnE w B v es := by
  obtain ⟨h0, h1⟩ := h
  refine ⟨h0, ?_⟩
  rcases h1 with h1 | ⟨g, cap, cur, h2, h3, h4⟩
  · exact .inl h1
  · exact .inr ⟨g, cap, cur, h2, Nat.le_trans hB h3, h4⟩
theorem info23 : (Try.prog.info? 46).map (fun i => (i.zero, i.size, i.bytes)) = some (some (.agg #[.string ⟨#[]⟩, .int .i64 0, .int .i64 0, .int .i64 0, .int .i64 0, .int .i64 0, .int .i64 0]), 7, 64) := by kernel_rfl
theorem ecells_one (e : Ent) : ∀ u ∈ ecells e, u.oneCell' = true := by
  intro u hu
  simp only [ecells, List.mem_cons, List.not_mem_nil, or_false] at hu
  rcases hu with rfl | rfl | rfl | rfl | rfl | rfl | rfl <;> rfl
theorem step_appE {ops : Array Oper} {o : Oper} {a : Act} {K : Act → World → Prop} {Q : Exit → Act → World → Prop} {E : Prop} {w : World} (hgd : o.guard = none) (s x : Operand)
    (ho : o.op = .call { callee := .builtin .append, args := #[s, x], argTypes := #[33, 33] })
    (base : Nat) (v : Value) (es : List Ent) (hs : a.eval s = v) (hown : OwnE w base v es) (g : Nat) (e : Ent) (hx : a.eval x = .slice (some ⟨g, 0, none⟩) 1 1)
    (hcells : ∀ j u, (ecells e)[j]? = some u → w.cell? ⟨g, j, none⟩ = some u)
    (hb : es.length ≤ 3000000) (hbase : base ≤ w.heap.size)
    (h : ∀ v' w', OwnE w' base v' (es ++ [e]) → Below base w w' → w.heap.size ≤ w'.heap.size → w.grownBy w' v.ownBlock → K (a.put o.dst v') w') :
    if Region.wanted o (yielded ops a.tmps) = true then Oper.wp Try.prog o a w K Q else E := by
  have hw : Region.wanted o (yielded ops a.tmps) = true := by simp [Region.wanted, hgd]
  rw [if_pos hw]
  obtain ⟨i0, hi, hz0, hz1, hz2⟩ := info_parts info23
  refine wp_append_own w s x 33 ho base 46 i0 _ 7 64 Try.underlying33 hi hz0 hz1 hz2 rfl (by decide) v es.length (es.flatMap ecells) hs hown ⟨g, 0, none⟩ 1 1 (ecells e) hx rfl ?_ (ecells_one e)
    (by unfold maxLen; omega) (by omega) hbase ?_
  · intro j u hj
    have := hcells j u hj
    by_cases h0 : j = 0
    · subst h0; simpa [Addr.add] using this
    · simpa [Addr.add, h0] using this
  · intro v' w' hown' hgrow hnil
    refine h v' w' ?_ ((Below.refl base w).grown hgrow hbase fun k hk => (World.ownsRow.lt hown k hk).1) hgrow.size hgrow
    unfold OwnE
    rw [List.length_append, List.flatMap_append]
    simpa using hown'

theorem OwnE.drew {w : World} {base : Nat} {v : Value} {es : List Ent} (h : OwnE w base v es) : OwnE w.drew base v es := h
theorem MBlk.drew {w : World} {b : Nat} {m : Mtr} (h : MBlk w b m) : MBlk w.drew b m := h
theorem keep_grown {w w' : World} {row : Option Nat} {g o : Nat} {v : Value} (hg : w.grownBy w' row) (hn : some g ≠ row) (hc : w.cell? ⟨g, o, none⟩ = some v) : w'.cell? ⟨g, o, none⟩ = some v :=
  (World.cell?_of_block (hg.block g (World.block_lt_of_cell? w _ hc) hn)).trans hc
theorem ent_cells (w : World) (e : Ent) : ∀ j u, (ecells e)[j]? = some u → (w.alloc (.cells (ecells e).toArray 46)).cell? ⟨w.heap.size, j, none⟩ = some u := by
  intro j u hj
  rw [cell_of_row _ _ _ _ _ _ (heap_alloc_new w _)]
  simpa using hj
/-! ### What Flush returns -/
def flushEs (m : Mtr) (a : Int) : Nat → Int × List Ent
  | 0 => (m.seq, [])
  | k + 1 => if m.H k = 0 then flushEs m a k else ((flushEs m a k).1 + 1, (flushEs m a k).2 ++ [⟨m.node, m.boot, (flushEs m a k).1 + 1, k, m.H k, m.Y k, a⟩])
def flushM (m : Mtr) (a : Int) (k : Nat) : Mtr := ⟨m.node, m.boot, (flushEs m a k).1, fun t => if t < k then 0 else m.H t, fun t => if t < k then 0 else m.Y t⟩
theorem mcells_congr {m m' : Mtr} (h0 : m.node = m'.node) (h1 : m.boot = m'.boot) (h2 : m.seq = m'.seq) (h : ∀ t, t < 16 → m.H t = m'.H t ∧ m.Y t = m'.Y t) : mcells m = mcells m' := by
  have hp : pend m.H m.Y = pend m'.H m'.Y := by
    have : ∀ l : List Nat, (∀ t ∈ l, t < 16) → l.flatMap (fun t => [Value.int .i64 (m.H t), .int .i64 (m.Y t)]) = l.flatMap (fun t => [Value.int .i64 (m'.H t), .int .i64 (m'.Y t)]) := by
      intro l
      induction l with
      | nil => intro _; rfl
      | cons t l ih =>
        intro hl
        rw [List.flatMap_cons, List.flatMap_cons, ih (fun t ht => hl t (by simp [ht])), (h t (hl t (by simp))).1, (h t (hl t (by simp))).2]
    exact this _ (fun t ht => List.mem_range.1 ht)
  unfold mcells
  rw [h0, h1, h2, hp]
theorem MBlk.congr {w : World} {b : Nat} {m m' : Mtr} (h : MBlk w b m) (h0 : m.node = m'.node) (h1 : m.boot = m'.boot) (h2 : m.seq = m'.seq) (hc : ∀ t, t < 16 → m.H t = m'.H t ∧ m.Y t = m'.Y t) : MBlk w b m' := by
  unfold MBlk at h ⊢
  rw [h, mcells_congr h0 h1 h2 hc]
theorem flushEs_bd (m : Mtr) (a : Int) : ∀ k : Nat, m.seq ≤ (flushEs m a k).1 ∧ (flushEs m a k).1 ≤ m.seq + k ∧ (flushEs m a k).2.length ≤ k
  | 0 => by simp [flushEs]
  | k + 1 => by
    have ih := flushEs_bd m a k
    simp only [flushEs]
    split
    · omega
    · simp only [List.length_append, List.length_cons, List.length_nil]; omega
def clampT (n : Int) : Int := max 0 (min n 1099511627776)
set_option maxRecDepth 20000 in
theorem idx_run (H Y : Nat → Int) (k : Nat) (hk : k < 16) (w : World) : (Instr.index 75 (.agg (pend H Y).toArray) (.int .i64 k)).run Try.prog w = .ok (.agg #[.int .i64 (H k), .int .i64 (Y k)]) w := by
  match k, hk with
  | 0, _ | 1, _ | 2, _ | 3, _ | 4, _ | 5, _ | 6, _ | 7, _ | 8, _ | 9, _ | 10, _ | 11, _ | 12, _ | 13, _ | 14, _ | 15, _ => rfl
  | n + 16, h => exact absurd h (by omega)
theorem MBlk.range {w : World} {b : Nat} {m : Mtr} (h : MBlk w b m) : w.rangeAt b 3 (pend m.H m.Y) := by
  intro j v hj
  rw [h.cell]
  unfold mcells
  simp only [List.getElem?_toArray]
  rw [show 3 + j = j + 1 + 1 + 1 by omega]
  simp only [List.getElem?_cons_succ]
  exact hj
theorem size80 : (Try.prog.info? 75).map (·.size) = some 32 := by kernel_rfl

theorem Only.bel2 {b B : Nat} {w w5 w7 : World} (h : Only b w w5) (hb : Below B w5 w7) (hB : w.heap.size ≤ B) : Only b w w7 :=
  ⟨hb.os.trans h.os, hb.tape.trans h.tape, hb.output.trans h.output, Nat.le_trans h.size hb.size, fun k hk hn => (hb.block k (by omega)).trans (h.block k hk hn)⟩

set_option maxRecDepth 100000 in
set_option maxHeartbeats 2000000 in
theorem flush_any (b : Nat) (n : Int) (m : Mtr) (w : World) (h : MBlk w b m) (hz : ∀ t, t < 16 → m.H t = 0 → m.Y t = 0) (hs : 0 ≤ m.seq ∧ m.seq ≤ 1099511627776) :
    Calls Try.prog 12 #[.pointer (some ⟨b, 0, none⟩), .int .i64 n] w fun e w' => ∃ v, e = .returned v ∧ OwnE w' w.heap.size v (flushEs m (clampT n) 16).2 ∧ MBlk w' b (flushM m (clampT n) 16) ∧ Only b w w' := by
  have hra := h.range
  have HM := Lib.hid h
  have HRA := Lib.hid hra
  have hlt9 := h.lt
  clear h hra
  go_enter Try.func12, Try.ntmps12
  go_wp2_with (refine wpList_load_mid rfl 75 (.tmp 12) rfl b 3 rfl (pend m.H m.Y) _ HRA.out Try.underlying75 rfl (by rw [pend_len]; exact size80) ?_)
  have HI := Lib.hid (idx_run m.H m.Y)
  generalize (pend m.H m.Y).toArray = PA at *
  clear HRA
  go_loopw [5, 14] (fun v i wr => ∃ k : Nat, i = .int .i64 k ∧ k ≤ 16 ∧ OwnE wr w.heap.size v (flushEs m (clampT n) k).2 ∧ MBlk wr b (flushM m (clampT n) k) ∧ Only b w wr) (fun _ i _ => 16 - (intOf i).toNat)
  case atStart => exact ⟨0, rfl, by omega, OwnE.nil _ _, HM.out.congr rfl rfl rfl (fun t ht => by simp [flushM]), Only.refl _ _⟩
  case round =>
    obtain ⟨k, rfl, hk, hE, hB, hO⟩ := hrel
    clear HM
    have HE := Lib.hid hE
    have HB := Lib.hid hB
    have HO := Lib.hid hO
    have hzw : w.heap.size ≤ wr.heap.size := hO.size
    clear hE hB hO
    by_cases hlt : k < 16
    · have hix := HI.out k hlt
      have hk0 : (0 : Int) ≤ (k : Int) := by omega
      have hk1 : (k : Int) < 16 := by omega
      by_cases h0 : m.H k = 0
      · have hY := hz k hlt h0
        have H0 := Lib.hid h0
        have HY := Lib.hid hY
        rw [h0, hY] at hix
        clear h0 hY
        have hn1 := bel_new wr (.cells #[.int .i64 0, .int .i64 0] 74)
        go_wp2_with fail
        go_roundw
        case rel => exact ⟨k + 1, by go_num, by omega, by simp only [flushEs, if_pos H0.out]; exact HE.out.step hn1, (HB.out.step hn1).congr rfl rfl (by simp only [flushM, flushEs, if_pos H0.out]) (fun t ht => by
          simp only [flushM]
          by_cases e : t = k
          · subst e; simp [H0.out, HY.out]
          · by_cases e2 : t < k
            · simp [e2, show t < k + 1 by omega]
            · simp [e2, show ¬ t < k + 1 by omega]), HO.out.bel2 hn1 hzw⟩
        case measure => simp [intOf]; omega
      · have h0b : (m.H k == 0) = false := by simpa using h0
        have hbd := flushEs_bd m (clampT n) k
        have hsq : 0 ≤ (flushEs m (clampT n) k).1 ∧ (flushEs m (clampT n) k).1 ≤ 1099511627776 + 16 := by omega
        obtain ⟨q1, q2⟩ := hsq
        obtain ⟨c0, c1, c2⟩ := HB.out.head
        have f2 := HB.out.frozen 2
        have hbw : b < wr.heap.size := HB.out.lt
        have hcl : clampT n = max 0 (min n 1099511627776) := rfl
        have HCL := Lib.hid hcl
        have H0 := Lib.hid h0
        simp only [flushM] at c0 c1 c2
        clear h0 hbd hcl
        go_upto_region 9 with fail
        have hM1 := ((HB.out.setSeq ((flushEs m (clampT n) k).1 + 1))).step (bel_new _ (.cells #[.int .i64 (m.H k), .int .i64 (m.Y k)] 74))
        have hE1 := (HE.out.only (Only.set (b := b) (k := 2) (u := .int .i64 ((flushEs m (clampT n) k).1 + 1))) hlt9).step (bel_new _ (.cells #[.int .i64 (m.H k), .int .i64 (m.Y k)] 74))
        have hO1 : Only b w ((wr.setCell ⟨b, 2, none⟩ (.int .i64 ((flushEs m (clampT n) k).1 + 1))).alloc (.cells #[.int .i64 (m.H k), .int .i64 (m.Y k)] 74)) := (HO.out.trans Only.set).bel2 (bel_new _ _) (by simpa [World.setCell] using hzw)
        have hbx0 : ((wr.setCell ⟨b, 2, none⟩ (.int .i64 ((flushEs m (clampT n) k).1 + 1))).alloc (.cells #[.int .i64 (m.H k), .int .i64 (m.Y k)] 74)).cell? ⟨wr.heap.size, 0, none⟩ = some (.int .i64 (m.H k)) := by simp [go_sem]
        have hbx1 : ((wr.setCell ⟨b, 2, none⟩ (.int .i64 ((flushEs m (clampT n) k).1 + 1))).alloc (.cells #[.int .i64 (m.H k), .int .i64 (m.Y k)] 74)).cell? ⟨wr.heap.size, 1, none⟩ = some (.int .i64 (m.Y k)) := by simp [go_sem]
        have hzW : w.heap.size < ((wr.setCell ⟨b, 2, none⟩ (.int .i64 ((flushEs m (clampT n) k).1 + 1))).alloc (.cells #[.int .i64 (m.H k), .int .i64 (m.Y k)] 74)).heap.size := by simp [World.setCell, go_sem]; omega
        obtain ⟨d0, d1, d2⟩ := hM1.head
        have HM1 := Lib.hid hM1
        have HE1 := Lib.hid hE1
        have HO1 := Lib.hid hO1
        have hel := (flushEs_bd m (clampT n) k).2.2
        have HEL := Lib.hid hel
        have HFE := Lib.hid (show flushEs m (clampT n) (k + 1) = ((flushEs m (clampT n) k).1 + 1, (flushEs m (clampT n) k).2 ++ [⟨m.node, m.boot, (flushEs m (clampT n) k).1 + 1, k, m.H k, m.Y k, clampT n⟩]) by simp only [flushEs, if_neg H0.out])
        simp only [flushM] at d0 d1 d2
        clear hM1 hE1 hO1 c0 c1 c2 f2 hix hel
        generalize (wr.setCell ⟨b, 2, none⟩ (.int .i64 ((flushEs m (clampT n) k).1 + 1))).alloc (.cells #[.int .i64 (m.H k), .int .i64 (m.Y k)] 74) = W at *
        have hnb : some b ≠ u5.ownBlock := fun e => by have := (World.ownsRow.lt HE.out b e.symm).1; omega
        have hnx : some wr.heap.size ≠ u5.ownBlock := fun e => by have := (World.ownsRow.lt HE.out wr.heap.size e.symm).2; omega
        have hn3 : (1099511627776 < n ∧ clampT n = 1099511627776) ∨ (¬ 1099511627776 < n ∧ 0 < n ∧ clampT n = n) ∨ (¬ 1099511627776 < n ∧ ¬ 0 < n ∧ clampT n = 0) := by unfold clampT; omega
        have hbn : b ≠ W.heap.size := by have := HM1.out.lt; omega
        rcases hn3 with ⟨n1, n2⟩ | ⟨n1, n3, n2⟩ | ⟨n1, n3, n2⟩
        all_goals
          have N2 := Lib.hid n2
          clear n2
          generalize flushEs m (clampT n) k = fe at *
          obtain ⟨sq, es⟩ := fe
          dsimp only at *
          go_region_held3 (fun w' => w'.cell? ⟨b, 0, none⟩ = some (.string ⟨m.node.toArray⟩) ∧ w'.cell? ⟨b, 1, none⟩ = some (.int .i64 m.boot) ∧ w'.cell? ⟨b, 2, none⟩ = some (.int .i64 (sq + 1)) ∧ w'.cell? ⟨wr.heap.size, 0, none⟩ = some (.int .i64 (m.H k)) ∧ w'.cell? ⟨wr.heap.size, 1, none⟩ = some (.int .i64 (m.Y k)))
            ((go_split_ands; refine ⟨?_, ?_, ?_, ?_, ?_⟩ <;> (repeat (with_reducible (first | assumption | refine keep_drew ?_ | refine keep_alloc ?_ | refine keep_grown hg' hnb ?_ | refine keep_grown hg' hnx ?_)))))
            ((refine step_appE ?_ (.tmp 28) (.tmp 50) ?_ w.heap.size u5 es ?_ ?_ W.heap.size ⟨m.node, m.boot, sq + 1, k, m.H k, m.Y k, clampT n⟩ ?_ ?_ ?_ ?_ ?_; rfl; rfl; rfl; (first | exact (HE1.out.step (bel_new W _)).drew | exact HE1.out.drew.step (bel_new W.drew _)); rfl; rw [N2.out]; (first | exact ent_cells W ⟨m.node, m.boot, sq + 1, k, m.H k, m.Y k, _⟩ | exact ent_cells W.drew ⟨m.node, m.boot, sq + 1, k, m.H k, m.Y k, _⟩); (have := HEL.out; omega); (first | (simp [go_sem]; omega) | omega); intro v' w' ho' hb' hz' hg'))
          have hMw : MBlk w' b ⟨m.node, m.boot, sq + 1, fun t => if t < k then 0 else m.H t, fun t => if t < k then 0 else m.Y t⟩ := (HM1.out.step (bel_new W _)).drew.bel hb' hlt9
          have hOw : Only b w w' := (HO1.out.bel2 (bel_drew (bel_new W _)) (Nat.le_of_lt hzW)).bel2 hb' (Nat.le_refl _)
          obtain ⟨e0, e1⟩ := hMw.count k hlt
          have f0 := hMw.frozen (3 + k * 2)
          have f1 := hMw.frozen (3 + k * 2 + 1)
          have HMW := Lib.hid (((hMw.setH k 0 hlt).setY k 0 hlt))
          have HOW := Lib.hid hOw
          have HEW := Lib.hid ho'
          clear hMw hOw ho' hb' hz' hg' HM1 HE1 HO1 d0 d1 d2 hbx0 hbx1
          simp only [Nat.lt_irrefl, if_false] at e0 e1
          go_wp2_with fail
          go_roundw
          case rel => exact ⟨k + 1, by go_num, by omega, by rw [HFE.out]; exact (HEW.out.only Only.set hlt9).only Only.set hlt9, HMW.out.congr rfl rfl (by simp only [flushM, HFE.out]) (fun t ht => by
            simp only [flushM, upd]
            by_cases e : t = k
            · subst e; simp
            · by_cases e2 : t < k
              · simp [e, e2, show t < k + 1 by omega]
              · simp [e, e2, show ¬ t < k + 1 by omega]), (HOW.out.trans Only.set).trans Only.set⟩
          case measure => simp [intOf]; omega
    · obtain rfl : k = 16 := by omega
      go_wp2_with fail
      go_ret
      exact ⟨_, rfl, HE.out, HB.out, HO.out⟩
theorem OwnE.shape {w : World} {base : Nat} {v : Value} {es : List Ent} (h : OwnE w base v es) : ∃ a c, v = .slice a es.length c := by
  rcases h.2 with ⟨rfl, hn⟩ | ⟨g, cap, cur, rfl, _⟩
  · exact ⟨none, 0, by rw [hn]⟩
  · exact ⟨_, cap, rfl⟩
theorem OwnE.form {w : World} {base : Nat} {v : Value} {es : List Ent} (h : OwnE w base v es) (h0 : 0 < es.length) : ∃ g c, v = .slice (some ⟨g, 0, none⟩) es.length c ∧ base ≤ g := by
  obtain ⟨g, c, hv, hg, _⟩ := World.ownsRow.form h h0
  exact ⟨g, c, hv, hg⟩
theorem flat7 : ∀ (es : List Ent) (k : Nat) (e : Ent), es[k]? = some e → ∀ i, i < 7 → (es.flatMap ecells)[k * 7 + i]? = (ecells e)[i]? := by
  intro es
  induction es with
  | nil => intro k e hk; simp at hk
  | cons q es ih =>
    intro k e hk i hi
    rw [List.flatMap_cons]
    cases k with
    | zero =>
      simp at hk
      subst hk
      rw [List.getElem?_append_left (by simp [ecells]; omega)]
      simp
    | succ k =>
      have hl7 : (ecells q).length = 7 := rfl
      rw [List.getElem?_append_right (by rw [hl7]; omega), hl7, show (k + 1) * 7 + i - 7 = k * 7 + i by omega]
      exact ih k e (by simpa using hk) i hi
theorem OwnE.cells {w : World} {base g c : Nat} {es : List Ent} (h : OwnE w base (.slice (some ⟨g, 0, none⟩) es.length c) es) (k : Nat) (e : Ent) (hk : es[k]? = some e) (i : Nat) (hi : i < 7) : w.cell? ⟨g, k * 7 + i, none⟩ = (ecells e)[i]? := by
  have hlt : k < es.length := (List.getElem?_eq_some_iff.1 hk).1
  rw [World.ownsRow.cellAt h (k * 7 + i) (by omega)]
  exact flat7 es k e hk i hi

end Go.Proofs.Ythhooocckfljaaa
