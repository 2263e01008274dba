/- The walk of usage.Decode. No condition beyond that there are at most a million bytes. -/
import Derived.Test.YthhooocckfljaaaCanon
namespace Go.Proofs.Ythhooocckfljaaa
open Go.RowKit
set_option linter.unusedVariables false
set_option linter.unusedSimpArgs false

theorem CurO.cur {B : Nat} {w : World} {b : Nat} {l : List UInt8} (h : CurO B w b (some l)) : Cur w b l := by
  obtain ⟨a, c, h1, h2, h3⟩ := h
  exact ⟨_, h1, h2⟩
def ErrV : Option (List UInt8) → Value
  | some _ => .nilIface
  | none => .iface 94 (.int .i64 2)
theorem errc_any (B b : Nat) (o : Option (List UInt8)) (w : World) (h : CurO B w b o) :
    Calls Try.prog 25 #[.pointer (some ⟨b, 0, none⟩)] w fun e w' => e = .returned (ErrV o) ∧ w = w' := by
  cases o with
  | none => exact err_bad b w h
  | some l => exact err_ok b l w h.cur
theorem readc_any (v : Value) (l : List UInt8) (w : World) (h : IsB w v l) (hl : l.length ≤ 140737488355328) :
    Calls Try.prog 22 #[v] w fun e w' => ∃ b, e = .returned (.pointer (some ⟨b, 0, none⟩)) ∧ w.heap.size ≤ b ∧ CurO w'.heap.size w' b (some l) ∧ Below w.heap.size w w' := by
  refine (read_any v l w h hl).mono ?_
  rintro e w' ⟨b, rfl, hz, ⟨u, h1, h2⟩, hb⟩
  obtain ⟨a, c, rfl, _, _, _⟩ := h2.shape
  exact ⟨b, rfl, hz, ⟨a, c, h1, h2, h2.low⟩, hb⟩

/-- A block that holds an entry. -/
def EBox (w : World) (b : Nat) (e : Ent) : Prop := w.heap[b]? = some (.cells (ecells e).toArray 46 (0, 0))
theorem EBox.new (w : World) (e : Ent) : EBox (w.alloc (.cells #[.string ⟨e.node.toArray⟩, .int .i64 e.boot, .int .i64 e.seq, .int .i64 e.ten, .int .i64 e.hits, .int .i64 e.bytes, .int .i64 e.att] 46)) w.heap.size e := heap_alloc_new w _
theorem EBox.cells {w : World} {b : Nat} {e : Ent} (h : EBox w b e) : EntAt w b 0 e := by
  unfold EBox at h
  refine ⟨?_, ?_, ?_, ?_, ?_, ?_, ?_⟩ <;> simp [World.cell?, h, ecells]
theorem EBox.frozen {w : World} {b : Nat} {e : Ent} (h : EBox w b e) (i : Nat) : w.frozen? ⟨b, i, none⟩ = false := by
  unfold EBox at h
  simp [World.frozen?, h]
theorem EBox.all {w : World} {b : Nat} (h : EBox w b ⟨[], 0, 0, 0, 0, 0, 0⟩) :
    (w.cell? ⟨b, 0, none⟩ = some (.string ⟨#[]⟩) ∧ w.cell? ⟨b, 1, none⟩ = some (.int .i64 0) ∧ w.cell? ⟨b, 2, none⟩ = some (.int .i64 0) ∧
    w.cell? ⟨b, 3, none⟩ = some (.int .i64 0) ∧ w.cell? ⟨b, 4, none⟩ = some (.int .i64 0) ∧ w.cell? ⟨b, 5, none⟩ = some (.int .i64 0) ∧ w.cell? ⟨b, 6, none⟩ = some (.int .i64 0)) ∧
    w.frozen? ⟨b, 0, none⟩ = false ∧ w.frozen? ⟨b, 1, none⟩ = false ∧ w.frozen? ⟨b, 2, none⟩ = false ∧ w.frozen? ⟨b, 3, none⟩ = false ∧ w.frozen? ⟨b, 4, none⟩ = false ∧ w.frozen? ⟨b, 5, none⟩ = false ∧ w.frozen? ⟨b, 6, none⟩ = false := by
  have hc := h.cells
  unfold EntAt at hc
  simp only [Nat.zero_add] at hc
  exact ⟨hc, h.frozen 0, h.frozen 1, h.frozen 2, h.frozen 3, h.frozen 4, h.frozen 5, h.frozen 6⟩
theorem EBox.lt {w : World} {b : Nat} {e : Ent} (h : EBox w b e) : b < w.heap.size := by
  rcases Nat.lt_or_ge b w.heap.size with h' | h'
  · exact h'
  · unfold EBox at h; rw [Array.getElem?_eq_none h'] at h; cases h
theorem EBox.only {w w' : World} {b c : Nat} {e : Ent} (h : EBox w b e) (ho : Only c w w') (hn : b ≠ c) : EBox w' b e :=
  (ho.block b h.lt (by simpa using hn)).trans h
theorem EBox.fill {w : World} {b : Nat} {e : Ent} (h : EBox w b e) (b1 t1 h1 y1 a1 : Int) :
    EBox (((((w.setCell ⟨b, 1, none⟩ (.int .i64 b1)).setCell ⟨b, 3, none⟩ (.int .i64 t1)).setCell ⟨b, 4, none⟩ (.int .i64 h1)).setCell ⟨b, 5, none⟩ (.int .i64 y1)).setCell ⟨b, 6, none⟩ (.int .i64 a1)) b ⟨e.node, b1, e.seq, t1, h1, y1, a1⟩ := by
  have g1 := Joins.block_setCell (i := 1) h (.int .i64 b1)
  have g2 := Joins.block_setCell (i := 3) g1 (.int .i64 t1)
  have g3 := Joins.block_setCell (i := 4) g2 (.int .i64 h1)
  have g4 := Joins.block_setCell (i := 5) g3 (.int .i64 y1)
  have g5 := Joins.block_setCell (i := 6) g4 (.int .i64 a1)
  unfold EBox
  exact g5
theorem EBox.zero (w : World) : EBox (w.alloc (.cells #[.string ⟨#[]⟩, .int .i64 0, .int .i64 0, .int .i64 0, .int .i64 0, .int .i64 0, .int .i64 0] 46)) w.heap.size ⟨[], 0, 0, 0, 0, 0, 0⟩ := heap_alloc_new w _
theorem EBox.drew {w : World} {b : Nat} {e : Ent} (h : EBox w b e) : EBox w.drew b e := h
theorem EBox.sets {w : World} {b : Nat} {e : Ent} (h : EBox w b e) (q : Ent) :
    EBox (((((((w.setCell ⟨b, 0, none⟩ (.string ⟨q.node.toArray⟩)).setCell ⟨b, 1, none⟩ (.int .i64 q.boot)).setCell ⟨b, 2, none⟩ (.int .i64 q.seq)).setCell ⟨b, 3, none⟩ (.int .i64 q.ten)).setCell ⟨b, 4, none⟩ (.int .i64 q.hits)).setCell ⟨b, 5, none⟩ (.int .i64 q.bytes)).setCell ⟨b, 6, none⟩ (.int .i64 q.att)) b q := by
  have g0 := Joins.block_setCell (i := 0) h (.string ⟨q.node.toArray⟩)
  have g1 := Joins.block_setCell (i := 1) g0 (.int .i64 q.boot)
  have g2 := Joins.block_setCell (i := 2) g1 (.int .i64 q.seq)
  have g3 := Joins.block_setCell (i := 3) g2 (.int .i64 q.ten)
  have g4 := Joins.block_setCell (i := 4) g3 (.int .i64 q.hits)
  have g5 := Joins.block_setCell (i := 5) g4 (.int .i64 q.bytes)
  have g6 := Joins.block_setCell (i := 6) g5 (.int .i64 q.att)
  unfold EBox
  simpa [ecells] using g6
/-- A block that holds a record. -/
def RBox (w : World) (b : Nat) (k n : Int) (u : Value) : Prop := w.cell? ⟨b, 0, none⟩ = some (.int .i64 k) ∧ w.cell? ⟨b, 1, none⟩ = some (.int .i64 n) ∧ w.cell? ⟨b, 2, none⟩ = some u
theorem RBox.new (w : World) (k n : Int) (u : Value) : RBox (w.alloc (.cells #[.int .i64 k, .int .i64 n, u] 86)) w.heap.size k n u := by
  refine ⟨?_, ?_, ?_⟩ <;> simp [go_sem]
theorem RBox.step {w w' : World} {b : Nat} {k n : Int} {u : Value} (h : RBox w b k n u) (hb : Below w.heap.size w w') : RBox w' b k n u :=
  ⟨keep_at hb h.1, keep_at hb h.2.1, keep_at hb h.2.2⟩
theorem IsB.dropAt {w : World} {a : Option Addr} {cap : Nat} {l : List UInt8} (h : IsB w (.slice a l.length cap) l) (k : Nat) (hk : k ≤ l.length) :
    IsB w (.slice (if cap = k then a else Option.map (fun x => x.add k) a) (l.length - k) (cap - k)) (l.drop k) := h.cutif k hk
theorem OwnE.only2 {w w' : World} {base b : Nat} {v : Value} {es : List Ent} (h : OwnE w base v es) (ho : Only b w w') (hb : v.ownBlock ≠ some b) : OwnE w' base v es :=
  World.ownsRow.kept (row := some b) h ho (by
    rcases h.2 with ⟨rfl, _⟩ | ⟨g, cap, cur, rfl, hg, _⟩
    · exact .inl rfl
    · exact .inr hb)
theorem Only.far {b : Nat} {B : Nat} {w w' : World} (h : Only b w w') (hB : B ≤ b) (hz : B ≤ w.heap.size) : Below B w w' := h.below hB hz

theorem wpList_appE {ops : Array Oper} {rest : List Oper} {o : Oper} {a : Act} {Q : Exit → Act → World → Prop} {w : World} (hgd : o.guard = none) (s x : Operand)
    (ho : o.op = .call { callee := .builtin .append, args := #[s, x], argTypes := #[33, 33] })
    (base : Nat) (v : Value) (es : List Ent) (hs : a.eval s = v) (hown : OwnE w base v es) (g : Nat) (e : Ent) (hx : a.eval x = .slice (some ⟨g, 0, none⟩) 1 1)
    (hcells : ∀ j u, (ecells e)[j]? = some u → w.cell? ⟨g, j, none⟩ = some u)
    (hb : es.length ≤ 3000000) (hbase : base ≤ w.heap.size)
    (h : ∀ v' w', OwnE w' base v' (es ++ [e]) → Below base w w' → w.heap.size ≤ w'.heap.size → w.grownBy w' v.ownBlock → wpList Try.prog ops Q rest (a.put o.dst v') w') : wpList Try.prog ops Q (o :: rest) a w := by
  obtain ⟨i0, hi, hz0, hz1, hz2⟩ := info_parts info23
  refine wpList_append_own _ hgd s x 33 ho base 46 i0 _ 7 64 Try.underlying33 hi hz0 hz1 hz2 rfl (by decide) v es.length (es.flatMap ecells) hs hown ⟨g, 0, none⟩ 1 1 (ecells e) hx rfl ?_ (ecells_one e)
    (by unfold maxLen; omega) (by omega) hbase ?_
  · intro j u hj
    have := hcells j u hj
    by_cases h0 : j = 0
    · subst h0; simpa [Addr.add] using this
    · simpa [Addr.add, h0] using this
  · intro v' w' hown' hgrow hnil
    refine h v' w' ?_ ((Below.refl base w).grown hgrow hbase fun k hk => (World.ownsRow.lt hown k hk).1) hgrow.size hgrow
    unfold OwnE
    rw [List.length_append, List.flatMap_append]
    simpa using hown'
theorem keep_only {w w' : World} {b g o : Nat} {v : Value} (ho : Only b w w') (hn : g ≠ b) (hc : w.cell? ⟨g, o, none⟩ = some v) : w'.cell? ⟨g, o, none⟩ = some v := keep_grown ho (by simpa using hn) hc
theorem Only.sz {b : Nat} {w w' : World} (h : Only b w w') : w.heap.size ≤ w'.heap.size := h.size
theorem CurO.drew {B : Nat} {w : World} {b : Nat} {o : Option (List UInt8)} (h : CurO B w b o) : CurO B w.drew b o := by cases o <;> exact h
theorem wordV_len (p : List UInt8) : (wordV (some p)).length ≤ p.length := by
  unfold wordV
  simp only [Option.bind_some]
  cases h : wordR p with
  | none => simp
  | some x =>
    obtain ⟨s, r⟩ := x
    have := wordR_canon h
    simp only []
    rw [this]
    unfold textB
    simp only [List.length_append]
    omega

/-- What is known behind the region that makes the entry's block: the block was made behind the call. -/
theorem cut_one {W2 W3 : World} {B bc : Nat} {q : Ent} {o : Option (List UInt8)} {v : Value} {base : Nat} {es : List Ent} (hbc : B ≤ bc) (hz : B ≤ W2.heap.size) (hC : CurO W2.heap.size W3 bc o) (ho : Only bc W2.drew W3) (hO : OwnE W2 base v es) (hn : v.ownBlock ≠ some bc) :
    EBox (W3.alloc (.cells #[.string ⟨q.node.toArray⟩, .int .i64 q.boot, .int .i64 q.seq, .int .i64 q.ten, .int .i64 q.hits, .int .i64 q.bytes, .int .i64 q.att] 46)) W3.heap.size q ∧
    CurO W2.heap.size (W3.alloc (.cells #[.string ⟨q.node.toArray⟩, .int .i64 q.boot, .int .i64 q.seq, .int .i64 q.ten, .int .i64 q.hits, .int .i64 q.bytes, .int .i64 q.att] 46)) bc o ∧
    Below B W2 (W3.alloc (.cells #[.string ⟨q.node.toArray⟩, .int .i64 q.boot, .int .i64 q.seq, .int .i64 q.ten, .int .i64 q.hits, .int .i64 q.bytes, .int .i64 q.att] 46)) ∧
    OwnE (W3.alloc (.cells #[.string ⟨q.node.toArray⟩, .int .i64 q.boot, .int .i64 q.seq, .int .i64 q.ten, .int .i64 q.hits, .int .i64 q.bytes, .int .i64 q.att] 46)) base v es ∧ W2.heap.size ≤ W3.heap.size := by
  have hlt := hC.lt
  have hsz : W2.heap.size ≤ W3.heap.size := ho.size
  have hb : Below B W2 W3 := (Below.refl B W2).drew.trans (ho.below hbc hz)
  exact ⟨EBox.new W3 q, hC.step (bel_new _ _), hb.alloc (Nat.le_trans hz hsz) _, (OwnE.only2 (OwnE.drew hO) ho hn).step (bel_new _ _), hsz⟩
theorem Only.sets7 (w : World) (b : Nat) (v0 v1 v2 v3 v4 v5 v6 : Value) :
    Only b w (((((((w.setCell ⟨b, 0, none⟩ v0).setCell ⟨b, 1, none⟩ v1).setCell ⟨b, 2, none⟩ v2).setCell ⟨b, 3, none⟩ v3).setCell ⟨b, 4, none⟩ v4).setCell ⟨b, 5, none⟩ v5).setCell ⟨b, 6, none⟩ v6) :=
  (((((Only.set.trans Only.set).trans Only.set).trans Only.set).trans Only.set).trans Only.set).trans Only.set
theorem Only.sets5 (w : World) (b : Nat) (v1 v3 v4 v5 v6 : Value) :
    Only b w (((((w.setCell ⟨b, 1, none⟩ v1).setCell ⟨b, 3, none⟩ v3).setCell ⟨b, 4, none⟩ v4).setCell ⟨b, 5, none⟩ v5).setCell ⟨b, 6, none⟩ v6) :=
  (((Only.set.trans Only.set).trans Only.set).trans Only.set).trans Only.set
/-- .. the block was made ahead of the call. -/
theorem cut_two {W2 W3 W : World} {x : Obj} {B b bc : Nat} {q : Ent} {o : Option (List UInt8)} {v : Value} {base : Nat} {es : List Ent} (hbc : B ≤ bc) (hbW : bc < W2.heap.size) (hz : B ≤ W2.heap.size) (hC : CurO W2.heap.size W3 bc o) (ho : Only bc (W2.alloc x).drew W3) (hO : OwnE W2 base v es) (hn : v.ownBlock ≠ some bc)
    (hb : b = W2.heap.size) (hX : EBox W b q) (hW : Only b W3 W) :
    EBox W b q ∧ CurO W2.heap.size W bc o ∧ Below B W2 W ∧ OwnE W base v es ∧ W2.heap.size ≤ b := by
  subst hb
  have hsz : W2.heap.size ≤ W3.heap.size := by have := ho.size; simp [go_sem] at this; omega
  have h1 : Below B W2 (W2.alloc x).drew := ((Below.refl B W2).alloc hz x).drew
  have h2 : Below B (W2.alloc x).drew W3 := ho.below hbc (by simp [go_sem]; omega)
  have h3 : Below B W3 W := hW.below hz (Nat.le_trans hz hsz)
  have hC' : CurO W2.heap.size W bc o := hC.bel (hW.below (Nat.le_refl _) hsz) (Nat.le_refl _) hbW
  have hlt := fun g (e : v.ownBlock = some g) => (World.ownsRow.lt hO g e).2
  exact ⟨hX, hC', (h1.trans h2).trans h3, OwnE.only2 (OwnE.only2 (OwnE.drew (hO.step (bel_new _ x))) ho hn) hW (fun e => by have := hlt _ e; omega), Nat.le_refl _⟩

set_option maxRecDepth 100000 in
set_option maxHeartbeats 4000000 in
theorem decs_any (v : Value) (l : List UInt8) (w : World) (h : IsB w v l) (hl : l.length ≤ 1000000) :
    Calls Try.prog 9 #[v] w fun r w' => ∃ u, r = .returned (.tuple #[u, .int .i64 ((decsP l).2 : Nat)]) ∧ OwnE w' w.heap.size u (decsP l).1 ∧ Below w.heap.size w w' := by
  obtain ⟨a, cap, rfl, hc1, hc2, hc3⟩ := h.shape
  have H := Lib.hid h
  have hl' : (l.length : Int) ≤ 1000000 := by omega
  have hcap : (l.length : Int) ≤ (cap : Int) := by omega
  clear h hc2 hc3 hl
  go_enter Try.func9, Try.ntmps9
  go_wp2_with fail
  go_loopw [4, 5] (fun ov i wr => ∃ (k : Nat) (es : List Ent), i = .int .i64 k ∧ k ≤ l.length ∧ es.length ≤ k ∧ decsP l = (es ++ (decsP (l.drop k)).1, k + (decsP (l.drop k)).2) ∧ OwnE wr w.heap.size ov es ∧ Below w.heap.size w wr) (fun _ i _ => l.length - (intOf i).toNat)
  case atStart => exact ⟨0, [], rfl, Nat.zero_le _, Nat.zero_le _, by simp, OwnE.nil _ _, Below.refl _ _⟩
  case round =>
    obtain ⟨k, es, rfl, hk, hel, heq, hown, hB⟩ := hrel
    have HEQ := Lib.hid heq
    have HO := Lib.hid hown
    have HB := Lib.hid hB
    have hz0 : w.heap.size ≤ wr.heap.size := hB.size
    have hk0 : (0 : Int) ≤ (k : Int) := by omega
    have hk1 : (k : Int) ≤ (l.length : Int) := by omega
    have hk2 : (k : Int) ≤ (cap : Int) := by omega
    have HREST := Lib.hid ((H.out.step hB).cut1 k hk)
    clear heq hown hB
    cases hd : decP (l.drop k) with
    | inl code =>
      have hen : entP (l.drop k) = none := by unfold entP; rw [hd]
      rw [decsP_none hen] at HEQ
      have HT := Lib.hid (fun (v : Value) (W : World) (h : IsB W v (l.drop k)) => (show Calls Try.prog 21 #[v] W fun e w' => e = .returned (.tuple #[.agg #[.int .i64 0, .int .i64 0, .slice none 0 0], .int .i64 0, .iface 94 (.int .i64 code)]) ∧ Below W.heap.size W w' from by
        have h9 := dec_any v (l.drop k) W h (by rw [List.length_drop]; omega)
        rw [hd] at h9
        exact h9))
      clear hd hen
      by_cases hcq : cap = k
      · have HB2 := Lib.hid ((H.out.step HB.out).back k hk hcq)
        go_wp2_with (go_at_call 21; with_reducible refine (HT.out _ _ HB2.out).mono ?_; rintro e w2 ⟨rfl, hb2⟩)
        go_ret2
        refine ⟨u4, ?_, ?_, bel_alloc (bel_step HB.out hb2)⟩
        · rw [HEQ.out]; rfl
        · rw [HEQ.out]; simpa using (HO.out.step hb2).step (bel_new _ _)
      · go_wp2_with (go_at_call 21; with_reducible refine (HT.out _ _ HREST.out).mono ?_; rintro e w2 ⟨rfl, hb2⟩)
        go_ret2
        refine ⟨u4, ?_, ?_, bel_alloc (bel_step HB.out hb2)⟩
        · rw [HEQ.out]; rfl
        · rw [HEQ.out]; simpa using (HO.out.step hb2).step (bel_new _ _)
    | inr x =>
      obtain ⟨kk, n, p, sz⟩ := x
      obtain ⟨g1, g2, g3, g4, g5, g6, g7⟩ := dec_canon hd
      rw [List.length_drop] at g1
      have hcq : ¬ cap = k := by omega
      have HT := Lib.hid (fun (v : Value) (W : World) (h : IsB W v (l.drop k)) => (show Calls Try.prog 21 #[v] W fun e w' => ∃ u, e = .returned (.tuple #[.agg #[.int .i64 kk, .int .i64 n, u], .int .i64 sz, .nilIface]) ∧ OwnB w' W.heap.size u p ∧ Below W.heap.size W w' from by
        have h9 := dec_any v (l.drop k) W h (by rw [List.length_drop]; omega)
        rw [hd] at h9
        exact h9))
      have HD := Lib.hid hd
      have HG := Lib.hid (And.intro g1 (And.intro g2 g4))
      clear hd g1 g2 g3 g4 g5 g6 g7
      go_upto_region 4 with (go_at_call 21; with_reducible refine (HT.out _ _ HREST.out).mono ?_; rintro e w2 ⟨u, rfl, ho, hb2⟩; obtain ⟨au, nu, cu, rfl⟩ : ∃ a n c, u = .slice a n c := (by obtain ⟨a, c, h, _⟩ := ho.isB.shape; exact ⟨a, _, c, h⟩); have HP := Lib.hid ho.isB; clear ho)
      have hsw2 : wr.heap.size ≤ w2.heap.size := hb2.size
      have hn1 := bel_new w2 (.cells #[.int .i64 kk, .int .i64 n, .slice au nu cu] 86)
      have HO1 := Lib.hid ((HO.out.step hb2).step hn1)
      have HB1 := Lib.hid (bel_step (bel_step HB.out hb2) hn1)
      have HP1 := Lib.hid (HP.out.step hn1)
      have hr1 := RBox.new w2 kk n (.slice au nu cu)
      have HR1 := Lib.hid hr1
      obtain ⟨r0, r1, r2⟩ := hr1
      have hz1 : w2.heap.size < (w2.alloc (.cells #[.int .i64 kk, .int .i64 n, .slice au nu cu] 86)).heap.size := by simp [go_sem]
      clear hb2 hn1 HO HB HP HREST HT
      generalize w2.alloc (.cells #[.int .i64 kk, .int .i64 n, .slice au nu cu] 86) = W1 at *
      by_cases hk1' : kk = 1
      · subst hk1'
        have hpl : p.length ≤ 131072 := HG.out.2.2
        have hsz1 : (sz : Int) ≤ (l.length : Int) - (k : Int) := by have := HG.out.1; omega
        have hnn : n ≤ 1099511627776 := (dec_canon HD.out).2.2.2.2.2.1
        have HNN := Lib.hid hnn
        have HPL := Lib.hid hpl
        have hlt4 := fun g (e : u4.ownBlock = some g) => (World.ownsRow.lt HO1.out g e).2
        have HLT := Lib.hid hlt4
        clear hpl hnn hlt4
        go_upto_region 7 with (go_at_call 22; with_reducible refine (readc_any _ p _ HP1.out (by have := HPL.out; omega)).mono ?_; rintro e W2 ⟨bc, rfl, hbc, hC, hb2⟩; have HC := Lib.hid hC; clear hC)
        have HO2 := Lib.hid (HO1.out.step hb2)
        have HB2 := Lib.hid (bel_step HB1.out hb2)
        obtain ⟨q0, q1, q2⟩ := HR1.out.step hb2
        have hz2 := hb2.size
        have hnb : u4.ownBlock ≠ some bc := fun e => by have := HLT.out bc e; omega
        have HNB := Lib.hid hnb
        have hrb : w2.heap.size ≠ bc := by omega
        have hrw : w2.heap.size ≠ W2.heap.size := by omega
        have HT := Lib.hid (fun W (h : CurO W2.heap.size W bc (some p)) => textc_any W2.heap.size bc (some p) W h (fun l h => by injection h with h; subst h; have := HPL.out; omega))
        clear r0 r1 r2 hb2 HR1 HO1 HB1 HP1 hnb
        go_cut [10] (fun p10 wx => ∃ be, p10 = .pointer (some ⟨be, 0, none⟩) ∧ EBox wx be ⟨wordV (some p), 0, n, 0, 0, 0, 0⟩ ∧ CurO W2.heap.size wx bc (cur1 p) ∧ Below W1.heap.size W2 wx ∧ OwnE wx w.heap.size u4 es ∧ W2.heap.size ≤ be)
        case first =>
          go_region_held3 (fun w' => w'.cell? ⟨w2.heap.size, 1, none⟩ = some (.int .i64 n))
            ((go_split_ands; (repeat (with_reducible (first | assumption | refine keep_set hrw ?_ | refine keep_drew ?_ | refine keep_alloc ?_ | refine keep_only ho3 hrb ?_)))))
            ((go_at_call 23; first
              | (with_reducible refine (HT.out _ (CurO.drew HC.out)).mono ?_; rintro e W3 ⟨rfl, hC3, ho3⟩)
              | (with_reducible refine (HT.out _ (CurO.drew (HC.out.step (bel_new _ _)))).mono ?_; rintro e W3 ⟨rfl, hC3, ho3⟩; have hX := EBox.only (EBox.drew (EBox.zero W2)) ho3 (by have := HC.out.lt; omega); have HX := Lib.hid hX; obtain ⟨⟨x0, x1, x2, x3, x4, x5, x6⟩, f0, f1, f2, f3, f4, f5, f6⟩ := hX.all; clear hX)))
          · go_wp2_with fail
            go_meet
            exact ⟨_, rfl, cut_one (q := ⟨wordV (some p), 0, n, 0, 0, 0, 0⟩) hbc hz2 hC3 ho3 HO2.out HNB.out⟩
          · go_wp2_with fail
            go_meet
            exact ⟨_, rfl, cut_two hbc HC.out.lt hz2 hC3 ho3 HO2.out HNB.out rfl (HX.out.sets ⟨wordV (some p), 0, n, 0, 0, 0, 0⟩) (Only.sets7 _ _ _ _ _ _ _ _ _)⟩
        case rest =>
          obtain ⟨be, rfl, hX, hC, hB, hO, hbe⟩ := hcut
          have hne : be ≠ bc := by have := HC.out.lt; omega
          have HNE := Lib.hid (show u4.ownBlock ≠ some be from fun e => by have := HLT.out be e; omega)
          have HB3 := Lib.hid (HB2.out.trans (hB.mono (by omega)))
          have HX := Lib.hid hX
          have HC3 := Lib.hid hC
          have HO3 := Lib.hid hO
          have hzc : W2.heap.size ≤ wc.heap.size := hB.size
          have hE := hX.cells
          have f1 := hX.frozen 1
          have f3 := hX.frozen 3
          have f4 := hX.frozen 4
          have f5 := hX.frozen 5
          have f6 := hX.frozen 6
          obtain ⟨x0, x1, x2, x3, x4, x5, x6⟩ := hE
          simp only [Nat.zero_add] at x0 x1 x2 x3 x4 x5 x6
          have hbl := hX.lt
          have hlt4 := fun g (e : u4.ownBlock = some g) => (World.ownsRow.lt hO g e).2
          have hbb : W1.heap.size ≤ wc.heap.size := Nat.le_trans hz2 hzc
          have HBC := Lib.hid HC.out.lt
          clear hX hC hB hO HC HO2 HB2 q0 q1 q2
          clear HT hlt4 x0 x2
          have HU := Lib.hid (fun o W (h : CurO W2.heap.size W bc o) => uintc_any W2.heap.size bc o W h)
          have hwW1 : w.heap.size ≤ W1.heap.size := by omega
          go_upto_region 9 with (go_at_call 24; with_reducible refine (HU.out _ _ HC3.out).mono ?_; rintro e W4 ⟨rfl, hC4, ho4⟩; replace HC3 := Lib.hid hC4; replace HX := Lib.hid (HX.out.only ho4 hne); replace HO3 := Lib.hid (HO3.out.only2 ho4 HNB.out); replace HB3 := Lib.hid (HB3.out.trans ((ho4.below hbc hbb).mono hwW1)); replace hbb := Nat.le_trans hbb ho4.sz; replace hbl := Nat.lt_of_lt_of_le hbl ho4.sz; replace x1 := keep_only ho4 hne x1; replace x3 := keep_only ho4 hne x3; replace x4 := keep_only ho4 hne x4; replace x5 := keep_only ho4 hne x5; replace x6 := keep_only ho4 hne x6; replace f1 := HX.out.frozen 1; replace f3 := HX.out.frozen 3; replace f4 := HX.out.frozen 4; replace f5 := HX.out.frozen 5; replace f6 := HX.out.frozen 6; clear hC4 ho4)
          have hs5 := Only.sets5 W4 be (.int .i64 (numV (cur1 p))) (.int .i64 (numV (numO (cur1 p)))) (.int .i64 (numV (numO (numO (cur1 p))))) (.int .i64 (numV (numO (numO (numO (cur1 p)))))) (.int .i64 (numV (numO (numO (numO (numO (cur1 p)))))))
          have hF := HX.out.fill (numV (cur1 p)) (numV (numO (cur1 p))) (numV (numO (numO (cur1 p)))) (numV (numO (numO (numO (cur1 p))))) (numV (numO (numO (numO (numO (cur1 p))))))
          have hFE : EBox (((((W4.setCell ⟨be, 1, none⟩ (.int .i64 (numV (cur1 p)))).setCell ⟨be, 3, none⟩ (.int .i64 (numV (numO (cur1 p))))).setCell ⟨be, 4, none⟩ (.int .i64 (numV (numO (numO (cur1 p)))))).setCell ⟨be, 5, none⟩ (.int .i64 (numV (numO (numO (numO (cur1 p))))))).setCell ⟨be, 6, none⟩ (.int .i64 (numV (numO (numO (numO (numO (cur1 p)))))))) be (entOf n p) := hF
          have hzB : W2.heap.size ≤ W4.heap.size := Nat.le_trans hbe (Nat.le_of_lt hbl)
          have hW2 := hs5.below hbe hzB
          have hwW2 : w.heap.size ≤ W2.heap.size := Nat.le_trans hwW1 hz2
          have HC5 := Lib.hid (show CurO W2.heap.size _ bc (curE p) from HC3.out.bel hW2 (Nat.le_refl _) HBC.out)
          have HO5 := Lib.hid (HO3.out.only2 hs5 HNE.out)
          have HB5 := Lib.hid (HB3.out.trans (hW2.mono hwW2))
          have HX5 := Lib.hid hFE
          have hz5 : w.heap.size ≤ (((((W4.setCell ⟨be, 1, none⟩ (.int .i64 (numV (cur1 p)))).setCell ⟨be, 3, none⟩ (.int .i64 (numV (numO (cur1 p))))).setCell ⟨be, 4, none⟩ (.int .i64 (numV (numO (numO (cur1 p)))))).setCell ⟨be, 5, none⟩ (.int .i64 (numV (numO (numO (numO (cur1 p))))))).setCell ⟨be, 6, none⟩ (.int .i64 (numV (numO (numO (numO (numO (cur1 p)))))))).heap.size := Nat.le_trans hwW2 (Nat.le_trans hzB hs5.sz)
          clear hs5 hF hFE hW2 x1 x3 x4 x5 x6 f1 f3 f4 f5 f6 HX HC3 HO3 HB3
          generalize (((((W4.setCell ⟨be, 1, none⟩ (.int .i64 (numV (cur1 p)))).setCell ⟨be, 3, none⟩ (.int .i64 (numV (numO (cur1 p))))).setCell ⟨be, 4, none⟩ (.int .i64 (numV (numO (numO (cur1 p)))))).setCell ⟨be, 5, none⟩ (.int .i64 (numV (numO (numO (numO (cur1 p))))))).setCell ⟨be, 6, none⟩ (.int .i64 (numV (numO (numO (numO (numO (cur1 p)))))))) = W5 at *
          generalize numV (numO (numO (numO (numO (cur1 p))))) = j5 at *
          generalize numV (numO (numO (numO (cur1 p)))) = j4 at *
          generalize numV (numO (numO (cur1 p))) = j3 at *
          generalize numV (numO (cur1 p)) = j2 at *
          generalize numV (cur1 p) = j1 at *
          have HEN := Lib.hid (show entP (l.drop k) = if curE p = some [] ∧ codeE (entOf n p) = 0 then some (entOf n p, sz) else none from by unfold entP; rw [HD.out]; simp)
          have hfn : (entOf n p).node.length ≤ 9223372036854775807 := by have h1 := wordV_len p; have h2 := HPL.out; have : (entOf n p).node = wordV (some p) := rfl; rw [this]; omega
          have hfs : -9223372036854775808 ≤ (entOf n p).seq ∧ (entOf n p).seq ≤ 9223372036854775807 := by have h2 := HNN.out; have : (entOf n p).seq = (n : Int) := rfl; rw [this]; omega
          have HCK := Lib.hid (fun W => check_any (entOf n p) W hfn hfs)
          have HER := Lib.hid (errc_any W2.heap.size bc (curE p) W5 HC5.out)
          obtain ⟨y0, y1, y2, y3, y4, y5, y6⟩ := HX5.out.cells
          simp only [Nat.zero_add] at y0 y1 y2 y3 y4 y5 y6
          unfold Ent.val at *
          clear hfn hfs HD
          generalize entOf n p = E at *
          cases hce : curE p with
          | none =>
            rw [hce] at HER
            rw [hce, if_neg (by simp)] at HEN
            rw [decsP_none HEN.out] at HEQ
            simp only [ErrV] at HER
            go_wp2_with (go_at_call 25; refine (HER.out).mono ?_; rintro e W6 ⟨rfl, rfl⟩)
            go_ret2
            refine ⟨u4, ?_, ?_, HB5.out⟩
            · rw [HEQ.out]; rfl
            · rw [HEQ.out]; simpa using HO5.out
          | some r =>
            rw [hce] at HER HC5
            simp only [ErrV] at HER
            have HLE := Lib.hid (left_ok bc r W5 HC5.out.cur)
            by_cases hr : r = []
            · subst hr
              simp only [List.length_nil] at HLE
              by_cases hcd : codeE E = 0
              · rw [hce, if_pos ⟨rfl, hcd⟩] at HEN
                rw [decsP_some HEN.out, List.drop_drop] at HEQ
                rw [hcd, show errV 0 = .nilIface from rfl] at HCK
                clear hcd hce HLT
                go_upto_region 11 with (first | (go_at_call 25; refine (HER.out).mono ?_; rintro e W6 ⟨rfl, rfl⟩) | (go_at_call 26; refine (HLE.out).mono ?_; rintro e W6 ⟨rfl, rfl⟩) | (go_at_call 17; refine (HCK.out _).mono ?_; rintro r W7 ⟨rfl, hb7⟩))
                have HO7 := Lib.hid (HO5.out.step hb7)
                have HB7 := Lib.hid (bel_step HB5.out hb7)
                have hz7 : w.heap.size ≤ W7.heap.size := Nat.le_trans hz5 hb7.size
                obtain ⟨z0, z1, z2, z3, z4, z5, z6⟩ := HX5.out.cells.step hb7
                simp only [Nat.zero_add] at z0 z1 z2 z3 z4 z5 z6
                have hll : es.length ≤ 1000000 := by omega
                clear hb7 y0 y1 y2 y3 y4 y5 y6 HO5 HB5
                go_wp2_with (at_builtin; refine wpList_appE rfl (.tmp 66) (.tmp 68) rfl w.heap.size _ es rfl (HO7.out.step (bel_new W7 (.cells (ecells E).toArray 46))) W7.heap.size E rfl (ent_cells W7 E) (by omega) (by simp [go_sem]; omega) ?_; intro v8 W8 ho8 hb8 hz8 hg8)
                have HO8 := Lib.hid ho8
                have HB8 := Lib.hid ((HB7.out.alloc hz7 (.cells (ecells E).toArray 46)).trans hb8)
                clear ho8 hb8 hg8
                go_roundw
                case rel => exact ⟨k + sz, es ++ [E], by go_num, by have := HG.out.1; omega, by have := HG.out.2.1; simp; omega, by rw [HEQ.out]; simp [Nat.add_assoc], HO8.out, HB8.out⟩
                case measure => have := HG.out.2.1; have := HG.out.1; simp [intOf]; omega
              · rw [hce, if_neg (fun h => hcd h.2)] at HEN
                rw [decsP_none HEN.out] at HEQ
                have hv : errV (codeE E) = .iface 94 (.int .i64 (codeE E)) := by unfold errV; rw [if_neg hcd]
                rw [hv] at HCK
                generalize codeE E = cc at *
                clear hcd hv hce
                go_wp2_with (first | (go_at_call 25; refine (HER.out).mono ?_; rintro e W6 ⟨rfl, rfl⟩) | (go_at_call 26; refine (HLE.out).mono ?_; rintro e W6 ⟨rfl, rfl⟩) | (go_at_call 17; refine (HCK.out _).mono ?_; rintro r W7 ⟨rfl, hb7⟩))
                go_ret2
                refine ⟨u4, ?_, ?_, bel_step HB5.out hb7⟩
                · rw [HEQ.out]; rfl
                · rw [HEQ.out]; simpa using HO5.out.step hb7
            · obtain ⟨z, hz⟩ : ∃ z : Int, z = ((r.length : Nat) : Int) := ⟨_, rfl⟩
              have hrl : (z == 0) = false := by
                have := List.length_pos_iff.2 hr
                simp; omega
              have hrl2 : ¬ z = 0 := by simpa using hrl
              rw [← hz] at HLE
              clear hz
              rw [hce, if_neg (by simpa using fun h => absurd h hr)] at HEN
              rw [decsP_none HEN.out] at HEQ
              clear hr
              go_wp2_with (first | (go_at_call 25; refine (HER.out).mono ?_; rintro e W6 ⟨rfl, rfl⟩) | (go_at_call 26; refine (HLE.out).mono ?_; rintro e W6 ⟨rfl, rfl⟩))
              go_ret2
              refine ⟨u4, ?_, ?_, HB5.out⟩
              · rw [HEQ.out]; rfl
              · rw [HEQ.out]; simpa using HO5.out
      · have hen : entP (l.drop k) = none := by unfold entP; rw [HD.out]; simp only []; rw [if_neg (fun h => hk1' h.1)]
        rw [decsP_none hen] at HEQ
        have hkb : ((kk : Int) == 1) = false := by simp; omega
        clear hen hk1'
        go_wp2_with fail
        go_ret2
        refine ⟨u4, ?_, ?_, HB1.out⟩
        · rw [HEQ.out]; rfl
        · rw [HEQ.out]; simpa using HO1.out
end Go.Proofs.Ythhooocckfljaaa
