/- Two: StepAl Inv Two, one behind the other. -/
import Derived.Test.YtogkiifljdnjgaaDoorNodes
import Derived.Orders
/- An alloc and a store of a node, as steps of a region that draws its order: the world behind either is not laid open. No condition. -/
namespace Go.Proofs.YtogkiifljdnjgaaDoor
open Go.RowKit
set_option linter.unusedVariables false
set_option linter.unusedSimpArgs false

theorem step_alloc32 {ops : Array Oper} {o : Oper} {A : Act} {K : Act → World → Prop} {Q : Exit → Act → World → Prop} {E : Prop} {w : World} (hgd : o.guard = none) (ho : o.op = .alloc 32)
    (h : ∀ b w', b = w.heap.size → w'.heap[b]? = some (.cells #[.int .i64 0, .string ⟨#[]⟩, .slice none 0 0, .int .i64 0] 32 (0, 0)) → Below w.heap.size w w' → K (A.put o.dst (.pointer (some ⟨b, 0, none⟩))) w') :
    if Region.wanted o (yielded ops A.tmps) = true then Oper.wp Tryd.prog o A w K Q else E := by
  have hw : Region.wanted o (yielded ops A.tmps) = true := by simp [Region.wanted, hgd]
  rw [if_pos hw]
  have hh := h w.heap.size (w.alloc (.cells #[.int .i64 0, .string ⟨#[]⟩, .slice none 0 0, .int .i64 0] 32)) rfl (heap_alloc_new w _) (bel_new w _)
  unfold Oper.wp
  simp [execOp, ho, go_sem]
  exact hh
/-- A whole node is stored. -/
theorem step_store32 {ops : Array Oper} {o : Oper} {A : Act} {K : Act → World → Prop} {Q : Exit → Act → World → Prop} {E : Prop} {w : World} (hgd : o.guard = none) (i j : Tmp) (ho : o.op = .store 32 (.tmp i) (.tmp j)) (hd : o.dst = none)
    {b : Nat} (hp : A.tmps[i]?.getD undef = .pointer (some ⟨b, 0, none⟩)) {k l : Int} {tx : ByteArray} {a : Option Addr} {n c : Nat} (hx : A.tmps[j]?.getD undef = .agg #[.int .i64 k, .string tx, .slice a n c, .int .i64 l])
    {y0 y1 y2 y3 : Value} (hb : w.heap[b]? = some (.cells #[y0, y1, y2, y3] 32 (0, 0)))
    (h : ∀ w', w'.heap[b]? = some (.cells #[.int .i64 k, .string tx, .slice a n c, .int .i64 l] 32 (0, 0)) → Only b w w' → K A w') :
    if Region.wanted o (yielded ops A.tmps) = true then Oper.wp Tryd.prog o A w K Q else E := by
  have hw : Region.wanted o (yielded ops A.tmps) = true := by simp [Region.wanted, hgd]
  rw [if_pos hw]
  have hh := h _ (set4_block (y0 := .int .i64 k) (y1 := .string tx) (y2 := .slice a n c) (y3 := .int .i64 l) hb) (Only.set4 b w _ _ _ _)
  obtain ⟨c0, c1, c2, c3, f0, f1, f2, f3⟩ := box4 hb
  unfold Oper.wp
  simp [execOp, ho, go_sem, hp, hx, hd, c0, c1, c2, c3, f0, f1, f2, f3]
  first | exact hh | (trace_state; sorry)
abbrev Z32 : Obj := .cells #[.int .i64 0, .string ⟨#[]⟩, .slice none 0 0, .int .i64 0] 32
/-- Copies of a tree, made in any order, and zero boxes (the blocks Z). -/
structure Cop (w5 W : World) (t : Tree) (Z : List Nat) (vs : List Value) : Prop where
  bel : Below w5.heap.size w5 W
  box : ∀ b ∈ Z, w5.heap.size ≤ b ∧ W.heap[b]? = some (.cells #[.int .i64 0, .string ⟨#[]⟩, .slice none 0 0, .int .i64 0] 32 (0, 0))
  tree : ∀ v ∈ vs, IsT W (fun b => b < W.heap.size ∧ b ∉ Z) t v
theorem Cop.start (w5 : World) (t : Tree) : Cop w5 w5 t [] [] := ⟨Below.refl _ _, fun b h => (by cases h), fun v h => (by cases h)⟩
theorem Cop.step {w5 W W' : World} {t : Tree} {Z : List Nat} {vs : List Value} (h : Cop w5 W t Z vs) (hw : Below W.heap.size W W') : Cop w5 W' t Z vs :=
  ⟨h.bel.trans (hw.mono h.bel.size), fun b hb => ⟨(h.box b hb).1, keep_blk hw (h.box b hb).2⟩, fun v hv => (h.tree v hv).keep (fun k _ hk => hw.block k hk) (fun k hk hlt => ⟨Nat.lt_of_lt_of_le hlt hw.size, hk.2⟩) _ _⟩
theorem Cop.drew {w5 W : World} {t : Tree} {Z : List Nat} {vs : List Value} (h : Cop w5 W t Z vs) : Cop w5 W.drew t Z vs := h.step ((Below.refl _ _).drew)
theorem Cop.al {w5 W : World} {t : Tree} {Z : List Nat} {vs : List Value} (h : Cop w5 W t Z vs) : Cop w5 (W.alloc Z32) t (W.heap.size :: Z) vs := by
  have h1 := h.step (bel_new W Z32)
  refine ⟨h1.bel, fun b hb => ?_, fun v hv => ?_⟩
  · rcases List.mem_cons.1 hb with rfl | hb
    · exact ⟨h.bel.size, heap_alloc_new _ _⟩
    · exact h1.box b hb
  · exact (h.tree v hv).keep (fun k _ hk => (bel_new W Z32).block k hk) (fun k hk hlt => ⟨Nat.lt_of_lt_of_le hlt (bel_new W Z32).size, fun hm => by rcases List.mem_cons.1 hm with e | hm; omega; exact hk.2 hm⟩) _ _
theorem Cop.call {w5 W W' : World} {t : Tree} {Z : List Nat} {vs : List Value} {v : Value} (h : Cop w5 W t Z vs) (ht : IsT W' (New W' W.heap.size) t v) (hw : Below W.heap.size W W') : Cop w5 W' t Z (v :: vs) := by
  have h1 := h.step hw
  refine ⟨h1.bel, h1.box, fun u hu => ?_⟩
  rcases List.mem_cons.1 hu with rfl | hu
  · exact ht.mono fun k hk hlt => ⟨hlt, fun hm => by have h1 := block_lt (h.box k hm).2; have := hk.1; omega⟩
  · exact h1.tree u hu
/-- Of, called beside boxes. -/
theorem of_cop {w5 W : World} {t : Tree} {v : Value} {F : Nat → Prop} {Z : List Nat} {vs : List Value} (h : IsT w5 F t v) (hs : sizeT t ≤ 1000000) (hW : Cop w5 W t Z vs) :
    Calls Tryd.prog 11 #[v] W fun e w' => ∃ v', e = .returned v' ∧ (∃ F, IsT w' F t v') ∧ Cop w5 w' t Z (v' :: vs) :=
  (of_any t F W v (h.step hW.bel) hs).mono fun e w' h => by
    obtain ⟨⟨v', he, ht⟩, hb⟩ := h
    exact ⟨v', he, ⟨_, ht⟩, hW.call ht hb⟩
/-- What is left: two boxes with copies. -/
def TwoB (w5 wx : World) (t : Tree) (xb yb : Nat) : Prop :=
  ∃ (k6 : Int) (x6 : List UInt8) (a6 : Option Addr) (m6 c6 : Nat) (l6 k7 : Int) (x7 : List UInt8) (a7 : Option Addr) (m7 c7 : Nat) (l7 : Int),
    Below w5.heap.size w5 wx ∧ w5.heap.size ≤ xb ∧ w5.heap.size ≤ yb ∧ xb ≠ yb ∧
    wx.heap[xb]? = some (.cells #[.int .i64 k6, .string ⟨x6.toArray⟩, .slice a6 m6 c6, .int .i64 l6] 32 (0, 0)) ∧ wx.heap[yb]? = some (.cells #[.int .i64 k7, .string ⟨x7.toArray⟩, .slice a7 m7 c7, .int .i64 l7] 32 (0, 0)) ∧
    IsT wx (fun b => b ≠ yb) t (.agg #[.int .i64 k6, .string ⟨x6.toArray⟩, .slice a6 m6 c6, .int .i64 l6]) ∧ IsT wx (fun b => b ≠ yb) t (.agg #[.int .i64 k7, .string ⟨x7.toArray⟩, .slice a7 m7 c7, .int .i64 l7])
section
variable {w5 W : World} {t : Tree} {Z : List Nat} {k6 l6 k7 l7 : Int} {x6 x7 : List UInt8} {a6 a7 : Option Addr} {m6 c6 m7 c7 : Nat} (h : Cop w5 W t Z [.agg #[.int .i64 k7, .string ⟨x7.toArray⟩, .slice a7 m7 c7, .int .i64 l7], .agg #[.int .i64 k6, .string ⟨x6.toArray⟩, .slice a6 m6 c6, .int .i64 l6]])
include h
/-- Both boxes were there. -/
theorem Cop.end0 {xb yb : Nat} (hx : xb ∈ Z) (hy : yb ∈ Z) (hne : xb ≠ yb) : TwoB w5 ((((((((W.setCell ⟨xb, 0, none⟩ (.int .i64 k6)).setCell ⟨xb, 1, none⟩ (.string ⟨x6.toArray⟩)).setCell ⟨xb, 2, none⟩ (.slice a6 m6 c6)).setCell ⟨xb, 3, none⟩ (.int .i64 l6)).setCell ⟨yb, 0, none⟩ (.int .i64 k7)).setCell ⟨yb, 1, none⟩ (.string ⟨x7.toArray⟩)).setCell ⟨yb, 2, none⟩ (.slice a7 m7 c7)).setCell ⟨yb, 3, none⟩ (.int .i64 l7)) t xb yb := by
  have o1 := Only.set4 xb W (.int .i64 k6) (.string ⟨x6.toArray⟩) (.slice a6 m6 c6) (.int .i64 l6)
  have b1 := set4_block (y0 := .int .i64 k6) (y1 := .string ⟨x6.toArray⟩) (y2 := .slice a6 m6 c6) (y3 := .int .i64 l6) (h.box xb hx).2
  have hyb := o1.keep (h.box yb hy).2 (Ne.symm hne)
  have h1 := (h.tree _ List.mem_cons_self).other o1 (fun k hk e => hk.2 (e ▸ hx))
  have h2 := (h.tree _ (List.mem_cons_of_mem _ List.mem_cons_self)).other o1 (fun k hk e => hk.2 (e ▸ hx))
  have hb1 := h.bel.trans (o1.below (h.box xb hx).1 h.bel.size)
  generalize World.setCell (World.setCell (World.setCell (World.setCell W _ _) _ _) _ _) _ _ = V at *
  have o2 := Only.set4 yb V (.int .i64 k7) (.string ⟨x7.toArray⟩) (.slice a7 m7 c7) (.int .i64 l7)
  refine ⟨_, _, _, _, _, _, _, _, _, _, _, _, hb1.trans (o2.below (h.box yb hy).1 hb1.size), (h.box xb hx).1, (h.box yb hy).1, hne, o2.keep b1 hne, set4_block hyb, ?_, ?_⟩
  · exact (h2.other o2 (fun k hk e => hk.2 (e ▸ hy))).mono (fun k hk _ e => hk.2 (e ▸ hy))
  · exact (h1.other o2 (fun k hk e => hk.2 (e ▸ hy))).mono (fun k hk _ e => hk.2 (e ▸ hy))
end
end Go.Proofs.YtogkiifljdnjgaaDoor

/- A region that draws its order, by an invariant; two copies of a tree made in one statement. No condition. -/
namespace Go.Proofs.YtogkiifljdnjgaaDoor
open Go.RowKit
set_option linter.unusedVariables false
set_option linter.unusedSimpArgs false

theorem ready_mem {md : Region.Mode} {ops : Array Oper} {L : Array Bool} {i : Nat} (h : i ∈ Region.ready md ops L) :
    i < ops.size ∧ L.getD i true = false ∧ ∃ o, ops[i]? = some o ∧ (o.after.all fun e => !Region.binds md e || L.getD e.on false) = true := by
  unfold Region.ready at h
  obtain ⟨h1, h2⟩ := List.mem_filter.1 h
  have hi := List.mem_range.1 h1
  rw [Bool.and_eq_true] at h2
  refine ⟨hi, by simpa using h2.1, ops[i], by simp [hi], ?_⟩
  have := h2.2
  rw [show ops[i]? = some ops[i] by simp [hi]] at this
  simpa using this
theorem cnt_set : ∀ (l : List Bool) (i : Nat), l.getD i true = false → (l.set i true).count false + 1 = l.count false
  | [], i, h => by simp at h
  | b :: l, 0, h => by
    simp at h
    subst h
    simp
  | b :: l, i + 1, h => by
    have := cnt_set l i (by simpa using h)
    rw [List.set_cons_succ, List.count_cons, List.count_cons]
    omega
/-- The invariant holds behind each operation that may come up: the region is walked. -/
theorem wpAny_inv {P : Program} {md : Region.Mode} {ops : Array Oper} {Q : Exit → Act → World → Prop} (Inv : Array Bool → Act → World → Prop)
    (hs : ∀ L a w i, Inv L a w → i ∈ Region.ready md ops L → wpOp P ops Q i (Inv (L.setIfInBounds i true)) a w)
    (he : ∀ L a w, Inv L a w → Region.ready md ops L = [] → Q .normal a w) :
    ∀ (fuel : Nat) (L : Array Bool) (a : Act) (w : World), L.toList.count false ≤ fuel → Inv L a w → wpAny P md ops Q fuel L a w
  | 0, L, a, w, hc, h => by
    have hr : Region.ready md ops L = [] := by
      apply List.eq_nil_iff_forall_not_mem.2
      intro i hi
      obtain ⟨_, h2, _⟩ := ready_mem hi
      have := cnt_set L.toList i (by simpa [Array.getD_eq_getD_getElem?, List.getD_eq_getElem?_getD] using h2)
      omega
    exact ⟨hr, he L a w h hr⟩
  | fuel + 1, L, a, w, hc, h => by
    refine ⟨fun hr => he L a w h hr, fun i hi => wpOp_mono (fun a' w' h' => ?_) (hs L a w i h hi)⟩
    refine wpAny_inv Inv hs he fuel _ a' w' ?_ h'
    obtain ⟨_, h2, _⟩ := ready_mem hi
    have := cnt_set L.toList i (by simpa [Array.getD_eq_getD_getElem?, List.getD_eq_getElem?_getD] using h2)
    simp only [Array.toList_setIfInBounds]
    omega
end Go.Proofs.YtogkiifljdnjgaaDoor

/- Two copies of a tree, made in one statement, in whatever order. No condition. -/
namespace Go.Proofs.YtogkiifljdnjgaaDoor
open Go.RowKit
set_option linter.unusedVariables false
set_option linter.unusedSimpArgs false

abbrev zAgg : Value := .agg #[.int .i64 0, .string ⟨#[]⟩, .slice none 0 0, .int .i64 0]
/-- The boxes and the copies in memory. -/
structure TwoM (w5 w : World) (t : Tree) (x y : Option (Nat × Value)) (v6 v7 : Option Value) : Prop where
  bel : Below w5.heap.size w5 w
  xb : ∀ b u, x = some (b, u) → w5.heap.size ≤ b ∧ ∃ c0 c1 c2 c3, u = .agg #[c0, c1, c2, c3] ∧ w.heap[b]? = some (.cells #[c0, c1, c2, c3] 32 (0, 0))
  yb : ∀ b u, y = some (b, u) → w5.heap.size ≤ b ∧ ∃ c0 c1 c2 c3, u = .agg #[c0, c1, c2, c3] ∧ w.heap[b]? = some (.cells #[c0, c1, c2, c3] 32 (0, 0))
  ne : ∀ b u c u', x = some (b, u) → y = some (c, u') → b ≠ c
  t6 : ∀ v, v6 = some v → IsT w (fun k => k < w.heap.size ∧ (∀ b u, x = some (b, u) → k ≠ b) ∧ (∀ b u, y = some (b, u) → k ≠ b)) t v
  t7 : ∀ v, v7 = some v → IsT w (fun k => k < w.heap.size ∧ (∀ b u, x = some (b, u) → k ≠ b) ∧ (∀ b u, y = some (b, u) → k ≠ b)) t v
section
variable {w5 w w' : World} {t : Tree} {x y : Option (Nat × Value)} {v6 v7 : Option Value}
theorem TwoM.start (w5 : World) (t : Tree) : TwoM w5 w5 t none none none none := ⟨Below.refl _ _, fun b u h => (by cases h), fun b u h => (by cases h), fun b u c u' h => (by cases h), fun v h => (by cases h), fun v h => (by cases h)⟩
theorem TwoM.swap (h : TwoM w5 w t x y v6 v7) : TwoM w5 w t y x v6 v7 :=
  ⟨h.bel, h.yb, h.xb, fun b u c u' hb hc e => h.ne c u' b u hc hb e.symm, fun v e => (h.t6 v e).mono fun b hb _ => ⟨hb.1, hb.2.2, hb.2.1⟩, fun v e => (h.t7 v e).mono fun b hb _ => ⟨hb.1, hb.2.2, hb.2.1⟩⟩
theorem TwoM.swap6 (h : TwoM w5 w t x y v6 v7) : TwoM w5 w t x y v7 v6 := ⟨h.bel, h.xb, h.yb, h.ne, h.t7, h.t6⟩
theorem TwoM.step (h : TwoM w5 w t x y v6 v7) (hw : Below w.heap.size w w') : TwoM w5 w' t x y v6 v7 := by
  refine ⟨h.bel.trans (hw.mono h.bel.size), fun b u e => ?_, fun b u e => ?_, h.ne, fun v e => (h.t6 v e).keep (fun k _ hk => hw.block k hk) (fun k hk hlt => ⟨Nat.lt_of_lt_of_le hlt hw.size, hk.2⟩) _ _, fun v e => (h.t7 v e).keep (fun k _ hk => hw.block k hk) (fun k hk hlt => ⟨Nat.lt_of_lt_of_le hlt hw.size, hk.2⟩) _ _⟩
  · obtain ⟨h1, c0, c1, c2, c3, hu, hb⟩ := h.xb b u e; exact ⟨h1, c0, c1, c2, c3, hu, keep_blk hw hb⟩
  · obtain ⟨h1, c0, c1, c2, c3, hu, hb⟩ := h.yb b u e; exact ⟨h1, c0, c1, c2, c3, hu, keep_blk hw hb⟩
theorem TwoM.allocX {b : Nat} (h : TwoM w5 w t none y v6 v7) (hb : b = w.heap.size) (hz : w'.heap[b]? = some (.cells #[.int .i64 0, .string ⟨#[]⟩, .slice none 0 0, .int .i64 0] 32 (0, 0))) (hw : Below w.heap.size w w') : TwoM w5 w' t (some (b, zAgg)) y v6 v7 := by
  have h1 := h.step hw
  refine ⟨h1.bel, fun c u e => ?_, h1.yb, fun c u d u' hc hd => ?_, fun v e => ?_, fun v e => ?_⟩
  · obtain ⟨rfl, rfl⟩ := Prod.mk.inj (Option.some.inj e)
    exact ⟨by have := h.bel.size; omega, _, _, _, _, rfl, hz⟩
  · obtain ⟨rfl, rfl⟩ := Prod.mk.inj (Option.some.inj hc)
    obtain ⟨_, _, _, _, _, _, hd'⟩ := h.yb d u' hd
    have := block_lt hd'
    omega
  · exact (h.t6 v e).keep (fun k _ hk => hw.block k hk) (fun k hk hlt => ⟨Nat.lt_of_lt_of_le hlt hw.size, fun c u e => by obtain ⟨rfl, rfl⟩ := Prod.mk.inj (Option.some.inj e); omega, hk.2.2⟩) _ _
  · exact (h.t7 v e).keep (fun k _ hk => hw.block k hk) (fun k hk hlt => ⟨Nat.lt_of_lt_of_le hlt hw.size, fun c u e => by obtain ⟨rfl, rfl⟩ := Prod.mk.inj (Option.some.inj e); omega, hk.2.2⟩) _ _
theorem TwoM.call6 {v : Value} (h : TwoM w5 w t x y none v7) (ht : IsT w' (New w' w.heap.size) t v) (hw : Below w.heap.size w w') : TwoM w5 w' t x y (some v) v7 := by
  have h1 := h.step hw
  refine ⟨h1.bel, h1.xb, h1.yb, h1.ne, fun u e => ?_, h1.t7⟩
  obtain rfl := Option.some.inj e
  refine ht.mono fun k hk hlt => ⟨hlt, fun b u e => ?_, fun b u e => ?_⟩
  · obtain ⟨_, _, _, _, _, _, hb⟩ := h.xb b u e
    have := block_lt hb; have := hk.1; omega
  · obtain ⟨_, _, _, _, _, _, hb⟩ := h.yb b u e
    have := block_lt hb; have := hk.1; omega
theorem TwoM.storeX {b : Nat} {u c0 c1 c2 c3 : Value} (h : TwoM w5 w t (some (b, u)) y v6 v7) (hb : w'.heap[b]? = some (.cells #[c0, c1, c2, c3] 32 (0, 0))) (ho : Only b w w') : TwoM w5 w' t (some (b, .agg #[c0, c1, c2, c3])) y v6 v7 := by
  have hxb := (h.xb b u rfl).1
  refine ⟨h.bel.trans (ho.below hxb h.bel.size), fun c u' e => ?_, fun c u' e => ?_, fun c u1 d u2 hc hd => ?_, fun v e => ?_, fun v e => ?_⟩
  · obtain ⟨rfl, rfl⟩ := Prod.mk.inj (Option.some.inj e)
    exact ⟨hxb, _, _, _, _, rfl, hb⟩
  · obtain ⟨h1, d0, d1, d2, d3, hu, hb'⟩ := h.yb c u' e
    exact ⟨h1, d0, d1, d2, d3, hu, ho.keep hb' (fun e' => h.ne b u c u' rfl e e'.symm)⟩
  · obtain ⟨rfl, rfl⟩ := Prod.mk.inj (Option.some.inj hc)
    exact h.ne _ u d u2 rfl hd
  · exact (h.t6 v e).keep (fun k hk hlt => ho.block k hlt (fun e => hk.2.1 b u rfl (Option.some.inj e))) (fun k hk hlt => ⟨Nat.lt_of_lt_of_le hlt ho.size, fun c u' e => by obtain ⟨rfl, rfl⟩ := Prod.mk.inj (Option.some.inj e); exact hk.2.1 _ u rfl, hk.2.2⟩) _ _
  · exact (h.t7 v e).keep (fun k hk hlt => ho.block k hlt (fun e => hk.2.1 b u rfl (Option.some.inj e))) (fun k hk hlt => ⟨Nat.lt_of_lt_of_le hlt ho.size, fun c u' e => by obtain ⟨rfl, rfl⟩ := Prod.mk.inj (Option.some.inj e); exact hk.2.1 _ u rfl, hk.2.2⟩) _ _
end
def IsOp (ops : Array Oper) (i : Nat) (op : Op) (d : Option Tmp) : Prop := ∃ o, ops[i]? = some o ∧ o.op = op ∧ o.dst = d ∧ o.guard = none
theorem getD_set (L : Array Bool) (i j : Nat) (hi : i < L.size) : (L.setIfInBounds i true).getD j false = if i = j then true else L.getD j false := by
  simp only [Array.getD_eq_getD_getElem?, Array.getElem?_setIfInBounds]
  by_cases h : i = j
  · subst h; simp [hi]
  · simp [h]
theorem getD_set_ne (L : Array Bool) (i j : Nat) (hi : i < L.size) (h : i ≠ j) : (L.setIfInBounds i true).getD j false = L.getD j false := by rw [getD_set L i j hi, if_neg h]
theorem getD_set_self (L : Array Bool) (i : Nat) (hi : i < L.size) : (L.setIfInBounds i true).getD i false = true := by rw [getD_set L i i hi, if_pos rfl]
theorem put_tmps (a : Act) (d : Tmp) (v : Value) (j : Nat) : (a.put (some d) v).tmps[j]? = if d = j then (if d < a.tmps.size then some v else none) else a.tmps[j]? := by
  simp only [Act.put, Array.getElem?_setIfInBounds]
theorem put_size (a : Act) (d : Tmp) (v : Value) : (a.put (some d) v).tmps.size = a.tmps.size := by simp [Act.put]
/-- The slots and the memory, between the operations. -/
structure TwoI (A0 : Act) (w5 : World) (t : Tree) (va : Value) (L : Array Bool) (a : Act) (w : World) (x y : Option (Nat × Value)) (v6 v7 : Option Value) : Prop where
  sz : L.size = 8
  df : a.defers = A0.defers
  ts : a.tmps.size = A0.tmps.size
  off : ∀ j, j ≠ 24 → j ≠ 25 → j ≠ 26 → j ≠ 27 → j ≠ 11 → j ≠ 12 → a.tmps[j]? = A0.tmps[j]?
  l0 : L.getD 0 false = true → a.tmps[24]?.getD undef = va
  l2 : L.getD 2 false = true → a.tmps[26]?.getD undef = va
  x4 : if L.getD 4 false = true then ∃ b u, x = some (b, u) ∧ a.tmps[11]?.getD undef = .pointer (some ⟨b, 0, none⟩) else x = none
  y5 : if L.getD 5 false = true then ∃ b u, y = some (b, u) ∧ a.tmps[12]?.getD undef = .pointer (some ⟨b, 0, none⟩) else y = none
  c1 : if L.getD 1 false = true then ∃ v, v6 = some v ∧ a.tmps[25]?.getD undef = v else v6 = none
  c3 : if L.getD 3 false = true then ∃ v, v7 = some v ∧ a.tmps[27]?.getD undef = v else v7 = none
  s6 : L.getD 6 false = true → ∃ b v, x = some (b, v) ∧ v6 = some v
  s7 : L.getD 7 false = true → ∃ b v, y = some (b, v) ∧ v7 = some v
  m : TwoM w5 w t x y v6 v7
theorem wpOp_of {ops : Array Oper} {Q : Exit → Act → World → Prop} {i : Nat} {K : Act → World → Prop} {a : Act} {w : World} {o : Oper} (h : ops[i]? = some o) (g : o.guard = none) (hw : Oper.wp Tryd.prog o a w K Q) : wpOp Tryd.prog ops Q i K a w := by
  unfold wpOp
  rw [h]
  have hwt : Region.wanted o (yielded ops a.tmps) = true := by simp [Region.wanted, g]
  simp only [hwt, if_true]
  exact .inl hw
theorem op_load26 {o : Oper} {K : Act → World → Prop} {Q : Exit → Act → World → Prop} {a : Act} {w : World} {i d : Tmp} (ho : o.op = .load 26 (.tmp i)) (hd : o.dst = some d) {b : Nat} (hp : a.tmps[i]?.getD undef = .pointer (some ⟨b, 0, none⟩)) {c0 c1 c2 c3 : Value}
    (hb : w.heap[b]? = some (.cells #[c0, c1, c2, c3] 26 (0, 0))) (h : K (a.put (some d) (.agg #[c0, c1, c2, c3])) w) : Oper.wp Tryd.prog o a w K Q := by
  obtain ⟨e0, e1, e2, e3, _⟩ := box4 hb
  unfold Oper.wp
  simp [execOp, ho, go_sem, hp, hd, e0, e1, e2, e3]
  exact h
theorem op_call11 {o : Oper} {K : Act → World → Prop} {Q : Exit → Act → World → Prop} {a : Act} {w : World} {i d : Tmp} (ho : o.op = .call { callee := .value (.func 11), args := #[.tmp i], argTypes := #[26] }) (hd : o.dst = some d) {v : Value} (hp : a.tmps[i]?.getD undef = v)
    {R : Value → World → Prop} (hc : Calls Tryd.prog 11 #[v] w fun e w' => ∃ u, e = .returned u ∧ R u w') (h : ∀ u w', R u w' → K (a.put (some d) u) w') : Oper.wp Tryd.prog o a w K Q := by
  unfold Oper.wp
  simp [execOp, ho, go_sem, hp, hd]
  refine hc.mono ?_
  rintro e w' ⟨u, rfl, hr⟩
  exact h u w' hr
theorem op_alloc32 {o : Oper} {K : Act → World → Prop} {Q : Exit → Act → World → Prop} {a : Act} {w : World} {d : Tmp} (hg : o.guard = none) (ho : o.op = .alloc 32) (hd : o.dst = some d)
    (h : ∀ b w', b = w.heap.size → w'.heap[b]? = some (.cells #[.int .i64 0, .string ⟨#[]⟩, .slice none 0 0, .int .i64 0] 32 (0, 0)) → Below w.heap.size w w' → K (a.put (some d) (.pointer (some ⟨b, 0, none⟩))) w') : Oper.wp Tryd.prog o a w K Q := by
  have hw : Region.wanted o (yielded #[] a.tmps) = true := by simp [Region.wanted, hg]
  have hs := step_alloc32 (ops := #[]) (Q := Q) (K := K) (A := a) (w := w) (E := False) hg ho (fun b w' h1 h2 h3 => by rw [hd]; exact h b w' h1 h2 h3)
  rwa [if_pos hw] at hs
theorem op_store32 {o : Oper} {K : Act → World → Prop} {Q : Exit → Act → World → Prop} {a : Act} {w : World} {i j : Tmp} (hg : o.guard = none) (ho : o.op = .store 32 (.tmp i) (.tmp j)) (hd : o.dst = none)
    {b : Nat} (hp : a.tmps[i]?.getD undef = .pointer (some ⟨b, 0, none⟩)) {k l : Int} {tx : ByteArray} {s : Option Addr} {n c : Nat} (hx : a.tmps[j]?.getD undef = .agg #[.int .i64 k, .string tx, .slice s n c, .int .i64 l])
    {y0 y1 y2 y3 : Value} (hb : w.heap[b]? = some (.cells #[y0, y1, y2, y3] 32 (0, 0)))
    (h : ∀ w', w'.heap[b]? = some (.cells #[.int .i64 k, .string tx, .slice s n c, .int .i64 l] 32 (0, 0)) → Only b w w' → K a w') : Oper.wp Tryd.prog o a w K Q := by
  have hw : Region.wanted o (yielded #[] a.tmps) = true := by simp [Region.wanted, hg]
  have hs := step_store32 (ops := #[]) (Q := Q) (K := K) (A := a) (w := w) (E := False) hg i j ho hd hp hx hb h
  rwa [if_pos hw] at hs
/-- A slot is laid: what the invariant's slots say. -/
theorem put_other (a : Act) (d : Tmp) (v : Value) (j : Nat) (h : d ≠ j) : (a.put (some d) v).tmps[j]?.getD undef = a.tmps[j]?.getD undef := by rw [put_tmps, if_neg h]
theorem put_self (a : Act) (d : Tmp) (v : Value) (h : d < a.tmps.size) : (a.put (some d) v).tmps[d]?.getD undef = v := by rw [put_tmps, if_pos rfl, if_pos h]; rfl
section
variable {A0 : Act} {w5 : World} {t : Tree} {va : Value} {L : Array Bool} {a : Act} {w w' : World} {x y : Option (Nat × Value)} {v6 v7 : Option Value}
theorem TwoI.put0 (h : TwoI A0 w5 t va L a w x y v6 v7) (hs : 28 ≤ A0.tmps.size) : TwoI A0 w5 t va (L.setIfInBounds 0 true) (a.put (some 24) va) w x y v6 v7 := by
  have hz := h.sz; have ht := h.ts
  refine ⟨by simpa using hz, h.df, by rw [put_size, ht], fun j a1 a2 a3 a4 a5 a6 => by rw [put_tmps, if_neg (Ne.symm a1)]; exact h.off j a1 a2 a3 a4 a5 a6, fun _ => put_self _ _ _ (Nat.lt_of_lt_of_le (by decide) (Nat.le_trans hs (Nat.le_of_eq ht.symm))), fun e => ?_, ?_, ?_, ?_, ?_, fun e => ?_, fun e => ?_, h.m⟩
  · rw [getD_set_ne _ _ _ (by omega) (by decide)] at e; rw [put_other _ _ _ _ (by decide)]; exact h.l2 e
  · rw [getD_set_ne _ _ _ (by omega) (by decide), put_other _ _ _ _ (by decide)]; exact h.x4
  · rw [getD_set_ne _ _ _ (by omega) (by decide), put_other _ _ _ _ (by decide)]; exact h.y5
  · rw [getD_set_ne _ _ _ (by omega) (by decide), put_other _ _ _ _ (by decide)]; exact h.c1
  · rw [getD_set_ne _ _ _ (by omega) (by decide), put_other _ _ _ _ (by decide)]; exact h.c3
  · rw [getD_set_ne _ _ _ (by omega) (by decide)] at e; exact h.s6 e
  · rw [getD_set_ne _ _ _ (by omega) (by decide)] at e; exact h.s7 e
theorem TwoI.put2 (h : TwoI A0 w5 t va L a w x y v6 v7) (hs : 28 ≤ A0.tmps.size) : TwoI A0 w5 t va (L.setIfInBounds 2 true) (a.put (some 26) va) w x y v6 v7 := by
  have hz := h.sz; have ht := h.ts
  refine ⟨by simpa using hz, h.df, by rw [put_size, ht], fun j a1 a2 a3 a4 a5 a6 => by rw [put_tmps, if_neg (Ne.symm a3)]; exact h.off j a1 a2 a3 a4 a5 a6, fun e => ?_, fun _ => put_self _ _ _ (Nat.lt_of_lt_of_le (by decide) (Nat.le_trans hs (Nat.le_of_eq ht.symm))), ?_, ?_, ?_, ?_, fun e => ?_, fun e => ?_, h.m⟩
  · rw [getD_set_ne _ _ _ (by omega) (by decide)] at e; rw [put_other _ _ _ _ (by decide)]; exact h.l0 e
  · rw [getD_set_ne _ _ _ (by omega) (by decide), put_other _ _ _ _ (by decide)]; exact h.x4
  · rw [getD_set_ne _ _ _ (by omega) (by decide), put_other _ _ _ _ (by decide)]; exact h.y5
  · rw [getD_set_ne _ _ _ (by omega) (by decide), put_other _ _ _ _ (by decide)]; exact h.c1
  · rw [getD_set_ne _ _ _ (by omega) (by decide), put_other _ _ _ _ (by decide)]; exact h.c3
  · rw [getD_set_ne _ _ _ (by omega) (by decide)] at e; exact h.s6 e
  · rw [getD_set_ne _ _ _ (by omega) (by decide)] at e; exact h.s7 e
theorem TwoI.put1 {v : Value} (h : TwoI A0 w5 t va L a w x y none v7) (hs : 28 ≤ A0.tmps.size) (h1 : L.getD 1 false = false) (hm : TwoM w5 w' t x y (some v) v7) : TwoI A0 w5 t va (L.setIfInBounds 1 true) (a.put (some 25) v) w' x y (some v) v7 := by
  have hz := h.sz; have ht := h.ts
  refine ⟨by simpa using hz, h.df, by rw [put_size, ht], fun j a1 a2 a3 a4 a5 a6 => by rw [put_tmps, if_neg (Ne.symm a2)]; exact h.off j a1 a2 a3 a4 a5 a6, fun e => ?_, fun e => ?_, ?_, ?_, ?_, ?_, fun e => ?_, fun e => ?_, hm⟩
  · rw [getD_set_ne _ _ _ (by omega) (by decide)] at e; rw [put_other _ _ _ _ (by decide)]; exact h.l0 e
  · rw [getD_set_ne _ _ _ (by omega) (by decide)] at e; rw [put_other _ _ _ _ (by decide)]; exact h.l2 e
  · rw [getD_set_ne _ _ _ (by omega) (by decide), put_other _ _ _ _ (by decide)]; exact h.x4
  · rw [getD_set_ne _ _ _ (by omega) (by decide), put_other _ _ _ _ (by decide)]; exact h.y5
  · rw [getD_set_self _ _ (by omega), if_pos rfl]; exact ⟨v, rfl, put_self _ _ _ (Nat.lt_of_lt_of_le (by decide) (Nat.le_trans hs (Nat.le_of_eq ht.symm)))⟩
  · rw [getD_set_ne _ _ _ (by omega) (by decide), put_other _ _ _ _ (by decide)]; exact h.c3
  · rw [getD_set_ne _ _ _ (by omega) (by decide)] at e
    obtain ⟨b, u, _, hu⟩ := h.s6 e
    cases hu
  · rw [getD_set_ne _ _ _ (by omega) (by decide)] at e; exact h.s7 e
theorem TwoI.put3 {v : Value} (h : TwoI A0 w5 t va L a w x y v6 none) (hs : 28 ≤ A0.tmps.size) (hm : TwoM w5 w' t x y v6 (some v)) : TwoI A0 w5 t va (L.setIfInBounds 3 true) (a.put (some 27) v) w' x y v6 (some v) := by
  have hz := h.sz; have ht := h.ts
  refine ⟨by simpa using hz, h.df, by rw [put_size, ht], fun j a1 a2 a3 a4 a5 a6 => by rw [put_tmps, if_neg (Ne.symm a4)]; exact h.off j a1 a2 a3 a4 a5 a6, fun e => ?_, fun e => ?_, ?_, ?_, ?_, ?_, fun e => ?_, fun e => ?_, hm⟩
  · rw [getD_set_ne _ _ _ (by omega) (by decide)] at e; rw [put_other _ _ _ _ (by decide)]; exact h.l0 e
  · rw [getD_set_ne _ _ _ (by omega) (by decide)] at e; rw [put_other _ _ _ _ (by decide)]; exact h.l2 e
  · rw [getD_set_ne _ _ _ (by omega) (by decide), put_other _ _ _ _ (by decide)]; exact h.x4
  · rw [getD_set_ne _ _ _ (by omega) (by decide), put_other _ _ _ _ (by decide)]; exact h.y5
  · rw [getD_set_ne _ _ _ (by omega) (by decide), put_other _ _ _ _ (by decide)]; exact h.c1
  · rw [getD_set_self _ _ (by omega), if_pos rfl]; exact ⟨v, rfl, put_self _ _ _ (Nat.lt_of_lt_of_le (by decide) (Nat.le_trans hs (Nat.le_of_eq ht.symm)))⟩
  · rw [getD_set_ne _ _ _ (by omega) (by decide)] at e; exact h.s6 e
  · rw [getD_set_ne _ _ _ (by omega) (by decide)] at e
    obtain ⟨b, u, _, hu⟩ := h.s7 e
    cases hu
theorem TwoI.put4 {b : Nat} {u : Value} (h : TwoI A0 w5 t va L a w none y v6 v7) (hs : 28 ≤ A0.tmps.size) (hm : TwoM w5 w' t (some (b, u)) y v6 v7) : TwoI A0 w5 t va (L.setIfInBounds 4 true) (a.put (some 11) (.pointer (some ⟨b, 0, none⟩))) w' (some (b, u)) y v6 v7 := by
  have hz := h.sz; have ht := h.ts
  refine ⟨by simpa using hz, h.df, by rw [put_size, ht], fun j a1 a2 a3 a4 a5 a6 => by rw [put_tmps, if_neg (Ne.symm a5)]; exact h.off j a1 a2 a3 a4 a5 a6, fun e => ?_, fun e => ?_, ?_, ?_, ?_, ?_, fun e => ?_, fun e => ?_, hm⟩
  · rw [getD_set_ne _ _ _ (by omega) (by decide)] at e; rw [put_other _ _ _ _ (by decide)]; exact h.l0 e
  · rw [getD_set_ne _ _ _ (by omega) (by decide)] at e; rw [put_other _ _ _ _ (by decide)]; exact h.l2 e
  · rw [getD_set_self _ _ (by omega), if_pos rfl]; exact ⟨b, u, rfl, put_self _ _ _ (Nat.lt_of_lt_of_le (by decide) (Nat.le_trans hs (Nat.le_of_eq ht.symm)))⟩
  · rw [getD_set_ne _ _ _ (by omega) (by decide), put_other _ _ _ _ (by decide)]; exact h.y5
  · rw [getD_set_ne _ _ _ (by omega) (by decide), put_other _ _ _ _ (by decide)]; exact h.c1
  · rw [getD_set_ne _ _ _ (by omega) (by decide), put_other _ _ _ _ (by decide)]; exact h.c3
  · rw [getD_set_ne _ _ _ (by omega) (by decide)] at e
    obtain ⟨b, u, hu, _⟩ := h.s6 e
    cases hu
  · rw [getD_set_ne _ _ _ (by omega) (by decide)] at e; exact h.s7 e
theorem TwoI.put5 {b : Nat} {u : Value} (h : TwoI A0 w5 t va L a w x none v6 v7) (hs : 28 ≤ A0.tmps.size) (hm : TwoM w5 w' t x (some (b, u)) v6 v7) : TwoI A0 w5 t va (L.setIfInBounds 5 true) (a.put (some 12) (.pointer (some ⟨b, 0, none⟩))) w' x (some (b, u)) v6 v7 := by
  have hz := h.sz; have ht := h.ts
  refine ⟨by simpa using hz, h.df, by rw [put_size, ht], fun j a1 a2 a3 a4 a5 a6 => by rw [put_tmps, if_neg (Ne.symm a6)]; exact h.off j a1 a2 a3 a4 a5 a6, fun e => ?_, fun e => ?_, ?_, ?_, ?_, ?_, fun e => ?_, fun e => ?_, hm⟩
  · rw [getD_set_ne _ _ _ (by omega) (by decide)] at e; rw [put_other _ _ _ _ (by decide)]; exact h.l0 e
  · rw [getD_set_ne _ _ _ (by omega) (by decide)] at e; rw [put_other _ _ _ _ (by decide)]; exact h.l2 e
  · rw [getD_set_ne _ _ _ (by omega) (by decide), put_other _ _ _ _ (by decide)]; exact h.x4
  · rw [getD_set_self _ _ (by omega), if_pos rfl]; exact ⟨b, u, rfl, put_self _ _ _ (Nat.lt_of_lt_of_le (by decide) (Nat.le_trans hs (Nat.le_of_eq ht.symm)))⟩
  · rw [getD_set_ne _ _ _ (by omega) (by decide), put_other _ _ _ _ (by decide)]; exact h.c1
  · rw [getD_set_ne _ _ _ (by omega) (by decide), put_other _ _ _ _ (by decide)]; exact h.c3
  · rw [getD_set_ne _ _ _ (by omega) (by decide)] at e; exact h.s6 e
  · rw [getD_set_ne _ _ _ (by omega) (by decide)] at e
    obtain ⟨b, u, hu, _⟩ := h.s7 e
    cases hu
theorem TwoI.put6 {b : Nat} {u v : Value} (h : TwoI A0 w5 t va L a w (some (b, u)) y (some v) v7) (hm : TwoM w5 w' t (some (b, v)) y (some v) v7) : TwoI A0 w5 t va (L.setIfInBounds 6 true) a w' (some (b, v)) y (some v) v7 := by
  have hz := h.sz; have ht := h.ts
  refine ⟨by simpa using hz, h.df, ht, h.off, fun e => ?_, fun e => ?_, ?_, ?_, ?_, ?_, fun e => ⟨b, v, rfl, rfl⟩, fun e => ?_, hm⟩
  · rw [getD_set_ne _ _ _ (by omega) (by decide)] at e; exact h.l0 e
  · rw [getD_set_ne _ _ _ (by omega) (by decide)] at e; exact h.l2 e
  · rw [getD_set_ne _ _ _ (by omega) (by decide)]
    have h4 := h.x4
    split at h4
    · obtain ⟨b', u', e1, e2⟩ := h4
      obtain ⟨rfl, rfl⟩ := Prod.mk.inj (Option.some.inj e1)
      rename_i hl
      rw [if_pos hl]
      exact ⟨_, v, rfl, e2⟩
    · cases h4
  · rw [getD_set_ne _ _ _ (by omega) (by decide)]; exact h.y5
  · rw [getD_set_ne _ _ _ (by omega) (by decide)]; exact h.c1
  · rw [getD_set_ne _ _ _ (by omega) (by decide)]; exact h.c3
  · rw [getD_set_ne _ _ _ (by omega) (by decide)] at e; exact h.s7 e
theorem TwoI.put7 {b : Nat} {u v : Value} (h : TwoI A0 w5 t va L a w x (some (b, u)) v6 (some v)) (hm : TwoM w5 w' t x (some (b, v)) v6 (some v)) : TwoI A0 w5 t va (L.setIfInBounds 7 true) a w' x (some (b, v)) v6 (some v) := by
  have hz := h.sz; have ht := h.ts
  refine ⟨by simpa using hz, h.df, ht, h.off, fun e => ?_, fun e => ?_, ?_, ?_, ?_, ?_, fun e => ?_, fun e => ⟨b, v, rfl, rfl⟩, hm⟩
  · rw [getD_set_ne _ _ _ (by omega) (by decide)] at e; exact h.l0 e
  · rw [getD_set_ne _ _ _ (by omega) (by decide)] at e; exact h.l2 e
  · rw [getD_set_ne _ _ _ (by omega) (by decide)]; exact h.x4
  · rw [getD_set_ne _ _ _ (by omega) (by decide)]
    have h4 := h.y5
    split at h4
    · obtain ⟨b', u', e1, e2⟩ := h4
      obtain ⟨rfl, rfl⟩ := Prod.mk.inj (Option.some.inj e1)
      rename_i hl
      rw [if_pos hl]
      exact ⟨_, v, rfl, e2⟩
    · cases h4
  · rw [getD_set_ne _ _ _ (by omega) (by decide)]; exact h.c1
  · rw [getD_set_ne _ _ _ (by omega) (by decide)]; exact h.c3
  · rw [getD_set_ne _ _ _ (by omega) (by decide)] at e; exact h.s6 e
end
set_option maxHeartbeats 4000000 in
theorem two_copies {ops : Array Oper} {id : Nat} {Q : Exit → Act → World → Prop} {A0 : Act} {w5 : World} {t : Tree} {F : Nat → Prop} {ab : Nat} {k2 l2 : Int} {x2 : List UInt8} {a2 : Option Addr} {m2 c2 : Nat}
    (hsz : ops.size = 8) (i0 : IsOp ops 0 (.load 26 (.tmp 7)) (some 24)) (i1 : IsOp ops 1 (.call { callee := .value (.func 11), args := #[.tmp 24], argTypes := #[26] }) (some 25))
    (i2 : IsOp ops 2 (.load 26 (.tmp 7)) (some 26)) (i3 : IsOp ops 3 (.call { callee := .value (.func 11), args := #[.tmp 26], argTypes := #[26] }) (some 27))
    (i4 : IsOp ops 4 (.alloc 32) (some 11)) (i5 : IsOp ops 5 (.alloc 32) (some 12)) (i6 : IsOp ops 6 (.store 32 (.tmp 11) (.tmp 25)) none) (i7 : IsOp ops 7 (.store 32 (.tmp 12) (.tmp 27)) none)
    (r1 : ∀ L, 1 ∈ Region.ready .any ops L → L.getD 0 false = true) (r3 : ∀ L, 3 ∈ Region.ready .any ops L → L.getD 2 false = true)
    (r6 : ∀ L, 6 ∈ Region.ready .any ops L → L.getD 4 false = true ∧ L.getD 1 false = true) (r7 : ∀ L, 7 ∈ Region.ready .any ops L → L.getD 5 false = true ∧ L.getD 3 false = true)
    (hend : ∀ L, L.size = 8 → Region.ready .any ops L = [] → L.getD 4 false = true ∧ L.getD 5 false = true ∧ L.getD 6 false = true ∧ L.getD 7 false = true)
    (hab : A0.tmps[7]?.getD undef = .pointer (some ⟨ab, 0, none⟩)) (hts : 28 ≤ A0.tmps.size)
    (HXA : w5.heap[ab]? = some (.cells #[.int .i64 k2, .string ⟨x2.toArray⟩, .slice a2 m2 c2, .int .i64 l2] 26 (0, 0))) (HTA : IsT w5 F t (.agg #[.int .i64 k2, .string ⟨x2.toArray⟩, .slice a2 m2 c2, .int .i64 l2])) (HSG : sizeT t ≤ 1000000)
    (hQ : ∀ xb yb u24 u25 u26 u27 wx, TwoB w5 wx t xb yb → Q .normal { tmps := (((((A0.tmps.setIfInBounds 24 u24).setIfInBounds 25 u25).setIfInBounds 26 u26).setIfInBounds 27 u27).setIfInBounds 11 (.pointer (some ⟨xb, 0, none⟩))).setIfInBounds 12 (.pointer (some ⟨yb, 0, none⟩)), defers := A0.defers } wx) :
    (Code.region id ops true).wp Tryd.prog Q A0 w5 := by
  refine wp_region_any (by kernel_rfl) ?_
  rw [hsz]
  refine wpAny_inv (fun L a w => ∃ x y v6 v7, TwoI A0 w5 t (.agg #[.int .i64 k2, .string ⟨x2.toArray⟩, .slice a2 m2 c2, .int .i64 l2]) L a w x y v6 v7) ?_ ?_ 8 _ A0 _ (by decide) ?_
  · rintro L a w i ⟨x, y, v6, v7, h⟩ hr
    obtain ⟨hi, hl, _⟩ := ready_mem hr
    have hbel := h.m.bel
    have hxa := keep_blk hbel HXA
    have h7 : a.tmps[7]?.getD undef = .pointer (some ⟨ab, 0, none⟩) := by rw [h.off 7 (by decide) (by decide) (by decide) (by decide) (by decide) (by decide)]; exact hab
    have hL8 := h.sz
    have hlf : L.getD i false = false := by
      have : i < L.size := by omega
      simp only [Array.getD_eq_getD_getElem?, Array.getElem?_eq_getElem this, Option.getD_some] at hl ⊢
      exact hl
    have hcop : ∀ va', va' = (.agg #[.int .i64 k2, .string ⟨x2.toArray⟩, .slice a2 m2 c2, .int .i64 l2] : Value) → Calls Tryd.prog 11 #[va'] w fun e w' => ∃ u, e = .returned u ∧ (IsT w' (New w' w.heap.size) t u ∧ Below w.heap.size w w') := by
      rintro va' rfl
      refine (of_any t F w _ (HTA.step hbel) HSG).mono fun e w' hp => ?_
      obtain ⟨⟨v, he, ht⟩, hb⟩ := hp
      exact ⟨v, he, ht, hb⟩
    rw [hsz] at hi
    have hcase : i = 0 ∨ i = 1 ∨ i = 2 ∨ i = 3 ∨ i = 4 ∨ i = 5 ∨ i = 6 ∨ i = 7 := by omega
    clear hi
    rcases hcase with rfl | rfl | rfl | rfl | rfl | rfl | rfl | rfl
    · obtain ⟨o, e1, e2, e3, e4⟩ := i0
      exact wpOp_of e1 e4 (op_load26 e2 e3 h7 hxa ⟨x, y, v6, v7, h.put0 hts⟩)
    · obtain ⟨o, e1, e2, e3, e4⟩ := i1
      have hv6 : v6 = none := by have h1 := h.c1; rw [hlf, if_neg (by decide)] at h1; exact h1
      subst hv6
      exact wpOp_of e1 e4 (op_call11 e2 e3 rfl (hcop _ (h.l0 (r1 L hr))) fun u w' hu => ⟨x, y, some u, v7, h.put1 hts hlf (h.m.call6 hu.1 hu.2)⟩)
    · obtain ⟨o, e1, e2, e3, e4⟩ := i2
      exact wpOp_of e1 e4 (op_load26 e2 e3 h7 hxa ⟨x, y, v6, v7, h.put2 hts⟩)
    · obtain ⟨o, e1, e2, e3, e4⟩ := i3
      have hv7 : v7 = none := by have h1 := h.c3; rw [hlf, if_neg (by decide)] at h1; exact h1
      subst hv7
      exact wpOp_of e1 e4 (op_call11 e2 e3 rfl (hcop _ (h.l2 (r3 L hr))) fun u w' hu => ⟨x, y, v6, some u, h.put3 hts (h.m.swap6.call6 hu.1 hu.2).swap6⟩)
    · obtain ⟨o, e1, e2, e3, e4⟩ := i4
      have hx : x = none := by have h1 := h.x4; rw [hlf, if_neg (by decide)] at h1; exact h1
      subst hx
      exact wpOp_of e1 e4 (op_alloc32 e4 e2 e3 fun b w' q1 q2 q3 => ⟨some (b, zAgg), y, v6, v7, h.put4 hts (h.m.allocX q1 q2 q3)⟩)
    · obtain ⟨o, e1, e2, e3, e4⟩ := i5
      have hy : y = none := by have h1 := h.y5; rw [hlf, if_neg (by decide)] at h1; exact h1
      subst hy
      exact wpOp_of e1 e4 (op_alloc32 e4 e2 e3 fun b w' q1 q2 q3 => ⟨x, some (b, zAgg), v6, v7, h.put5 hts (h.m.swap.allocX q1 q2 q3).swap⟩)
    · obtain ⟨o, e1, e2, e3, e4⟩ := i6
      obtain ⟨q4, q1⟩ := r6 L hr
      have h4 := h.x4
      have h1 := h.c1
      rw [if_pos q4] at h4
      rw [if_pos q1] at h1
      obtain ⟨b, u, rfl, hp⟩ := h4
      obtain ⟨v, rfl, hv⟩ := h1
      obtain ⟨k6, x6, a6, m6, c6, l6, rfl⟩ := isT_shape (h.m.t6 v rfl)
      obtain ⟨_, d0, d1, d2, d3, _, hb⟩ := h.m.xb b u rfl
      exact wpOp_of e1 e4 (op_store32 e4 e2 e3 hp hv hb fun w' s1 s2 => ⟨_, y, _, v7, h.put6 (h.m.storeX s1 s2)⟩)
    · obtain ⟨o, e1, e2, e3, e4⟩ := i7
      obtain ⟨q4, q1⟩ := r7 L hr
      have h4 := h.y5
      have h1 := h.c3
      rw [if_pos q4] at h4
      rw [if_pos q1] at h1
      obtain ⟨b, u, rfl, hp⟩ := h4
      obtain ⟨v, rfl, hv⟩ := h1
      obtain ⟨k6, x6, a6, m6, c6, l6, rfl⟩ := isT_shape (h.m.t7 v rfl)
      obtain ⟨_, d0, d1, d2, d3, _, hb⟩ := h.m.yb b u rfl
      exact wpOp_of e1 e4 (op_store32 e4 e2 e3 hp hv hb fun w' s1 s2 => ⟨x, _, v6, _, h.put7 (h.m.swap.storeX s1 s2).swap⟩)
  · rintro L a w ⟨x, y, v6, v7, h⟩ hr
    obtain ⟨q4, q5, q6, q7⟩ := hend L h.sz hr
    obtain ⟨xb, v, rfl, rfl⟩ := h.s6 q6
    obtain ⟨yb, u, rfl, rfl⟩ := h.s7 q7
    have h4 := h.x4
    have h5 := h.y5
    rw [if_pos q4] at h4
    rw [if_pos q5] at h5
    obtain ⟨b', u', e1, hp4⟩ := h4
    obtain ⟨rfl, rfl⟩ := Prod.mk.inj (Option.some.inj e1)
    obtain ⟨b'', u'', e2, hp5⟩ := h5
    obtain ⟨rfl, rfl⟩ := Prod.mk.inj (Option.some.inj e2)
    have ht6 := h.m.t6 _ rfl
    have ht7 := h.m.t7 _ rfl
    obtain ⟨k6, x6, a6, m6, c6, l6, rfl⟩ := isT_shape ht6
    obtain ⟨k7, x7, a7, m7, c7, l7, rfl⟩ := isT_shape ht7
    obtain ⟨hx1, d0, d1, d2, d3, hd, hxb⟩ := h.m.xb _ _ rfl
    obtain ⟨hy1, f0, f1, f2, f3, hf, hyb⟩ := h.m.yb _ _ rfl
    simp only [Value.agg.injEq, Array.mk.injEq, List.cons.injEq, and_true] at hd hf
    obtain ⟨rfl, rfl, rfl, rfl⟩ := hd
    obtain ⟨rfl, rfl, rfl, rfl⟩ := hf
    have hB : TwoB w5 w t xb yb := ⟨_, _, _, _, _, _, _, _, _, _, _, _, h.m.bel, hx1, hy1, h.m.ne _ _ _ _ rfl rfl, hxb, hyb, ht6.mono (fun k hk _ => hk.2.2 _ _ rfl), ht7.mono (fun k hk _ => hk.2.2 _ _ rfl)⟩
    have hq := hQ xb yb (a.tmps[24]?.getD undef) (a.tmps[25]?.getD undef) (a.tmps[26]?.getD undef) (a.tmps[27]?.getD undef) w hB
    have ha : a = { tmps := (((((A0.tmps.setIfInBounds 24 (a.tmps[24]?.getD undef)).setIfInBounds 25 (a.tmps[25]?.getD undef)).setIfInBounds 26 (a.tmps[26]?.getD undef)).setIfInBounds 27 (a.tmps[27]?.getD undef)).setIfInBounds 11 (.pointer (some ⟨xb, 0, none⟩))).setIfInBounds 12 (.pointer (some ⟨yb, 0, none⟩)), defers := A0.defers } := by
      have hd := h.df
      have hs := h.ts
      have hoff := h.off
      obtain ⟨tm, df⟩ := a
      dsimp only at *
      subst hd
      congr 1
      apply Array.ext_getElem?
      intro j
      simp only [Array.getElem?_setIfInBounds, Array.size_setIfInBounds]
      by_cases g12 : 12 = j
      · subst g12
        have hj : 12 < tm.size := by omega
        simp only [Array.getElem?_eq_getElem hj, Option.getD_some] at hp5 ⊢
        simp [hp5]; omega
      by_cases g11 : 11 = j
      · subst g11
        have hj : 11 < tm.size := by omega
        simp only [Array.getElem?_eq_getElem hj, Option.getD_some] at hp4 ⊢
        simp [hp4]; omega
      by_cases g27 : 27 = j
      · subst g27
        have hj : 27 < tm.size := by omega
        simp [Array.getElem?_eq_getElem hj]; omega
      by_cases g26 : 26 = j
      · subst g26
        have hj : 26 < tm.size := by omega
        simp [Array.getElem?_eq_getElem hj]; omega
      by_cases g25 : 25 = j
      · subst g25
        have hj : 25 < tm.size := by omega
        simp [Array.getElem?_eq_getElem hj]; omega
      by_cases g24 : 24 = j
      · subst g24
        have hj : 24 < tm.size := by omega
        simp [Array.getElem?_eq_getElem hj]; omega
      rw [if_neg g12, if_neg g11, if_neg g27, if_neg g26, if_neg g25, if_neg g24]
      exact hoff j (Ne.symm g24) (Ne.symm g25) (Ne.symm g26) (Ne.symm g27) (Ne.symm g11) (Ne.symm g12)
    rw [← ha] at hq
    exact hq
  · refine ⟨none, none, none, none, ⟨by simp, rfl, rfl, fun _ _ _ _ _ _ _ => rfl, fun e => by simp at e, fun e => by simp at e, by simp, by simp, by simp, by simp, fun e => by simp at e, fun e => by simp at e, (TwoM.start w5 t).step ((Below.refl _ _).drew)⟩⟩
end Go.Proofs.YtogkiifljdnjgaaDoor
