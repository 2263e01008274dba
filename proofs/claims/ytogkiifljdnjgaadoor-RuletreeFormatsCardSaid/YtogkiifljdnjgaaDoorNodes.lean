/- Nodes: Nodes Of Change, one behind the other. -/
import Derived.Test.YtogkiifljdnjgaaDoorArgs
import Derived.Test.YtogkiifljdnjgaaDoorPair
/- append of one tree of the reference's type; a node whose kids grow. No condition beyond the sizes. -/
namespace Go.Proofs.YtogkiifljdnjgaaDoor
open Go.RowKit
set_option linter.unusedVariables false
set_option linter.unusedSimpArgs false

theorem infoR : (Tryd.prog.info? 26).map (fun i => (i.zero, i.size, i.bytes)) = some (some (.agg #[.int .i64 0, .string ⟨#[]⟩, .slice none 0 0, .int .i64 0]), 4, 56) := by kernel_rfl
theorem undR : Tryd.prog.underlying 24 = some (.slice 26) := by kernel_rfl
theorem run_appR (ty : TypeId) (w : World) (base : Nat) (v : Value) (ts : List Tree) (hown : OwnTs 26 w base v ts) (t : Tree) (a b c d : Value)
    (F : Nat → Prop) (ht : IsT w F t (.agg #[a, b, c, d])) (hF : ∀ k, F k → base ≤ k ∧ k < w.heap.size ∧ v.ownBlock ≠ some k) (hb : ts.length ≤ 1000000) (hbase : base ≤ w.heap.size) :
    ∃ v' w', (Builtin.append_ #[24, 24] ty #[v, .slice (some ⟨w.heap.size, 0, none⟩) 1 1]).run Tryd.prog (w.alloc (.cells #[a, b, c, d] 26)) = .ok v' w' ∧ OwnTs 26 w' base v' (ts ++ [t]) ∧ Below base w w' ∧ (∀ k, k < w.heap.size → v.ownBlock ≠ some k → w'.heap[k]? = w.heap[k]?) := by
  have hblk := heap_alloc_new w (.cells #[a, b, c, d] 26)
  obtain ⟨c0, c1, c2, c3, _⟩ := box4 hblk
  have hbn := bel_new w (.cells #[a, b, c, d] 26)
  obtain ⟨v', w', h1, h2, h3, h4, h5⟩ := run_appT 24 26 undR infoR ty (w.alloc (.cells #[a, b, c, d] 26)) base v ts (hown.step hbn) w.heap.size t a b c d c0 c1 c2 c3 F (ht.step hbn) (fun k hk => ⟨(hF k hk).1, by have := (hF k hk).2.1; simp; omega, (hF k hk).2.2⟩) hb (by simp; omega)
  refine ⟨v', w', h1, h2, (hbn.mono hbase).trans h3, fun k hk hn => ?_⟩
  rw [h4 k (by simp; omega) hn, hbn.block k hk]
theorem wpList_appR {ops : Array Oper} {rest : List Oper} {o : Oper} {A : Act} {Q : Exit → Act → World → Prop} {w : World} (hgd : o.guard = none) (s x : Operand)
    (ho : o.op = .call { callee := .builtin .append, args := #[s, x], argTypes := #[24, 24] })
    (base : Nat) (v : Value) (ts : List Tree) (hs : A.eval s = v) (hown : OwnTs 26 w base v ts) (t : Tree) (a b c d : Value) (hx : A.eval x = .slice (some ⟨w.heap.size, 0, none⟩) 1 1)
    (F : Nat → Prop) (ht : IsT w F t (.agg #[a, b, c, d])) (hF : ∀ k, F k → base ≤ k ∧ k < w.heap.size ∧ v.ownBlock ≠ some k) (hb : ts.length ≤ 1000000) (hbase : base ≤ w.heap.size)
    (h : ∀ v' w', OwnTs 26 w' base v' (ts ++ [t]) → Below base w w' → (∀ k, k < w.heap.size → v.ownBlock ≠ some k → w'.heap[k]? = w.heap[k]?) → wpList Tryd.prog ops Q rest (A.put o.dst v') w') :
    wpList Tryd.prog ops Q (o :: rest) A (w.alloc (.cells #[a, b, c, d] 26)) := by
  obtain ⟨v', w', hrun, h1, h2, h3⟩ := run_appR o.type w base v ts hown t a b c d F ht hF hb hbase
  refine wpList_plain hgd fun K hK => ?_
  unfold Oper.wp
  simp [execOp, ho, resolve, invoke, builtin, hs, hx, hrun, Result.andThen]
  exact hK _ _ (h v' w' h1 h2 h3)
/-- append of one tree, as one step. -/
theorem step_appR {ops : Array Oper} {o : Oper} {A : Act} {K : Act → World → Prop} {Q : Exit → Act → World → Prop} {E : Prop} {w : World} (hgd : o.guard = none) (s x : Operand)
    (ho : o.op = .call { callee := .builtin .append, args := #[s, x], argTypes := #[24, 24] })
    (base : Nat) (v : Value) (ts : List Tree) (hs : A.eval s = v) (hown : OwnTs 26 w base v ts) (t : Tree) (a b c d : Value) (hx : A.eval x = .slice (some ⟨w.heap.size, 0, none⟩) 1 1)
    (F : Nat → Prop) (ht : IsT w F t (.agg #[a, b, c, d])) (hF : ∀ k, F k → base ≤ k ∧ k < w.heap.size ∧ v.ownBlock ≠ some k) (hb : ts.length ≤ 1000000) (hbase : base ≤ w.heap.size)
    (h : ∀ v' w', OwnTs 26 w' base v' (ts ++ [t]) → Below base w w' → (∀ k, k < w.heap.size → v.ownBlock ≠ some k → w'.heap[k]? = w.heap[k]?) → K (A.put o.dst v') w') :
    if Region.wanted o (yielded ops A.tmps) = true then Oper.wp Tryd.prog o A (w.alloc (.cells #[a, b, c, d] 26)) K Q else E := by
  have hw : Region.wanted o (yielded ops A.tmps) = true := by simp [Region.wanted, hgd]
  rw [if_pos hw]
  obtain ⟨v', w', hrun, h1, h2, h3⟩ := run_appR o.type w base v ts hown t a b c d F ht hF hb hbase
  unfold Oper.wp
  simp [execOp, ho, resolve, invoke, builtin, hs, hx, hrun, Result.andThen]
  exact h v' w' h1 h2 h3
theorem bel_of_drew {B : Nat} {w w' : World} (h : Below B w.drew w') : Below B w w' := ⟨h.os, h.tape, h.output, h.size, h.block⟩
/-- A result's box rb, a node's box nb whose kids are of the call's own. -/
def Nd (T : TypeId) (w wx : World) (rb nb base : Nat) (k : Int) (tx : List UInt8) (l : Int) (ks : List Tree) : Prop :=
  ∃ kv, wx.heap[rb]? = some (.cells #[.int .i64 0, .string ⟨#[]⟩, .slice none 0 0, .int .i64 0] T (0, 0)) ∧ wx.heap[nb]? = some (.cells #[.int .i64 k, .string ⟨tx.toArray⟩, kv, .int .i64 l] T (0, 0)) ∧
    OwnTs T wx base kv ks ∧ Below w.heap.size w wx
theorem Nd.step {T : TypeId} {w wx wy : World} {rb nb base : Nat} {k l : Int} {tx : List UInt8} {ks : List Tree} (h : Nd T w wx rb nb base k tx l ks) (hb : Below wx.heap.size wx wy) : Nd T w wy rb nb base k tx l ks := by
  obtain ⟨kv, h1, h2, h3, h4⟩ := h
  exact ⟨kv, keep_blk hb h1, keep_blk hb h2, h3.step hb, h4.trans (hb.mono h4.size)⟩
/-- A kid more: the append left w2, the store is done. -/
theorem Nd.add {T : TypeId} {w wx w1 w2 w3 : World} {rb nb base : Nat} {k l : Int} {tx : List UInt8} {ks : List Tree} {kv v2 : Value} {t : Tree} (hr : w.heap.size ≤ rb) (hn : rb < nb) (hb : nb < base)
    (hrb : wx.heap[rb]? = some (.cells #[.int .i64 0, .string ⟨#[]⟩, .slice none 0 0, .int .i64 0] T (0, 0))) (hnb : wx.heap[nb]? = some (.cells #[.int .i64 k, .string ⟨tx.toArray⟩, kv, .int .i64 l] T (0, 0)))
    (hon : Below w.heap.size w wx) (ho1 : Below wx.heap.size wx w1) (hown : OwnTs T w2 base v2 (ks ++ [t])) (hb2 : Below base w1 w2) (h3 : w3 = w2.setCell ⟨nb, 2, none⟩ v2) :
    Nd T w w3 rb nb base k tx l (ks ++ [t]) := by
  subst h3
  have hl := block_lt hnb
  have hz := ho1.size
  have hr2 : w2.heap[rb]? = _ := (hb2.block _ (by omega)).trans (keep_blk ho1 hrb)
  have hn2 : w2.heap[nb]? = _ := (hb2.block _ (by omega)).trans (keep_blk ho1 hnb)
  have hw2 : Below w.heap.size w w2 := (hon.trans (ho1.mono hon.size)).trans (hb2.mono (by omega))
  refine ⟨v2, Only.set.keep hr2 (by omega), ?_, ?_, hw2.trans (Only.set.below (by omega) hw2.size)⟩
  · have h := Joins.block_setCell (i := 2) hn2 v2
    simpa using h
  · exact hown.only (pb := nb) Only.set (by omega)
/-- What a function that makes a tree leaves. -/
def PostT (w w' : World) (t : Tree) (e : Ending) : Prop := (∃ v, e = .returned v ∧ IsT w' (New w' w.heap.size) t v) ∧ Below w.heap.size w w'
theorem Nd.done {T : TypeId} {w wx w' : World} {rb base : Nat} {k l : Int} {tx : List UInt8} {ks : List Tree} {kv : Value} (hr : w.heap.size ≤ rb) (hb : rb < base) (h : OwnTs T wx base kv ks) (hB : Below w.heap.size w wx) (hw : Only rb wx w') :
    PostT w w' (.node k tx ks l) (.returned (.agg #[.int .i64 k, .string ⟨tx.toArray⟩, kv, .int .i64 l])) :=
  ⟨⟨_, rfl, IsT.of ((IsKids.only h.kids hw hb).mono (fun b hb' hlt => ⟨by have := hb'.1; omega, hlt⟩))⟩, hB.trans (hw.below hr hB.size)⟩
theorem Nd.size {wx : World} {nb T : Nat} {a b c d : Value} (hn : wx.heap[nb]? = some (.cells #[a, b, c, d] T (0, 0))) : nb + 1 ≤ wx.heap.size := block_lt hn
end Go.Proofs.YtogkiifljdnjgaaDoor

/- The walk of Of. Condition: a size's bound. -/
namespace Go.Proofs.YtogkiifljdnjgaaDoor
open Go.RowKit
set_option linter.unusedVariables false
set_option linter.unusedSimpArgs false

def OfC (n : Nat) : Prop := ∀ (t : Tree) (F : Nat → Prop) (w : World) (v : Value), IsT w F t v → depthT t ≤ n → sizeT t ≤ 1000000 → Calls Tryd.prog 11 #[v] w fun e w' => PostT w w' t e
set_option maxRecDepth 20000 in
set_option maxHeartbeats 2000000 in
theorem of_con (n : Nat) (HC : OfC n) : OfC (n + 1) := by
  intro t F w v ht hd hs
  obtain ⟨k, tx, ks, l⟩ := t
  obtain ⟨kv, rfl, hks⟩ := isT_node.1 ht
  rw [depthT_node] at hd
  rw [sizeT_node] at hs
  have HK := Lib.hid hks
  have HCall := Lib.hid HC
  have HD := Lib.hid hd
  have HS := Lib.hid hs
  obtain ⟨a, c, rfl⟩ : ∃ a c, kv = .slice a ks.length c := by
    obtain ⟨a, c, hv, _⟩ := hks
    exact ⟨a, c, hv⟩
  have hl : ks.length ≤ 1000000 := by have := len_le_size ks; omega
  have HN0 : Hid (Nd 32 w (((w.alloc (.cells #[.int .i64 k, .string ⟨tx.toArray⟩, .slice a ks.length c, .int .i64 l] 26)).alloc (.cells #[.int .i64 0, .string ⟨#[]⟩, .slice none 0 0, .int .i64 0] 32)).alloc (.cells #[.int .i64 k, .string ⟨tx.toArray⟩, .slice none 0 0, .int .i64 l] 32)) (w.heap.size + 1) (w.heap.size + 2) (w.heap.size + 3) k tx l []) := by
    refine Lib.hid ⟨_, ?_, ?_, OwnTs.nil _ _ _, ((bel_new w _).alloc (by simp) _).alloc (by simp; omega) _⟩
    · have h := heap_alloc_new (w.alloc (.cells #[.int .i64 k, .string ⟨tx.toArray⟩, .slice a ks.length c, .int .i64 l] 26)) (.cells #[.int .i64 0, .string ⟨#[]⟩, .slice none 0 0, .int .i64 0] 32)
      have hsz : (w.alloc (.cells #[.int .i64 k, .string ⟨tx.toArray⟩, .slice a ks.length c, .int .i64 l] 26)).heap.size = w.heap.size + 1 := by simp
      rw [hsz] at h
      exact new_blk h
    · have h := heap_alloc_new ((w.alloc (.cells #[.int .i64 k, .string ⟨tx.toArray⟩, .slice a ks.length c, .int .i64 l] 26)).alloc (.cells #[.int .i64 0, .string ⟨#[]⟩, .slice none 0 0, .int .i64 0] 32)) (.cells #[.int .i64 k, .string ⟨tx.toArray⟩, .slice none 0 0, .int .i64 l] 32)
      have hsz : ((w.alloc (.cells #[.int .i64 k, .string ⟨tx.toArray⟩, .slice a ks.length c, .int .i64 l] 26)).alloc (.cells #[.int .i64 0, .string ⟨#[]⟩, .slice none 0 0, .int .i64 0] 32)).heap.size = w.heap.size + 2 := by simp
      rw [hsz] at h
      exact h
  clear ht hd hs hks HC
  go_enter Tryd.func11, Tryd.ntmps11
  go_wp2_with fail
  go_loopw [16] (fun i wr => ∃ q : Nat, i = .int .i64 q ∧ q ≤ ks.length ∧ Nd 32 w wr (w.heap.size + 1) (w.heap.size + 2) (w.heap.size + 3) k tx l (ks.take q)) (fun i _ => ks.length - (intOf i).toNat)
  case atStart => exact ⟨0, rfl, Nat.zero_le _, HN0.out⟩
  case round =>
    obtain ⟨q, rfl, hq, hnd⟩ := hrel
    obtain ⟨kv, hrb, hnb, how, hbl⟩ := hnd
    obtain ⟨ak, ck, hkv⟩ := how.shape
    rw [List.length_take, Nat.min_eq_left hq] at hkv
    subst hkv
    have HRB := Lib.hid hrb
    have HNB := Lib.hid hnb
    have HOW := Lib.hid how
    have HBL := Lib.hid hbl
    have hsz := Nd.size hnb
    clear hrb hnb how hbl
    by_cases hlt : q < ks.length
    · obtain ⟨t', ht'⟩ : ∃ t', ks[q]? = some t' := ⟨_, List.getElem?_eq_getElem hlt⟩
      obtain ⟨b, off, cap, k0, x0, a0, m0, n0, l0, hv, c0, c1, c2, c3, hT⟩ := IsKids.at (HK.out.step HBL.out) ht'
      simp only [Value.slice.injEq] at hv
      obtain ⟨rfl, _, rfl⟩ := hv
      have h3 := depthT_at ht'
      have h4 := sizeT_at ht'
      have HT := Lib.hid hT
      have HTK := Lib.hid (take_next ht')
      have HCC := Lib.hid (fun W (hW : Below wr.heap.size wr W) => HCall.out t' F W _ (hT.step hW) (by have := HD.out; omega) (by have := HS.out; omega))
      have HLT := Lib.hid (show (ks.take q ++ [t']).length = q + 1 by simp; omega)
      have hlti : (q : Int) < (ks.length : Int) := by omega
      clear h3 h4 hT ht'
      go_upto_region 5 with fail
      have HA := Lib.hid (bel_new wr (.cells #[.int .i64 k0, .string ⟨x0.toArray⟩, .slice a0 m0 n0, .int .i64 l0] 26))
      have HRA := Lib.hid (new_blk (y := .cells #[.int .i64 k0, .string ⟨x0.toArray⟩, .slice a0 m0 n0, .int .i64 l0] 26) HRB.out)
      have HNA := Lib.hid (new_blk (y := .cells #[.int .i64 k0, .string ⟨x0.toArray⟩, .slice a0 m0 n0, .int .i64 l0] 26) HNB.out)
      have HTA := Lib.hid (heap_alloc_new wr (.cells #[.int .i64 k0, .string ⟨x0.toArray⟩, .slice a0 m0 n0, .int .i64 l0] 26))
      clear c0 c1 c2 c3
      generalize World.alloc wr _ = A at *
      have hsa : wr.heap.size < A.heap.size := block_lt HTA.out
      obtain ⟨b0, b1, b2, b3, z0, z1, z2, z3⟩ := box4 HNA.out
      obtain ⟨d0, d1, d2, d3, y0, y1, y2, y3⟩ := box4 HTA.out
      go_region_law (first | (go_simp; go_at_call 11; (refine (HCC.out A.drew HA.out.drew).mono ?_); rintro e w1 ⟨⟨v1, rfl, ht1⟩, hb1⟩; obtain ⟨k1, x1, a1, m1, c1, l1, rfl⟩ := isT_shape ht1; have HT1 := Lib.hid ht1; have HB1 := Lib.hid (show Below A.heap.size A w1 from bel_of_drew hb1); have HN1 := Lib.hid (keep_blk HB1.out HNA.out); obtain ⟨b0, b1, b2, b3, z0, z1, z2, z3⟩ := box4 HN1.out; have hln := block_lt HN1.out; clear ht1 hb1) | (refine step_appN rfl (.tmp 21) (.tmp 24) rfl (w.heap.size + 3) _ (ks.take q) rfl ((HOW.out.step HA.out).step HB1.out) t' _ _ _ _ rfl (New w1 A.drew.heap.size) HT1.out (fun k hk => ⟨by have h1 := hk.1; have h2 : A.drew.heap.size = A.heap.size := rfl; omega, hk.2, fun e => by have h1 := (HOW.out.lt k e).2; have h2 := hk.1; have h3 : A.drew.heap.size = A.heap.size := rfl; omega⟩) (by simp; omega) (by have h1 := HB1.out.size; omega) ?_; intro v2 w2 ho2 hb2 hk2; have HO2 := Lib.hid ho2; obtain ⟨a2, c2, rfl⟩ := ho2.shape; have HB2 := Lib.hid hb2; have HN2 := Lib.hid ((hk2 _ hln (fun e => by have h1 := (HOW.out.lt _ e).1; omega)).trans HN1.out); obtain ⟨b0, b1, b2, b3, z0, z1, z2, z3⟩ := box4 HN2.out; clear ho2 hb2 hk2))
      all_goals
        go_wp2_with fail
        go_roundw
        case rel => exact ⟨q + 1, by go_num, by omega, by rw [HTK.out]; exact Nd.add (by omega) (by omega) (by omega) HRA.out HNA.out (HBL.out.trans (HA.out.mono HBL.out.size)) HB1.out HO2.out HB2.out (by rw [HLT.out])⟩
        case measure => simp [intOf]; omega
    · have hq2 : q = ks.length := by omega
      subst hq2
      have HOW2 : Hid (OwnTs 32 wr (w.heap.size + 3) (.slice ak ks.length ck) ks) := Lib.hid (by have h := HOW.out; rwa [show ks.take ks.length = ks from List.take_length] at h)
      obtain ⟨b0, b1, b2, b3, z0, z1, z2, z3⟩ := box4 HNB.out
      obtain ⟨r0, r1, r2, r3, q0, q1, q2, q3⟩ := box4 HRB.out
      go_wp2_with fail
      refine bodyPost_ret (v := .agg #[.int .i64 k, .string ⟨tx.toArray⟩, .slice ak ks.length ck, .int .i64 l]) (by simp [results, Tryd.results11, go_sem, r0, r1, r2, r3, q0, q1, q2, q3]) rfl ?_
      exact Nd.done (by omega) (by omega) HOW2.out HBL.out (Only.set4 _ _ _ _ _ _)
theorem of_all : ∀ n, OfC n
  | 0 => fun t F w v ht hd hs => by have := depth_pos t; omega
  | n + 1 => of_con n (of_all n)
theorem of_any (t : Tree) (F : Nat → Prop) (w : World) (v : Value) (h : IsT w F t v) (hs : sizeT t ≤ 1000000) : Calls Tryd.prog 11 #[v] w fun e w' => PostT w w' t e := of_all _ t F w v h (Nat.le_refl _) hs
end Go.Proofs.YtogkiifljdnjgaaDoor

/- changed, in plain Lean and walked, at the law's own change. Condition: a size's bound. -/
namespace Go.Proofs.YtogkiifljdnjgaaDoor
open Go.RowKit
set_option linter.unusedVariables false
set_option linter.unusedSimpArgs false

def otherL : List UInt8 := [111, 116, 104, 101, 114]
mutual
def chT : Tree → Int → Tree × Int
  | .node k t ks l, c => (.node k (if c = 0 then otherL else t) (chL ks (c - 1)).1 l, (chL ks (c - 1)).2)
def chL : List Tree → Int → List Tree × Int
  | [], c => ([], c)
  | t :: ts, c => ((chT t c).1 :: (chL ts (chT t c).2).1, (chL ts (chT t c).2).2)
end
theorem chT_node (k : Int) (t : List UInt8) (ks : List Tree) (l c : Int) : chT (.node k t ks l) c = (.node k (if c = 0 then otherL else t) (chL ks (c - 1)).1 l, (chL ks (c - 1)).2) := by rw [chT]
theorem chL_nil (c : Int) : chL [] c = ([], c) := by rw [chL]
theorem chL_cons (t : Tree) (ts : List Tree) (c : Int) : chL (t :: ts) c = ((chT t c).1 :: (chL ts (chT t c).2).1, (chL ts (chT t c).2).2) := by rw [chL]
theorem chL_append : ∀ (xs ys : List Tree) (c : Int), chL (xs ++ ys) c = ((chL xs c).1 ++ (chL ys (chL xs c).2).1, (chL ys (chL xs c).2).2)
  | [], ys, c => by rw [List.nil_append, chL_nil]; rfl
  | x :: xs, ys, c => by rw [List.cons_append, chL_cons, chL_append xs ys, chL_cons]; rfl
theorem chL_take {ks : List Tree} {q : Nat} {t : Tree} (h : ks[q]? = some t) (c : Int) : chL (ks.take (q + 1)) c = ((chL (ks.take q) c).1 ++ [(chT t (chL (ks.take q) c).2).1], (chT t (chL (ks.take q) c).2).2) := by
  rw [take_next h, chL_append, chL_cons, chL_nil]
mutual
theorem chT_cnt : ∀ (t : Tree) (c : Int), (chT t c).2 = c - sizeT t
  | .node k t ks l, c => by rw [chT_node, sizeT_node, chL_cnt ks (c - 1)]; push_cast; omega
theorem chL_cnt : ∀ (ts : List Tree) (c : Int), (chL ts c).2 = c - sizeL ts
  | [], c => by rw [chL_nil, sizeL_nil]; show c = c - ((0 : Nat) : Int); omega
  | t :: ts, c => by rw [chL_cons, sizeL_cons, chL_cnt ts, chT_cnt t]; push_cast; omega
end
theorem chL_len : ∀ (ts : List Tree) (c : Int), (chL ts c).1.length = ts.length
  | [], c => by rw [chL_nil]
  | t :: ts, c => by rw [chL_cons, List.length_cons, List.length_cons, chL_len ts]
mutual
theorem chT_same : ∀ (t : Tree) (c : Int), c < 0 ∨ (sizeT t : Int) ≤ c → (chT t c).1 = t
  | .node k t ks l, c, h => by
    rw [sizeT_node] at h
    rw [chT_node, if_neg (by omega), chL_same ks (c - 1) (by omega)]
theorem chL_same : ∀ (ts : List Tree) (c : Int), c < 0 ∨ (sizeL ts : Int) ≤ c → (chL ts c).1 = ts
  | [], c, _ => by rw [chL_nil]
  | t :: ts, c, h => by
    rw [sizeL_cons] at h
    rw [chL_cons, chT_same t c (by omega), chT_cnt, chL_same ts _ (by omega)]
end
mutual
theorem chT_size : ∀ (t : Tree) (c : Int), sizeT (chT t c).1 = sizeT t
  | .node k t ks l, c => by rw [chT_node]; rw [sizeT_node, sizeT_node, chL_size ks]
theorem chL_size : ∀ (ts : List Tree) (c : Int), sizeL (chL ts c).1 = sizeL ts
  | [], c => by rw [chL_nil]
  | t :: ts, c => by rw [chL_cons, sizeL_cons, sizeL_cons, chT_size t, chL_size ts]
end
/-- What changed leaves: the tree, and the count. -/
def PostC (w w' : World) (pk : Nat) (r : Tree × Int) (e : Ending) : Prop :=
  (∃ v, e = .returned v ∧ IsT w' (New w' w.heap.size) r.1 v) ∧ w'.heap[pk]? = some (.cells #[.int .i64 r.2] 3 (0, 0)) ∧ Only pk w w'
def ChC (n : Nat) : Prop := ∀ (t : Tree) (F : Nat → Prop) (w : World) (v : Value) (pk : Nat) (c : Int), IsT w F t v → depthT t ≤ n → sizeT t ≤ 1000000 → w.heap[pk]? = some (.cells #[.int .i64 c] 3 (0, 0)) → (∀ b, F b → b ≠ pk) → -1000000 ≤ c - sizeT t → c ≤ 1000 →
  Calls Tryd.prog 10 #[v, .pointer (some ⟨pk, 0, none⟩), .agg #[.int .i64 0, .string ⟨#[111, 116, 104, 101, 114]⟩, .slice none 0 0, .int .i64 0]] w fun e w' => PostC w w' pk (chT t c) e
theorem IsT.other {w w' : World} {F : Nat → Prop} {t : Tree} {v : Value} {b : Nat} (h : IsT w F t v) (ho : Only b w w') (hF : ∀ k, F k → k ≠ b) : IsT w' F t v :=
  h.keep (fun k hk hlt => ho.block k hlt (fun e => hF k hk (Option.some.inj e))) (fun _ h _ => h) _ _
theorem IsKids.other {w w' : World} {F : Nat → Prop} {ks : List Tree} {v : Value} {b : Nat} (h : IsKids w F ks v) (ho : Only b w w') (hF : ∀ k, F k → k ≠ b) : IsKids w' F ks v :=
  h.keep (fun k hk hlt => ho.block k hlt (fun e => hF k hk (Option.some.inj e))) (fun _ h _ => h)
theorem PostC.done {w wr wa w' : World} {pk : Nat} {k l c : Int} {tx : List UInt8} {L : List Tree} {kv : Value} (hon : Only pk w wr) (hpk : wr.heap[pk]? = some (.cells #[.int .i64 c] 3 (0, 0))) (how : OwnTs 26 wr (w.heap.size + 3) kv L)
    (h1 : Only w.heap.size wr wa) (h2 : Only (w.heap.size + 2) wa w') (hlt : pk < w.heap.size) : PostC w w' pk (.node k tx L l, c) (.returned (.agg #[.int .i64 k, .string ⟨tx.toArray⟩, kv, .int .i64 l])) :=
  ⟨⟨_, rfl, IsT.of ((((how.only h1 (by omega)).only h2 (by omega)).kids).mono fun b hb hl => ⟨by have := hb.1; omega, hl⟩)⟩, h2.keep (h1.keep hpk (by omega)) (by omega), (hon.new h1 (Nat.le_refl _)).new h2 (by omega)⟩
set_option maxRecDepth 20000 in
set_option maxHeartbeats 2000000 in
theorem ch_con (n : Nat) (HC : ChC n) : ChC (n + 1) := by
  intro t F w v pk c ht hd hs hpk hF hc1 hc2
  obtain ⟨k, tx, ks, l⟩ := t
  obtain ⟨kv, rfl, hks⟩ := isT_node.1 ht
  rw [depthT_node] at hd
  rw [sizeT_node] at hs hc1
  rw [chT_node]
  have HK := Lib.hid hks
  have HCall := Lib.hid HC
  have HD := Lib.hid hd
  have HS := Lib.hid hs
  have HF := Lib.hid hF
  have HPK := Lib.hid hpk
  obtain ⟨a, ca, rfl⟩ : ∃ a c, kv = .slice a ks.length c := by
    obtain ⟨a, c, hv, _⟩ := hks
    exact ⟨a, c, hv⟩
  have hl : ks.length ≤ 1000000 := by have := len_le_size ks; omega
  have hplt : pk < w.heap.size := block_lt hpk
  have n1 : ¬ pk = w.heap.size := by omega
  have n2 : ¬ pk = w.heap.size + 1 := by omega
  have n3 : ¬ pk = w.heap.size + 2 := by omega
  have n4 : ¬ w.heap.size = pk := by omega
  have n5 : ¬ w.heap.size + 1 = pk := by omega
  have n6 : ¬ w.heap.size + 2 = pk := by omega
  have hc3 : (-1000000 : Int) ≤ c := by omega
  have HC1 := Lib.hid hc1
  obtain ⟨R, hR⟩ : ∃ R, (Tree.node k (if c = 0 then otherL else tx) (chL ks (c - 1)).1 l, (chL ks (c - 1)).2) = R := ⟨_, rfl⟩
  rw [hR]
  have HR := Lib.hid hR
  clear hR ht hd hs hks HC hpk hF hc1
  go_enter Tryd.func10, Tryd.ntmps10
  go_upto_region 1 with fail
  have HA := Lib.hid (show Below w.heap.size w (((w.alloc (.cells #[.int .i64 k, .string ⟨tx.toArray⟩, .slice a ks.length ca, .int .i64 l] 26)).alloc (.cells #[.int .i64 0, .string ⟨#[111, 116, 104, 101, 114]⟩, .slice none 0 0, .int .i64 0] 26)).alloc (.cells #[.int .i64 0, .string ⟨#[]⟩, .slice none 0 0, .int .i64 0] 26)) from ((bel_new w _).alloc (by simp) _).alloc (by simp; omega) _)
  have HX0 := Lib.hid (new_blk (y := (.cells #[.int .i64 0, .string ⟨#[]⟩, .slice none 0 0, .int .i64 0] 26)) (new_blk (y := (.cells #[.int .i64 0, .string ⟨#[111, 116, 104, 101, 114]⟩, .slice none 0 0, .int .i64 0] 26)) (heap_alloc_new w (.cells #[.int .i64 k, .string ⟨tx.toArray⟩, .slice a ks.length ca, .int .i64 l] 26))))
  have hx1 := new_blk (y := (.cells #[.int .i64 0, .string ⟨#[]⟩, .slice none 0 0, .int .i64 0] 26)) (heap_alloc_new (w.alloc (.cells #[.int .i64 k, .string ⟨tx.toArray⟩, .slice a ks.length ca, .int .i64 l] 26)) (.cells #[.int .i64 0, .string ⟨#[111, 116, 104, 101, 114]⟩, .slice none 0 0, .int .i64 0] 26))
  have hx2 := heap_alloc_new ((w.alloc (.cells #[.int .i64 k, .string ⟨tx.toArray⟩, .slice a ks.length ca, .int .i64 l] 26)).alloc (.cells #[.int .i64 0, .string ⟨#[111, 116, 104, 101, 114]⟩, .slice none 0 0, .int .i64 0] 26)) (.cells #[.int .i64 0, .string ⟨#[]⟩, .slice none 0 0, .int .i64 0] 26)
  have hz1 : (w.alloc (.cells #[.int .i64 k, .string ⟨tx.toArray⟩, .slice a ks.length ca, .int .i64 l] 26)).heap.size = w.heap.size + 1 := by simp
  have hz2 : ((w.alloc (.cells #[.int .i64 k, .string ⟨tx.toArray⟩, .slice a ks.length ca, .int .i64 l] 26)).alloc (.cells #[.int .i64 0, .string ⟨#[111, 116, 104, 101, 114]⟩, .slice none 0 0, .int .i64 0] 26)).heap.size = w.heap.size + 2 := by simp
  rw [hz1] at hx1
  rw [hz2] at hx2
  have hz3 : (((w.alloc (.cells #[.int .i64 k, .string ⟨tx.toArray⟩, .slice a ks.length ca, .int .i64 l] 26)).alloc (.cells #[.int .i64 0, .string ⟨#[111, 116, 104, 101, 114]⟩, .slice none 0 0, .int .i64 0] 26)).alloc (.cells #[.int .i64 0, .string ⟨#[]⟩, .slice none 0 0, .int .i64 0] 26)).heap.size = w.heap.size + 3 := by simp
  have HX1 := Lib.hid hx1
  have HX2 := Lib.hid hx2
  have HPA := Lib.hid (keep_blk HA.out HPK.out)
  clear hx1 hx2 hz1 hz2
  generalize World.alloc (World.alloc (World.alloc w _) _) _ = A at *
  have HZ3 := Lib.hid hz3
  clear hz3
  have p0 : A.cell? ⟨pk, 0, none⟩ = some (.int .i64 c) := by simp [World.cell?, HPA.out]
  have p1 : A.frozen? ⟨pk, 0, none⟩ = false := by simp [World.frozen?, HPA.out]
  have HB1 := Lib.hid (Joins.block_setCell (i := 0) HPA.out (.int .i64 (c - 1)))
  have HO1 := Lib.hid ((Only.of_below (b := pk) HA.out).trans (Only.set (b := pk) (k := 0) (w := A) (u := .int .i64 (c - 1))))
  have HY0 := Lib.hid (Only.keep (Only.set (b := pk) (k := 0) (w := A) (u := .int .i64 (c - 1))) HX0.out n4)
  have HY1 := Lib.hid (Only.keep (Only.set (b := pk) (k := 0) (w := A) (u := .int .i64 (c - 1))) HX1.out n5)
  have HY2 := Lib.hid (Only.keep (Only.set (b := pk) (k := 0) (w := A) (u := .int .i64 (c - 1))) HX2.out n6)
  obtain ⟨b0, b1, b2, b3, z0, z1, z2, z3⟩ := box4 HX0.out
  go_upto_region 5 with fail
  go_loopw [8, 23] (fun x i wr => ∃ q : Nat, i = .int .i64 q ∧ q ≤ ks.length ∧ OwnTs 26 wr (w.heap.size + 3) x (chL (ks.take q) (c - 1)).1 ∧ wr.heap[pk]? = some (.cells #[.int .i64 (chL (ks.take q) (c - 1)).2] 3 (0, 0)) ∧ wr.heap[w.heap.size]? = some (.cells #[.int .i64 k, .string ⟨tx.toArray⟩, .slice a ks.length ca, .int .i64 l] 26 (0, 0)) ∧ wr.heap[w.heap.size + 1]? = some (.cells #[.int .i64 0, .string ⟨#[111, 116, 104, 101, 114]⟩, .slice none 0 0, .int .i64 0] 26 (0, 0)) ∧ wr.heap[w.heap.size + 2]? = some (.cells #[.int .i64 0, .string ⟨#[]⟩, .slice none 0 0, .int .i64 0] 26 (0, 0)) ∧ Only pk w wr) (fun _ i _ => ks.length - (intOf i).toNat)
  case atStart => exact ⟨0, rfl, Nat.zero_le _, by rw [List.take_zero, chL_nil]; exact OwnTs.nil _ _ _, by rw [List.take_zero, chL_nil]; simpa using HB1.out, HY0.out, HY1.out, HY2.out, HO1.out⟩
  case round =>
    obtain ⟨q, rfl, hq, how, hpk, hx0, hx1, hx2, hon⟩ := hrel
    obtain ⟨ak, ck, hkv⟩ := how.shape
    rw [chL_len, List.length_take, Nat.min_eq_left hq] at hkv
    subst hkv
    have HOW := Lib.hid how
    have HPW := Lib.hid hpk
    have HW0 := Lib.hid hx0
    have HW1 := Lib.hid hx1
    have HW2 := Lib.hid hx2
    have HON := Lib.hid hon
    have hsz : w.heap.size + 3 ≤ wr.heap.size := block_lt hx2
    have hsz1 : w.heap.size + 1 < wr.heap.size := by omega
    have hsz2 : ¬ w.heap.size + 1 = wr.heap.size := by omega
    clear how hpk hx0 hx1 hx2 hon
    by_cases hlt : q < ks.length
    · obtain ⟨t', ht'⟩ : ∃ t', ks[q]? = some t' := ⟨_, List.getElem?_eq_getElem hlt⟩
      obtain ⟨b, off, cap, k0, x0, a0, m0, n0, l0, hv, c0, c1, c2, c3, hT⟩ := IsKids.at (HK.out.other HON.out HF.out) ht'
      simp only [Value.slice.injEq] at hv
      obtain ⟨rfl, _, rfl⟩ := hv
      have h1 := chL_take ht' (c - 1)
      have h3 := depthT_at ht'
      have h4 := sizeL_take ht'
      have h5 := sizeL_take_le ks (q + 1)
      have h6 := chL_cnt (ks.take q) (c - 1)
      have h7 := sizeT_at ht'
      have h8 := chL_len (ks.take q) (c - 1)
      have HLN := Lib.hid (show (chL (ks.take q) (c - 1)).1.length ≤ 1000000 by rw [h8, List.length_take]; omega)
      have HT := Lib.hid hT
      have HCC := Lib.hid (fun W (hW : Below wr.heap.size wr W) => HCall.out t' F W _ pk (chL (ks.take q) (c - 1)).2 (hT.step hW) (by have := HD.out; omega) (by have := HS.out; omega) (keep_blk hW HPW.out) HF.out (by have := HC1.out; omega) (by omega))
      have HTK := Lib.hid h1
      have HLT := Lib.hid (show ((chL (ks.take q) (c - 1)).1 ++ [(chT t' (chL (ks.take q) (c - 1)).2).1]).length = q + 1 by rw [List.length_append, h8, List.length_take, Nat.min_eq_left hq]; rfl)
      have hlti : (q : Int) < (ks.length : Int) := by omega
      clear h1 h3 h4 h5 h6 h7 h8 hT ht'
      generalize (chL (ks.take q) (c - 1)).1 = L0 at *
      generalize (chL (ks.take q) (c - 1)).2 = C0 at *
      obtain ⟨e0, e1, e2, e3, y0, y1, y2, y3⟩ := box4 HW1.out
      go_wp2_with (first | (go_at_call 10; (with_reducible refine (HCC.out _ (bel_new _ _)).mono ?_); rintro e w1 ⟨⟨v1, rfl, ht1⟩, hpk1, ho1⟩; obtain ⟨k1, x1, a1, m1, c1, l1, rfl⟩ := isT_shape ht1; have HT1 := Lib.hid ht1; have HP1 := Lib.hid hpk1; have HO1' := Lib.hid ((Only.of_below (b := pk) (bel_new wr (.cells #[.int .i64 k0, .string ⟨x0.toArray⟩, .slice a0 m0 n0, .int .i64 l0] 26))).trans ho1); clear ht1 hpk1 ho1) | (at_builtin; refine wpList_appR rfl (.tmp 27) (.tmp 32) rfl (w.heap.size + 3) _ L0 rfl (HOW.out.only HO1'.out (by omega)) (chT t' C0).1 _ _ _ _ rfl (New w1 (wr.alloc (.cells #[.int .i64 k0, .string ⟨x0.toArray⟩, .slice a0 m0 n0, .int .i64 l0] 26)).heap.size) HT1.out (fun k hk => ⟨by have h1 := hk.1; simp at h1; omega, hk.2, fun e => by have h1 := (HOW.out.lt k e).2; have h2 := hk.1; simp at h2; omega⟩) HLN.out (by have h1 := HO1'.out.size; omega) ?_; intro v2 w2 ho2 hb2 hk2; have HO2 := Lib.hid ho2; have HB2 := Lib.hid hb2; clear ho2 hb2 hk2))
      go_roundw
      case rel => exact ⟨q + 1, by go_num, by omega, by rw [HTK.out]; exact HO2.out, by rw [HTK.out]; exact (HB2.out.block _ (by omega)).trans HP1.out, (HB2.out.block _ (by omega)).trans (HO1'.out.keep HW0.out n4), (HB2.out.block _ (by omega)).trans (HO1'.out.keep HW1.out n5), (HB2.out.block _ (by omega)).trans (HO1'.out.keep HW2.out n6), ((HON.out.trans HO1'.out).bel2 (HB2.out.mono (by omega)))⟩
      case measure => simp [intOf]; omega
    · have hq2 : q = ks.length := by omega
      subst hq2
      rw [List.take_length] at HOW HPW
      have hlen := chL_len ks (c - 1)
      have HCN := Lib.hid (show (chL ks (c - 1)).1.length = ks.length from hlen)
      clear hlen
      generalize (chL ks (c - 1)).1 = L0 at *
      generalize (chL ks (c - 1)).2 = C0 at *
      have g0 : ¬ w.heap.size = wr.heap.size := by omega
      obtain ⟨b0, b1, b2, b3, z0, z1, z2, z3⟩ := box4 HW0.out
      obtain ⟨e0, e1, e2, e3, y0, y1, y2, y3⟩ := box4 HW1.out
      obtain ⟨r0, r1, r2, r3, q0, q1, q2, q3⟩ := box4 HW2.out
      by_cases hc0 : c = 0
      · have ec : (c == 0) = true := beq_iff_eq.2 hc0
        have HQ := Lib.hid (show (Tree.node k otherL L0 l, C0) = R by have h := HR.out; rwa [if_pos hc0] at h)
        clear hc0
        go_wp2_with fail
        refine bodyPost_ret (v := .agg #[.int .i64 k, .string ⟨#[111, 116, 104, 101, 114]⟩, .slice ak ks.length ck, .int .i64 l]) (by simp [results, Tryd.results10, go_sem, r0, r1, r2, r3, q0, q1, q2, q3]) rfl ?_
        rw [← HQ.out]
        exact PostC.done HON.out HPW.out HOW.out (Only.set.trans Only.set) (Only.set4 _ _ _ _ _ _) hplt
      · have ec : (c == 0) = false := beq_eq_false_iff_ne.2 hc0
        have HQ := Lib.hid (show (Tree.node k tx L0 l, C0) = R by have h := HR.out; rwa [if_neg hc0] at h)
        clear hc0
        go_wp2_with fail
        refine bodyPost_ret (v := .agg #[.int .i64 k, .string ⟨tx.toArray⟩, .slice ak ks.length ck, .int .i64 l]) (by simp [results, Tryd.results10, go_sem, r0, r1, r2, r3, q0, q1, q2, q3]) rfl ?_
        rw [← HQ.out]
        exact PostC.done HON.out HPW.out HOW.out Only.set (Only.set4 _ _ _ _ _ _) hplt
theorem ch_all : ∀ n, ChC n
  | 0 => fun t F w v pk c ht hd hs h1 h2 h3 h4 => by have := depth_pos t; omega
  | n + 1 => ch_con n (ch_all n)
theorem ch_any (t : Tree) (F : Nat → Prop) (w : World) (v : Value) (pk : Nat) (c : Int) (ht : IsT w F t v) (hs : sizeT t ≤ 1000000) (hp : w.heap[pk]? = some (.cells #[.int .i64 c] 3 (0, 0))) (hF : ∀ b, F b → b ≠ pk) (h1 : 0 ≤ c) (h2 : c ≤ 1000) :
    Calls Tryd.prog 10 #[v, .pointer (some ⟨pk, 0, none⟩), .agg #[.int .i64 0, .string ⟨#[111, 116, 104, 101, 114]⟩, .slice none 0 0, .int .i64 0]] w fun e w' => PostC w w' pk (chT t c) e :=
  ch_all _ t F w v pk c ht (Nat.le_refl _) hs hp hF (by omega) h2
end Go.Proofs.YtogkiifljdnjgaaDoor
