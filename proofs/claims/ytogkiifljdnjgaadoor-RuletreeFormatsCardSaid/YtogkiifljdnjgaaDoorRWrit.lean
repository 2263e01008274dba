/- The walks of the reference's level, quote, written and at. Conditions: an expression, bounds on size and texts. -/
import Derived.Test.YtogkiifljdnjgaaDoorRefLex
import Derived.Test.YtogkiifljdnjgaaDoorPrintP
import Derived.Test.YtogkiifljdnjgaaDoorWrite2
import Derived.BigQuiet
namespace Go.Proofs.YtogkiifljdnjgaaDoor
open Go.RowKit
set_option linter.unusedVariables false
set_option linter.unusedSimpArgs false

/-- Texts with a separator between them. -/
def joinH (sep : List UInt8) : List (List UInt8) → List UInt8
  | [] => []
  | [x] => x
  | x :: y :: r => x ++ (sep ++ joinH sep (y :: r))
theorem joinP_H : ∀ L : List (List UInt8), joinP L = joinH [44, 32] L
  | [] => rfl
  | [x] => rfl
  | x :: y :: r => by rw [joinP, joinH, joinP_H (y :: r)]; rfl
theorem joinH_snoc (sep x : List UInt8) : ∀ L : List (List UInt8), L ≠ [] → joinH sep (L ++ [x]) = joinH sep L ++ (sep ++ x)
  | [], h => absurd rfl h
  | [a], _ => rfl
  | a :: b :: r, _ => by
    have ih := joinH_snoc sep x (b :: r) (by simp)
    rw [List.cons_append, List.cons_append, joinH, joinH]
    rw [List.cons_append] at ih
    rw [ih]
    simp only [List.append_assoc]
theorem joinH_len (sep : List UInt8) (h2 : sep.length ≤ 2) : ∀ (L : List (List UInt8)) (s : Nat), (L.map (fun x => x.length + 2)).sum ≤ s → (joinH sep L).length ≤ s
  | [], s, _ => by simp [joinH]
  | [x], s, h => by simp [joinH] at *; omega
  | x :: y :: r, s, h => by
    rw [List.map_cons, List.sum_cons] at h
    have := joinH_len sep h2 (y :: r) (s - (x.length + 2)) (by omega)
    rw [joinH]
    simp only [List.length_append]
    omega
theorem short_takeH : ∀ {ks : List Tree}, shortL ks → ∀ q, shortL (ks.take q)
  | [], h, q => by rw [List.take_nil]; exact h
  | t :: ts, h, 0 => by rw [List.take_zero, shortL]; trivial
  | t :: ts, h, q + 1 => by
    rw [shortL_cons] at h
    rw [List.take_succ_cons, shortL_cons]
    exact ⟨h.1, short_takeH h.2 q⟩
theorem sum_monoH (L : List Tree) (f g : Tree → Nat) (h : ∀ t, f t ≤ g t) : (L.map f).sum ≤ (L.map g).sum := by
  induction L with
  | nil => simp
  | cons a r ih => simp only [List.map_cons, List.sum_cons]; have := h a; omega
theorem join_takeH (sep : List UInt8) (f : Tree → List UInt8) {ks : List Tree} {q : Nat} {t : Tree} (h : ks[q]? = some t) : joinH sep ((ks.take (q + 1)).map f) = if q = 0 then f t else joinH sep ((ks.take q).map f) ++ (sep ++ f t) := by
  rw [take_next h, List.map_append]
  by_cases h0 : q = 0
  · subst h0
    rw [if_pos rfl]
    rfl
  · rw [if_neg h0]
    have hlt : q < ks.length := by
      rcases Nat.lt_or_ge q ks.length with h' | h'
      · exact h'
      · rw [List.getElem?_eq_none h'] at h; cases h
    refine joinH_snoc sep (f t) _ (fun e => ?_)
    have := congrArg List.length e
    rw [List.length_map, List.length_take] at this
    simp only [List.length_nil] at this
    omega
set_option maxRecDepth 20000 in
theorem rlevel_any (k : Int) (tx : List UInt8) (a : Option Addr) (n c : Nat) (l : Int) (w : World) :
    Calls Tryd.prog 90 #[.agg #[.int .i64 k, .string ⟨tx.toArray⟩, .slice a n c, .int .i64 l]] w fun e w' => e = .returned (.int .i64 (levelP k)) ∧ Below w.heap.size w w' := by
  obtain ⟨R, hR⟩ : ∃ R, levelP k = R := ⟨_, rfl⟩
  rw [hR]
  have HR := Lib.hid hR
  clear hR
  have HB0 := Lib.hid (bel_new w (.cells #[.int .i64 k, .string ⟨tx.toArray⟩, .slice a n c, .int .i64 l] 26))
  have HX0 := Lib.hid (heap_alloc_new w (.cells #[.int .i64 k, .string ⟨tx.toArray⟩, .slice a n c, .int .i64 l] 26))
  obtain ⟨r0, r1, r2, r3, q0, q1, q2, q3⟩ := box4 HX0.out
  by_cases h13 : k = 13
  · subst h13
    go_enter Tryd.func90, Tryd.ntmps90
    go_wp2_with fail
    go_ret
    exact ⟨by rw [← HR.out]; rfl, HB0.out⟩
  by_cases h14 : k = 14
  · subst h14
    go_enter Tryd.func90, Tryd.ntmps90
    go_wp2_with fail
    go_ret
    exact ⟨by rw [← HR.out]; rfl, HB0.out⟩
  by_cases h15 : k = 15
  · subst h15
    go_enter Tryd.func90, Tryd.ntmps90
    go_wp2_with fail
    go_ret
    exact ⟨by rw [← HR.out]; rfl, HB0.out⟩
  by_cases h16 : k = 16
  · subst h16
    go_enter Tryd.func90, Tryd.ntmps90
    go_wp2_with fail
    go_ret
    exact ⟨by rw [← HR.out]; rfl, HB0.out⟩
  by_cases h17 : k = 17
  · subst h17
    go_enter Tryd.func90, Tryd.ntmps90
    go_wp2_with fail
    go_ret
    exact ⟨by rw [← HR.out]; rfl, HB0.out⟩
  by_cases h18 : k = 18
  · subst h18
    go_enter Tryd.func90, Tryd.ntmps90
    go_wp2_with fail
    go_ret
    exact ⟨by rw [← HR.out]; rfl, HB0.out⟩
  by_cases h19 : k = 19
  · subst h19
    go_enter Tryd.func90, Tryd.ntmps90
    go_wp2_with fail
    go_ret
    exact ⟨by rw [← HR.out]; rfl, HB0.out⟩
  have HQ := Lib.hid (show 7 = R by rw [← HR.out]; simp [levelP, h13, h14, h15, h16, h17, h18, h19])
  go_enter Tryd.func90, Tryd.ntmps90
  go_wp2_with fail
  go_ret
  exact ⟨by rw [← HQ.out]; rfl, HB0.out⟩
def RWritC (n : Nat) : Prop := ∀ (t : Tree) (F : Nat → Prop) (w : World) (v : Value), IsT w F t v → depthT t ≤ n → sizeT t ≤ 1000 → shortT t → exprOK t = true →
  Calls Tryd.prog 52 #[v] w fun e w' => e = .returned (.string ⟨(writP t).toArray⟩) ∧ Below w.heap.size w w'
def RAtC (n : Nat) : Prop := ∀ (t : Tree) (F : Nat → Prop) (w : World) (v : Value) (i : Int), IsT w F t v → depthT t ≤ n → sizeT t ≤ 1000 → shortT t → exprOK t = true →
  Calls Tryd.prog 77 #[v, .int .i64 i] w fun e w' => e = .returned (.string ⟨(parL i (levelP t.kind, writP t)).toArray⟩) ∧ Below w.heap.size w w'
set_option maxRecDepth 20000 in
theorem rat_ok (n : Nat) (HC : RWritC n) : RAtC n := by
  intro t F w v i ht hd hs hsh hok
  have hlen := writP_len t hsh
  have HCC := Lib.hid (fun W hW => HC t F W v (ht.step hW) hd hs hsh hok)
  obtain ⟨k, tx, ks, l⟩ := t
  obtain ⟨kv, rfl, hks⟩ := isT_node.1 ht
  obtain ⟨a, c, rfl⟩ : ∃ a c, kv = .slice a ks.length c := by
    obtain ⟨a, c, hv, _⟩ := hks
    exact ⟨a, c, hv⟩
  generalize ks.length = N at *
  have hL : (writP (.node k tx ks l)).length ≤ 300000000 := by omega
  obtain ⟨R, hR⟩ : ∃ R, (⟨(parL i (levelP (Tree.node k tx ks l).kind, writP (.node k tx ks l))).toArray⟩ : ByteArray) = R := ⟨_, rfl⟩
  rw [hR]
  have HR := Lib.hid hR
  obtain ⟨T, hT⟩ : ∃ T : ByteArray, (⟨(writP (.node k tx ks l)).toArray⟩ : ByteArray) = T := ⟨_, rfl⟩
  have hT2 : T.size ≤ 300000000 := by rw [← hT]; show (writP (.node k tx ks l)).toArray.size ≤ 300000000; simpa using hL
  rw [hT] at HCC
  have HT := Lib.hid hT
  clear ht hks hR hlen hd hs hsh hok hL hT
  have HB0 := Lib.hid (bel_new w (.cells #[.int .i64 k, .string ⟨tx.toArray⟩, .slice a N c, .int .i64 l] 26))
  have HX0 := Lib.hid (heap_alloc_new w (.cells #[.int .i64 k, .string ⟨tx.toArray⟩, .slice a N c, .int .i64 l] 26))
  obtain ⟨r0, r1, r2, r3, q0, q1, q2, q3⟩ := box4 HX0.out
  have HLV := Lib.hid (fun W => rlevel_any k tx a N c l W)
  by_cases hlt : levelP k < i
  · have HQ := Lib.hid (show (⟨(40 :: (T.data.toList ++ [41])).toArray⟩ : ByteArray) = R by rw [← HR.out, ← HT.out]; simp [parL, Tree.kind, hlt])
    generalize levelP k = L at *
    go_enter Tryd.func77, Tryd.ntmps77
    go_wp2_with (first | (go_at_call 90; (with_reducible refine (HLV.out _).mono ?_); rintro e w1 ⟨rfl, hb⟩; have HB1 := Lib.hid (HB0.out.trans (hb.mono HB0.out.size)); have HX1 := Lib.hid (keep_blk hb HX0.out); obtain ⟨s0, s1, s2, s3, z0, z1, z2, z3⟩ := box4 HX1.out; clear hb) | (go_at_call 52; (with_reducible refine (HCC.out _ HB1.out).mono ?_); rintro e w2 ⟨rfl, hb⟩; have HB2 := Lib.hid (HB1.out.trans (hb.mono HB1.out.size)); clear hb))
    go_ret
    exact ⟨ret_str (by rw [← HQ.out]; exact ba_of_list (by simp [ByteArray.data_append])), HB2.out⟩
  · have HQ := Lib.hid (show T = R by rw [← HR.out, ← HT.out]; simp [parL, Tree.kind, hlt])
    generalize levelP k = L at *
    go_enter Tryd.func77, Tryd.ntmps77
    go_wp2_with (first | (go_at_call 90; (with_reducible refine (HLV.out _).mono ?_); rintro e w1 ⟨rfl, hb⟩; have HB1 := Lib.hid (HB0.out.trans (hb.mono HB0.out.size)); have HX1 := Lib.hid (keep_blk hb HX0.out); obtain ⟨s0, s1, s2, s3, z0, z1, z2, z3⟩ := box4 HX1.out; clear hb) | (go_at_call 52; (with_reducible refine (HCC.out _ HB1.out).mono ?_); rintro e w2 ⟨rfl, hb⟩; have HB2 := Lib.hid (HB1.out.trans (hb.mono HB1.out.size)); clear hb))
    go_ret
    exact ⟨ret_str HQ.out, HB2.out⟩
set_option maxRecDepth 20000 in
theorem rquo_any (s : ByteArray) (w : World) (hs : s.size ≤ 100000) (hok : s.data.toList.all okB = true) :
    Calls Tryd.prog 51 #[.string s] w fun e w' => e = .returned (.string ⟨(quoL s.data.toList).toArray⟩) ∧ Below w.heap.size w w' := by
  have HC := Lib.hid (rquote_any s w hs)
  obtain ⟨q, hq⟩ : ∃ q, (⟨(quoL s.data.toList).toArray⟩ : ByteArray) = q := ⟨_, rfl⟩
  rw [hq]
  have HV := Lib.hid (show rquoV s.data.toList = .tuple #[.string q, .bool true] by rw [rquoV, hok, ← hq]; rfl)
  clear hok hq
  go_enter Tryd.func51, Tryd.ntmps51
  go_wp2_with (first | (go_at_call 76; refine HC.out.mono ?_; rintro e w1 ⟨he, hb1⟩; rw [HV.out] at he; subst he; have HB1 := Lib.hid hb1; clear hb1))
  go_ret
  exact ⟨rfl, HB1.out⟩
theorem wr2 : ∀ ks : List Tree, (writL ks).map (·.2) = ks.map writP
  | [] => by rw [writL_nil]; rfl
  | t :: ts => by rw [writL_cons, List.map_cons, List.map_cons, wr2 ts]
theorem writ_takelen (ts : List Tree) (h : shortL ts) : (ts.map (fun t => (writP t).length + 4)).sum ≤ 300000 * sizeL ts := by
  have := writL_len ts h
  have e : ∀ ts : List Tree, ((writL ts).map (fun x => x.2.length + 4)).sum = (ts.map (fun t => (writP t).length + 4)).sum := by
    intro ts
    induction ts with
    | nil => rw [writL_nil]; rfl
    | cons a r ih => rw [writL_cons, List.map_cons, List.sum_cons, List.map_cons, List.sum_cons, ih]
  rw [e] at this
  exact this
set_option maxRecDepth 20000 in
set_option maxHeartbeats 2000000 in
theorem rwrit_13 (n : Nat) (HC : RAtC n) (tx : List UInt8) (ks : List Tree) (l : Int) (F : Nat → Prop) (w : World) (v : Value) (ht : IsT w F (.node 13 tx ks l) v) (hd : depthT (.node 13 tx ks l) ≤ n + 1) (hs : sizeT (.node 13 tx ks l) ≤ 1000) (hsh : shortT (.node 13 tx ks l)) (hok : exprOK (.node 13 tx ks l) = true) :
    Calls Tryd.prog 52 #[v] w fun e w' => e = .returned (.string ⟨(writP (.node 13 tx ks l)).toArray⟩) ∧ Below w.heap.size w w' := by
  obtain ⟨kv, rfl, hks⟩ := isT_node.1 ht
  rw [depthT_node] at hd
  rw [sizeT_node] at hs
  rw [shortT_node] at hsh
  obtain ⟨htx, hshl⟩ := hsh
  obtain ⟨a, c, rfl⟩ : ∃ a c, kv = .slice a ks.length c := by
    obtain ⟨a, c, hv, _⟩ := hks
    exact ⟨a, c, hv⟩
  have HBND := Lib.hid HC
  have HK := Lib.hid hks
  have htz := size_of_list tx _ htx
  clear ht hks HC
  obtain ⟨x, y, rfl, he0, he1⟩ := expr_two hok (by decide)
  rw [shortL_cons, shortL_cons] at hshl
  obtain ⟨hh0, hh1, -⟩ := hshl
  rw [sizeL_cons, sizeL_cons, sizeL_nil] at hs
  rw [depthL_cons, depthL_cons, depthL_nil] at hd
  have hN : ([x, y] : List Tree).length = 2 := rfl
  rw [hN] at HK ⊢
  clear hN
  obtain ⟨R, hR⟩ : ∃ R, (⟨(writP (.node 13 tx [x, y] l)).toArray⟩ : ByteArray) = R := ⟨_, rfl⟩
  rw [hR]
  have HQ : (⟨(parL 1 (levelP x.kind, writP x)).toArray⟩ : ByteArray) ++ ((⟨#[32, 111, 114, 32]⟩ : ByteArray) ++ (⟨(parL 2 (levelP y.kind, writP y)).toArray⟩ : ByteArray)) = R := by rw [← hR]; exact ba_of_list (by simp [writP_node, writL_cons, writL_nil, asmP, infix2, ByteArray.data_append])
  clear hR
  obtain ⟨bk0, off0, cap0, k00, x00, a00, m00, n00, l00, hv0, c00, c01, c02, c03, hT0⟩ := IsKids.at HK.out (k := 0) (t := x) rfl
  simp only [Value.slice.injEq] at hv0
  obtain ⟨rfl, -, rfl⟩ := hv0
  simp only [Nat.zero_mul, Nat.add_zero, Nat.one_mul, Nat.reduceMul, Nat.add_assoc, Nat.reduceAdd] at c00 c01 c02 c03
  obtain ⟨bk1, off1, cap1, k10, x10, a10, m10, n10, l10, hv1, c10, c11, c12, c13, hT1⟩ := IsKids.at HK.out (k := 1) (t := y) rfl
  simp only [Value.slice.injEq, Option.some.injEq, Addr.mk.injEq, and_true] at hv1
  obtain ⟨⟨rfl, rfl⟩, -, -⟩ := hv1
  simp only [Nat.zero_mul, Nat.add_zero, Nat.one_mul, Nat.reduceMul, Nat.add_assoc, Nat.reduceAdd] at c10 c11 c12 c13
  have hl0 := writP_len x hh0
  have hp0 := parL_len 1 (levelP x.kind, writP x)
  have hS0 : (⟨(parL 1 (levelP x.kind, writP x)).toArray⟩ : ByteArray).size ≤ 300000100 := size_of_list _ _ (by dsimp only at hp0; omega)
  have HC0 := Lib.hid (fun W (hW : Below w.heap.size w W) => HBND.out x F W _ 1 (hT0.step hW) (by omega) (by omega) hh0 he0)
  generalize (⟨(parL 1 (levelP x.kind, writP x)).toArray⟩ : ByteArray) = S0 at hS0 HC0 HQ
  clear hl0 hT0
  clear hp0
  have hl1 := writP_len y hh1
  have hp1 := parL_len 2 (levelP y.kind, writP y)
  have hS1 : (⟨(parL 2 (levelP y.kind, writP y)).toArray⟩ : ByteArray).size ≤ 300000100 := size_of_list _ _ (by dsimp only at hp1; omega)
  have HC1 := Lib.hid (fun W (hW : Below w.heap.size w W) => HBND.out y F W _ 2 (hT1.step hW) (by omega) (by omega) hh1 he1)
  generalize (⟨(parL 2 (levelP y.kind, writP y)).toArray⟩ : ByteArray) = S1 at hS1 HC1 HQ
  clear hl1 hT1
  clear hp1
  have HQ2 := Lib.hid HQ
  clear HQ he0 he1 hh0 hh1 hd hs hok HBND
  have HX0 := Lib.hid (heap_alloc_new w (.cells #[.int .i64 13, .string ⟨tx.toArray⟩, .slice (some ⟨bk0, off0, none⟩) 2 c, .int .i64 l] 26))
  have HB0 := Lib.hid (bel_new w (.cells #[.int .i64 13, .string ⟨tx.toArray⟩, .slice (some ⟨bk0, off0, none⟩) 2 c, .int .i64 l] 26))
  obtain ⟨r0, r1, r2, r3, q0, q1, q2, q3⟩ := box4 HX0.out
  go_enter Tryd.func52, Tryd.ntmps52
  go_upto_region 4 with fail
  have R1 := fun d os => cell_regrown (r0) d os
  have R2 := fun d os => cell_regrown (r1) d os
  have R3 := fun d os => cell_regrown (r2) d os
  have R4 := fun d os => cell_regrown (r3) d os
  have R5 := fun d os => cell_regrown (keep_at HB0.out c00) d os
  have R6 := fun d os => cell_regrown (keep_at HB0.out c01) d os
  have R7 := fun d os => cell_regrown (keep_at HB0.out c02) d os
  have R8 := fun d os => cell_regrown (keep_at HB0.out c03) d os
  have R9 := fun d os => cell_regrown (keep_at HB0.out c10) d os
  have R10 := fun d os => cell_regrown (keep_at HB0.out c11) d os
  have R11 := fun d os => cell_regrown (keep_at HB0.out c12) d os
  have R12 := fun d os => cell_regrown (keep_at HB0.out c13) d os
  refine wp_region_quiet_below (by kernel_rfl) (by kernel_rfl) ?_
  repeat (go_big_quiet_step (first | (go_at_call 77; (with_reducible refine Calls.regrown_of (HC0.out _ ?_)); exact HB0.out.trans ((below_regrown _ _ _).mono HB0.out.size)) | (go_at_call 77; (with_reducible refine Calls.regrown_of (HC1.out _ ?_)); exact HB0.out.trans ((below_regrown _ _ _).mono HB0.out.size))))
  clear R1 R2 R3 R4 R5 R6 R7 R8 R9 R10 R11 R12
  refine wpQuiet_nil ?_
  intro w6 hw6
  have HB6 := Lib.hid (show Below w.heap.size w w6 by obtain ⟨p, rfl⟩ := hw6; exact HB0.out.trans ((below_regrown _ p.d p.os).mono HB0.out.size))
  clear hw6
  go_wp2_with fail
  go_ret
  exact ⟨ret_str (by rw [← HQ2.out]; exact ba_of_list (by simp [ByteArray.data_append])), HB6.out⟩
set_option maxRecDepth 20000 in
set_option maxHeartbeats 2000000 in
theorem rwrit_14 (n : Nat) (HC : RAtC n) (tx : List UInt8) (ks : List Tree) (l : Int) (F : Nat → Prop) (w : World) (v : Value) (ht : IsT w F (.node 14 tx ks l) v) (hd : depthT (.node 14 tx ks l) ≤ n + 1) (hs : sizeT (.node 14 tx ks l) ≤ 1000) (hsh : shortT (.node 14 tx ks l)) (hok : exprOK (.node 14 tx ks l) = true) :
    Calls Tryd.prog 52 #[v] w fun e w' => e = .returned (.string ⟨(writP (.node 14 tx ks l)).toArray⟩) ∧ Below w.heap.size w w' := by
  obtain ⟨kv, rfl, hks⟩ := isT_node.1 ht
  rw [depthT_node] at hd
  rw [sizeT_node] at hs
  rw [shortT_node] at hsh
  obtain ⟨htx, hshl⟩ := hsh
  obtain ⟨a, c, rfl⟩ : ∃ a c, kv = .slice a ks.length c := by
    obtain ⟨a, c, hv, _⟩ := hks
    exact ⟨a, c, hv⟩
  have HBND := Lib.hid HC
  have HK := Lib.hid hks
  have htz := size_of_list tx _ htx
  clear ht hks HC
  obtain ⟨x, y, rfl, he0, he1⟩ := expr_two hok (by decide)
  rw [shortL_cons, shortL_cons] at hshl
  obtain ⟨hh0, hh1, -⟩ := hshl
  rw [sizeL_cons, sizeL_cons, sizeL_nil] at hs
  rw [depthL_cons, depthL_cons, depthL_nil] at hd
  have hN : ([x, y] : List Tree).length = 2 := rfl
  rw [hN] at HK ⊢
  clear hN
  obtain ⟨R, hR⟩ : ∃ R, (⟨(writP (.node 14 tx [x, y] l)).toArray⟩ : ByteArray) = R := ⟨_, rfl⟩
  rw [hR]
  have HQ : (⟨(parL 2 (levelP x.kind, writP x)).toArray⟩ : ByteArray) ++ ((⟨#[32, 97, 110, 100, 32]⟩ : ByteArray) ++ (⟨(parL 3 (levelP y.kind, writP y)).toArray⟩ : ByteArray)) = R := by rw [← hR]; exact ba_of_list (by simp [writP_node, writL_cons, writL_nil, asmP, infix2, ByteArray.data_append])
  clear hR
  obtain ⟨bk0, off0, cap0, k00, x00, a00, m00, n00, l00, hv0, c00, c01, c02, c03, hT0⟩ := IsKids.at HK.out (k := 0) (t := x) rfl
  simp only [Value.slice.injEq] at hv0
  obtain ⟨rfl, -, rfl⟩ := hv0
  simp only [Nat.zero_mul, Nat.add_zero, Nat.one_mul, Nat.reduceMul, Nat.add_assoc, Nat.reduceAdd] at c00 c01 c02 c03
  obtain ⟨bk1, off1, cap1, k10, x10, a10, m10, n10, l10, hv1, c10, c11, c12, c13, hT1⟩ := IsKids.at HK.out (k := 1) (t := y) rfl
  simp only [Value.slice.injEq, Option.some.injEq, Addr.mk.injEq, and_true] at hv1
  obtain ⟨⟨rfl, rfl⟩, -, -⟩ := hv1
  simp only [Nat.zero_mul, Nat.add_zero, Nat.one_mul, Nat.reduceMul, Nat.add_assoc, Nat.reduceAdd] at c10 c11 c12 c13
  have hl0 := writP_len x hh0
  have hp0 := parL_len 2 (levelP x.kind, writP x)
  have hS0 : (⟨(parL 2 (levelP x.kind, writP x)).toArray⟩ : ByteArray).size ≤ 300000100 := size_of_list _ _ (by dsimp only at hp0; omega)
  have HC0 := Lib.hid (fun W (hW : Below w.heap.size w W) => HBND.out x F W _ 2 (hT0.step hW) (by omega) (by omega) hh0 he0)
  generalize (⟨(parL 2 (levelP x.kind, writP x)).toArray⟩ : ByteArray) = S0 at hS0 HC0 HQ
  clear hl0 hT0
  clear hp0
  have hl1 := writP_len y hh1
  have hp1 := parL_len 3 (levelP y.kind, writP y)
  have hS1 : (⟨(parL 3 (levelP y.kind, writP y)).toArray⟩ : ByteArray).size ≤ 300000100 := size_of_list _ _ (by dsimp only at hp1; omega)
  have HC1 := Lib.hid (fun W (hW : Below w.heap.size w W) => HBND.out y F W _ 3 (hT1.step hW) (by omega) (by omega) hh1 he1)
  generalize (⟨(parL 3 (levelP y.kind, writP y)).toArray⟩ : ByteArray) = S1 at hS1 HC1 HQ
  clear hl1 hT1
  clear hp1
  have HQ2 := Lib.hid HQ
  clear HQ he0 he1 hh0 hh1 hd hs hok HBND
  have HX0 := Lib.hid (heap_alloc_new w (.cells #[.int .i64 14, .string ⟨tx.toArray⟩, .slice (some ⟨bk0, off0, none⟩) 2 c, .int .i64 l] 26))
  have HB0 := Lib.hid (bel_new w (.cells #[.int .i64 14, .string ⟨tx.toArray⟩, .slice (some ⟨bk0, off0, none⟩) 2 c, .int .i64 l] 26))
  obtain ⟨r0, r1, r2, r3, q0, q1, q2, q3⟩ := box4 HX0.out
  go_enter Tryd.func52, Tryd.ntmps52
  go_upto_region 6 with fail
  have R1 := fun d os => cell_regrown (r0) d os
  have R2 := fun d os => cell_regrown (r1) d os
  have R3 := fun d os => cell_regrown (r2) d os
  have R4 := fun d os => cell_regrown (r3) d os
  have R5 := fun d os => cell_regrown (keep_at HB0.out c00) d os
  have R6 := fun d os => cell_regrown (keep_at HB0.out c01) d os
  have R7 := fun d os => cell_regrown (keep_at HB0.out c02) d os
  have R8 := fun d os => cell_regrown (keep_at HB0.out c03) d os
  have R9 := fun d os => cell_regrown (keep_at HB0.out c10) d os
  have R10 := fun d os => cell_regrown (keep_at HB0.out c11) d os
  have R11 := fun d os => cell_regrown (keep_at HB0.out c12) d os
  have R12 := fun d os => cell_regrown (keep_at HB0.out c13) d os
  refine wp_region_quiet_below (by kernel_rfl) (by kernel_rfl) ?_
  repeat (go_big_quiet_step (first | (go_at_call 77; (with_reducible refine Calls.regrown_of (HC0.out _ ?_)); exact HB0.out.trans ((below_regrown _ _ _).mono HB0.out.size)) | (go_at_call 77; (with_reducible refine Calls.regrown_of (HC1.out _ ?_)); exact HB0.out.trans ((below_regrown _ _ _).mono HB0.out.size))))
  clear R1 R2 R3 R4 R5 R6 R7 R8 R9 R10 R11 R12
  refine wpQuiet_nil ?_
  intro w6 hw6
  have HB6 := Lib.hid (show Below w.heap.size w w6 by obtain ⟨p, rfl⟩ := hw6; exact HB0.out.trans ((below_regrown _ p.d p.os).mono HB0.out.size))
  clear hw6
  go_wp2_with fail
  go_ret
  exact ⟨ret_str (by rw [← HQ2.out]; exact ba_of_list (by simp [ByteArray.data_append])), HB6.out⟩
set_option maxRecDepth 20000 in
set_option maxHeartbeats 2000000 in
theorem rwrit_16 (n : Nat) (HC : RAtC n) (tx : List UInt8) (ks : List Tree) (l : Int) (F : Nat → Prop) (w : World) (v : Value) (ht : IsT w F (.node 16 tx ks l) v) (hd : depthT (.node 16 tx ks l) ≤ n + 1) (hs : sizeT (.node 16 tx ks l) ≤ 1000) (hsh : shortT (.node 16 tx ks l)) (hok : exprOK (.node 16 tx ks l) = true) :
    Calls Tryd.prog 52 #[v] w fun e w' => e = .returned (.string ⟨(writP (.node 16 tx ks l)).toArray⟩) ∧ Below w.heap.size w w' := by
  obtain ⟨kv, rfl, hks⟩ := isT_node.1 ht
  rw [depthT_node] at hd
  rw [sizeT_node] at hs
  rw [shortT_node] at hsh
  obtain ⟨htx, hshl⟩ := hsh
  obtain ⟨a, c, rfl⟩ : ∃ a c, kv = .slice a ks.length c := by
    obtain ⟨a, c, hv, _⟩ := hks
    exact ⟨a, c, hv⟩
  have HBND := Lib.hid HC
  have HK := Lib.hid hks
  have htz := size_of_list tx _ htx
  clear ht hks HC
  obtain ⟨x, y, rfl, he0, he1⟩ := expr_two hok (by decide)
  rw [shortL_cons, shortL_cons] at hshl
  obtain ⟨hh0, hh1, -⟩ := hshl
  rw [sizeL_cons, sizeL_cons, sizeL_nil] at hs
  rw [depthL_cons, depthL_cons, depthL_nil] at hd
  have hN : ([x, y] : List Tree).length = 2 := rfl
  rw [hN] at HK ⊢
  clear hN
  obtain ⟨R, hR⟩ : ∃ R, (⟨(writP (.node 16 tx [x, y] l)).toArray⟩ : ByteArray) = R := ⟨_, rfl⟩
  rw [hR]
  have HQ : (⟨(parL 5 (levelP x.kind, writP x)).toArray⟩ : ByteArray) ++ ((⟨#[32]⟩ : ByteArray) ++ ((⟨tx.toArray⟩ : ByteArray) ++ ((⟨#[32]⟩ : ByteArray) ++ (⟨(parL 5 (levelP y.kind, writP y)).toArray⟩ : ByteArray)))) = R := by rw [← hR]; exact ba_of_list (by simp [writP_node, writL_cons, writL_nil, asmP, infix2, ByteArray.data_append])
  clear hR
  obtain ⟨bk0, off0, cap0, k00, x00, a00, m00, n00, l00, hv0, c00, c01, c02, c03, hT0⟩ := IsKids.at HK.out (k := 0) (t := x) rfl
  simp only [Value.slice.injEq] at hv0
  obtain ⟨rfl, -, rfl⟩ := hv0
  simp only [Nat.zero_mul, Nat.add_zero, Nat.one_mul, Nat.reduceMul, Nat.add_assoc, Nat.reduceAdd] at c00 c01 c02 c03
  obtain ⟨bk1, off1, cap1, k10, x10, a10, m10, n10, l10, hv1, c10, c11, c12, c13, hT1⟩ := IsKids.at HK.out (k := 1) (t := y) rfl
  simp only [Value.slice.injEq, Option.some.injEq, Addr.mk.injEq, and_true] at hv1
  obtain ⟨⟨rfl, rfl⟩, -, -⟩ := hv1
  simp only [Nat.zero_mul, Nat.add_zero, Nat.one_mul, Nat.reduceMul, Nat.add_assoc, Nat.reduceAdd] at c10 c11 c12 c13
  have hl0 := writP_len x hh0
  have hp0 := parL_len 5 (levelP x.kind, writP x)
  have hS0 : (⟨(parL 5 (levelP x.kind, writP x)).toArray⟩ : ByteArray).size ≤ 300000100 := size_of_list _ _ (by dsimp only at hp0; omega)
  have HC0 := Lib.hid (fun W (hW : Below w.heap.size w W) => HBND.out x F W _ 5 (hT0.step hW) (by omega) (by omega) hh0 he0)
  generalize (⟨(parL 5 (levelP x.kind, writP x)).toArray⟩ : ByteArray) = S0 at hS0 HC0 HQ
  clear hl0 hT0
  clear hp0
  have hl1 := writP_len y hh1
  have hp1 := parL_len 5 (levelP y.kind, writP y)
  have hS1 : (⟨(parL 5 (levelP y.kind, writP y)).toArray⟩ : ByteArray).size ≤ 300000100 := size_of_list _ _ (by dsimp only at hp1; omega)
  have HC1 := Lib.hid (fun W (hW : Below w.heap.size w W) => HBND.out y F W _ 5 (hT1.step hW) (by omega) (by omega) hh1 he1)
  generalize (⟨(parL 5 (levelP y.kind, writP y)).toArray⟩ : ByteArray) = S1 at hS1 HC1 HQ
  clear hl1 hT1
  clear hp1
  have HQ2 := Lib.hid HQ
  clear HQ he0 he1 hh0 hh1 hd hs hok HBND
  have HX0 := Lib.hid (heap_alloc_new w (.cells #[.int .i64 16, .string ⟨tx.toArray⟩, .slice (some ⟨bk0, off0, none⟩) 2 c, .int .i64 l] 26))
  have HB0 := Lib.hid (bel_new w (.cells #[.int .i64 16, .string ⟨tx.toArray⟩, .slice (some ⟨bk0, off0, none⟩) 2 c, .int .i64 l] 26))
  obtain ⟨r0, r1, r2, r3, q0, q1, q2, q3⟩ := box4 HX0.out
  go_enter Tryd.func52, Tryd.ntmps52
  go_upto_region 10 with fail
  have R1 := fun d os => cell_regrown (r0) d os
  have R2 := fun d os => cell_regrown (r1) d os
  have R3 := fun d os => cell_regrown (r2) d os
  have R4 := fun d os => cell_regrown (r3) d os
  have R5 := fun d os => cell_regrown (keep_at HB0.out c00) d os
  have R6 := fun d os => cell_regrown (keep_at HB0.out c01) d os
  have R7 := fun d os => cell_regrown (keep_at HB0.out c02) d os
  have R8 := fun d os => cell_regrown (keep_at HB0.out c03) d os
  have R9 := fun d os => cell_regrown (keep_at HB0.out c10) d os
  have R10 := fun d os => cell_regrown (keep_at HB0.out c11) d os
  have R11 := fun d os => cell_regrown (keep_at HB0.out c12) d os
  have R12 := fun d os => cell_regrown (keep_at HB0.out c13) d os
  refine wp_region_quiet_below (by kernel_rfl) (by kernel_rfl) ?_
  repeat (go_big_quiet_step (first | (go_at_call 77; (with_reducible refine Calls.regrown_of (HC0.out _ ?_)); exact HB0.out.trans ((below_regrown _ _ _).mono HB0.out.size)) | (go_at_call 77; (with_reducible refine Calls.regrown_of (HC1.out _ ?_)); exact HB0.out.trans ((below_regrown _ _ _).mono HB0.out.size))))
  clear R1 R2 R3 R4 R5 R6 R7 R8 R9 R10 R11 R12
  refine wpQuiet_nil ?_
  intro w6 hw6
  have HB6 := Lib.hid (show Below w.heap.size w w6 by obtain ⟨p, rfl⟩ := hw6; exact HB0.out.trans ((below_regrown _ p.d p.os).mono HB0.out.size))
  clear hw6
  go_wp2_with fail
  go_ret
  exact ⟨ret_str (by rw [← HQ2.out]; exact ba_of_list (by simp [ByteArray.data_append])), HB6.out⟩
set_option maxRecDepth 20000 in
set_option maxHeartbeats 2000000 in
theorem rwrit_17 (n : Nat) (HC : RAtC n) (tx : List UInt8) (ks : List Tree) (l : Int) (F : Nat → Prop) (w : World) (v : Value) (ht : IsT w F (.node 17 tx ks l) v) (hd : depthT (.node 17 tx ks l) ≤ n + 1) (hs : sizeT (.node 17 tx ks l) ≤ 1000) (hsh : shortT (.node 17 tx ks l)) (hok : exprOK (.node 17 tx ks l) = true) :
    Calls Tryd.prog 52 #[v] w fun e w' => e = .returned (.string ⟨(writP (.node 17 tx ks l)).toArray⟩) ∧ Below w.heap.size w w' := by
  obtain ⟨kv, rfl, hks⟩ := isT_node.1 ht
  rw [depthT_node] at hd
  rw [sizeT_node] at hs
  rw [shortT_node] at hsh
  obtain ⟨htx, hshl⟩ := hsh
  obtain ⟨a, c, rfl⟩ : ∃ a c, kv = .slice a ks.length c := by
    obtain ⟨a, c, hv, _⟩ := hks
    exact ⟨a, c, hv⟩
  have HBND := Lib.hid HC
  have HK := Lib.hid hks
  have htz := size_of_list tx _ htx
  clear ht hks HC
  obtain ⟨x, y, rfl, he0, he1⟩ := expr_two hok (by decide)
  rw [shortL_cons, shortL_cons] at hshl
  obtain ⟨hh0, hh1, -⟩ := hshl
  rw [sizeL_cons, sizeL_cons, sizeL_nil] at hs
  rw [depthL_cons, depthL_cons, depthL_nil] at hd
  have hN : ([x, y] : List Tree).length = 2 := rfl
  rw [hN] at HK ⊢
  clear hN
  obtain ⟨R, hR⟩ : ∃ R, (⟨(writP (.node 17 tx [x, y] l)).toArray⟩ : ByteArray) = R := ⟨_, rfl⟩
  rw [hR]
  have HQ : (⟨(parL 5 (levelP x.kind, writP x)).toArray⟩ : ByteArray) ++ ((⟨#[32, 43, 32]⟩ : ByteArray) ++ (⟨(parL 6 (levelP y.kind, writP y)).toArray⟩ : ByteArray)) = R := by rw [← hR]; exact ba_of_list (by simp [writP_node, writL_cons, writL_nil, asmP, infix2, ByteArray.data_append])
  clear hR
  obtain ⟨bk0, off0, cap0, k00, x00, a00, m00, n00, l00, hv0, c00, c01, c02, c03, hT0⟩ := IsKids.at HK.out (k := 0) (t := x) rfl
  simp only [Value.slice.injEq] at hv0
  obtain ⟨rfl, -, rfl⟩ := hv0
  simp only [Nat.zero_mul, Nat.add_zero, Nat.one_mul, Nat.reduceMul, Nat.add_assoc, Nat.reduceAdd] at c00 c01 c02 c03
  obtain ⟨bk1, off1, cap1, k10, x10, a10, m10, n10, l10, hv1, c10, c11, c12, c13, hT1⟩ := IsKids.at HK.out (k := 1) (t := y) rfl
  simp only [Value.slice.injEq, Option.some.injEq, Addr.mk.injEq, and_true] at hv1
  obtain ⟨⟨rfl, rfl⟩, -, -⟩ := hv1
  simp only [Nat.zero_mul, Nat.add_zero, Nat.one_mul, Nat.reduceMul, Nat.add_assoc, Nat.reduceAdd] at c10 c11 c12 c13
  have hl0 := writP_len x hh0
  have hp0 := parL_len 5 (levelP x.kind, writP x)
  have hS0 : (⟨(parL 5 (levelP x.kind, writP x)).toArray⟩ : ByteArray).size ≤ 300000100 := size_of_list _ _ (by dsimp only at hp0; omega)
  have HC0 := Lib.hid (fun W (hW : Below w.heap.size w W) => HBND.out x F W _ 5 (hT0.step hW) (by omega) (by omega) hh0 he0)
  generalize (⟨(parL 5 (levelP x.kind, writP x)).toArray⟩ : ByteArray) = S0 at hS0 HC0 HQ
  clear hl0 hT0
  clear hp0
  have hl1 := writP_len y hh1
  have hp1 := parL_len 6 (levelP y.kind, writP y)
  have hS1 : (⟨(parL 6 (levelP y.kind, writP y)).toArray⟩ : ByteArray).size ≤ 300000100 := size_of_list _ _ (by dsimp only at hp1; omega)
  have HC1 := Lib.hid (fun W (hW : Below w.heap.size w W) => HBND.out y F W _ 6 (hT1.step hW) (by omega) (by omega) hh1 he1)
  generalize (⟨(parL 6 (levelP y.kind, writP y)).toArray⟩ : ByteArray) = S1 at hS1 HC1 HQ
  clear hl1 hT1
  clear hp1
  have HQ2 := Lib.hid HQ
  clear HQ he0 he1 hh0 hh1 hd hs hok HBND
  have HX0 := Lib.hid (heap_alloc_new w (.cells #[.int .i64 17, .string ⟨tx.toArray⟩, .slice (some ⟨bk0, off0, none⟩) 2 c, .int .i64 l] 26))
  have HB0 := Lib.hid (bel_new w (.cells #[.int .i64 17, .string ⟨tx.toArray⟩, .slice (some ⟨bk0, off0, none⟩) 2 c, .int .i64 l] 26))
  obtain ⟨r0, r1, r2, r3, q0, q1, q2, q3⟩ := box4 HX0.out
  go_enter Tryd.func52, Tryd.ntmps52
  go_upto_region 12 with fail
  have R1 := fun d os => cell_regrown (r0) d os
  have R2 := fun d os => cell_regrown (r1) d os
  have R3 := fun d os => cell_regrown (r2) d os
  have R4 := fun d os => cell_regrown (r3) d os
  have R5 := fun d os => cell_regrown (keep_at HB0.out c00) d os
  have R6 := fun d os => cell_regrown (keep_at HB0.out c01) d os
  have R7 := fun d os => cell_regrown (keep_at HB0.out c02) d os
  have R8 := fun d os => cell_regrown (keep_at HB0.out c03) d os
  have R9 := fun d os => cell_regrown (keep_at HB0.out c10) d os
  have R10 := fun d os => cell_regrown (keep_at HB0.out c11) d os
  have R11 := fun d os => cell_regrown (keep_at HB0.out c12) d os
  have R12 := fun d os => cell_regrown (keep_at HB0.out c13) d os
  refine wp_region_quiet_below (by kernel_rfl) (by kernel_rfl) ?_
  repeat (go_big_quiet_step (first | (go_at_call 77; (with_reducible refine Calls.regrown_of (HC0.out _ ?_)); exact HB0.out.trans ((below_regrown _ _ _).mono HB0.out.size)) | (go_at_call 77; (with_reducible refine Calls.regrown_of (HC1.out _ ?_)); exact HB0.out.trans ((below_regrown _ _ _).mono HB0.out.size))))
  clear R1 R2 R3 R4 R5 R6 R7 R8 R9 R10 R11 R12
  refine wpQuiet_nil ?_
  intro w6 hw6
  have HB6 := Lib.hid (show Below w.heap.size w w6 by obtain ⟨p, rfl⟩ := hw6; exact HB0.out.trans ((below_regrown _ p.d p.os).mono HB0.out.size))
  clear hw6
  go_wp2_with fail
  go_ret
  exact ⟨ret_str (by rw [← HQ2.out]; exact ba_of_list (by simp [ByteArray.data_append])), HB6.out⟩
set_option maxRecDepth 20000 in
set_option maxHeartbeats 2000000 in
theorem rwrit_18 (n : Nat) (HC : RAtC n) (tx : List UInt8) (ks : List Tree) (l : Int) (F : Nat → Prop) (w : World) (v : Value) (ht : IsT w F (.node 18 tx ks l) v) (hd : depthT (.node 18 tx ks l) ≤ n + 1) (hs : sizeT (.node 18 tx ks l) ≤ 1000) (hsh : shortT (.node 18 tx ks l)) (hok : exprOK (.node 18 tx ks l) = true) :
    Calls Tryd.prog 52 #[v] w fun e w' => e = .returned (.string ⟨(writP (.node 18 tx ks l)).toArray⟩) ∧ Below w.heap.size w w' := by
  obtain ⟨kv, rfl, hks⟩ := isT_node.1 ht
  rw [depthT_node] at hd
  rw [sizeT_node] at hs
  rw [shortT_node] at hsh
  obtain ⟨htx, hshl⟩ := hsh
  obtain ⟨a, c, rfl⟩ : ∃ a c, kv = .slice a ks.length c := by
    obtain ⟨a, c, hv, _⟩ := hks
    exact ⟨a, c, hv⟩
  have HBND := Lib.hid HC
  have HK := Lib.hid hks
  have htz := size_of_list tx _ htx
  clear ht hks HC
  obtain ⟨x, y, rfl, he0, he1⟩ := expr_two hok (by decide)
  rw [shortL_cons, shortL_cons] at hshl
  obtain ⟨hh0, hh1, -⟩ := hshl
  rw [sizeL_cons, sizeL_cons, sizeL_nil] at hs
  rw [depthL_cons, depthL_cons, depthL_nil] at hd
  have hN : ([x, y] : List Tree).length = 2 := rfl
  rw [hN] at HK ⊢
  clear hN
  obtain ⟨R, hR⟩ : ∃ R, (⟨(writP (.node 18 tx [x, y] l)).toArray⟩ : ByteArray) = R := ⟨_, rfl⟩
  rw [hR]
  have HQ : (⟨(parL 5 (levelP x.kind, writP x)).toArray⟩ : ByteArray) ++ ((⟨#[32, 45, 32]⟩ : ByteArray) ++ (⟨(parL 6 (levelP y.kind, writP y)).toArray⟩ : ByteArray)) = R := by rw [← hR]; exact ba_of_list (by simp [writP_node, writL_cons, writL_nil, asmP, infix2, ByteArray.data_append])
  clear hR
  obtain ⟨bk0, off0, cap0, k00, x00, a00, m00, n00, l00, hv0, c00, c01, c02, c03, hT0⟩ := IsKids.at HK.out (k := 0) (t := x) rfl
  simp only [Value.slice.injEq] at hv0
  obtain ⟨rfl, -, rfl⟩ := hv0
  simp only [Nat.zero_mul, Nat.add_zero, Nat.one_mul, Nat.reduceMul, Nat.add_assoc, Nat.reduceAdd] at c00 c01 c02 c03
  obtain ⟨bk1, off1, cap1, k10, x10, a10, m10, n10, l10, hv1, c10, c11, c12, c13, hT1⟩ := IsKids.at HK.out (k := 1) (t := y) rfl
  simp only [Value.slice.injEq, Option.some.injEq, Addr.mk.injEq, and_true] at hv1
  obtain ⟨⟨rfl, rfl⟩, -, -⟩ := hv1
  simp only [Nat.zero_mul, Nat.add_zero, Nat.one_mul, Nat.reduceMul, Nat.add_assoc, Nat.reduceAdd] at c10 c11 c12 c13
  have hl0 := writP_len x hh0
  have hp0 := parL_len 5 (levelP x.kind, writP x)
  have hS0 : (⟨(parL 5 (levelP x.kind, writP x)).toArray⟩ : ByteArray).size ≤ 300000100 := size_of_list _ _ (by dsimp only at hp0; omega)
  have HC0 := Lib.hid (fun W (hW : Below w.heap.size w W) => HBND.out x F W _ 5 (hT0.step hW) (by omega) (by omega) hh0 he0)
  generalize (⟨(parL 5 (levelP x.kind, writP x)).toArray⟩ : ByteArray) = S0 at hS0 HC0 HQ
  clear hl0 hT0
  clear hp0
  have hl1 := writP_len y hh1
  have hp1 := parL_len 6 (levelP y.kind, writP y)
  have hS1 : (⟨(parL 6 (levelP y.kind, writP y)).toArray⟩ : ByteArray).size ≤ 300000100 := size_of_list _ _ (by dsimp only at hp1; omega)
  have HC1 := Lib.hid (fun W (hW : Below w.heap.size w W) => HBND.out y F W _ 6 (hT1.step hW) (by omega) (by omega) hh1 he1)
  generalize (⟨(parL 6 (levelP y.kind, writP y)).toArray⟩ : ByteArray) = S1 at hS1 HC1 HQ
  clear hl1 hT1
  clear hp1
  have HQ2 := Lib.hid HQ
  clear HQ he0 he1 hh0 hh1 hd hs hok HBND
  have HX0 := Lib.hid (heap_alloc_new w (.cells #[.int .i64 18, .string ⟨tx.toArray⟩, .slice (some ⟨bk0, off0, none⟩) 2 c, .int .i64 l] 26))
  have HB0 := Lib.hid (bel_new w (.cells #[.int .i64 18, .string ⟨tx.toArray⟩, .slice (some ⟨bk0, off0, none⟩) 2 c, .int .i64 l] 26))
  obtain ⟨r0, r1, r2, r3, q0, q1, q2, q3⟩ := box4 HX0.out
  go_enter Tryd.func52, Tryd.ntmps52
  go_upto_region 14 with fail
  have R1 := fun d os => cell_regrown (r0) d os
  have R2 := fun d os => cell_regrown (r1) d os
  have R3 := fun d os => cell_regrown (r2) d os
  have R4 := fun d os => cell_regrown (r3) d os
  have R5 := fun d os => cell_regrown (keep_at HB0.out c00) d os
  have R6 := fun d os => cell_regrown (keep_at HB0.out c01) d os
  have R7 := fun d os => cell_regrown (keep_at HB0.out c02) d os
  have R8 := fun d os => cell_regrown (keep_at HB0.out c03) d os
  have R9 := fun d os => cell_regrown (keep_at HB0.out c10) d os
  have R10 := fun d os => cell_regrown (keep_at HB0.out c11) d os
  have R11 := fun d os => cell_regrown (keep_at HB0.out c12) d os
  have R12 := fun d os => cell_regrown (keep_at HB0.out c13) d os
  refine wp_region_quiet_below (by kernel_rfl) (by kernel_rfl) ?_
  repeat (go_big_quiet_step (first | (go_at_call 77; (with_reducible refine Calls.regrown_of (HC0.out _ ?_)); exact HB0.out.trans ((below_regrown _ _ _).mono HB0.out.size)) | (go_at_call 77; (with_reducible refine Calls.regrown_of (HC1.out _ ?_)); exact HB0.out.trans ((below_regrown _ _ _).mono HB0.out.size))))
  clear R1 R2 R3 R4 R5 R6 R7 R8 R9 R10 R11 R12
  refine wpQuiet_nil ?_
  intro w6 hw6
  have HB6 := Lib.hid (show Below w.heap.size w w6 by obtain ⟨p, rfl⟩ := hw6; exact HB0.out.trans ((below_regrown _ p.d p.os).mono HB0.out.size))
  clear hw6
  go_wp2_with fail
  go_ret
  exact ⟨ret_str (by rw [← HQ2.out]; exact ba_of_list (by simp [ByteArray.data_append])), HB6.out⟩
set_option maxRecDepth 20000 in
set_option maxHeartbeats 2000000 in
theorem rwrit_19 (n : Nat) (HC : RAtC n) (tx : List UInt8) (ks : List Tree) (l : Int) (F : Nat → Prop) (w : World) (v : Value) (ht : IsT w F (.node 19 tx ks l) v) (hd : depthT (.node 19 tx ks l) ≤ n + 1) (hs : sizeT (.node 19 tx ks l) ≤ 1000) (hsh : shortT (.node 19 tx ks l)) (hok : exprOK (.node 19 tx ks l) = true) :
    Calls Tryd.prog 52 #[v] w fun e w' => e = .returned (.string ⟨(writP (.node 19 tx ks l)).toArray⟩) ∧ Below w.heap.size w w' := by
  obtain ⟨kv, rfl, hks⟩ := isT_node.1 ht
  rw [depthT_node] at hd
  rw [sizeT_node] at hs
  rw [shortT_node] at hsh
  obtain ⟨htx, hshl⟩ := hsh
  obtain ⟨a, c, rfl⟩ : ∃ a c, kv = .slice a ks.length c := by
    obtain ⟨a, c, hv, _⟩ := hks
    exact ⟨a, c, hv⟩
  have HBND := Lib.hid HC
  have HK := Lib.hid hks
  have htz := size_of_list tx _ htx
  clear ht hks HC
  obtain ⟨x, y, rfl, he0, he1⟩ := expr_two hok (by decide)
  rw [shortL_cons, shortL_cons] at hshl
  obtain ⟨hh0, hh1, -⟩ := hshl
  rw [sizeL_cons, sizeL_cons, sizeL_nil] at hs
  rw [depthL_cons, depthL_cons, depthL_nil] at hd
  have hN : ([x, y] : List Tree).length = 2 := rfl
  rw [hN] at HK ⊢
  clear hN
  obtain ⟨R, hR⟩ : ∃ R, (⟨(writP (.node 19 tx [x, y] l)).toArray⟩ : ByteArray) = R := ⟨_, rfl⟩
  rw [hR]
  have HQ : (⟨(parL 6 (levelP x.kind, writP x)).toArray⟩ : ByteArray) ++ ((⟨#[32, 42, 32]⟩ : ByteArray) ++ (⟨(parL 7 (levelP y.kind, writP y)).toArray⟩ : ByteArray)) = R := by rw [← hR]; exact ba_of_list (by simp [writP_node, writL_cons, writL_nil, asmP, infix2, ByteArray.data_append])
  clear hR
  obtain ⟨bk0, off0, cap0, k00, x00, a00, m00, n00, l00, hv0, c00, c01, c02, c03, hT0⟩ := IsKids.at HK.out (k := 0) (t := x) rfl
  simp only [Value.slice.injEq] at hv0
  obtain ⟨rfl, -, rfl⟩ := hv0
  simp only [Nat.zero_mul, Nat.add_zero, Nat.one_mul, Nat.reduceMul, Nat.add_assoc, Nat.reduceAdd] at c00 c01 c02 c03
  obtain ⟨bk1, off1, cap1, k10, x10, a10, m10, n10, l10, hv1, c10, c11, c12, c13, hT1⟩ := IsKids.at HK.out (k := 1) (t := y) rfl
  simp only [Value.slice.injEq, Option.some.injEq, Addr.mk.injEq, and_true] at hv1
  obtain ⟨⟨rfl, rfl⟩, -, -⟩ := hv1
  simp only [Nat.zero_mul, Nat.add_zero, Nat.one_mul, Nat.reduceMul, Nat.add_assoc, Nat.reduceAdd] at c10 c11 c12 c13
  have hl0 := writP_len x hh0
  have hp0 := parL_len 6 (levelP x.kind, writP x)
  have hS0 : (⟨(parL 6 (levelP x.kind, writP x)).toArray⟩ : ByteArray).size ≤ 300000100 := size_of_list _ _ (by dsimp only at hp0; omega)
  have HC0 := Lib.hid (fun W (hW : Below w.heap.size w W) => HBND.out x F W _ 6 (hT0.step hW) (by omega) (by omega) hh0 he0)
  generalize (⟨(parL 6 (levelP x.kind, writP x)).toArray⟩ : ByteArray) = S0 at hS0 HC0 HQ
  clear hl0 hT0
  clear hp0
  have hl1 := writP_len y hh1
  have hp1 := parL_len 7 (levelP y.kind, writP y)
  have hS1 : (⟨(parL 7 (levelP y.kind, writP y)).toArray⟩ : ByteArray).size ≤ 300000100 := size_of_list _ _ (by dsimp only at hp1; omega)
  have HC1 := Lib.hid (fun W (hW : Below w.heap.size w W) => HBND.out y F W _ 7 (hT1.step hW) (by omega) (by omega) hh1 he1)
  generalize (⟨(parL 7 (levelP y.kind, writP y)).toArray⟩ : ByteArray) = S1 at hS1 HC1 HQ
  clear hl1 hT1
  clear hp1
  have HQ2 := Lib.hid HQ
  clear HQ he0 he1 hh0 hh1 hd hs hok HBND
  have HX0 := Lib.hid (heap_alloc_new w (.cells #[.int .i64 19, .string ⟨tx.toArray⟩, .slice (some ⟨bk0, off0, none⟩) 2 c, .int .i64 l] 26))
  have HB0 := Lib.hid (bel_new w (.cells #[.int .i64 19, .string ⟨tx.toArray⟩, .slice (some ⟨bk0, off0, none⟩) 2 c, .int .i64 l] 26))
  obtain ⟨r0, r1, r2, r3, q0, q1, q2, q3⟩ := box4 HX0.out
  go_enter Tryd.func52, Tryd.ntmps52
  go_upto_region 16 with fail
  have R1 := fun d os => cell_regrown (r0) d os
  have R2 := fun d os => cell_regrown (r1) d os
  have R3 := fun d os => cell_regrown (r2) d os
  have R4 := fun d os => cell_regrown (r3) d os
  have R5 := fun d os => cell_regrown (keep_at HB0.out c00) d os
  have R6 := fun d os => cell_regrown (keep_at HB0.out c01) d os
  have R7 := fun d os => cell_regrown (keep_at HB0.out c02) d os
  have R8 := fun d os => cell_regrown (keep_at HB0.out c03) d os
  have R9 := fun d os => cell_regrown (keep_at HB0.out c10) d os
  have R10 := fun d os => cell_regrown (keep_at HB0.out c11) d os
  have R11 := fun d os => cell_regrown (keep_at HB0.out c12) d os
  have R12 := fun d os => cell_regrown (keep_at HB0.out c13) d os
  refine wp_region_quiet_below (by kernel_rfl) (by kernel_rfl) ?_
  repeat (go_big_quiet_step (first | (go_at_call 77; (with_reducible refine Calls.regrown_of (HC0.out _ ?_)); exact HB0.out.trans ((below_regrown _ _ _).mono HB0.out.size)) | (go_at_call 77; (with_reducible refine Calls.regrown_of (HC1.out _ ?_)); exact HB0.out.trans ((below_regrown _ _ _).mono HB0.out.size))))
  clear R1 R2 R3 R4 R5 R6 R7 R8 R9 R10 R11 R12
  refine wpQuiet_nil ?_
  intro w6 hw6
  have HB6 := Lib.hid (show Below w.heap.size w w6 by obtain ⟨p, rfl⟩ := hw6; exact HB0.out.trans ((below_regrown _ p.d p.os).mono HB0.out.size))
  clear hw6
  go_wp2_with fail
  go_ret
  exact ⟨ret_str (by rw [← HQ2.out]; exact ba_of_list (by simp [ByteArray.data_append])), HB6.out⟩
set_option maxRecDepth 20000 in
set_option maxHeartbeats 2000000 in
theorem rwrit_15 (n : Nat) (HC : RAtC n) (tx : List UInt8) (ks : List Tree) (l : Int) (F : Nat → Prop) (w : World) (v : Value) (ht : IsT w F (.node 15 tx ks l) v) (hd : depthT (.node 15 tx ks l) ≤ n + 1) (hs : sizeT (.node 15 tx ks l) ≤ 1000) (hsh : shortT (.node 15 tx ks l)) (hok : exprOK (.node 15 tx ks l) = true) :
    Calls Tryd.prog 52 #[v] w fun e w' => e = .returned (.string ⟨(writP (.node 15 tx ks l)).toArray⟩) ∧ Below w.heap.size w w' := by
  obtain ⟨kv, rfl, hks⟩ := isT_node.1 ht
  rw [depthT_node] at hd
  rw [sizeT_node] at hs
  rw [shortT_node] at hsh
  obtain ⟨htx, hshl⟩ := hsh
  obtain ⟨a, c, rfl⟩ : ∃ a c, kv = .slice a ks.length c := by
    obtain ⟨a, c, hv, _⟩ := hks
    exact ⟨a, c, hv⟩
  have HBND := Lib.hid HC
  have HK := Lib.hid hks
  have htz := size_of_list tx _ htx
  clear ht hks HC
  obtain ⟨x, rfl, he0⟩ := expr_one hok
  rw [shortL_cons] at hshl
  obtain ⟨hh0, -⟩ := hshl
  rw [sizeL_cons, sizeL_nil] at hs
  rw [depthL_cons, depthL_nil] at hd
  have hN : ([x] : List Tree).length = 1 := rfl
  rw [hN] at HK ⊢
  clear hN
  obtain ⟨R, hR⟩ : ∃ R, (⟨(writP (.node 15 tx [x] l)).toArray⟩ : ByteArray) = R := ⟨_, rfl⟩
  rw [hR]
  have HQ : (⟨#[110, 111, 116, 32]⟩ : ByteArray) ++ (⟨(parL 3 (levelP x.kind, writP x)).toArray⟩ : ByteArray) = R := by rw [← hR]; exact ba_of_list (by simp [writP_node, writL_cons, writL_nil, asmP, infix2, ByteArray.data_append])
  clear hR
  obtain ⟨bk0, off0, cap0, k00, x00, a00, m00, n00, l00, hv0, c00, c01, c02, c03, hT0⟩ := IsKids.at HK.out (k := 0) (t := x) rfl
  simp only [Value.slice.injEq] at hv0
  obtain ⟨rfl, -, rfl⟩ := hv0
  simp only [Nat.zero_mul, Nat.add_zero, Nat.one_mul, Nat.reduceMul, Nat.add_assoc, Nat.reduceAdd] at c00 c01 c02 c03
  have hl0 := writP_len x hh0
  have hp0 := parL_len 3 (levelP x.kind, writP x)
  have hS0 : (⟨(parL 3 (levelP x.kind, writP x)).toArray⟩ : ByteArray).size ≤ 300000100 := size_of_list _ _ (by dsimp only at hp0; omega)
  have HC0 := Lib.hid (fun W (hW : Below w.heap.size w W) => HBND.out x F W _ 3 (hT0.step hW) (by omega) (by omega) hh0 he0)
  generalize (⟨(parL 3 (levelP x.kind, writP x)).toArray⟩ : ByteArray) = S0 at hS0 HC0 HQ
  clear hl0 hT0
  clear hp0
  have HQ2 := Lib.hid HQ
  clear HQ he0 hh0 hd hs hok HBND
  have HX0 := Lib.hid (heap_alloc_new w (.cells #[.int .i64 15, .string ⟨tx.toArray⟩, .slice (some ⟨bk0, off0, none⟩) 1 c, .int .i64 l] 26))
  have HB0 := Lib.hid (bel_new w (.cells #[.int .i64 15, .string ⟨tx.toArray⟩, .slice (some ⟨bk0, off0, none⟩) 1 c, .int .i64 l] 26))
  obtain ⟨r0, r1, r2, r3, q0, q1, q2, q3⟩ := box4 HX0.out
  have d00 := keep_at HB0.out c00
  have d01 := keep_at HB0.out c01
  have d02 := keep_at HB0.out c02
  have d03 := keep_at HB0.out c03
  go_enter Tryd.func52, Tryd.ntmps52
  go_wp2_with (first | (go_at_call 77; (with_reducible refine (HC0.out _ HB0.out).mono ?_); rintro e w2 ⟨rfl, hb⟩; have HB2 := Lib.hid (HB0.out.trans (hb.mono HB0.out.size)); clear hb))
  go_ret
  exact ⟨ret_str (by first | (rw [← HQ2.out]; done) | (rw [← HQ2.out]; exact ba_of_list (by simp [ByteArray.data_append]))), HB2.out⟩
set_option maxRecDepth 20000 in
set_option maxHeartbeats 2000000 in
theorem rwrit_20 (n : Nat) (HC : RAtC n) (tx : List UInt8) (ks : List Tree) (l : Int) (F : Nat → Prop) (w : World) (v : Value) (ht : IsT w F (.node 20 tx ks l) v) (hd : depthT (.node 20 tx ks l) ≤ n + 1) (hs : sizeT (.node 20 tx ks l) ≤ 1000) (hsh : shortT (.node 20 tx ks l)) (hok : exprOK (.node 20 tx ks l) = true) :
    Calls Tryd.prog 52 #[v] w fun e w' => e = .returned (.string ⟨(writP (.node 20 tx ks l)).toArray⟩) ∧ Below w.heap.size w w' := by
  obtain ⟨kv, rfl, hks⟩ := isT_node.1 ht
  rw [depthT_node] at hd
  rw [sizeT_node] at hs
  rw [shortT_node] at hsh
  obtain ⟨htx, hshl⟩ := hsh
  obtain ⟨a, c, rfl⟩ : ∃ a c, kv = .slice a ks.length c := by
    obtain ⟨a, c, hv, _⟩ := hks
    exact ⟨a, c, hv⟩
  have HBND := Lib.hid HC
  have HK := Lib.hid hks
  have htz := size_of_list tx _ htx
  clear ht hks HC
  have HQ2 := Lib.hid (show (⟨tx.toArray⟩ : ByteArray) = (⟨(writP (.node 20 tx ks l)).toArray⟩ : ByteArray) from ba_of_list (by simp [writP_node, writL_cons, writL_nil, asmP, infix2, ByteArray.data_append]))
  generalize (⟨(writP (.node 20 tx ks l)).toArray⟩ : ByteArray) = R at *
  generalize ks.length = N at *
  clear hd hs hok hshl HBND HK
  have HX0 := Lib.hid (heap_alloc_new w (.cells #[.int .i64 20, .string ⟨tx.toArray⟩, .slice a N c, .int .i64 l] 26))
  have HB0 := Lib.hid (bel_new w (.cells #[.int .i64 20, .string ⟨tx.toArray⟩, .slice a N c, .int .i64 l] 26))
  obtain ⟨r0, r1, r2, r3, q0, q1, q2, q3⟩ := box4 HX0.out
  go_enter Tryd.func52, Tryd.ntmps52
  go_wp2_with fail
  go_ret
  exact ⟨ret_str (by first | (rw [← HQ2.out]; done) | (rw [← HQ2.out]; exact ba_of_list (by simp [ByteArray.data_append]))), HB0.out⟩
set_option maxRecDepth 20000 in
set_option maxHeartbeats 2000000 in
theorem rwrit_21 (n : Nat) (HC : RAtC n) (tx : List UInt8) (ks : List Tree) (l : Int) (F : Nat → Prop) (w : World) (v : Value) (ht : IsT w F (.node 21 tx ks l) v) (hd : depthT (.node 21 tx ks l) ≤ n + 1) (hs : sizeT (.node 21 tx ks l) ≤ 1000) (hsh : shortT (.node 21 tx ks l)) (hok : exprOK (.node 21 tx ks l) = true) :
    Calls Tryd.prog 52 #[v] w fun e w' => e = .returned (.string ⟨(writP (.node 21 tx ks l)).toArray⟩) ∧ Below w.heap.size w w' := by
  obtain ⟨kv, rfl, hks⟩ := isT_node.1 ht
  rw [depthT_node] at hd
  rw [sizeT_node] at hs
  rw [shortT_node] at hsh
  obtain ⟨htx, hshl⟩ := hsh
  obtain ⟨a, c, rfl⟩ : ∃ a c, kv = .slice a ks.length c := by
    obtain ⟨a, c, hv, _⟩ := hks
    exact ⟨a, c, hv⟩
  have HBND := Lib.hid HC
  have HK := Lib.hid hks
  have htz := size_of_list tx _ htx
  clear ht hks HC
  have hq := expr_string hok
  have HCQ := Lib.hid (fun W => rquo_any ⟨tx.toArray⟩ W htz (by simpa using hq))
  rw [show (⟨tx.toArray⟩ : ByteArray).data.toList = tx by simp] at HCQ
  have HQ2 := Lib.hid (show (⟨(quoL tx).toArray⟩ : ByteArray) = (⟨(writP (.node 21 tx ks l)).toArray⟩ : ByteArray) from ba_of_list (by simp [writP_node, writL_cons, writL_nil, asmP, infix2, ByteArray.data_append]))
  generalize (⟨(writP (.node 21 tx ks l)).toArray⟩ : ByteArray) = R at *
  generalize ks.length = N at *
  clear hd hs hok hshl HBND HK
  have hqz : (⟨(quoL tx).toArray⟩ : ByteArray).size ≤ 200100 := size_of_list _ _ (by have := quoL_len tx; omega)
  generalize (⟨(quoL tx).toArray⟩ : ByteArray) = S at *
  have HX0 := Lib.hid (heap_alloc_new w (.cells #[.int .i64 21, .string ⟨tx.toArray⟩, .slice a N c, .int .i64 l] 26))
  have HB0 := Lib.hid (bel_new w (.cells #[.int .i64 21, .string ⟨tx.toArray⟩, .slice a N c, .int .i64 l] 26))
  obtain ⟨r0, r1, r2, r3, q0, q1, q2, q3⟩ := box4 HX0.out
  go_enter Tryd.func52, Tryd.ntmps52
  go_wp2_with (first | (go_at_call 51; (with_reducible refine (HCQ.out _).mono ?_); rintro e w2 ⟨rfl, hb⟩; have HB2 := Lib.hid (HB0.out.trans (hb.mono HB0.out.size)); clear hb))
  go_ret
  exact ⟨ret_str (by first | (rw [← HQ2.out]; done) | (rw [← HQ2.out]; exact ba_of_list (by simp [ByteArray.data_append]))), HB2.out⟩
set_option maxRecDepth 20000 in
set_option maxHeartbeats 2000000 in
theorem rwrit_22 (n : Nat) (HC : RAtC n) (tx : List UInt8) (ks : List Tree) (l : Int) (F : Nat → Prop) (w : World) (v : Value) (ht : IsT w F (.node 22 tx ks l) v) (hd : depthT (.node 22 tx ks l) ≤ n + 1) (hs : sizeT (.node 22 tx ks l) ≤ 1000) (hsh : shortT (.node 22 tx ks l)) (hok : exprOK (.node 22 tx ks l) = true) :
    Calls Tryd.prog 52 #[v] w fun e w' => e = .returned (.string ⟨(writP (.node 22 tx ks l)).toArray⟩) ∧ Below w.heap.size w w' := by
  obtain ⟨kv, rfl, hks⟩ := isT_node.1 ht
  rw [depthT_node] at hd
  rw [sizeT_node] at hs
  rw [shortT_node] at hsh
  obtain ⟨htx, hshl⟩ := hsh
  obtain ⟨a, c, rfl⟩ : ∃ a c, kv = .slice a ks.length c := by
    obtain ⟨a, c, hv, _⟩ := hks
    exact ⟨a, c, hv⟩
  have HBND := Lib.hid HC
  have HK := Lib.hid hks
  have htz := size_of_list tx _ htx
  clear ht hks HC
  have HQ2 := Lib.hid (show (⟨tx.toArray⟩ : ByteArray) = (⟨(writP (.node 22 tx ks l)).toArray⟩ : ByteArray) from ba_of_list (by simp [writP_node, writL_cons, writL_nil, asmP, infix2, ByteArray.data_append]))
  generalize (⟨(writP (.node 22 tx ks l)).toArray⟩ : ByteArray) = R at *
  generalize ks.length = N at *
  clear hd hs hok hshl HBND HK
  have HX0 := Lib.hid (heap_alloc_new w (.cells #[.int .i64 22, .string ⟨tx.toArray⟩, .slice a N c, .int .i64 l] 26))
  have HB0 := Lib.hid (bel_new w (.cells #[.int .i64 22, .string ⟨tx.toArray⟩, .slice a N c, .int .i64 l] 26))
  obtain ⟨r0, r1, r2, r3, q0, q1, q2, q3⟩ := box4 HX0.out
  go_enter Tryd.func52, Tryd.ntmps52
  go_wp2_with fail
  go_ret
  exact ⟨ret_str (by first | (rw [← HQ2.out]; done) | (rw [← HQ2.out]; exact ba_of_list (by simp [ByteArray.data_append]))), HB0.out⟩
set_option maxRecDepth 20000 in
set_option maxHeartbeats 2000000 in
theorem rwrit_23 (n : Nat) (HC : RAtC n) (tx : List UInt8) (ks : List Tree) (l : Int) (F : Nat → Prop) (w : World) (v : Value) (ht : IsT w F (.node 23 tx ks l) v) (hd : depthT (.node 23 tx ks l) ≤ n + 1) (hs : sizeT (.node 23 tx ks l) ≤ 1000) (hsh : shortT (.node 23 tx ks l)) (hok : exprOK (.node 23 tx ks l) = true) :
    Calls Tryd.prog 52 #[v] w fun e w' => e = .returned (.string ⟨(writP (.node 23 tx ks l)).toArray⟩) ∧ Below w.heap.size w w' := by
  obtain ⟨kv, rfl, hks⟩ := isT_node.1 ht
  rw [depthT_node] at hd
  rw [sizeT_node] at hs
  rw [shortT_node] at hsh
  obtain ⟨htx, hshl⟩ := hsh
  obtain ⟨a, c, rfl⟩ : ∃ a c, kv = .slice a ks.length c := by
    obtain ⟨a, c, hv, _⟩ := hks
    exact ⟨a, c, hv⟩
  have HBND := Lib.hid HC
  have HK := Lib.hid hks
  have htz := size_of_list tx _ htx
  clear ht hks HC
  have HQ2 := Lib.hid (show (⟨tx.toArray⟩ : ByteArray) = (⟨(writP (.node 23 tx ks l)).toArray⟩ : ByteArray) from ba_of_list (by simp [writP_node, writL_cons, writL_nil, asmP, infix2, ByteArray.data_append]))
  generalize (⟨(writP (.node 23 tx ks l)).toArray⟩ : ByteArray) = R at *
  generalize ks.length = N at *
  clear hd hs hok hshl HBND HK
  have HX0 := Lib.hid (heap_alloc_new w (.cells #[.int .i64 23, .string ⟨tx.toArray⟩, .slice a N c, .int .i64 l] 26))
  have HB0 := Lib.hid (bel_new w (.cells #[.int .i64 23, .string ⟨tx.toArray⟩, .slice a N c, .int .i64 l] 26))
  obtain ⟨r0, r1, r2, r3, q0, q1, q2, q3⟩ := box4 HX0.out
  go_enter Tryd.func52, Tryd.ntmps52
  go_wp2_with fail
  go_ret
  exact ⟨ret_str (by first | (rw [← HQ2.out]; done) | (rw [← HQ2.out]; exact ba_of_list (by simp [ByteArray.data_append]))), HB0.out⟩
set_option maxRecDepth 20000 in
set_option maxHeartbeats 2000000 in
theorem rwrit_24 (n : Nat) (HC : RWritC n) (tx : List UInt8) (ks : List Tree) (l : Int) (F : Nat → Prop) (w : World) (v : Value) (ht : IsT w F (.node 24 tx ks l) v) (hd : depthT (.node 24 tx ks l) ≤ n + 1) (hs : sizeT (.node 24 tx ks l) ≤ 1000) (hsh : shortT (.node 24 tx ks l)) (hok : exprOK (.node 24 tx ks l) = true) :
    Calls Tryd.prog 52 #[v] w fun e w' => e = .returned (.string ⟨(writP (.node 24 tx ks l)).toArray⟩) ∧ Below w.heap.size w w' := by
  obtain ⟨kv, rfl, hks⟩ := isT_node.1 ht
  rw [depthT_node] at hd
  rw [sizeT_node] at hs
  rw [shortT_node] at hsh
  obtain ⟨htx, hshl⟩ := hsh
  obtain ⟨a, c, rfl⟩ : ∃ a c, kv = .slice a ks.length c := by
    obtain ⟨a, c, hv, _⟩ := hks
    exact ⟨a, c, hv⟩
  have HBND := Lib.hid HC
  have HK := Lib.hid hks
  have htz := size_of_list tx _ htx
  clear ht hks HC
  have hkids := expr_kids hok
  have hl : ks.length ≤ 1000 := by have := len_le_size ks; omega
  have HKI := Lib.hid hkids
  have HSH := Lib.hid hshl
  have HD := Lib.hid hd
  have HSZ := Lib.hid hs
  have hJ : ∀ q, (joinH [44, 32] ((ks.take q).map writP)).length ≤ 300000000 := by
    intro q
    have h1 := writ_takelen (ks.take q) (short_takeH hshl q)
    have h2 := sizeL_take_le ks q
    have h3 := joinH_len [44, 32] (by decide) ((ks.take q).map writP) (300000 * sizeL (ks.take q)) (by rw [List.map_map]; refine Nat.le_trans ?_ h1; exact sum_monoH _ _ _ (fun t => by simp only [Function.comp]; omega))
    omega
  have HJ := Lib.hid hJ
  obtain ⟨R, hR⟩ : ∃ R, (⟨(writP (.node 24 tx ks l)).toArray⟩ : ByteArray) = R := ⟨_, rfl⟩
  rw [hR]
  have HQ := Lib.hid (show (⟨tx.toArray⟩ : ByteArray) ++ (⟨#[40]⟩ ++ ((⟨(joinH [44, 32] ((ks).map writP)).toArray⟩ : ByteArray) ++ ⟨#[41]⟩)) = R by rw [← hR]; exact ba_of_list (by rw [writP_node]; simp [asmP, wr2, joinP_H, ByteArray.data_append]))
  clear hR hkids hok hshl hd hs hJ
  have HX0 := Lib.hid (heap_alloc_new w (.cells #[.int .i64 24, .string ⟨tx.toArray⟩, .slice a ks.length c, .int .i64 l] 26))
  have HB0 := Lib.hid (bel_new w (.cells #[.int .i64 24, .string ⟨tx.toArray⟩, .slice a ks.length c, .int .i64 l] 26))
  obtain ⟨r0, r1, r2, r3, q0, q1, q2, q3⟩ := box4 HX0.out
  go_enter Tryd.func52, Tryd.ntmps52
  go_wp2_with fail
  go_loopw [4, 105] (fun x i wr => ∃ q : Nat, ∃ X : ByteArray, i = .int .i64 q ∧ q ≤ ks.length ∧ x = .string X ∧ X = ⟨(tx ++ (40 :: joinH [44, 32] ((ks.take q).map writP))).toArray⟩ ∧ Below w.heap.size w wr ∧ wr.heap[w.heap.size]? = some (.cells #[.int .i64 24, .string ⟨tx.toArray⟩, .slice a ks.length c, .int .i64 l] 26 (0, 0))) (fun _ i _ => ks.length - (intOf i).toNat)
  case atStart => exact ⟨0, _, rfl, Nat.zero_le _, rfl, ba_of_list (by simp [ByteArray.data_append, joinH]), HB0.out, HX0.out⟩
  case round =>
    obtain ⟨q, X, rfl, hq, rfl, hX, hb, hx⟩ := hrel
    have hXs : X.size ≤ 300200000 := by rw [hX]; exact size_of_list _ _ (by have := HJ.out q; simp only [List.length_append, List.length_cons]; omega)
    have HB := Lib.hid hb
    have HX := Lib.hid hx
    have HXX := Lib.hid hX
    clear hb hx hX
    obtain ⟨d0, d1, d2, d3, y0, y1, y2, y3⟩ := box4 HX.out
    by_cases hlt : q < ks.length
    · obtain ⟨t', ht'⟩ : ∃ t', ks[q]? = some t' := ⟨_, List.getElem?_eq_getElem hlt⟩
      obtain ⟨b, off, cap, k0, x0, a0, m0, n0, l0, hv, c0, c1, c2, c3, hT⟩ := IsKids.at (HK.out.step HB.out) ht'
      simp only [Value.slice.injEq] at hv
      obtain ⟨rfl, -, rfl⟩ := hv
      have h3 := depthT_at ht'
      have h4 := sizeT_at ht'
      have h5 := shortT_at HSH.out ht'
      have h6 := exprOK_at HKI.out ht'
      have h7 := writP_len t' h5
      have HT := Lib.hid hT
      have HTK := Lib.hid (join_takeH [44, 32] writP ht')
      have HCC := Lib.hid (fun W (hW : IsT W F t' (.agg #[.int .i64 k0, .string ⟨x0.toArray⟩, .slice a0 m0 n0, .int .i64 l0])) => HBND.out t' F W _ hW (by have := HD.out; omega) (by have := HSZ.out; omega) h5 h6)
      obtain ⟨S, hS⟩ : ∃ S : ByteArray, S = ⟨(writP t').toArray⟩ := ⟨_, rfl⟩
      have hSs : S.size ≤ 300000000 := by rw [hS]; exact size_of_list _ _ (by have := HSZ.out; omega)
      rw [← hS] at HCC
      have HS := Lib.hid hS
      have hlti : (q : Int) < (ks.length : Int) := by omega
      clear h3 h4 h5 h6 h7 hT ht' hS
      by_cases hq0 : q = 0
      · subst hq0
        simp only [Nat.zero_mul, Nat.add_zero] at c0 c1 c2 c3
        go_wp2_with (first | (go_at_call 52; (with_reducible refine (HCC.out _ HT.out).mono ?_); rintro e w2 ⟨rfl, hb1⟩; have HB2 := Lib.hid hb1; clear hb1))
        go_roundw
        case rel => exact ⟨1, _, by go_num, by omega, rfl, by rw [HTK.out, if_pos trivial, HXX.out, HS.out]; exact ba_of_list (by simp [ByteArray.data_append, joinH]), HB.out.trans (HB2.out.mono HB.out.size), keep_blk HB2.out HX.out⟩
        case measure => simp [intOf]; omega
      · have hqi : (0 : Int) < (q : Int) := by omega
        go_wp2_with (first | (go_at_call 52; (with_reducible refine (HCC.out _ HT.out).mono ?_); rintro e w2 ⟨rfl, hb1⟩; have HB2 := Lib.hid hb1; clear hb1))
        go_roundw
        case rel => exact ⟨q + 1, _, by go_num, by omega, rfl, by rw [HTK.out, if_neg hq0, HXX.out, HS.out]; exact ba_of_list (by simp [ByteArray.data_append]), HB.out.trans (HB2.out.mono HB.out.size), keep_blk HB2.out HX.out⟩
        case measure => simp [intOf]; omega
    · have hq2 : q = ks.length := by omega
      subst hq2
      rw [List.take_length] at HXX
      go_wp2_with fail
      go_ret
      exact ⟨ret_str (by rw [← HQ.out, HXX.out]; exact ba_of_list (by simp [ByteArray.data_append])), HB.out⟩
theorem rwrit_ok (n : Nat) (HC : RWritC n) : RWritC (n + 1) := by
  intro t F w v ht hd hs hsh hok
  obtain ⟨k, tx, ks, l⟩ := t
  have HB := rat_ok n HC
  have hk : k = 13 ∨ k = 14 ∨ k = 15 ∨ k = 16 ∨ k = 17 ∨ k = 18 ∨ k = 19 ∨ k = 20 ∨ k = 21 ∨ k = 22 ∨ k = 23 ∨ k = 24 := by
    by_cases h : k = 13 ∨ k = 14 ∨ k = 15 ∨ k = 16 ∨ k = 17 ∨ k = 18 ∨ k = 19 ∨ k = 20 ∨ k = 21 ∨ k = 22 ∨ k = 23 ∨ k = 24
    · exact h
    · simp only [not_or] at h
      obtain ⟨h13, h14, h15, h16, h17, h18, h19, h20, h21, h22, h23, h24⟩ := h
      rw [exprOK_node] at hok
      have e : operandsP k tx = -2 := by simp [operandsP, h13, h14, h15, h16, h17, h18, h19, h20, h21, h22, h23, h24]
      rw [e] at hok
      simp [arOK] at hok
  rcases hk with rfl | rfl | rfl | rfl | rfl | rfl | rfl | rfl | rfl | rfl | rfl | rfl
  · exact rwrit_13 n HB tx ks l F w v ht hd hs hsh hok
  · exact rwrit_14 n HB tx ks l F w v ht hd hs hsh hok
  · exact rwrit_15 n HB tx ks l F w v ht hd hs hsh hok
  · exact rwrit_16 n HB tx ks l F w v ht hd hs hsh hok
  · exact rwrit_17 n HB tx ks l F w v ht hd hs hsh hok
  · exact rwrit_18 n HB tx ks l F w v ht hd hs hsh hok
  · exact rwrit_19 n HB tx ks l F w v ht hd hs hsh hok
  · exact rwrit_20 n HB tx ks l F w v ht hd hs hsh hok
  · exact rwrit_21 n HB tx ks l F w v ht hd hs hsh hok
  · exact rwrit_22 n HB tx ks l F w v ht hd hs hsh hok
  · exact rwrit_23 n HB tx ks l F w v ht hd hs hsh hok
  · exact rwrit_24 n HC tx ks l F w v ht hd hs hsh hok
theorem rwrit_all : ∀ n, RWritC n
  | 0 => fun t F w v ht hd hs hsh hok => by have := depth_pos t; omega
  | n + 1 => rwrit_ok n (rwrit_all n)
theorem rwritten_any (t : Tree) (F : Nat → Prop) (w : World) (v : Value) (ht : IsT w F t v) (hs : sizeT t ≤ 1000) (hsh : shortT t) (hok : exprOK t = true) :
    Calls Tryd.prog 52 #[v] w fun e w' => e = .returned (.string ⟨(writP t).toArray⟩) ∧ Below w.heap.size w w' := rwrit_all _ t F w v ht (Nat.le_refl _) hs hsh hok
end Go.Proofs.YtogkiifljdnjgaaDoor
