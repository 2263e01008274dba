/- The walk of written. Conditions: an expression, bounds on size and texts. -/
import Derived.Test.YtogkiifljdnjgaaDoorPrintP
import Derived.BigQuiet
namespace Go.Proofs.YtogkiifljdnjgaaDoor
open Go.RowKit
set_option linter.unusedVariables false
set_option linter.unusedSimpArgs false

/-- What an expression's kind says of its kids. -/
theorem expr_two {k : Int} {tx : List UInt8} {ks : List Tree} {l : Int} (h : exprOK (.node k tx ks l) = true) (hk : k = 13 ∨ k = 14 ∨ k = 16 ∨ k = 17 ∨ k = 18 ∨ k = 19) : ∃ x y, ks = [x, y] ∧ exprOK x = true ∧ exprOK y = true := by
  rw [exprOK_node, Bool.and_eq_true] at h
  obtain ⟨h1, h2⟩ := h
  have hm : operandsP k tx = 2 ∨ operandsP k tx = -2 := by
    unfold operandsP
    rcases hk with rfl | rfl | rfl | rfl | rfl | rfl <;> simp <;> first | exact Classical.em _ | (cases cmpW 4 tx <;> cases cmpW 1 tx <;> simp)
  have hlen : ks.length = 2 := by
    rcases hm with e | e <;> rw [e] at h1 <;> simp [arOK] at h1
    omega
  rcases ks with _ | ⟨x, _ | ⟨y, _ | ⟨z, r⟩⟩⟩ <;> simp at hlen
  rw [exprsOK_cons, exprsOK_cons, exprsOK_nil] at h2
  simp at h2
  exact ⟨x, y, rfl, h2.1, h2.2⟩
theorem expr_one {tx : List UInt8} {ks : List Tree} {l : Int} (h : exprOK (.node 15 tx ks l) = true) : ∃ x, ks = [x] ∧ exprOK x = true := by
  rw [exprOK_node, Bool.and_eq_true] at h
  obtain ⟨h1, h2⟩ := h
  have hm : operandsP 15 tx = 1 ∨ operandsP 15 tx = -2 := by
    unfold operandsP
    simp
    exact Classical.em _
  have hlen : ks.length = 1 := by
    rcases hm with e | e <;> rw [e] at h1 <;> simp [arOK] at h1
    omega
  rcases ks with _ | ⟨x, _ | ⟨y, r⟩⟩ <;> simp at hlen
  rw [exprsOK_cons, exprsOK_nil] at h2
  simp at h2
  exact ⟨x, rfl, h2⟩
theorem expr_string {tx : List UInt8} {ks : List Tree} {l : Int} (h : exprOK (.node 21 tx ks l) = true) : tx.all okB = true := by
  rw [exprOK_node, Bool.and_eq_true] at h
  by_cases hk : tx.all okB = true
  · exact hk
  · have e : operandsP 21 tx = -2 := by unfold operandsP; simp [hk]
    rw [e] at h
    simp [arOK] at h
theorem expr_kids {k : Int} {tx : List UInt8} {ks : List Tree} {l : Int} (h : exprOK (.node k tx ks l) = true) : exprsOK ks = true := by
  rw [exprOK_node, Bool.and_eq_true] at h
  exact h.2
theorem exprOK_at : ∀ {ks : List Tree} {q : Nat} {t : Tree}, exprsOK ks = true → ks[q]? = some t → exprOK t = true
  | ks, q, t, h, hq => by
    by_cases hb : exprOK t = true
    · exact hb
    · rw [exprsOK_bad hq (by simpa using hb)] at h
      cases h
theorem size_of_list (l : List UInt8) (m : Nat) (h : l.length ≤ m) : (⟨l.toArray⟩ : ByteArray).size ≤ m := by
  show l.toArray.size ≤ m
  simpa using h
set_option maxRecDepth 20000 in
set_option maxHeartbeats 2000000 in
theorem writ_13 (n : Nat) (HC : BoundC n) (tx : List UInt8) (ks : List Tree) (l : Int) (F : Nat → Prop) (w : World) (v : Value) (ht : IsT w F (.node 13 tx ks l) v) (hd : depthT (.node 13 tx ks l) ≤ n + 1) (hs : sizeT (.node 13 tx ks l) ≤ 1000) (hsh : shortT (.node 13 tx ks l)) (hok : exprOK (.node 13 tx ks l) = true) :
    Calls Tryd.prog 73 #[v] w fun e w' => e = .returned (.string ⟨(writP (.node 13 tx ks l)).toArray⟩) ∧ Below w.heap.size w w' := by
  obtain ⟨kv, rfl, hks⟩ := isT_node.1 ht
  rw [depthT_node] at hd
  rw [sizeT_node] at hs
  rw [shortT_node] at hsh
  obtain ⟨htx, hshl⟩ := hsh
  obtain ⟨a, c, rfl⟩ : ∃ a c, kv = .slice a ks.length c := by
    obtain ⟨a, c, hv, _⟩ := hks
    exact ⟨a, c, hv⟩
  have HBND := Lib.hid HC
  have HK := Lib.hid hks
  have htz := size_of_list tx _ htx
  clear ht hks HC
  obtain ⟨x, y, rfl, he0, he1⟩ := expr_two hok (by decide)
  rw [shortL_cons, shortL_cons] at hshl
  obtain ⟨hh0, hh1, -⟩ := hshl
  rw [sizeL_cons, sizeL_cons, sizeL_nil] at hs
  rw [depthL_cons, depthL_cons, depthL_nil] at hd
  have hN : ([x, y] : List Tree).length = 2 := rfl
  rw [hN] at HK ⊢
  clear hN
  obtain ⟨R, hR⟩ : ∃ R, (⟨(writP (.node 13 tx [x, y] l)).toArray⟩ : ByteArray) = R := ⟨_, rfl⟩
  rw [hR]
  have HQ : (⟨(parL 1 (levelP x.kind, writP x)).toArray⟩ : ByteArray) ++ ((⟨#[32, 111, 114, 32]⟩ : ByteArray) ++ (⟨(parL 2 (levelP y.kind, writP y)).toArray⟩ : ByteArray)) = R := by rw [← hR, writP_node, writL_cons, writL_cons, writL_nil]; exact ba_of_list (by simp [asmP, infix2, ByteArray.data_append])
  clear hR
  obtain ⟨bk0, off0, cap0, k00, x00, a00, m00, n00, l00, hv0, c00, c01, c02, c03, hT0⟩ := IsKids.at HK.out (k := 0) (t := x) rfl
  simp only [Value.slice.injEq] at hv0
  obtain ⟨rfl, -, rfl⟩ := hv0
  simp only [Nat.zero_mul, Nat.add_zero, Nat.one_mul, Nat.reduceMul, Nat.add_assoc, Nat.reduceAdd] at c00 c01 c02 c03
  obtain ⟨bk1, off1, cap1, k10, x10, a10, m10, n10, l10, hv1, c10, c11, c12, c13, hT1⟩ := IsKids.at HK.out (k := 1) (t := y) rfl
  simp only [Value.slice.injEq, Option.some.injEq, Addr.mk.injEq, and_true] at hv1
  obtain ⟨⟨rfl, rfl⟩, -, -⟩ := hv1
  simp only [Nat.zero_mul, Nat.add_zero, Nat.one_mul, Nat.reduceMul, Nat.add_assoc, Nat.reduceAdd] at c10 c11 c12 c13
  have hl0 := writP_len x hh0
  have hp0 := parL_len 1 (levelP x.kind, writP x)
  have hS0 : (⟨(parL 1 (levelP x.kind, writP x)).toArray⟩ : ByteArray).size ≤ 300000100 := size_of_list _ _ (by dsimp only at hp0; omega)
  have HC0 := Lib.hid (fun W (hW : Below w.heap.size w W) => HBND.out x F W _ 1 (hT0.step hW) (by omega) (by omega) hh0 he0)
  generalize (⟨(parL 1 (levelP x.kind, writP x)).toArray⟩ : ByteArray) = S0 at hS0 HC0 HQ
  clear hl0 hp0 hT0
  have hl1 := writP_len y hh1
  have hp1 := parL_len 2 (levelP y.kind, writP y)
  have hS1 : (⟨(parL 2 (levelP y.kind, writP y)).toArray⟩ : ByteArray).size ≤ 300000100 := size_of_list _ _ (by dsimp only at hp1; omega)
  have HC1 := Lib.hid (fun W (hW : Below w.heap.size w W) => HBND.out y F W _ 2 (hT1.step hW) (by omega) (by omega) hh1 he1)
  generalize (⟨(parL 2 (levelP y.kind, writP y)).toArray⟩ : ByteArray) = S1 at hS1 HC1 HQ
  clear hl1 hp1 hT1
  have HQ2 := Lib.hid HQ
  clear HQ he0 he1 hh0 hh1 hd hs hok HBND
  have HX0 := Lib.hid (heap_alloc_new w (.cells #[.int .i64 13, .string ⟨tx.toArray⟩, .slice (some ⟨bk0, off0, none⟩) 2 c, .int .i64 l] 32))
  have HB0 := Lib.hid (bel_new w (.cells #[.int .i64 13, .string ⟨tx.toArray⟩, .slice (some ⟨bk0, off0, none⟩) 2 c, .int .i64 l] 32))
  obtain ⟨r0, r1, r2, r3, q0, q1, q2, q3⟩ := box4 HX0.out
  have HLV := Lib.hid (fun W => (show Calls Tryd.prog 87 #[.agg #[.int .i64 13, .string ⟨tx.toArray⟩, .slice (some ⟨bk0, off0, none⟩) 2 c, .int .i64 l]] W fun e w' => e = .returned (.int .i64 1) ∧ Below W.heap.size W w' from level_any 13 tx (some ⟨bk0, off0, none⟩) 2 c l W))
  go_enter Tryd.func73, Tryd.ntmps73
  go_upto_region 4 with (first | (go_at_call 87; (with_reducible refine (HLV.out _).mono ?_); rintro e w1 ⟨rfl, hb⟩; have HB1 := Lib.hid (HB0.out.trans (hb.mono HB0.out.size)); have HX1 := Lib.hid (keep_blk hb HX0.out); obtain ⟨s0, s1, s2, s3, z0, z1, z2, z3⟩ := box4 HX1.out; clear hb))
  have R1 := fun d os => cell_regrown (s0) d os
  have R2 := fun d os => cell_regrown (s1) d os
  have R3 := fun d os => cell_regrown (s2) d os
  have R4 := fun d os => cell_regrown (s3) d os
  have R5 := fun d os => cell_regrown (keep_at HB1.out c00) d os
  have R6 := fun d os => cell_regrown (keep_at HB1.out c01) d os
  have R7 := fun d os => cell_regrown (keep_at HB1.out c02) d os
  have R8 := fun d os => cell_regrown (keep_at HB1.out c03) d os
  have R9 := fun d os => cell_regrown (keep_at HB1.out c10) d os
  have R10 := fun d os => cell_regrown (keep_at HB1.out c11) d os
  have R11 := fun d os => cell_regrown (keep_at HB1.out c12) d os
  have R12 := fun d os => cell_regrown (keep_at HB1.out c13) d os
  refine wp_region_quiet_below (by kernel_rfl) (by kernel_rfl) ?_
  repeat (go_big_quiet_step (first | (go_at_call 88; (with_reducible refine Calls.regrown_of (HC0.out _ ?_)); exact HB1.out.trans ((below_regrown _ _ _).mono HB1.out.size)) | (go_at_call 88; (with_reducible refine Calls.regrown_of (HC1.out _ ?_)); exact HB1.out.trans ((below_regrown _ _ _).mono HB1.out.size))))
  clear R1 R2 R3 R4 R5 R6 R7 R8 R9 R10 R11 R12
  refine wpQuiet_nil ?_
  intro w6 hw6
  have HB6 := Lib.hid (show Below w.heap.size w w6 by obtain ⟨p, rfl⟩ := hw6; exact HB1.out.trans ((below_regrown w1 p.d p.os).mono HB1.out.size))
  clear hw6
  go_wp2_with fail
  go_ret
  exact ⟨ret_str (by rw [← HQ2.out]; exact ba_of_list (by simp [ByteArray.data_append])), HB6.out⟩
set_option maxRecDepth 20000 in
set_option maxHeartbeats 2000000 in
theorem writ_14 (n : Nat) (HC : BoundC n) (tx : List UInt8) (ks : List Tree) (l : Int) (F : Nat → Prop) (w : World) (v : Value) (ht : IsT w F (.node 14 tx ks l) v) (hd : depthT (.node 14 tx ks l) ≤ n + 1) (hs : sizeT (.node 14 tx ks l) ≤ 1000) (hsh : shortT (.node 14 tx ks l)) (hok : exprOK (.node 14 tx ks l) = true) :
    Calls Tryd.prog 73 #[v] w fun e w' => e = .returned (.string ⟨(writP (.node 14 tx ks l)).toArray⟩) ∧ Below w.heap.size w w' := by
  obtain ⟨kv, rfl, hks⟩ := isT_node.1 ht
  rw [depthT_node] at hd
  rw [sizeT_node] at hs
  rw [shortT_node] at hsh
  obtain ⟨htx, hshl⟩ := hsh
  obtain ⟨a, c, rfl⟩ : ∃ a c, kv = .slice a ks.length c := by
    obtain ⟨a, c, hv, _⟩ := hks
    exact ⟨a, c, hv⟩
  have HBND := Lib.hid HC
  have HK := Lib.hid hks
  have htz := size_of_list tx _ htx
  clear ht hks HC
  obtain ⟨x, y, rfl, he0, he1⟩ := expr_two hok (by decide)
  rw [shortL_cons, shortL_cons] at hshl
  obtain ⟨hh0, hh1, -⟩ := hshl
  rw [sizeL_cons, sizeL_cons, sizeL_nil] at hs
  rw [depthL_cons, depthL_cons, depthL_nil] at hd
  have hN : ([x, y] : List Tree).length = 2 := rfl
  rw [hN] at HK ⊢
  clear hN
  obtain ⟨R, hR⟩ : ∃ R, (⟨(writP (.node 14 tx [x, y] l)).toArray⟩ : ByteArray) = R := ⟨_, rfl⟩
  rw [hR]
  have HQ : (⟨(parL 2 (levelP x.kind, writP x)).toArray⟩ : ByteArray) ++ ((⟨#[32, 97, 110, 100, 32]⟩ : ByteArray) ++ (⟨(parL 3 (levelP y.kind, writP y)).toArray⟩ : ByteArray)) = R := by rw [← hR, writP_node, writL_cons, writL_cons, writL_nil]; exact ba_of_list (by simp [asmP, infix2, ByteArray.data_append])
  clear hR
  obtain ⟨bk0, off0, cap0, k00, x00, a00, m00, n00, l00, hv0, c00, c01, c02, c03, hT0⟩ := IsKids.at HK.out (k := 0) (t := x) rfl
  simp only [Value.slice.injEq] at hv0
  obtain ⟨rfl, -, rfl⟩ := hv0
  simp only [Nat.zero_mul, Nat.add_zero, Nat.one_mul, Nat.reduceMul, Nat.add_assoc, Nat.reduceAdd] at c00 c01 c02 c03
  obtain ⟨bk1, off1, cap1, k10, x10, a10, m10, n10, l10, hv1, c10, c11, c12, c13, hT1⟩ := IsKids.at HK.out (k := 1) (t := y) rfl
  simp only [Value.slice.injEq, Option.some.injEq, Addr.mk.injEq, and_true] at hv1
  obtain ⟨⟨rfl, rfl⟩, -, -⟩ := hv1
  simp only [Nat.zero_mul, Nat.add_zero, Nat.one_mul, Nat.reduceMul, Nat.add_assoc, Nat.reduceAdd] at c10 c11 c12 c13
  have hl0 := writP_len x hh0
  have hp0 := parL_len 2 (levelP x.kind, writP x)
  have hS0 : (⟨(parL 2 (levelP x.kind, writP x)).toArray⟩ : ByteArray).size ≤ 300000100 := size_of_list _ _ (by dsimp only at hp0; omega)
  have HC0 := Lib.hid (fun W (hW : Below w.heap.size w W) => HBND.out x F W _ 2 (hT0.step hW) (by omega) (by omega) hh0 he0)
  generalize (⟨(parL 2 (levelP x.kind, writP x)).toArray⟩ : ByteArray) = S0 at hS0 HC0 HQ
  clear hl0 hp0 hT0
  have hl1 := writP_len y hh1
  have hp1 := parL_len 3 (levelP y.kind, writP y)
  have hS1 : (⟨(parL 3 (levelP y.kind, writP y)).toArray⟩ : ByteArray).size ≤ 300000100 := size_of_list _ _ (by dsimp only at hp1; omega)
  have HC1 := Lib.hid (fun W (hW : Below w.heap.size w W) => HBND.out y F W _ 3 (hT1.step hW) (by omega) (by omega) hh1 he1)
  generalize (⟨(parL 3 (levelP y.kind, writP y)).toArray⟩ : ByteArray) = S1 at hS1 HC1 HQ
  clear hl1 hp1 hT1
  have HQ2 := Lib.hid HQ
  clear HQ he0 he1 hh0 hh1 hd hs hok HBND
  have HX0 := Lib.hid (heap_alloc_new w (.cells #[.int .i64 14, .string ⟨tx.toArray⟩, .slice (some ⟨bk0, off0, none⟩) 2 c, .int .i64 l] 32))
  have HB0 := Lib.hid (bel_new w (.cells #[.int .i64 14, .string ⟨tx.toArray⟩, .slice (some ⟨bk0, off0, none⟩) 2 c, .int .i64 l] 32))
  obtain ⟨r0, r1, r2, r3, q0, q1, q2, q3⟩ := box4 HX0.out
  have HLV := Lib.hid (fun W => (show Calls Tryd.prog 87 #[.agg #[.int .i64 14, .string ⟨tx.toArray⟩, .slice (some ⟨bk0, off0, none⟩) 2 c, .int .i64 l]] W fun e w' => e = .returned (.int .i64 2) ∧ Below W.heap.size W w' from level_any 14 tx (some ⟨bk0, off0, none⟩) 2 c l W))
  go_enter Tryd.func73, Tryd.ntmps73
  go_upto_region 6 with (first | (go_at_call 87; (with_reducible refine (HLV.out _).mono ?_); rintro e w1 ⟨rfl, hb⟩; have HB1 := Lib.hid (HB0.out.trans (hb.mono HB0.out.size)); have HX1 := Lib.hid (keep_blk hb HX0.out); obtain ⟨s0, s1, s2, s3, z0, z1, z2, z3⟩ := box4 HX1.out; clear hb))
  have R1 := fun d os => cell_regrown (s0) d os
  have R2 := fun d os => cell_regrown (s1) d os
  have R3 := fun d os => cell_regrown (s2) d os
  have R4 := fun d os => cell_regrown (s3) d os
  have R5 := fun d os => cell_regrown (keep_at HB1.out c00) d os
  have R6 := fun d os => cell_regrown (keep_at HB1.out c01) d os
  have R7 := fun d os => cell_regrown (keep_at HB1.out c02) d os
  have R8 := fun d os => cell_regrown (keep_at HB1.out c03) d os
  have R9 := fun d os => cell_regrown (keep_at HB1.out c10) d os
  have R10 := fun d os => cell_regrown (keep_at HB1.out c11) d os
  have R11 := fun d os => cell_regrown (keep_at HB1.out c12) d os
  have R12 := fun d os => cell_regrown (keep_at HB1.out c13) d os
  refine wp_region_quiet_below (by kernel_rfl) (by kernel_rfl) ?_
  repeat (go_big_quiet_step (first | (go_at_call 88; (with_reducible refine Calls.regrown_of (HC0.out _ ?_)); exact HB1.out.trans ((below_regrown _ _ _).mono HB1.out.size)) | (go_at_call 88; (with_reducible refine Calls.regrown_of (HC1.out _ ?_)); exact HB1.out.trans ((below_regrown _ _ _).mono HB1.out.size))))
  clear R1 R2 R3 R4 R5 R6 R7 R8 R9 R10 R11 R12
  refine wpQuiet_nil ?_
  intro w6 hw6
  have HB6 := Lib.hid (show Below w.heap.size w w6 by obtain ⟨p, rfl⟩ := hw6; exact HB1.out.trans ((below_regrown w1 p.d p.os).mono HB1.out.size))
  clear hw6
  go_wp2_with fail
  go_ret
  exact ⟨ret_str (by rw [← HQ2.out]; exact ba_of_list (by simp [ByteArray.data_append])), HB6.out⟩
set_option maxRecDepth 20000 in
set_option maxHeartbeats 2000000 in
theorem writ_16 (n : Nat) (HC : BoundC n) (tx : List UInt8) (ks : List Tree) (l : Int) (F : Nat → Prop) (w : World) (v : Value) (ht : IsT w F (.node 16 tx ks l) v) (hd : depthT (.node 16 tx ks l) ≤ n + 1) (hs : sizeT (.node 16 tx ks l) ≤ 1000) (hsh : shortT (.node 16 tx ks l)) (hok : exprOK (.node 16 tx ks l) = true) :
    Calls Tryd.prog 73 #[v] w fun e w' => e = .returned (.string ⟨(writP (.node 16 tx ks l)).toArray⟩) ∧ Below w.heap.size w w' := by
  obtain ⟨kv, rfl, hks⟩ := isT_node.1 ht
  rw [depthT_node] at hd
  rw [sizeT_node] at hs
  rw [shortT_node] at hsh
  obtain ⟨htx, hshl⟩ := hsh
  obtain ⟨a, c, rfl⟩ : ∃ a c, kv = .slice a ks.length c := by
    obtain ⟨a, c, hv, _⟩ := hks
    exact ⟨a, c, hv⟩
  have HBND := Lib.hid HC
  have HK := Lib.hid hks
  have htz := size_of_list tx _ htx
  clear ht hks HC
  obtain ⟨x, y, rfl, he0, he1⟩ := expr_two hok (by decide)
  rw [shortL_cons, shortL_cons] at hshl
  obtain ⟨hh0, hh1, -⟩ := hshl
  rw [sizeL_cons, sizeL_cons, sizeL_nil] at hs
  rw [depthL_cons, depthL_cons, depthL_nil] at hd
  have hN : ([x, y] : List Tree).length = 2 := rfl
  rw [hN] at HK ⊢
  clear hN
  obtain ⟨R, hR⟩ : ∃ R, (⟨(writP (.node 16 tx [x, y] l)).toArray⟩ : ByteArray) = R := ⟨_, rfl⟩
  rw [hR]
  have HQ : (⟨(parL 5 (levelP x.kind, writP x)).toArray⟩ : ByteArray) ++ ((⟨#[32]⟩ : ByteArray) ++ ((⟨tx.toArray⟩ : ByteArray) ++ ((⟨#[32]⟩ : ByteArray) ++ (⟨(parL 5 (levelP y.kind, writP y)).toArray⟩ : ByteArray)))) = R := by rw [← hR, writP_node, writL_cons, writL_cons, writL_nil]; exact ba_of_list (by simp [asmP, infix2, ByteArray.data_append])
  clear hR
  obtain ⟨bk0, off0, cap0, k00, x00, a00, m00, n00, l00, hv0, c00, c01, c02, c03, hT0⟩ := IsKids.at HK.out (k := 0) (t := x) rfl
  simp only [Value.slice.injEq] at hv0
  obtain ⟨rfl, -, rfl⟩ := hv0
  simp only [Nat.zero_mul, Nat.add_zero, Nat.one_mul, Nat.reduceMul, Nat.add_assoc, Nat.reduceAdd] at c00 c01 c02 c03
  obtain ⟨bk1, off1, cap1, k10, x10, a10, m10, n10, l10, hv1, c10, c11, c12, c13, hT1⟩ := IsKids.at HK.out (k := 1) (t := y) rfl
  simp only [Value.slice.injEq, Option.some.injEq, Addr.mk.injEq, and_true] at hv1
  obtain ⟨⟨rfl, rfl⟩, -, -⟩ := hv1
  simp only [Nat.zero_mul, Nat.add_zero, Nat.one_mul, Nat.reduceMul, Nat.add_assoc, Nat.reduceAdd] at c10 c11 c12 c13
  have hl0 := writP_len x hh0
  have hp0 := parL_len 5 (levelP x.kind, writP x)
  have hS0 : (⟨(parL 5 (levelP x.kind, writP x)).toArray⟩ : ByteArray).size ≤ 300000100 := size_of_list _ _ (by dsimp only at hp0; omega)
  have HC0 := Lib.hid (fun W (hW : Below w.heap.size w W) => HBND.out x F W _ 5 (hT0.step hW) (by omega) (by omega) hh0 he0)
  generalize (⟨(parL 5 (levelP x.kind, writP x)).toArray⟩ : ByteArray) = S0 at hS0 HC0 HQ
  clear hl0 hp0 hT0
  have hl1 := writP_len y hh1
  have hp1 := parL_len 5 (levelP y.kind, writP y)
  have hS1 : (⟨(parL 5 (levelP y.kind, writP y)).toArray⟩ : ByteArray).size ≤ 300000100 := size_of_list _ _ (by dsimp only at hp1; omega)
  have HC1 := Lib.hid (fun W (hW : Below w.heap.size w W) => HBND.out y F W _ 5 (hT1.step hW) (by omega) (by omega) hh1 he1)
  generalize (⟨(parL 5 (levelP y.kind, writP y)).toArray⟩ : ByteArray) = S1 at hS1 HC1 HQ
  clear hl1 hp1 hT1
  have HQ2 := Lib.hid HQ
  clear HQ he0 he1 hh0 hh1 hd hs hok HBND
  have HX0 := Lib.hid (heap_alloc_new w (.cells #[.int .i64 16, .string ⟨tx.toArray⟩, .slice (some ⟨bk0, off0, none⟩) 2 c, .int .i64 l] 32))
  have HB0 := Lib.hid (bel_new w (.cells #[.int .i64 16, .string ⟨tx.toArray⟩, .slice (some ⟨bk0, off0, none⟩) 2 c, .int .i64 l] 32))
  obtain ⟨r0, r1, r2, r3, q0, q1, q2, q3⟩ := box4 HX0.out
  have HLV := Lib.hid (fun W => (show Calls Tryd.prog 87 #[.agg #[.int .i64 16, .string ⟨tx.toArray⟩, .slice (some ⟨bk0, off0, none⟩) 2 c, .int .i64 l]] W fun e w' => e = .returned (.int .i64 4) ∧ Below W.heap.size W w' from level_any 16 tx (some ⟨bk0, off0, none⟩) 2 c l W))
  go_enter Tryd.func73, Tryd.ntmps73
  go_upto_region 10 with (first | (go_at_call 87; (with_reducible refine (HLV.out _).mono ?_); rintro e w1 ⟨rfl, hb⟩; have HB1 := Lib.hid (HB0.out.trans (hb.mono HB0.out.size)); have HX1 := Lib.hid (keep_blk hb HX0.out); obtain ⟨s0, s1, s2, s3, z0, z1, z2, z3⟩ := box4 HX1.out; clear hb))
  have R1 := fun d os => cell_regrown (s0) d os
  have R2 := fun d os => cell_regrown (s1) d os
  have R3 := fun d os => cell_regrown (s2) d os
  have R4 := fun d os => cell_regrown (s3) d os
  have R5 := fun d os => cell_regrown (keep_at HB1.out c00) d os
  have R6 := fun d os => cell_regrown (keep_at HB1.out c01) d os
  have R7 := fun d os => cell_regrown (keep_at HB1.out c02) d os
  have R8 := fun d os => cell_regrown (keep_at HB1.out c03) d os
  have R9 := fun d os => cell_regrown (keep_at HB1.out c10) d os
  have R10 := fun d os => cell_regrown (keep_at HB1.out c11) d os
  have R11 := fun d os => cell_regrown (keep_at HB1.out c12) d os
  have R12 := fun d os => cell_regrown (keep_at HB1.out c13) d os
  refine wp_region_quiet_below (by kernel_rfl) (by kernel_rfl) ?_
  repeat (go_big_quiet_step (first | (go_at_call 88; (with_reducible refine Calls.regrown_of (HC0.out _ ?_)); exact HB1.out.trans ((below_regrown _ _ _).mono HB1.out.size)) | (go_at_call 88; (with_reducible refine Calls.regrown_of (HC1.out _ ?_)); exact HB1.out.trans ((below_regrown _ _ _).mono HB1.out.size))))
  clear R1 R2 R3 R4 R5 R6 R7 R8 R9 R10 R11 R12
  refine wpQuiet_nil ?_
  intro w6 hw6
  have HB6 := Lib.hid (show Below w.heap.size w w6 by obtain ⟨p, rfl⟩ := hw6; exact HB1.out.trans ((below_regrown w1 p.d p.os).mono HB1.out.size))
  clear hw6
  go_wp2_with fail
  go_ret
  exact ⟨ret_str (by rw [← HQ2.out]; exact ba_of_list (by simp [ByteArray.data_append])), HB6.out⟩
set_option maxRecDepth 20000 in
set_option maxHeartbeats 2000000 in
theorem writ_17 (n : Nat) (HC : BoundC n) (tx : List UInt8) (ks : List Tree) (l : Int) (F : Nat → Prop) (w : World) (v : Value) (ht : IsT w F (.node 17 tx ks l) v) (hd : depthT (.node 17 tx ks l) ≤ n + 1) (hs : sizeT (.node 17 tx ks l) ≤ 1000) (hsh : shortT (.node 17 tx ks l)) (hok : exprOK (.node 17 tx ks l) = true) :
    Calls Tryd.prog 73 #[v] w fun e w' => e = .returned (.string ⟨(writP (.node 17 tx ks l)).toArray⟩) ∧ Below w.heap.size w w' := by
  obtain ⟨kv, rfl, hks⟩ := isT_node.1 ht
  rw [depthT_node] at hd
  rw [sizeT_node] at hs
  rw [shortT_node] at hsh
  obtain ⟨htx, hshl⟩ := hsh
  obtain ⟨a, c, rfl⟩ : ∃ a c, kv = .slice a ks.length c := by
    obtain ⟨a, c, hv, _⟩ := hks
    exact ⟨a, c, hv⟩
  have HBND := Lib.hid HC
  have HK := Lib.hid hks
  have htz := size_of_list tx _ htx
  clear ht hks HC
  obtain ⟨x, y, rfl, he0, he1⟩ := expr_two hok (by decide)
  rw [shortL_cons, shortL_cons] at hshl
  obtain ⟨hh0, hh1, -⟩ := hshl
  rw [sizeL_cons, sizeL_cons, sizeL_nil] at hs
  rw [depthL_cons, depthL_cons, depthL_nil] at hd
  have hN : ([x, y] : List Tree).length = 2 := rfl
  rw [hN] at HK ⊢
  clear hN
  obtain ⟨R, hR⟩ : ∃ R, (⟨(writP (.node 17 tx [x, y] l)).toArray⟩ : ByteArray) = R := ⟨_, rfl⟩
  rw [hR]
  have HQ : (⟨(parL 5 (levelP x.kind, writP x)).toArray⟩ : ByteArray) ++ ((⟨#[32, 43, 32]⟩ : ByteArray) ++ (⟨(parL 6 (levelP y.kind, writP y)).toArray⟩ : ByteArray)) = R := by rw [← hR, writP_node, writL_cons, writL_cons, writL_nil]; exact ba_of_list (by simp [asmP, infix2, ByteArray.data_append])
  clear hR
  obtain ⟨bk0, off0, cap0, k00, x00, a00, m00, n00, l00, hv0, c00, c01, c02, c03, hT0⟩ := IsKids.at HK.out (k := 0) (t := x) rfl
  simp only [Value.slice.injEq] at hv0
  obtain ⟨rfl, -, rfl⟩ := hv0
  simp only [Nat.zero_mul, Nat.add_zero, Nat.one_mul, Nat.reduceMul, Nat.add_assoc, Nat.reduceAdd] at c00 c01 c02 c03
  obtain ⟨bk1, off1, cap1, k10, x10, a10, m10, n10, l10, hv1, c10, c11, c12, c13, hT1⟩ := IsKids.at HK.out (k := 1) (t := y) rfl
  simp only [Value.slice.injEq, Option.some.injEq, Addr.mk.injEq, and_true] at hv1
  obtain ⟨⟨rfl, rfl⟩, -, -⟩ := hv1
  simp only [Nat.zero_mul, Nat.add_zero, Nat.one_mul, Nat.reduceMul, Nat.add_assoc, Nat.reduceAdd] at c10 c11 c12 c13
  have hl0 := writP_len x hh0
  have hp0 := parL_len 5 (levelP x.kind, writP x)
  have hS0 : (⟨(parL 5 (levelP x.kind, writP x)).toArray⟩ : ByteArray).size ≤ 300000100 := size_of_list _ _ (by dsimp only at hp0; omega)
  have HC0 := Lib.hid (fun W (hW : Below w.heap.size w W) => HBND.out x F W _ 5 (hT0.step hW) (by omega) (by omega) hh0 he0)
  generalize (⟨(parL 5 (levelP x.kind, writP x)).toArray⟩ : ByteArray) = S0 at hS0 HC0 HQ
  clear hl0 hp0 hT0
  have hl1 := writP_len y hh1
  have hp1 := parL_len 6 (levelP y.kind, writP y)
  have hS1 : (⟨(parL 6 (levelP y.kind, writP y)).toArray⟩ : ByteArray).size ≤ 300000100 := size_of_list _ _ (by dsimp only at hp1; omega)
  have HC1 := Lib.hid (fun W (hW : Below w.heap.size w W) => HBND.out y F W _ 6 (hT1.step hW) (by omega) (by omega) hh1 he1)
  generalize (⟨(parL 6 (levelP y.kind, writP y)).toArray⟩ : ByteArray) = S1 at hS1 HC1 HQ
  clear hl1 hp1 hT1
  have HQ2 := Lib.hid HQ
  clear HQ he0 he1 hh0 hh1 hd hs hok HBND
  have HX0 := Lib.hid (heap_alloc_new w (.cells #[.int .i64 17, .string ⟨tx.toArray⟩, .slice (some ⟨bk0, off0, none⟩) 2 c, .int .i64 l] 32))
  have HB0 := Lib.hid (bel_new w (.cells #[.int .i64 17, .string ⟨tx.toArray⟩, .slice (some ⟨bk0, off0, none⟩) 2 c, .int .i64 l] 32))
  obtain ⟨r0, r1, r2, r3, q0, q1, q2, q3⟩ := box4 HX0.out
  have HLV := Lib.hid (fun W => (show Calls Tryd.prog 87 #[.agg #[.int .i64 17, .string ⟨tx.toArray⟩, .slice (some ⟨bk0, off0, none⟩) 2 c, .int .i64 l]] W fun e w' => e = .returned (.int .i64 5) ∧ Below W.heap.size W w' from level_any 17 tx (some ⟨bk0, off0, none⟩) 2 c l W))
  go_enter Tryd.func73, Tryd.ntmps73
  go_upto_region 12 with (first | (go_at_call 87; (with_reducible refine (HLV.out _).mono ?_); rintro e w1 ⟨rfl, hb⟩; have HB1 := Lib.hid (HB0.out.trans (hb.mono HB0.out.size)); have HX1 := Lib.hid (keep_blk hb HX0.out); obtain ⟨s0, s1, s2, s3, z0, z1, z2, z3⟩ := box4 HX1.out; clear hb))
  have R1 := fun d os => cell_regrown (s0) d os
  have R2 := fun d os => cell_regrown (s1) d os
  have R3 := fun d os => cell_regrown (s2) d os
  have R4 := fun d os => cell_regrown (s3) d os
  have R5 := fun d os => cell_regrown (keep_at HB1.out c00) d os
  have R6 := fun d os => cell_regrown (keep_at HB1.out c01) d os
  have R7 := fun d os => cell_regrown (keep_at HB1.out c02) d os
  have R8 := fun d os => cell_regrown (keep_at HB1.out c03) d os
  have R9 := fun d os => cell_regrown (keep_at HB1.out c10) d os
  have R10 := fun d os => cell_regrown (keep_at HB1.out c11) d os
  have R11 := fun d os => cell_regrown (keep_at HB1.out c12) d os
  have R12 := fun d os => cell_regrown (keep_at HB1.out c13) d os
  refine wp_region_quiet_below (by kernel_rfl) (by kernel_rfl) ?_
  repeat (go_big_quiet_step (first | (go_at_call 88; (with_reducible refine Calls.regrown_of (HC0.out _ ?_)); exact HB1.out.trans ((below_regrown _ _ _).mono HB1.out.size)) | (go_at_call 88; (with_reducible refine Calls.regrown_of (HC1.out _ ?_)); exact HB1.out.trans ((below_regrown _ _ _).mono HB1.out.size))))
  clear R1 R2 R3 R4 R5 R6 R7 R8 R9 R10 R11 R12
  refine wpQuiet_nil ?_
  intro w6 hw6
  have HB6 := Lib.hid (show Below w.heap.size w w6 by obtain ⟨p, rfl⟩ := hw6; exact HB1.out.trans ((below_regrown w1 p.d p.os).mono HB1.out.size))
  clear hw6
  go_wp2_with fail
  go_ret
  exact ⟨ret_str (by rw [← HQ2.out]; exact ba_of_list (by simp [ByteArray.data_append])), HB6.out⟩
set_option maxRecDepth 20000 in
set_option maxHeartbeats 2000000 in
theorem writ_18 (n : Nat) (HC : BoundC n) (tx : List UInt8) (ks : List Tree) (l : Int) (F : Nat → Prop) (w : World) (v : Value) (ht : IsT w F (.node 18 tx ks l) v) (hd : depthT (.node 18 tx ks l) ≤ n + 1) (hs : sizeT (.node 18 tx ks l) ≤ 1000) (hsh : shortT (.node 18 tx ks l)) (hok : exprOK (.node 18 tx ks l) = true) :
    Calls Tryd.prog 73 #[v] w fun e w' => e = .returned (.string ⟨(writP (.node 18 tx ks l)).toArray⟩) ∧ Below w.heap.size w w' := by
  obtain ⟨kv, rfl, hks⟩ := isT_node.1 ht
  rw [depthT_node] at hd
  rw [sizeT_node] at hs
  rw [shortT_node] at hsh
  obtain ⟨htx, hshl⟩ := hsh
  obtain ⟨a, c, rfl⟩ : ∃ a c, kv = .slice a ks.length c := by
    obtain ⟨a, c, hv, _⟩ := hks
    exact ⟨a, c, hv⟩
  have HBND := Lib.hid HC
  have HK := Lib.hid hks
  have htz := size_of_list tx _ htx
  clear ht hks HC
  obtain ⟨x, y, rfl, he0, he1⟩ := expr_two hok (by decide)
  rw [shortL_cons, shortL_cons] at hshl
  obtain ⟨hh0, hh1, -⟩ := hshl
  rw [sizeL_cons, sizeL_cons, sizeL_nil] at hs
  rw [depthL_cons, depthL_cons, depthL_nil] at hd
  have hN : ([x, y] : List Tree).length = 2 := rfl
  rw [hN] at HK ⊢
  clear hN
  obtain ⟨R, hR⟩ : ∃ R, (⟨(writP (.node 18 tx [x, y] l)).toArray⟩ : ByteArray) = R := ⟨_, rfl⟩
  rw [hR]
  have HQ : (⟨(parL 5 (levelP x.kind, writP x)).toArray⟩ : ByteArray) ++ ((⟨#[32, 45, 32]⟩ : ByteArray) ++ (⟨(parL 6 (levelP y.kind, writP y)).toArray⟩ : ByteArray)) = R := by rw [← hR, writP_node, writL_cons, writL_cons, writL_nil]; exact ba_of_list (by simp [asmP, infix2, ByteArray.data_append])
  clear hR
  obtain ⟨bk0, off0, cap0, k00, x00, a00, m00, n00, l00, hv0, c00, c01, c02, c03, hT0⟩ := IsKids.at HK.out (k := 0) (t := x) rfl
  simp only [Value.slice.injEq] at hv0
  obtain ⟨rfl, -, rfl⟩ := hv0
  simp only [Nat.zero_mul, Nat.add_zero, Nat.one_mul, Nat.reduceMul, Nat.add_assoc, Nat.reduceAdd] at c00 c01 c02 c03
  obtain ⟨bk1, off1, cap1, k10, x10, a10, m10, n10, l10, hv1, c10, c11, c12, c13, hT1⟩ := IsKids.at HK.out (k := 1) (t := y) rfl
  simp only [Value.slice.injEq, Option.some.injEq, Addr.mk.injEq, and_true] at hv1
  obtain ⟨⟨rfl, rfl⟩, -, -⟩ := hv1
  simp only [Nat.zero_mul, Nat.add_zero, Nat.one_mul, Nat.reduceMul, Nat.add_assoc, Nat.reduceAdd] at c10 c11 c12 c13
  have hl0 := writP_len x hh0
  have hp0 := parL_len 5 (levelP x.kind, writP x)
  have hS0 : (⟨(parL 5 (levelP x.kind, writP x)).toArray⟩ : ByteArray).size ≤ 300000100 := size_of_list _ _ (by dsimp only at hp0; omega)
  have HC0 := Lib.hid (fun W (hW : Below w.heap.size w W) => HBND.out x F W _ 5 (hT0.step hW) (by omega) (by omega) hh0 he0)
  generalize (⟨(parL 5 (levelP x.kind, writP x)).toArray⟩ : ByteArray) = S0 at hS0 HC0 HQ
  clear hl0 hp0 hT0
  have hl1 := writP_len y hh1
  have hp1 := parL_len 6 (levelP y.kind, writP y)
  have hS1 : (⟨(parL 6 (levelP y.kind, writP y)).toArray⟩ : ByteArray).size ≤ 300000100 := size_of_list _ _ (by dsimp only at hp1; omega)
  have HC1 := Lib.hid (fun W (hW : Below w.heap.size w W) => HBND.out y F W _ 6 (hT1.step hW) (by omega) (by omega) hh1 he1)
  generalize (⟨(parL 6 (levelP y.kind, writP y)).toArray⟩ : ByteArray) = S1 at hS1 HC1 HQ
  clear hl1 hp1 hT1
  have HQ2 := Lib.hid HQ
  clear HQ he0 he1 hh0 hh1 hd hs hok HBND
  have HX0 := Lib.hid (heap_alloc_new w (.cells #[.int .i64 18, .string ⟨tx.toArray⟩, .slice (some ⟨bk0, off0, none⟩) 2 c, .int .i64 l] 32))
  have HB0 := Lib.hid (bel_new w (.cells #[.int .i64 18, .string ⟨tx.toArray⟩, .slice (some ⟨bk0, off0, none⟩) 2 c, .int .i64 l] 32))
  obtain ⟨r0, r1, r2, r3, q0, q1, q2, q3⟩ := box4 HX0.out
  have HLV := Lib.hid (fun W => (show Calls Tryd.prog 87 #[.agg #[.int .i64 18, .string ⟨tx.toArray⟩, .slice (some ⟨bk0, off0, none⟩) 2 c, .int .i64 l]] W fun e w' => e = .returned (.int .i64 5) ∧ Below W.heap.size W w' from level_any 18 tx (some ⟨bk0, off0, none⟩) 2 c l W))
  go_enter Tryd.func73, Tryd.ntmps73
  go_upto_region 14 with (first | (go_at_call 87; (with_reducible refine (HLV.out _).mono ?_); rintro e w1 ⟨rfl, hb⟩; have HB1 := Lib.hid (HB0.out.trans (hb.mono HB0.out.size)); have HX1 := Lib.hid (keep_blk hb HX0.out); obtain ⟨s0, s1, s2, s3, z0, z1, z2, z3⟩ := box4 HX1.out; clear hb))
  have R1 := fun d os => cell_regrown (s0) d os
  have R2 := fun d os => cell_regrown (s1) d os
  have R3 := fun d os => cell_regrown (s2) d os
  have R4 := fun d os => cell_regrown (s3) d os
  have R5 := fun d os => cell_regrown (keep_at HB1.out c00) d os
  have R6 := fun d os => cell_regrown (keep_at HB1.out c01) d os
  have R7 := fun d os => cell_regrown (keep_at HB1.out c02) d os
  have R8 := fun d os => cell_regrown (keep_at HB1.out c03) d os
  have R9 := fun d os => cell_regrown (keep_at HB1.out c10) d os
  have R10 := fun d os => cell_regrown (keep_at HB1.out c11) d os
  have R11 := fun d os => cell_regrown (keep_at HB1.out c12) d os
  have R12 := fun d os => cell_regrown (keep_at HB1.out c13) d os
  refine wp_region_quiet_below (by kernel_rfl) (by kernel_rfl) ?_
  repeat (go_big_quiet_step (first | (go_at_call 88; (with_reducible refine Calls.regrown_of (HC0.out _ ?_)); exact HB1.out.trans ((below_regrown _ _ _).mono HB1.out.size)) | (go_at_call 88; (with_reducible refine Calls.regrown_of (HC1.out _ ?_)); exact HB1.out.trans ((below_regrown _ _ _).mono HB1.out.size))))
  clear R1 R2 R3 R4 R5 R6 R7 R8 R9 R10 R11 R12
  refine wpQuiet_nil ?_
  intro w6 hw6
  have HB6 := Lib.hid (show Below w.heap.size w w6 by obtain ⟨p, rfl⟩ := hw6; exact HB1.out.trans ((below_regrown w1 p.d p.os).mono HB1.out.size))
  clear hw6
  go_wp2_with fail
  go_ret
  exact ⟨ret_str (by rw [← HQ2.out]; exact ba_of_list (by simp [ByteArray.data_append])), HB6.out⟩
set_option maxRecDepth 20000 in
set_option maxHeartbeats 2000000 in
theorem writ_19 (n : Nat) (HC : BoundC n) (tx : List UInt8) (ks : List Tree) (l : Int) (F : Nat → Prop) (w : World) (v : Value) (ht : IsT w F (.node 19 tx ks l) v) (hd : depthT (.node 19 tx ks l) ≤ n + 1) (hs : sizeT (.node 19 tx ks l) ≤ 1000) (hsh : shortT (.node 19 tx ks l)) (hok : exprOK (.node 19 tx ks l) = true) :
    Calls Tryd.prog 73 #[v] w fun e w' => e = .returned (.string ⟨(writP (.node 19 tx ks l)).toArray⟩) ∧ Below w.heap.size w w' := by
  obtain ⟨kv, rfl, hks⟩ := isT_node.1 ht
  rw [depthT_node] at hd
  rw [sizeT_node] at hs
  rw [shortT_node] at hsh
  obtain ⟨htx, hshl⟩ := hsh
  obtain ⟨a, c, rfl⟩ : ∃ a c, kv = .slice a ks.length c := by
    obtain ⟨a, c, hv, _⟩ := hks
    exact ⟨a, c, hv⟩
  have HBND := Lib.hid HC
  have HK := Lib.hid hks
  have htz := size_of_list tx _ htx
  clear ht hks HC
  obtain ⟨x, y, rfl, he0, he1⟩ := expr_two hok (by decide)
  rw [shortL_cons, shortL_cons] at hshl
  obtain ⟨hh0, hh1, -⟩ := hshl
  rw [sizeL_cons, sizeL_cons, sizeL_nil] at hs
  rw [depthL_cons, depthL_cons, depthL_nil] at hd
  have hN : ([x, y] : List Tree).length = 2 := rfl
  rw [hN] at HK ⊢
  clear hN
  obtain ⟨R, hR⟩ : ∃ R, (⟨(writP (.node 19 tx [x, y] l)).toArray⟩ : ByteArray) = R := ⟨_, rfl⟩
  rw [hR]
  have HQ : (⟨(parL 6 (levelP x.kind, writP x)).toArray⟩ : ByteArray) ++ ((⟨#[32, 42, 32]⟩ : ByteArray) ++ (⟨(parL 7 (levelP y.kind, writP y)).toArray⟩ : ByteArray)) = R := by rw [← hR, writP_node, writL_cons, writL_cons, writL_nil]; exact ba_of_list (by simp [asmP, infix2, ByteArray.data_append])
  clear hR
  obtain ⟨bk0, off0, cap0, k00, x00, a00, m00, n00, l00, hv0, c00, c01, c02, c03, hT0⟩ := IsKids.at HK.out (k := 0) (t := x) rfl
  simp only [Value.slice.injEq] at hv0
  obtain ⟨rfl, -, rfl⟩ := hv0
  simp only [Nat.zero_mul, Nat.add_zero, Nat.one_mul, Nat.reduceMul, Nat.add_assoc, Nat.reduceAdd] at c00 c01 c02 c03
  obtain ⟨bk1, off1, cap1, k10, x10, a10, m10, n10, l10, hv1, c10, c11, c12, c13, hT1⟩ := IsKids.at HK.out (k := 1) (t := y) rfl
  simp only [Value.slice.injEq, Option.some.injEq, Addr.mk.injEq, and_true] at hv1
  obtain ⟨⟨rfl, rfl⟩, -, -⟩ := hv1
  simp only [Nat.zero_mul, Nat.add_zero, Nat.one_mul, Nat.reduceMul, Nat.add_assoc, Nat.reduceAdd] at c10 c11 c12 c13
  have hl0 := writP_len x hh0
  have hp0 := parL_len 6 (levelP x.kind, writP x)
  have hS0 : (⟨(parL 6 (levelP x.kind, writP x)).toArray⟩ : ByteArray).size ≤ 300000100 := size_of_list _ _ (by dsimp only at hp0; omega)
  have HC0 := Lib.hid (fun W (hW : Below w.heap.size w W) => HBND.out x F W _ 6 (hT0.step hW) (by omega) (by omega) hh0 he0)
  generalize (⟨(parL 6 (levelP x.kind, writP x)).toArray⟩ : ByteArray) = S0 at hS0 HC0 HQ
  clear hl0 hp0 hT0
  have hl1 := writP_len y hh1
  have hp1 := parL_len 7 (levelP y.kind, writP y)
  have hS1 : (⟨(parL 7 (levelP y.kind, writP y)).toArray⟩ : ByteArray).size ≤ 300000100 := size_of_list _ _ (by dsimp only at hp1; omega)
  have HC1 := Lib.hid (fun W (hW : Below w.heap.size w W) => HBND.out y F W _ 7 (hT1.step hW) (by omega) (by omega) hh1 he1)
  generalize (⟨(parL 7 (levelP y.kind, writP y)).toArray⟩ : ByteArray) = S1 at hS1 HC1 HQ
  clear hl1 hp1 hT1
  have HQ2 := Lib.hid HQ
  clear HQ he0 he1 hh0 hh1 hd hs hok HBND
  have HX0 := Lib.hid (heap_alloc_new w (.cells #[.int .i64 19, .string ⟨tx.toArray⟩, .slice (some ⟨bk0, off0, none⟩) 2 c, .int .i64 l] 32))
  have HB0 := Lib.hid (bel_new w (.cells #[.int .i64 19, .string ⟨tx.toArray⟩, .slice (some ⟨bk0, off0, none⟩) 2 c, .int .i64 l] 32))
  obtain ⟨r0, r1, r2, r3, q0, q1, q2, q3⟩ := box4 HX0.out
  have HLV := Lib.hid (fun W => (show Calls Tryd.prog 87 #[.agg #[.int .i64 19, .string ⟨tx.toArray⟩, .slice (some ⟨bk0, off0, none⟩) 2 c, .int .i64 l]] W fun e w' => e = .returned (.int .i64 6) ∧ Below W.heap.size W w' from level_any 19 tx (some ⟨bk0, off0, none⟩) 2 c l W))
  go_enter Tryd.func73, Tryd.ntmps73
  go_upto_region 16 with (first | (go_at_call 87; (with_reducible refine (HLV.out _).mono ?_); rintro e w1 ⟨rfl, hb⟩; have HB1 := Lib.hid (HB0.out.trans (hb.mono HB0.out.size)); have HX1 := Lib.hid (keep_blk hb HX0.out); obtain ⟨s0, s1, s2, s3, z0, z1, z2, z3⟩ := box4 HX1.out; clear hb))
  have R1 := fun d os => cell_regrown (s0) d os
  have R2 := fun d os => cell_regrown (s1) d os
  have R3 := fun d os => cell_regrown (s2) d os
  have R4 := fun d os => cell_regrown (s3) d os
  have R5 := fun d os => cell_regrown (keep_at HB1.out c00) d os
  have R6 := fun d os => cell_regrown (keep_at HB1.out c01) d os
  have R7 := fun d os => cell_regrown (keep_at HB1.out c02) d os
  have R8 := fun d os => cell_regrown (keep_at HB1.out c03) d os
  have R9 := fun d os => cell_regrown (keep_at HB1.out c10) d os
  have R10 := fun d os => cell_regrown (keep_at HB1.out c11) d os
  have R11 := fun d os => cell_regrown (keep_at HB1.out c12) d os
  have R12 := fun d os => cell_regrown (keep_at HB1.out c13) d os
  refine wp_region_quiet_below (by kernel_rfl) (by kernel_rfl) ?_
  repeat (go_big_quiet_step (first | (go_at_call 88; (with_reducible refine Calls.regrown_of (HC0.out _ ?_)); exact HB1.out.trans ((below_regrown _ _ _).mono HB1.out.size)) | (go_at_call 88; (with_reducible refine Calls.regrown_of (HC1.out _ ?_)); exact HB1.out.trans ((below_regrown _ _ _).mono HB1.out.size))))
  clear R1 R2 R3 R4 R5 R6 R7 R8 R9 R10 R11 R12
  refine wpQuiet_nil ?_
  intro w6 hw6
  have HB6 := Lib.hid (show Below w.heap.size w w6 by obtain ⟨p, rfl⟩ := hw6; exact HB1.out.trans ((below_regrown w1 p.d p.os).mono HB1.out.size))
  clear hw6
  go_wp2_with fail
  go_ret
  exact ⟨ret_str (by rw [← HQ2.out]; exact ba_of_list (by simp [ByteArray.data_append])), HB6.out⟩
end Go.Proofs.YtogkiifljdnjgaaDoor
