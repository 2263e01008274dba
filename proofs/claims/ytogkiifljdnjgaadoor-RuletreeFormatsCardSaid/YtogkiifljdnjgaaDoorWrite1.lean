/- The walk of written: not, strings, calls, and what stands as it is. Conditions: an expression, bounds on size and texts. -/
import Derived.Test.YtogkiifljdnjgaaDoorStrs
namespace Go.Proofs.YtogkiifljdnjgaaDoor
open Go.RowKit
set_option linter.unusedVariables false
set_option linter.unusedSimpArgs false

theorem writL_length : ∀ ks : List Tree, (writL ks).length = ks.length
  | [] => by rw [writL_nil]; rfl
  | t :: ts => by rw [writL_cons, List.length_cons, List.length_cons, writL_length ts]
theorem writL_append : ∀ xs ys : List Tree, writL (xs ++ ys) = writL xs ++ writL ys
  | [], ys => by rw [writL_nil]; rfl
  | x :: xs, ys => by rw [List.cons_append, writL_cons, writL_cons, writL_append xs ys]; rfl
theorem writL_take {ks : List Tree} {q : Nat} {t : Tree} (h : ks[q]? = some t) : (writL (ks.take (q + 1))).map (·.2) = (writL (ks.take q)).map (·.2) ++ [writP t] := by
  rw [take_next h, writL_append, List.map_append, writL_cons, writL_nil]
  rfl
set_option maxRecDepth 20000 in
set_option maxHeartbeats 2000000 in
theorem writ_15 (n : Nat) (HC : BoundC n) (tx : List UInt8) (ks : List Tree) (l : Int) (F : Nat → Prop) (w : World) (v : Value) (ht : IsT w F (.node 15 tx ks l) v) (hd : depthT (.node 15 tx ks l) ≤ n + 1) (hs : sizeT (.node 15 tx ks l) ≤ 1000) (hsh : shortT (.node 15 tx ks l)) (hok : exprOK (.node 15 tx ks l) = true) :
    Calls Tryd.prog 73 #[v] w fun e w' => e = .returned (.string ⟨(writP (.node 15 tx ks l)).toArray⟩) ∧ Below w.heap.size w w' := by
  obtain ⟨kv, rfl, hks⟩ := isT_node.1 ht
  rw [depthT_node] at hd
  rw [sizeT_node] at hs
  rw [shortT_node] at hsh
  obtain ⟨htx, hshl⟩ := hsh
  obtain ⟨a, c, rfl⟩ : ∃ a c, kv = .slice a ks.length c := by
    obtain ⟨a, c, hv, _⟩ := hks
    exact ⟨a, c, hv⟩
  have HBND := Lib.hid HC
  have HK := Lib.hid hks
  have htz := size_of_list tx _ htx
  clear ht hks HC
  obtain ⟨x, rfl, he0⟩ := expr_one hok
  rw [shortL_cons] at hshl
  obtain ⟨hh0, -⟩ := hshl
  rw [sizeL_cons, sizeL_nil] at hs
  rw [depthL_cons, depthL_nil] at hd
  have hN : ([x] : List Tree).length = 1 := rfl
  rw [hN] at HK ⊢
  clear hN
  obtain ⟨R, hR⟩ : ∃ R, (⟨(writP (.node 15 tx [x] l)).toArray⟩ : ByteArray) = R := ⟨_, rfl⟩
  rw [hR]
  have HQ : (⟨#[110, 111, 116, 32]⟩ : ByteArray) ++ (⟨(parL 3 (levelP x.kind, writP x)).toArray⟩ : ByteArray) = R := by rw [← hR, writP_node, writL_cons, writL_nil]; exact ba_of_list (by simp [asmP, ByteArray.data_append])
  clear hR
  obtain ⟨bk0, off0, cap0, k00, x00, a00, m00, n00, l00, hv0, c00, c01, c02, c03, hT0⟩ := IsKids.at HK.out (k := 0) (t := x) rfl
  simp only [Value.slice.injEq] at hv0
  obtain ⟨rfl, -, rfl⟩ := hv0
  simp only [Nat.zero_mul, Nat.add_zero, Nat.one_mul, Nat.reduceMul, Nat.add_assoc, Nat.reduceAdd] at c00 c01 c02 c03
  have hl0 := writP_len x hh0
  have hp0 := parL_len 3 (levelP x.kind, writP x)
  have hS0 : (⟨(parL 3 (levelP x.kind, writP x)).toArray⟩ : ByteArray).size ≤ 300000100 := size_of_list _ _ (by dsimp only at hp0; omega)
  have HC0 := Lib.hid (fun W (hW : Below w.heap.size w W) => HBND.out x F W _ 3 (hT0.step hW) (by omega) (by omega) hh0 he0)
  generalize (⟨(parL 3 (levelP x.kind, writP x)).toArray⟩ : ByteArray) = S0 at hS0 HC0 HQ
  clear hl0 hp0 hT0
  have HQ2 := Lib.hid HQ
  clear HQ he0 hh0 hd hs hok HBND
  have HX0 := Lib.hid (heap_alloc_new w (.cells #[.int .i64 15, .string ⟨tx.toArray⟩, .slice (some ⟨bk0, off0, none⟩) 1 c, .int .i64 l] 32))
  have HB0 := Lib.hid (bel_new w (.cells #[.int .i64 15, .string ⟨tx.toArray⟩, .slice (some ⟨bk0, off0, none⟩) 1 c, .int .i64 l] 32))
  obtain ⟨r0, r1, r2, r3, q0, q1, q2, q3⟩ := box4 HX0.out
  have HLV := Lib.hid (fun W => (show Calls Tryd.prog 87 #[.agg #[.int .i64 15, .string ⟨tx.toArray⟩, .slice (some ⟨bk0, off0, none⟩) 1 c, .int .i64 l]] W fun e w' => e = .returned (.int .i64 3) ∧ Below W.heap.size W w' from level_any 15 tx (some ⟨bk0, off0, none⟩) 1 c l W))
  go_enter Tryd.func73, Tryd.ntmps73
  go_wp2_with (first | (go_at_call 87; (with_reducible refine (HLV.out _).mono ?_); rintro e w1 ⟨rfl, hb⟩; have HB1 := Lib.hid (HB0.out.trans (hb.mono HB0.out.size)); have HX1 := Lib.hid (keep_blk hb HX0.out); obtain ⟨s0, s1, s2, s3, z0, z1, z2, z3⟩ := box4 HX1.out; have d00 := keep_at HB1.out c00; have d01 := keep_at HB1.out c01; have d02 := keep_at HB1.out c02; have d03 := keep_at HB1.out c03; clear hb) | (go_at_call 88; (with_reducible refine (HC0.out _ HB1.out).mono ?_); rintro e w2 ⟨rfl, hb⟩; have HB2 := Lib.hid (HB1.out.trans (hb.mono HB1.out.size)); clear hb))
  go_ret
  exact ⟨ret_str (by rw [← HQ2.out]), HB2.out⟩
set_option maxRecDepth 20000 in
set_option maxHeartbeats 2000000 in
theorem writ_21 (n : Nat) (HC : BoundC n) (tx : List UInt8) (ks : List Tree) (l : Int) (F : Nat → Prop) (w : World) (v : Value) (ht : IsT w F (.node 21 tx ks l) v) (hd : depthT (.node 21 tx ks l) ≤ n + 1) (hs : sizeT (.node 21 tx ks l) ≤ 1000) (hsh : shortT (.node 21 tx ks l)) (hok : exprOK (.node 21 tx ks l) = true) :
    Calls Tryd.prog 73 #[v] w fun e w' => e = .returned (.string ⟨(writP (.node 21 tx ks l)).toArray⟩) ∧ Below w.heap.size w w' := by
  obtain ⟨kv, rfl, hks⟩ := isT_node.1 ht
  rw [depthT_node] at hd
  rw [sizeT_node] at hs
  rw [shortT_node] at hsh
  obtain ⟨htx, hshl⟩ := hsh
  obtain ⟨a, c, rfl⟩ : ∃ a c, kv = .slice a ks.length c := by
    obtain ⟨a, c, hv, _⟩ := hks
    exact ⟨a, c, hv⟩
  have HBND := Lib.hid HC
  have HK := Lib.hid hks
  have htz := size_of_list tx _ htx
  clear ht hks HC
  have hq := expr_string hok
  have HV := Lib.hid (show quoV (⟨tx.toArray⟩ : ByteArray).data.toList = .tuple #[.string ⟨(quoL tx).toArray⟩, .nilIface] by rw [quoV, if_pos hq])
  have HCQ := Lib.hid (fun W => quote_any ⟨tx.toArray⟩ W htz)
  rw [writP_node]
  rw [show asmP 21 tx (writL ks) = quoL tx from rfl]
  generalize ks.length = N at *
  clear hd hs hok hshl hq HBND HK
  generalize (⟨(quoL tx).toArray⟩ : ByteArray) = S at *
  have HX0 := Lib.hid (heap_alloc_new w (.cells #[.int .i64 21, .string ⟨tx.toArray⟩, .slice a N c, .int .i64 l] 32))
  have HB0 := Lib.hid (bel_new w (.cells #[.int .i64 21, .string ⟨tx.toArray⟩, .slice a N c, .int .i64 l] 32))
  obtain ⟨r0, r1, r2, r3, q0, q1, q2, q3⟩ := box4 HX0.out
  have HLV := Lib.hid (fun W => (show Calls Tryd.prog 87 #[.agg #[.int .i64 21, .string ⟨tx.toArray⟩, .slice a N c, .int .i64 l]] W fun e w' => e = .returned (.int .i64 7) ∧ Below W.heap.size W w' from level_any 21 tx a N c l W))
  go_enter Tryd.func73, Tryd.ntmps73
  go_wp2_with (first | (go_at_call 87; (with_reducible refine (HLV.out _).mono ?_); rintro e w1 ⟨rfl, hb⟩; have HB1 := Lib.hid (HB0.out.trans (hb.mono HB0.out.size)); have HX1 := Lib.hid (keep_blk hb HX0.out); obtain ⟨s0, s1, s2, s3, z0, z1, z2, z3⟩ := box4 HX1.out; clear hb) | (go_at_call 62; (with_reducible refine (HCQ.out _).mono ?_); rintro e w2 ⟨he, hb⟩; rw [HV.out] at he; subst he; have HB2 := Lib.hid (HB1.out.trans (hb.mono HB1.out.size)); clear hb))
  go_ret
  exact ⟨rfl, HB2.out⟩
set_option maxRecDepth 20000 in
set_option maxHeartbeats 2000000 in
theorem writ_20 (n : Nat) (HC : BoundC n) (tx : List UInt8) (ks : List Tree) (l : Int) (F : Nat → Prop) (w : World) (v : Value) (ht : IsT w F (.node 20 tx ks l) v) (hd : depthT (.node 20 tx ks l) ≤ n + 1) (hs : sizeT (.node 20 tx ks l) ≤ 1000) (hsh : shortT (.node 20 tx ks l)) (hok : exprOK (.node 20 tx ks l) = true) :
    Calls Tryd.prog 73 #[v] w fun e w' => e = .returned (.string ⟨(writP (.node 20 tx ks l)).toArray⟩) ∧ Below w.heap.size w w' := by
  obtain ⟨kv, rfl, hks⟩ := isT_node.1 ht
  rw [depthT_node] at hd
  rw [sizeT_node] at hs
  rw [shortT_node] at hsh
  obtain ⟨htx, hshl⟩ := hsh
  obtain ⟨a, c, rfl⟩ : ∃ a c, kv = .slice a ks.length c := by
    obtain ⟨a, c, hv, _⟩ := hks
    exact ⟨a, c, hv⟩
  have HBND := Lib.hid HC
  have HK := Lib.hid hks
  have htz := size_of_list tx _ htx
  clear ht hks HC
  rw [writP_node]
  rw [show asmP 20 tx (writL ks) = tx from rfl]
  generalize ks.length = N at *
  clear hd hs hok hshl HBND HK
  have HX0 := Lib.hid (heap_alloc_new w (.cells #[.int .i64 20, .string ⟨tx.toArray⟩, .slice a N c, .int .i64 l] 32))
  have HB0 := Lib.hid (bel_new w (.cells #[.int .i64 20, .string ⟨tx.toArray⟩, .slice a N c, .int .i64 l] 32))
  obtain ⟨r0, r1, r2, r3, q0, q1, q2, q3⟩ := box4 HX0.out
  have HLV := Lib.hid (fun W => (show Calls Tryd.prog 87 #[.agg #[.int .i64 20, .string ⟨tx.toArray⟩, .slice a N c, .int .i64 l]] W fun e w' => e = .returned (.int .i64 7) ∧ Below W.heap.size W w' from level_any 20 tx a N c l W))
  go_enter Tryd.func73, Tryd.ntmps73
  go_wp2_with (first | (go_at_call 87; (with_reducible refine (HLV.out _).mono ?_); rintro e w1 ⟨rfl, hb⟩; have HB1 := Lib.hid (HB0.out.trans (hb.mono HB0.out.size)); have HX1 := Lib.hid (keep_blk hb HX0.out); obtain ⟨s0, s1, s2, s3, z0, z1, z2, z3⟩ := box4 HX1.out; clear hb))
  go_ret
  exact ⟨rfl, HB1.out⟩
set_option maxRecDepth 20000 in
set_option maxHeartbeats 2000000 in
theorem writ_22 (n : Nat) (HC : BoundC n) (tx : List UInt8) (ks : List Tree) (l : Int) (F : Nat → Prop) (w : World) (v : Value) (ht : IsT w F (.node 22 tx ks l) v) (hd : depthT (.node 22 tx ks l) ≤ n + 1) (hs : sizeT (.node 22 tx ks l) ≤ 1000) (hsh : shortT (.node 22 tx ks l)) (hok : exprOK (.node 22 tx ks l) = true) :
    Calls Tryd.prog 73 #[v] w fun e w' => e = .returned (.string ⟨(writP (.node 22 tx ks l)).toArray⟩) ∧ Below w.heap.size w w' := by
  obtain ⟨kv, rfl, hks⟩ := isT_node.1 ht
  rw [depthT_node] at hd
  rw [sizeT_node] at hs
  rw [shortT_node] at hsh
  obtain ⟨htx, hshl⟩ := hsh
  obtain ⟨a, c, rfl⟩ : ∃ a c, kv = .slice a ks.length c := by
    obtain ⟨a, c, hv, _⟩ := hks
    exact ⟨a, c, hv⟩
  have HBND := Lib.hid HC
  have HK := Lib.hid hks
  have htz := size_of_list tx _ htx
  clear ht hks HC
  rw [writP_node]
  rw [show asmP 22 tx (writL ks) = tx from rfl]
  generalize ks.length = N at *
  clear hd hs hok hshl HBND HK
  have HX0 := Lib.hid (heap_alloc_new w (.cells #[.int .i64 22, .string ⟨tx.toArray⟩, .slice a N c, .int .i64 l] 32))
  have HB0 := Lib.hid (bel_new w (.cells #[.int .i64 22, .string ⟨tx.toArray⟩, .slice a N c, .int .i64 l] 32))
  obtain ⟨r0, r1, r2, r3, q0, q1, q2, q3⟩ := box4 HX0.out
  have HLV := Lib.hid (fun W => (show Calls Tryd.prog 87 #[.agg #[.int .i64 22, .string ⟨tx.toArray⟩, .slice a N c, .int .i64 l]] W fun e w' => e = .returned (.int .i64 7) ∧ Below W.heap.size W w' from level_any 22 tx a N c l W))
  go_enter Tryd.func73, Tryd.ntmps73
  go_wp2_with (first | (go_at_call 87; (with_reducible refine (HLV.out _).mono ?_); rintro e w1 ⟨rfl, hb⟩; have HB1 := Lib.hid (HB0.out.trans (hb.mono HB0.out.size)); have HX1 := Lib.hid (keep_blk hb HX0.out); obtain ⟨s0, s1, s2, s3, z0, z1, z2, z3⟩ := box4 HX1.out; clear hb))
  go_ret
  exact ⟨rfl, HB1.out⟩
set_option maxRecDepth 20000 in
set_option maxHeartbeats 2000000 in
theorem writ_23 (n : Nat) (HC : BoundC n) (tx : List UInt8) (ks : List Tree) (l : Int) (F : Nat → Prop) (w : World) (v : Value) (ht : IsT w F (.node 23 tx ks l) v) (hd : depthT (.node 23 tx ks l) ≤ n + 1) (hs : sizeT (.node 23 tx ks l) ≤ 1000) (hsh : shortT (.node 23 tx ks l)) (hok : exprOK (.node 23 tx ks l) = true) :
    Calls Tryd.prog 73 #[v] w fun e w' => e = .returned (.string ⟨(writP (.node 23 tx ks l)).toArray⟩) ∧ Below w.heap.size w w' := by
  obtain ⟨kv, rfl, hks⟩ := isT_node.1 ht
  rw [depthT_node] at hd
  rw [sizeT_node] at hs
  rw [shortT_node] at hsh
  obtain ⟨htx, hshl⟩ := hsh
  obtain ⟨a, c, rfl⟩ : ∃ a c, kv = .slice a ks.length c := by
    obtain ⟨a, c, hv, _⟩ := hks
    exact ⟨a, c, hv⟩
  have HBND := Lib.hid HC
  have HK := Lib.hid hks
  have htz := size_of_list tx _ htx
  clear ht hks HC
  rw [writP_node]
  rw [show asmP 23 tx (writL ks) = tx from rfl]
  generalize ks.length = N at *
  clear hd hs hok hshl HBND HK
  have HX0 := Lib.hid (heap_alloc_new w (.cells #[.int .i64 23, .string ⟨tx.toArray⟩, .slice a N c, .int .i64 l] 32))
  have HB0 := Lib.hid (bel_new w (.cells #[.int .i64 23, .string ⟨tx.toArray⟩, .slice a N c, .int .i64 l] 32))
  obtain ⟨r0, r1, r2, r3, q0, q1, q2, q3⟩ := box4 HX0.out
  have HLV := Lib.hid (fun W => (show Calls Tryd.prog 87 #[.agg #[.int .i64 23, .string ⟨tx.toArray⟩, .slice a N c, .int .i64 l]] W fun e w' => e = .returned (.int .i64 7) ∧ Below W.heap.size W w' from level_any 23 tx a N c l W))
  go_enter Tryd.func73, Tryd.ntmps73
  go_wp2_with (first | (go_at_call 87; (with_reducible refine (HLV.out _).mono ?_); rintro e w1 ⟨rfl, hb⟩; have HB1 := Lib.hid (HB0.out.trans (hb.mono HB0.out.size)); have HX1 := Lib.hid (keep_blk hb HX0.out); obtain ⟨s0, s1, s2, s3, z0, z1, z2, z3⟩ := box4 HX1.out; clear hb))
  go_ret
  exact ⟨rfl, HB1.out⟩
set_option maxRecDepth 20000 in
set_option maxHeartbeats 2000000 in
theorem writ_24 (n : Nat) (HC : WritC n) (tx : List UInt8) (ks : List Tree) (l : Int) (F : Nat → Prop) (w : World) (v : Value) (ht : IsT w F (.node 24 tx ks l) v) (hd : depthT (.node 24 tx ks l) ≤ n + 1) (hs : sizeT (.node 24 tx ks l) ≤ 1000) (hsh : shortT (.node 24 tx ks l)) (hok : exprOK (.node 24 tx ks l) = true) :
    Calls Tryd.prog 73 #[v] w fun e w' => e = .returned (.string ⟨(writP (.node 24 tx ks l)).toArray⟩) ∧ Below w.heap.size w w' := by
  obtain ⟨kv, rfl, hks⟩ := isT_node.1 ht
  rw [depthT_node] at hd
  rw [sizeT_node] at hs
  rw [shortT_node] at hsh
  obtain ⟨htx, hshl⟩ := hsh
  obtain ⟨a, c, rfl⟩ : ∃ a c, kv = .slice a ks.length c := by
    obtain ⟨a, c, hv, _⟩ := hks
    exact ⟨a, c, hv⟩
  have HBND := Lib.hid HC
  have HK := Lib.hid hks
  have htz := size_of_list tx _ htx
  clear ht hks HC
  have hkids := expr_kids hok
  have hl : ks.length ≤ 1000 := by have := len_le_size ks; omega
  have HKI := Lib.hid hkids
  have HSH := Lib.hid hshl
  have HD := Lib.hid hd
  have HSZ := Lib.hid hs
  have hjl := joinP_len ((writL ks).map (·.2)) _ (Nat.le_refl _)
  have hwl := writL_len ks hshl
  have hsum : (((writL ks).map (·.2)).map (fun x => x.length + 2)).sum ≤ ((writL ks).map (fun x => x.2.length + 4)).sum := by
    rw [List.map_map]
    generalize writL ks = ls
    induction ls with
    | nil => simp
    | cons a r ih => simp only [List.map_cons, List.sum_cons, Function.comp]; omega
  have hJ : (joinP ((writL ks).map (·.2))).length ≤ 300000000 := by omega
  obtain ⟨R, hR⟩ : ∃ R, (⟨(writP (.node 24 tx ks l)).toArray⟩ : ByteArray) = R := ⟨_, rfl⟩
  rw [hR]
  have HQ := Lib.hid (show (⟨tx.toArray⟩ : ByteArray) ++ (⟨#[40]⟩ ++ ((⟨(joinP ((writL ks).map (·.2))).toArray⟩ : ByteArray) ++ ⟨#[41]⟩)) = R by rw [← hR, writP_node]; exact ba_of_list (by simp [asmP, ByteArray.data_append]))
  have HJL := Lib.hid hJ
  clear hR hkids hok hshl hd hs hjl hwl hsum hJ
  have HX0 := Lib.hid (heap_alloc_new w (.cells #[.int .i64 24, .string ⟨tx.toArray⟩, .slice a ks.length c, .int .i64 l] 32))
  have HB0 := Lib.hid (bel_new w (.cells #[.int .i64 24, .string ⟨tx.toArray⟩, .slice a ks.length c, .int .i64 l] 32))
  obtain ⟨r0, r1, r2, r3, q0, q1, q2, q3⟩ := box4 HX0.out
  have HLV := Lib.hid (fun W => (show Calls Tryd.prog 87 #[.agg #[.int .i64 24, .string ⟨tx.toArray⟩, .slice a ks.length c, .int .i64 l]] W fun e w' => e = .returned (.int .i64 7) ∧ Below W.heap.size W w' from level_any 24 tx a ks.length c l W))
  go_enter Tryd.func73, Tryd.ntmps73
  go_wp2_with (first | (go_at_call 87; (with_reducible refine (HLV.out _).mono ?_); rintro e w1 ⟨rfl, hb⟩; have HB1 := Lib.hid (HB0.out.trans (hb.mono HB0.out.size)); have HX1 := Lib.hid (keep_blk hb HX0.out); obtain ⟨s0, s1, s2, s3, z0, z1, z2, z3⟩ := box4 HX1.out; clear hb))
  go_loopw [6, 143] (fun x i wr => ∃ q : Nat, i = .int .i64 q ∧ q ≤ ks.length ∧ OwnS wr (w.heap.size + 1) x ((writL (ks.take q)).map (·.2)) ∧ Below w.heap.size w wr ∧ wr.heap[w.heap.size]? = some (.cells #[.int .i64 24, .string ⟨tx.toArray⟩, .slice a ks.length c, .int .i64 l] 32 (0, 0))) (fun _ i _ => ks.length - (intOf i).toNat)
  case atStart => exact ⟨0, rfl, Nat.zero_le _, by rw [List.take_zero, writL_nil]; exact OwnS.nil _ _, HB1.out, HX1.out⟩
  case round =>
    obtain ⟨q, rfl, hq, how, hb, hx⟩ := hrel
    obtain ⟨ak, ck, hkv⟩ := how.shape
    have hwlen : ((writL (ks.take q)).map (·.2)).length = q := by rw [List.length_map, writL_length, List.length_take]; omega
    rw [hwlen] at hkv
    subst hkv
    have HOW := Lib.hid how
    have HB := Lib.hid hb
    have HX := Lib.hid hx
    have HWL := Lib.hid hwlen
    have hszw : w.heap.size + 1 ≤ wr.heap.size := block_lt hx
    clear how hb hx hwlen
    by_cases hlt : q < ks.length
    · obtain ⟨t', ht'⟩ : ∃ t', ks[q]? = some t' := ⟨_, List.getElem?_eq_getElem hlt⟩
      obtain ⟨b, off, cap, k0, x0, a0, m0, n0, l0, hv, c0, c1, c2, c3, hT⟩ := IsKids.at (HK.out.step HB.out) ht'
      simp only [Value.slice.injEq] at hv
      obtain ⟨rfl, _, rfl⟩ := hv
      obtain ⟨d0, d1, d2, d3, y0, y1, y2, y3⟩ := box4 HX.out
      have h3 := depthT_at ht'
      have h4 := sizeT_at ht'
      have h5 := shortT_at HSH.out ht'
      have h6 := exprOK_at HKI.out ht'
      have HT := Lib.hid hT
      have HTK := Lib.hid (writL_take ht')
      have HCC := Lib.hid (fun W (hW : IsT W F t' (.agg #[.int .i64 k0, .string ⟨x0.toArray⟩, .slice a0 m0 n0, .int .i64 l0])) => HBND.out t' F W _ hW (by have := HD.out; omega) (by have := HSZ.out; omega) h5 h6)
      obtain ⟨S, hS⟩ : ∃ S : ByteArray, S = ⟨(writP t').toArray⟩ := ⟨_, rfl⟩
      rw [← hS] at HCC
      have HS := Lib.hid hS
      have hlti : (q : Int) < (ks.length : Int) := by omega
      clear h3 h4 h5 h6 hT ht' hS
      go_wp2_with (first | (go_at_call 73; (with_reducible refine (HCC.out _ (HT.out.step (bel_new _ _))).mono ?_); rintro e w2 ⟨rfl, hb1⟩; have HB2 := Lib.hid ((bel_new wr (.cells #[.int .i64 k0, .string ⟨x0.toArray⟩, .slice a0 m0 n0, .int .i64 l0] 32)).trans (hb1.mono (by simp))); clear hb1) | (at_builtin; refine wpList_appStr rfl (.tmp 147) (.tmp 150) rfl (w.heap.size + 1) _ ((writL (ks.take q)).map (·.2)) rfl (HOW.out.step HB2.out) (writP t') S HS.out rfl (by rw [HWL.out]; omega) (by have := HB2.out.size; omega) ?_; intro v2 w3 ho2 hb2 hz2 hk2; have HO2 := Lib.hid ho2; have HB3 := Lib.hid hb2; clear ho2 hb2 hz2 hk2))
      go_roundw
      case rel => exact ⟨q + 1, by go_num, by omega, by rw [HTK.out]; exact HO2.out, HB.out.trans ((HB2.out.mono HB.out.size).trans (HB3.out.mono (by omega))), (HB3.out.block _ (by omega)).trans (keep_blk HB2.out HX.out)⟩
      case measure => simp [intOf]; omega
    · have hq2 : q = ks.length := by omega
      subst hq2
      rw [List.take_length] at HOW HWL
      have HJ := Lib.hid (fun W hW => joinStr_any _ W _ _ (HOW.out.step hW) (by rw [HWL.out]; omega) (by have := HJL.out; omega))
      obtain ⟨S, hS⟩ : ∃ S : ByteArray, (⟨(joinP ((writL ks).map (·.2))).toArray⟩ : ByteArray) = S := ⟨_, rfl⟩
      have hSz : S.size ≤ 300000000 := by rw [← hS]; exact size_of_list _ _ HJL.out
      rw [hS] at HJ HQ
      clear hS
      obtain ⟨d0, d1, d2, d3, y0, y1, y2, y3⟩ := box4 HX.out
      go_upto_region 27 with fail
      have R1 := fun d os => cell_regrown d0 d os
      have R2 := fun d os => cell_regrown d1 d os
      have R3 := fun d os => cell_regrown d2 d os
      have R4 := fun d os => cell_regrown d3 d os
      refine wp_region_quiet_below (by kernel_rfl) (by kernel_rfl) ?_
      repeat (go_big_quiet_step (first | (go_at_call 89; (with_reducible refine Calls.regrown_of (HJ.out _ ?_)); exact below_regrown _ _ _)))
      clear R1 R2 R3 R4
      refine wpQuiet_nil ?_
      intro w6 hw6
      have HB6 := Lib.hid (show Below w.heap.size w w6 by obtain ⟨p, rfl⟩ := hw6; exact HB.out.trans ((below_regrown wr p.d p.os).mono HB.out.size))
      clear hw6
      go_wp2_with fail
      go_ret
      exact ⟨ret_str (by rw [← HQ.out]; exact ba_of_list (by simp [ByteArray.data_append])), HB6.out⟩
theorem writ_ok (n : Nat) (HC : WritC n) : WritC (n + 1) := by
  intro t F w v ht hd hs hsh hok
  obtain ⟨k, tx, ks, l⟩ := t
  have HB := bound_ok n HC
  have hk : k = 13 ∨ k = 14 ∨ k = 15 ∨ k = 16 ∨ k = 17 ∨ k = 18 ∨ k = 19 ∨ k = 20 ∨ k = 21 ∨ k = 22 ∨ k = 23 ∨ k = 24 := by
    by_cases h : k = 13 ∨ k = 14 ∨ k = 15 ∨ k = 16 ∨ k = 17 ∨ k = 18 ∨ k = 19 ∨ k = 20 ∨ k = 21 ∨ k = 22 ∨ k = 23 ∨ k = 24
    · exact h
    · simp only [not_or] at h
      obtain ⟨h13, h14, h15, h16, h17, h18, h19, h20, h21, h22, h23, h24⟩ := h
      rw [exprOK_node] at hok
      have e : operandsP k tx = -2 := by simp [operandsP, h13, h14, h15, h16, h17, h18, h19, h20, h21, h22, h23, h24]
      rw [e] at hok
      simp [arOK] at hok
  rcases hk with rfl | rfl | rfl | rfl | rfl | rfl | rfl | rfl | rfl | rfl | rfl | rfl
  · exact writ_13 n HB tx ks l F w v ht hd hs hsh hok
  · exact writ_14 n HB tx ks l F w v ht hd hs hsh hok
  · exact writ_15 n HB tx ks l F w v ht hd hs hsh hok
  · exact writ_16 n HB tx ks l F w v ht hd hs hsh hok
  · exact writ_17 n HB tx ks l F w v ht hd hs hsh hok
  · exact writ_18 n HB tx ks l F w v ht hd hs hsh hok
  · exact writ_19 n HB tx ks l F w v ht hd hs hsh hok
  · exact writ_20 n HB tx ks l F w v ht hd hs hsh hok
  · exact writ_21 n HB tx ks l F w v ht hd hs hsh hok
  · exact writ_22 n HB tx ks l F w v ht hd hs hsh hok
  · exact writ_23 n HB tx ks l F w v ht hd hs hsh hok
  · exact writ_24 n HC tx ks l F w v ht hd hs hsh hok
theorem writ_all : ∀ n, WritC n
  | 0 => fun t F w v ht hd hs hsh hok => by have := depth_pos t; omega
  | n + 1 => writ_ok n (writ_all n)
theorem written_any (t : Tree) (F : Nat → Prop) (w : World) (v : Value) (ht : IsT w F t v) (hs : sizeT t ≤ 1000) (hsh : shortT t) (hok : exprOK t = true) :
    Calls Tryd.prog 73 #[v] w fun e w' => e = .returned (.string ⟨(writP t).toArray⟩) ∧ Below w.heap.size w w' := writ_all _ t F w v ht (Nat.le_refl _) hs hsh hok
end Go.Proofs.YtogkiifljdnjgaaDoor
