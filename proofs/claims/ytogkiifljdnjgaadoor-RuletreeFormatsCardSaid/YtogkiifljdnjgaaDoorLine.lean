/- The walk of line. Conditions: a statement, bounds on size and texts. -/
import Derived.Test.YtogkiifljdnjgaaDoorLineP
namespace Go.Proofs.YtogkiifljdnjgaaDoor
open Go.RowKit
set_option linter.unusedVariables false
set_option linter.unusedSimpArgs false

set_option maxRecDepth 20000 in
set_option maxHeartbeats 1000000 in
theorem line_10 (n : Nat) (tx : List UInt8) (l : Int) (F : Nat → Prop) (w : World) (v : Value) (bl : List UInt8) (ht : IsT w F (.node 10 tx [] l) v) (hd : depthT (.node 10 tx [] l) ≤ n + 1) (hs : sizeT (.node 10 tx [] l) ≤ 1000) (hsh : shortT (.node 10 tx [] l)) (hbl : bl.length + 2 * depthT (.node 10 tx [] l) ≤ 1000) :
    Calls Tryd.prog 49 #[v, .string ⟨bl.toArray⟩] w fun e' w' => e' = .returned (.string ⟨(lineP (.node 10 tx [] l) bl).toArray⟩) ∧ Below w.heap.size w w' := by
  obtain ⟨kv, rfl, hks⟩ := isT_node.1 ht
  rw [depthT_node] at hd hbl
  rw [sizeT_node] at hs
  rw [shortT_node] at hsh
  simp only [sizeL_cons, sizeL_nil, depthL_cons, depthL_nil] at hs hd hbl
  try simp only [shortL_cons] at hsh
  obtain ⟨a, c, rfl⟩ : ∃ a c, kv = .slice a 0 c := by
    obtain ⟨a, c, hv, _⟩ := hks
    exact ⟨a, c, hv⟩
  have HK := Lib.hid hks
  have htx := hsh.1
  have htz := size_of_list tx _ htx
  have hbl2 : bl.length ≤ 1000 := by omega
  clear ht hks
  clear hd hs hsh hbl HK
  have HQ := Lib.hid (show (⟨#[112, 97, 115, 115, 59]⟩ : ByteArray) = ⟨(lineP (.node 10 tx [] l) bl).toArray⟩ by rw [lineP_0]; exact ba_of_list (by simp [ByteArray.data_append, line0]))
  have HB0 := Lib.hid (bel_new w (.cells #[.int .i64 10, .string ⟨tx.toArray⟩, .slice a 0 c, .int .i64 l] 32))
  have HX0 := Lib.hid (heap_alloc_new w (.cells #[.int .i64 10, .string ⟨tx.toArray⟩, .slice a 0 c, .int .i64 l] 32))
  obtain ⟨r0, r1, r2, r3, q0, q1, q2, q3⟩ := box4 HX0.out
  go_enter Tryd.func49, Tryd.ntmps49
  go_wp2_with fail
  go_ret
  exact ⟨ret_str HQ.out, HB0.out⟩
set_option maxRecDepth 20000 in
set_option maxHeartbeats 1000000 in
theorem line_11 (n : Nat) (tx : List UInt8) (l : Int) (F : Nat → Prop) (w : World) (v : Value) (bl : List UInt8) (ht : IsT w F (.node 11 tx [] l) v) (hd : depthT (.node 11 tx [] l) ≤ n + 1) (hs : sizeT (.node 11 tx [] l) ≤ 1000) (hsh : shortT (.node 11 tx [] l)) (hbl : bl.length + 2 * depthT (.node 11 tx [] l) ≤ 1000) :
    Calls Tryd.prog 49 #[v, .string ⟨bl.toArray⟩] w fun e' w' => e' = .returned (.string ⟨(lineP (.node 11 tx [] l) bl).toArray⟩) ∧ Below w.heap.size w w' := by
  obtain ⟨kv, rfl, hks⟩ := isT_node.1 ht
  rw [depthT_node] at hd hbl
  rw [sizeT_node] at hs
  rw [shortT_node] at hsh
  simp only [sizeL_cons, sizeL_nil, depthL_cons, depthL_nil] at hs hd hbl
  try simp only [shortL_cons] at hsh
  obtain ⟨a, c, rfl⟩ : ∃ a c, kv = .slice a 0 c := by
    obtain ⟨a, c, hv, _⟩ := hks
    exact ⟨a, c, hv⟩
  have HK := Lib.hid hks
  have htx := hsh.1
  have htz := size_of_list tx _ htx
  have hbl2 : bl.length ≤ 1000 := by omega
  clear ht hks
  clear hd hs hsh hbl HK
  have HQ := Lib.hid (show (⟨#[116, 111, 107, 101, 110, 59]⟩ : ByteArray) = ⟨(lineP (.node 11 tx [] l) bl).toArray⟩ by rw [lineP_0]; exact ba_of_list (by simp [ByteArray.data_append, line0]))
  have HB0 := Lib.hid (bel_new w (.cells #[.int .i64 11, .string ⟨tx.toArray⟩, .slice a 0 c, .int .i64 l] 32))
  have HX0 := Lib.hid (heap_alloc_new w (.cells #[.int .i64 11, .string ⟨tx.toArray⟩, .slice a 0 c, .int .i64 l] 32))
  obtain ⟨r0, r1, r2, r3, q0, q1, q2, q3⟩ := box4 HX0.out
  go_enter Tryd.func49, Tryd.ntmps49
  go_wp2_with fail
  go_ret
  exact ⟨ret_str HQ.out, HB0.out⟩
set_option maxRecDepth 20000 in
set_option maxHeartbeats 1000000 in
theorem line_6 (n : Nat) (tx : List UInt8) (l : Int) (F : Nat → Prop) (w : World) (v : Value) (bl : List UInt8) (ht : IsT w F (.node 6 tx [] l) v) (hd : depthT (.node 6 tx [] l) ≤ n + 1) (hs : sizeT (.node 6 tx [] l) ≤ 1000) (hsh : shortT (.node 6 tx [] l)) (hbl : bl.length + 2 * depthT (.node 6 tx [] l) ≤ 1000) (hq : tx.all okB = true) :
    Calls Tryd.prog 49 #[v, .string ⟨bl.toArray⟩] w fun e' w' => e' = .returned (.string ⟨(lineP (.node 6 tx [] l) bl).toArray⟩) ∧ Below w.heap.size w w' := by
  obtain ⟨kv, rfl, hks⟩ := isT_node.1 ht
  rw [depthT_node] at hd hbl
  rw [sizeT_node] at hs
  rw [shortT_node] at hsh
  simp only [sizeL_cons, sizeL_nil, depthL_cons, depthL_nil] at hs hd hbl
  try simp only [shortL_cons] at hsh
  obtain ⟨a, c, rfl⟩ : ∃ a c, kv = .slice a 0 c := by
    obtain ⟨a, c, hv, _⟩ := hks
    exact ⟨a, c, hv⟩
  have HK := Lib.hid hks
  have htx := hsh.1
  have htz := size_of_list tx _ htx
  have hbl2 : bl.length ≤ 1000 := by omega
  clear ht hks
  have HV := Lib.hid (show quoV (⟨tx.toArray⟩ : ByteArray).data.toList = .tuple #[.string ⟨(quoL tx).toArray⟩, .nilIface] by rw [quoV, if_pos hq])
  have HCQ := Lib.hid (fun W => quote_any ⟨tx.toArray⟩ W htz)
  have hql := quoL_len tx
  obtain ⟨Qt, hQt⟩ : ∃ Q : ByteArray, Q = ⟨(quoL tx).toArray⟩ := ⟨_, rfl⟩
  have hQs : Qt.size ≤ 703000000 := by rw [hQt]; exact size_of_list _ _ (by omega)
  rw [← hQt] at HV
  have HQ := Lib.hid (show (⟨#[118, 97, 114, 121, 32]⟩ ++ Qt ++ ⟨#[59]⟩ : ByteArray) = ⟨(lineP (.node 6 tx [] l) bl).toArray⟩ by rw [hQt, lineP_0]; exact ba_of_list (by simp [ByteArray.data_append, line0]))
  have HB0 := Lib.hid (bel_new w (.cells #[.int .i64 6, .string ⟨tx.toArray⟩, .slice a 0 c, .int .i64 l] 32))
  have HX0 := Lib.hid (heap_alloc_new w (.cells #[.int .i64 6, .string ⟨tx.toArray⟩, .slice a 0 c, .int .i64 l] 32))
  obtain ⟨r0, r1, r2, r3, q0, q1, q2, q3⟩ := box4 HX0.out
  clear hd hs hsh hbl HK hQt hql hq
  go_enter Tryd.func49, Tryd.ntmps49
  go_wp2_with (first | (go_at_call 62; (with_reducible refine (HCQ.out _).mono ?_); rintro e1 w1 ⟨he1, hb⟩; rw [HV.out] at he1; subst he1; have HB1 := Lib.hid (HB0.out.trans (hb.mono HB0.out.size)); have HX1 := Lib.hid (keep_blk hb HX0.out); obtain ⟨s0, s1, s2, s3, z0, z1, z2, z3⟩ := box4 HX1.out; clear hb))
  go_ret
  exact ⟨ret_str HQ.out, HB1.out⟩
set_option maxRecDepth 20000 in
set_option maxHeartbeats 1000000 in
theorem line_3 (n : Nat) (tx : List UInt8) (e : Tree) (l : Int) (F : Nat → Prop) (w : World) (v : Value) (bl : List UInt8) (ht : IsT w F (.node 3 tx [e] l) v) (hd : depthT (.node 3 tx [e] l) ≤ n + 1) (hs : sizeT (.node 3 tx [e] l) ≤ 1000) (hsh : shortT (.node 3 tx [e] l)) (hbl : bl.length + 2 * depthT (.node 3 tx [e] l) ≤ 1000) (he : exprOK e = true) :
    Calls Tryd.prog 49 #[v, .string ⟨bl.toArray⟩] w fun e' w' => e' = .returned (.string ⟨(lineP (.node 3 tx [e] l) bl).toArray⟩) ∧ Below w.heap.size w w' := by
  obtain ⟨kv, rfl, hks⟩ := isT_node.1 ht
  rw [depthT_node] at hd hbl
  rw [sizeT_node] at hs
  rw [shortT_node] at hsh
  simp only [sizeL_cons, sizeL_nil, depthL_cons, depthL_nil] at hs hd hbl
  try simp only [shortL_cons] at hsh
  obtain ⟨a, c, rfl⟩ : ∃ a c, kv = .slice a 1 c := by
    obtain ⟨a, c, hv, _⟩ := hks
    exact ⟨a, c, hv⟩
  have HK := Lib.hid hks
  have htx := hsh.1
  have htz := size_of_list tx _ htx
  have hbl2 : bl.length ≤ 1000 := by omega
  clear ht hks
  obtain ⟨bk0, off0, cap0, k00, x00, a00, m00, n00, l00, hv0, c00, c01, c02, c03, hT0⟩ := IsKids.at HK.out (k := 0) (t := e) rfl
  simp only [Value.slice.injEq] at hv0
  obtain ⟨rfl, -, rfl⟩ := hv0
  simp only [Nat.zero_mul, Nat.add_zero, Nat.one_mul, Nat.reduceMul, Nat.add_assoc, Nat.reduceAdd] at c00 c01 c02 c03
  have hlen0 := writP_len e hsh.2.1
  obtain ⟨S0, hS0⟩ : ∃ S : ByteArray, S = ⟨(writP e).toArray⟩ := ⟨_, rfl⟩
  have hSz0 : S0.size ≤ 703000000 := by rw [hS0]; exact size_of_list _ _ (by omega)
  have HC0 := Lib.hid (fun W (hW : Below w.heap.size w W) => written_any e F W _ (hT0.step hW) (by omega) hsh.2.1 he)
  rw [← hS0] at HC0
  have HQ := Lib.hid (show (⟨#[108, 101, 116, 32]⟩ ++ ⟨tx.toArray⟩ ++ ⟨#[32, 61, 32]⟩ ++ S0 ++ ⟨#[59]⟩ : ByteArray) = ⟨(lineP (.node 3 tx [e] l) bl).toArray⟩ by rw [hS0, lineP_1]; exact ba_of_list (by simp [ByteArray.data_append, line1]))
  have HB0 := Lib.hid (bel_new w (.cells #[.int .i64 3, .string ⟨tx.toArray⟩, .slice (some ⟨bk0, off0, none⟩) 1 c, .int .i64 l] 32))
  have HX0 := Lib.hid (heap_alloc_new w (.cells #[.int .i64 3, .string ⟨tx.toArray⟩, .slice (some ⟨bk0, off0, none⟩) 1 c, .int .i64 l] 32))
  obtain ⟨r0, r1, r2, r3, q0, q1, q2, q3⟩ := box4 HX0.out
  have d00 := keep_at HB0.out c00
  have d01 := keep_at HB0.out c01
  have d02 := keep_at HB0.out c02
  have d03 := keep_at HB0.out c03
  clear hd hs hsh hbl HK hS0 he hlen0
  go_enter Tryd.func49, Tryd.ntmps49
  go_upto_region 10 with fail
  have R1 := fun d os => cell_regrown (r0) d os
  have R2 := fun d os => cell_regrown (r1) d os
  have R3 := fun d os => cell_regrown (r2) d os
  have R4 := fun d os => cell_regrown (r3) d os
  have R5 := fun d os => cell_regrown (d00) d os
  have R6 := fun d os => cell_regrown (d01) d os
  have R7 := fun d os => cell_regrown (d02) d os
  have R8 := fun d os => cell_regrown (d03) d os
  refine wp_region_quiet_below (by kernel_rfl) (by kernel_rfl) ?_
  repeat (go_big_quiet_step (first | (go_at_call 73; (with_reducible refine Calls.regrown_of (HC0.out _ ?_)); exact HB0.out.trans ((below_regrown _ _ _).mono HB0.out.size))))
  clear R1 R2 R3 R4 R5 R6 R7 R8
  refine wpQuiet_nil ?_
  intro w6 hw6
  have HB6 := Lib.hid (show Below w.heap.size w w6 by obtain ⟨p, rfl⟩ := hw6; exact HB0.out.trans ((below_regrown _ p.d p.os).mono HB0.out.size))
  have HX6 := Lib.hid (keep_blk (show Below (w.alloc _).heap.size (w.alloc _) w6 by obtain ⟨p, rfl⟩ := hw6; exact below_regrown _ p.d p.os) HX0.out)
  obtain ⟨s0, s1, s2, s3, z0, z1, z2, z3⟩ := box4 HX6.out
  have g00 := keep_at HB6.out c00
  have g01 := keep_at HB6.out c01
  have g02 := keep_at HB6.out c02
  have g03 := keep_at HB6.out c03
  clear hw6
  go_wp2_with fail
  go_ret
  exact ⟨ret_str HQ.out, HB6.out⟩
set_option maxRecDepth 20000 in
set_option maxHeartbeats 1000000 in
theorem line_4 (n : Nat) (tx : List UInt8) (e : Tree) (l : Int) (F : Nat → Prop) (w : World) (v : Value) (bl : List UInt8) (ht : IsT w F (.node 4 tx [e] l) v) (hd : depthT (.node 4 tx [e] l) ≤ n + 1) (hs : sizeT (.node 4 tx [e] l) ≤ 1000) (hsh : shortT (.node 4 tx [e] l)) (hbl : bl.length + 2 * depthT (.node 4 tx [e] l) ≤ 1000) (he : exprOK e = true) :
    Calls Tryd.prog 49 #[v, .string ⟨bl.toArray⟩] w fun e' w' => e' = .returned (.string ⟨(lineP (.node 4 tx [e] l) bl).toArray⟩) ∧ Below w.heap.size w w' := by
  obtain ⟨kv, rfl, hks⟩ := isT_node.1 ht
  rw [depthT_node] at hd hbl
  rw [sizeT_node] at hs
  rw [shortT_node] at hsh
  simp only [sizeL_cons, sizeL_nil, depthL_cons, depthL_nil] at hs hd hbl
  try simp only [shortL_cons] at hsh
  obtain ⟨a, c, rfl⟩ : ∃ a c, kv = .slice a 1 c := by
    obtain ⟨a, c, hv, _⟩ := hks
    exact ⟨a, c, hv⟩
  have HK := Lib.hid hks
  have htx := hsh.1
  have htz := size_of_list tx _ htx
  have hbl2 : bl.length ≤ 1000 := by omega
  clear ht hks
  obtain ⟨bk0, off0, cap0, k00, x00, a00, m00, n00, l00, hv0, c00, c01, c02, c03, hT0⟩ := IsKids.at HK.out (k := 0) (t := e) rfl
  simp only [Value.slice.injEq] at hv0
  obtain ⟨rfl, -, rfl⟩ := hv0
  simp only [Nat.zero_mul, Nat.add_zero, Nat.one_mul, Nat.reduceMul, Nat.add_assoc, Nat.reduceAdd] at c00 c01 c02 c03
  have hlen0 := writP_len e hsh.2.1
  obtain ⟨S0, hS0⟩ : ∃ S : ByteArray, S = ⟨(writP e).toArray⟩ := ⟨_, rfl⟩
  have hSz0 : S0.size ≤ 703000000 := by rw [hS0]; exact size_of_list _ _ (by omega)
  have HC0 := Lib.hid (fun W (hW : Below w.heap.size w W) => written_any e F W _ (hT0.step hW) (by omega) hsh.2.1 he)
  rw [← hS0] at HC0
  have HQ := Lib.hid (show (⟨tx.toArray⟩ ++ ⟨#[32, 61, 32]⟩ ++ S0 ++ ⟨#[59]⟩ : ByteArray) = ⟨(lineP (.node 4 tx [e] l) bl).toArray⟩ by rw [hS0, lineP_1]; exact ba_of_list (by simp [ByteArray.data_append, line1]))
  have HB0 := Lib.hid (bel_new w (.cells #[.int .i64 4, .string ⟨tx.toArray⟩, .slice (some ⟨bk0, off0, none⟩) 1 c, .int .i64 l] 32))
  have HX0 := Lib.hid (heap_alloc_new w (.cells #[.int .i64 4, .string ⟨tx.toArray⟩, .slice (some ⟨bk0, off0, none⟩) 1 c, .int .i64 l] 32))
  obtain ⟨r0, r1, r2, r3, q0, q1, q2, q3⟩ := box4 HX0.out
  have d00 := keep_at HB0.out c00
  have d01 := keep_at HB0.out c01
  have d02 := keep_at HB0.out c02
  have d03 := keep_at HB0.out c03
  clear hd hs hsh hbl HK hS0 he hlen0
  go_enter Tryd.func49, Tryd.ntmps49
  go_upto_region 12 with fail
  have R1 := fun d os => cell_regrown (r0) d os
  have R2 := fun d os => cell_regrown (r1) d os
  have R3 := fun d os => cell_regrown (r2) d os
  have R4 := fun d os => cell_regrown (r3) d os
  have R5 := fun d os => cell_regrown (d00) d os
  have R6 := fun d os => cell_regrown (d01) d os
  have R7 := fun d os => cell_regrown (d02) d os
  have R8 := fun d os => cell_regrown (d03) d os
  refine wp_region_quiet_below (by kernel_rfl) (by kernel_rfl) ?_
  repeat (go_big_quiet_step (first | (go_at_call 73; (with_reducible refine Calls.regrown_of (HC0.out _ ?_)); exact HB0.out.trans ((below_regrown _ _ _).mono HB0.out.size))))
  clear R1 R2 R3 R4 R5 R6 R7 R8
  refine wpQuiet_nil ?_
  intro w6 hw6
  have HB6 := Lib.hid (show Below w.heap.size w w6 by obtain ⟨p, rfl⟩ := hw6; exact HB0.out.trans ((below_regrown _ p.d p.os).mono HB0.out.size))
  have HX6 := Lib.hid (keep_blk (show Below (w.alloc _).heap.size (w.alloc _) w6 by obtain ⟨p, rfl⟩ := hw6; exact below_regrown _ p.d p.os) HX0.out)
  obtain ⟨s0, s1, s2, s3, z0, z1, z2, z3⟩ := box4 HX6.out
  have g00 := keep_at HB6.out c00
  have g01 := keep_at HB6.out c01
  have g02 := keep_at HB6.out c02
  have g03 := keep_at HB6.out c03
  clear hw6
  go_wp2_with fail
  go_ret
  exact ⟨ret_str HQ.out, HB6.out⟩
set_option maxRecDepth 20000 in
set_option maxHeartbeats 1000000 in
theorem line_5 (n : Nat) (tx : List UInt8) (e : Tree) (l : Int) (F : Nat → Prop) (w : World) (v : Value) (bl : List UInt8) (ht : IsT w F (.node 5 tx [e] l) v) (hd : depthT (.node 5 tx [e] l) ≤ n + 1) (hs : sizeT (.node 5 tx [e] l) ≤ 1000) (hsh : shortT (.node 5 tx [e] l)) (hbl : bl.length + 2 * depthT (.node 5 tx [e] l) ≤ 1000) (he : exprOK e = true) (hq : tx.all okB = true) :
    Calls Tryd.prog 49 #[v, .string ⟨bl.toArray⟩] w fun e' w' => e' = .returned (.string ⟨(lineP (.node 5 tx [e] l) bl).toArray⟩) ∧ Below w.heap.size w w' := by
  obtain ⟨kv, rfl, hks⟩ := isT_node.1 ht
  rw [depthT_node] at hd hbl
  rw [sizeT_node] at hs
  rw [shortT_node] at hsh
  simp only [sizeL_cons, sizeL_nil, depthL_cons, depthL_nil] at hs hd hbl
  try simp only [shortL_cons] at hsh
  obtain ⟨a, c, rfl⟩ : ∃ a c, kv = .slice a 1 c := by
    obtain ⟨a, c, hv, _⟩ := hks
    exact ⟨a, c, hv⟩
  have HK := Lib.hid hks
  have htx := hsh.1
  have htz := size_of_list tx _ htx
  have hbl2 : bl.length ≤ 1000 := by omega
  clear ht hks
  obtain ⟨bk0, off0, cap0, k00, x00, a00, m00, n00, l00, hv0, c00, c01, c02, c03, hT0⟩ := IsKids.at HK.out (k := 0) (t := e) rfl
  simp only [Value.slice.injEq] at hv0
  obtain ⟨rfl, -, rfl⟩ := hv0
  simp only [Nat.zero_mul, Nat.add_zero, Nat.one_mul, Nat.reduceMul, Nat.add_assoc, Nat.reduceAdd] at c00 c01 c02 c03
  have hlen0 := writP_len e hsh.2.1
  obtain ⟨S0, hS0⟩ : ∃ S : ByteArray, S = ⟨(writP e).toArray⟩ := ⟨_, rfl⟩
  have hSz0 : S0.size ≤ 703000000 := by rw [hS0]; exact size_of_list _ _ (by omega)
  have HC0 := Lib.hid (fun W (hW : Below w.heap.size w W) => written_any e F W _ (hT0.step hW) (by omega) hsh.2.1 he)
  rw [← hS0] at HC0
  have HV := Lib.hid (show quoV (⟨tx.toArray⟩ : ByteArray).data.toList = .tuple #[.string ⟨(quoL tx).toArray⟩, .nilIface] by rw [quoV, if_pos hq])
  have HCQ := Lib.hid (fun W => quote_any ⟨tx.toArray⟩ W htz)
  have hql := quoL_len tx
  obtain ⟨Qt, hQt⟩ : ∃ Q : ByteArray, Q = ⟨(quoL tx).toArray⟩ := ⟨_, rfl⟩
  have hQs : Qt.size ≤ 703000000 := by rw [hQt]; exact size_of_list _ _ (by omega)
  rw [← hQt] at HV
  have HQ := Lib.hid (show (⟨#[104, 101, 97, 100, 101, 114, 32]⟩ ++ Qt ++ ⟨#[32, 61, 32]⟩ ++ S0 ++ ⟨#[59]⟩ : ByteArray) = ⟨(lineP (.node 5 tx [e] l) bl).toArray⟩ by rw [hQt, hS0, lineP_1]; exact ba_of_list (by simp [ByteArray.data_append, line1]))
  have HB0 := Lib.hid (bel_new w (.cells #[.int .i64 5, .string ⟨tx.toArray⟩, .slice (some ⟨bk0, off0, none⟩) 1 c, .int .i64 l] 32))
  have HX0 := Lib.hid (heap_alloc_new w (.cells #[.int .i64 5, .string ⟨tx.toArray⟩, .slice (some ⟨bk0, off0, none⟩) 1 c, .int .i64 l] 32))
  obtain ⟨r0, r1, r2, r3, q0, q1, q2, q3⟩ := box4 HX0.out
  have d00 := keep_at HB0.out c00
  have d01 := keep_at HB0.out c01
  have d02 := keep_at HB0.out c02
  have d03 := keep_at HB0.out c03
  clear hd hs hsh hbl HK hS0 he hlen0 hQt hql hq
  go_enter Tryd.func49, Tryd.ntmps49
  go_wp2_with (first | (go_at_call 62; (with_reducible refine (HCQ.out _).mono ?_); rintro e1 w1 ⟨he1, hb⟩; rw [HV.out] at he1; subst he1; have HB1 := Lib.hid (HB0.out.trans (hb.mono HB0.out.size)); have HX1 := Lib.hid (keep_blk hb HX0.out); obtain ⟨s0, s1, s2, s3, z0, z1, z2, z3⟩ := box4 HX1.out; have g00 := keep_at HB1.out c00; have g01 := keep_at HB1.out c01; have g02 := keep_at HB1.out c02; have g03 := keep_at HB1.out c03; clear hb) | (go_at_call 73; (with_reducible refine (HC0.out _ HB1.out).mono ?_); rintro e1 w2 ⟨rfl, hb⟩; have HB2 := Lib.hid (HB1.out.trans (hb.mono HB1.out.size)); clear hb))
  go_ret
  exact ⟨ret_str HQ.out, HB2.out⟩
set_option maxRecDepth 20000 in
set_option maxHeartbeats 1000000 in
theorem line_7 (n : Nat) (tx : List UInt8) (e : Tree) (l : Int) (F : Nat → Prop) (w : World) (v : Value) (bl : List UInt8) (ht : IsT w F (.node 7 tx [e] l) v) (hd : depthT (.node 7 tx [e] l) ≤ n + 1) (hs : sizeT (.node 7 tx [e] l) ≤ 1000) (hsh : shortT (.node 7 tx [e] l)) (hbl : bl.length + 2 * depthT (.node 7 tx [e] l) ≤ 1000) (he : exprOK e = true) :
    Calls Tryd.prog 49 #[v, .string ⟨bl.toArray⟩] w fun e' w' => e' = .returned (.string ⟨(lineP (.node 7 tx [e] l) bl).toArray⟩) ∧ Below w.heap.size w w' := by
  obtain ⟨kv, rfl, hks⟩ := isT_node.1 ht
  rw [depthT_node] at hd hbl
  rw [sizeT_node] at hs
  rw [shortT_node] at hsh
  simp only [sizeL_cons, sizeL_nil, depthL_cons, depthL_nil] at hs hd hbl
  try simp only [shortL_cons] at hsh
  obtain ⟨a, c, rfl⟩ : ∃ a c, kv = .slice a 1 c := by
    obtain ⟨a, c, hv, _⟩ := hks
    exact ⟨a, c, hv⟩
  have HK := Lib.hid hks
  have htx := hsh.1
  have htz := size_of_list tx _ htx
  have hbl2 : bl.length ≤ 1000 := by omega
  clear ht hks
  obtain ⟨bk0, off0, cap0, k00, x00, a00, m00, n00, l00, hv0, c00, c01, c02, c03, hT0⟩ := IsKids.at HK.out (k := 0) (t := e) rfl
  simp only [Value.slice.injEq] at hv0
  obtain ⟨rfl, -, rfl⟩ := hv0
  simp only [Nat.zero_mul, Nat.add_zero, Nat.one_mul, Nat.reduceMul, Nat.add_assoc, Nat.reduceAdd] at c00 c01 c02 c03
  have hlen0 := writP_len e hsh.2.1
  obtain ⟨S0, hS0⟩ : ∃ S : ByteArray, S = ⟨(writP e).toArray⟩ := ⟨_, rfl⟩
  have hSz0 : S0.size ≤ 703000000 := by rw [hS0]; exact size_of_list _ _ (by omega)
  have HC0 := Lib.hid (fun W (hW : Below w.heap.size w W) => written_any e F W _ (hT0.step hW) (by omega) hsh.2.1 he)
  rw [← hS0] at HC0
  have HQ := Lib.hid (show (⟨#[116, 97, 103, 32]⟩ ++ S0 ++ ⟨#[59]⟩ : ByteArray) = ⟨(lineP (.node 7 tx [e] l) bl).toArray⟩ by rw [hS0, lineP_1]; exact ba_of_list (by simp [ByteArray.data_append, line1]))
  have HB0 := Lib.hid (bel_new w (.cells #[.int .i64 7, .string ⟨tx.toArray⟩, .slice (some ⟨bk0, off0, none⟩) 1 c, .int .i64 l] 32))
  have HX0 := Lib.hid (heap_alloc_new w (.cells #[.int .i64 7, .string ⟨tx.toArray⟩, .slice (some ⟨bk0, off0, none⟩) 1 c, .int .i64 l] 32))
  obtain ⟨r0, r1, r2, r3, q0, q1, q2, q3⟩ := box4 HX0.out
  have d00 := keep_at HB0.out c00
  have d01 := keep_at HB0.out c01
  have d02 := keep_at HB0.out c02
  have d03 := keep_at HB0.out c03
  clear hd hs hsh hbl HK hS0 he hlen0
  go_enter Tryd.func49, Tryd.ntmps49
  go_wp2_with (first | (go_at_call 73; (with_reducible refine (HC0.out _ HB0.out).mono ?_); rintro e1 w2 ⟨rfl, hb⟩; have HB2 := Lib.hid (HB0.out.trans (hb.mono HB0.out.size)); clear hb))
  go_ret
  exact ⟨ret_str HQ.out, HB2.out⟩
set_option maxRecDepth 20000 in
set_option maxHeartbeats 1000000 in
theorem line_8 (n : Nat) (tx : List UInt8) (e : Tree) (l : Int) (F : Nat → Prop) (w : World) (v : Value) (bl : List UInt8) (ht : IsT w F (.node 8 tx [e] l) v) (hd : depthT (.node 8 tx [e] l) ≤ n + 1) (hs : sizeT (.node 8 tx [e] l) ≤ 1000) (hsh : shortT (.node 8 tx [e] l)) (hbl : bl.length + 2 * depthT (.node 8 tx [e] l) ≤ 1000) (he : exprOK e = true) :
    Calls Tryd.prog 49 #[v, .string ⟨bl.toArray⟩] w fun e' w' => e' = .returned (.string ⟨(lineP (.node 8 tx [e] l) bl).toArray⟩) ∧ Below w.heap.size w w' := by
  obtain ⟨kv, rfl, hks⟩ := isT_node.1 ht
  rw [depthT_node] at hd hbl
  rw [sizeT_node] at hs
  rw [shortT_node] at hsh
  simp only [sizeL_cons, sizeL_nil, depthL_cons, depthL_nil] at hs hd hbl
  try simp only [shortL_cons] at hsh
  obtain ⟨a, c, rfl⟩ : ∃ a c, kv = .slice a 1 c := by
    obtain ⟨a, c, hv, _⟩ := hks
    exact ⟨a, c, hv⟩
  have HK := Lib.hid hks
  have htx := hsh.1
  have htz := size_of_list tx _ htx
  have hbl2 : bl.length ≤ 1000 := by omega
  clear ht hks
  obtain ⟨bk0, off0, cap0, k00, x00, a00, m00, n00, l00, hv0, c00, c01, c02, c03, hT0⟩ := IsKids.at HK.out (k := 0) (t := e) rfl
  simp only [Value.slice.injEq] at hv0
  obtain ⟨rfl, -, rfl⟩ := hv0
  simp only [Nat.zero_mul, Nat.add_zero, Nat.one_mul, Nat.reduceMul, Nat.add_assoc, Nat.reduceAdd] at c00 c01 c02 c03
  have hlen0 := writP_len e hsh.2.1
  obtain ⟨S0, hS0⟩ : ∃ S : ByteArray, S = ⟨(writP e).toArray⟩ := ⟨_, rfl⟩
  have hSz0 : S0.size ≤ 703000000 := by rw [hS0]; exact size_of_list _ _ (by omega)
  have HC0 := Lib.hid (fun W (hW : Below w.heap.size w W) => written_any e F W _ (hT0.step hW) (by omega) hsh.2.1 he)
  rw [← hS0] at HC0
  have HQ := Lib.hid (show (⟨#[116, 116, 108, 32]⟩ ++ S0 ++ ⟨#[59]⟩ : ByteArray) = ⟨(lineP (.node 8 tx [e] l) bl).toArray⟩ by rw [hS0, lineP_1]; exact ba_of_list (by simp [ByteArray.data_append, line1]))
  have HB0 := Lib.hid (bel_new w (.cells #[.int .i64 8, .string ⟨tx.toArray⟩, .slice (some ⟨bk0, off0, none⟩) 1 c, .int .i64 l] 32))
  have HX0 := Lib.hid (heap_alloc_new w (.cells #[.int .i64 8, .string ⟨tx.toArray⟩, .slice (some ⟨bk0, off0, none⟩) 1 c, .int .i64 l] 32))
  obtain ⟨r0, r1, r2, r3, q0, q1, q2, q3⟩ := box4 HX0.out
  have d00 := keep_at HB0.out c00
  have d01 := keep_at HB0.out c01
  have d02 := keep_at HB0.out c02
  have d03 := keep_at HB0.out c03
  clear hd hs hsh hbl HK hS0 he hlen0
  go_enter Tryd.func49, Tryd.ntmps49
  go_wp2_with (first | (go_at_call 73; (with_reducible refine (HC0.out _ HB0.out).mono ?_); rintro e1 w2 ⟨rfl, hb⟩; have HB2 := Lib.hid (HB0.out.trans (hb.mono HB0.out.size)); clear hb))
  go_ret
  exact ⟨ret_str HQ.out, HB2.out⟩
set_option maxRecDepth 20000 in
set_option maxHeartbeats 1000000 in
theorem line_9 (n : Nat) (tx : List UInt8) (e : Tree) (l : Int) (F : Nat → Prop) (w : World) (v : Value) (bl : List UInt8) (ht : IsT w F (.node 9 tx [e] l) v) (hd : depthT (.node 9 tx [e] l) ≤ n + 1) (hs : sizeT (.node 9 tx [e] l) ≤ 1000) (hsh : shortT (.node 9 tx [e] l)) (hbl : bl.length + 2 * depthT (.node 9 tx [e] l) ≤ 1000) (he : exprOK e = true) :
    Calls Tryd.prog 49 #[v, .string ⟨bl.toArray⟩] w fun e' w' => e' = .returned (.string ⟨(lineP (.node 9 tx [e] l) bl).toArray⟩) ∧ Below w.heap.size w w' := by
  obtain ⟨kv, rfl, hks⟩ := isT_node.1 ht
  rw [depthT_node] at hd hbl
  rw [sizeT_node] at hs
  rw [shortT_node] at hsh
  simp only [sizeL_cons, sizeL_nil, depthL_cons, depthL_nil] at hs hd hbl
  try simp only [shortL_cons] at hsh
  obtain ⟨a, c, rfl⟩ : ∃ a c, kv = .slice a 1 c := by
    obtain ⟨a, c, hv, _⟩ := hks
    exact ⟨a, c, hv⟩
  have HK := Lib.hid hks
  have htx := hsh.1
  have htz := size_of_list tx _ htx
  have hbl2 : bl.length ≤ 1000 := by omega
  clear ht hks
  obtain ⟨bk0, off0, cap0, k00, x00, a00, m00, n00, l00, hv0, c00, c01, c02, c03, hT0⟩ := IsKids.at HK.out (k := 0) (t := e) rfl
  simp only [Value.slice.injEq] at hv0
  obtain ⟨rfl, -, rfl⟩ := hv0
  simp only [Nat.zero_mul, Nat.add_zero, Nat.one_mul, Nat.reduceMul, Nat.add_assoc, Nat.reduceAdd] at c00 c01 c02 c03
  have hlen0 := writP_len e hsh.2.1
  obtain ⟨S0, hS0⟩ : ∃ S : ByteArray, S = ⟨(writP e).toArray⟩ := ⟨_, rfl⟩
  have hSz0 : S0.size ≤ 703000000 := by rw [hS0]; exact size_of_list _ _ (by omega)
  have HC0 := Lib.hid (fun W (hW : Below w.heap.size w W) => written_any e F W _ (hT0.step hW) (by omega) hsh.2.1 he)
  rw [← hS0] at HC0
  have HQ := Lib.hid (show (⟨#[100, 101, 110, 121, 32]⟩ ++ S0 ++ ⟨#[59]⟩ : ByteArray) = ⟨(lineP (.node 9 tx [e] l) bl).toArray⟩ by rw [hS0, lineP_1]; exact ba_of_list (by simp [ByteArray.data_append, line1]))
  have HB0 := Lib.hid (bel_new w (.cells #[.int .i64 9, .string ⟨tx.toArray⟩, .slice (some ⟨bk0, off0, none⟩) 1 c, .int .i64 l] 32))
  have HX0 := Lib.hid (heap_alloc_new w (.cells #[.int .i64 9, .string ⟨tx.toArray⟩, .slice (some ⟨bk0, off0, none⟩) 1 c, .int .i64 l] 32))
  obtain ⟨r0, r1, r2, r3, q0, q1, q2, q3⟩ := box4 HX0.out
  have d00 := keep_at HB0.out c00
  have d01 := keep_at HB0.out c01
  have d02 := keep_at HB0.out c02
  have d03 := keep_at HB0.out c03
  clear hd hs hsh hbl HK hS0 he hlen0
  go_enter Tryd.func49, Tryd.ntmps49
  go_wp2_with (first | (go_at_call 73; (with_reducible refine (HC0.out _ HB0.out).mono ?_); rintro e1 w2 ⟨rfl, hb⟩; have HB2 := Lib.hid (HB0.out.trans (hb.mono HB0.out.size)); clear hb))
  go_ret
  exact ⟨ret_str HQ.out, HB2.out⟩
set_option maxRecDepth 20000 in
set_option maxHeartbeats 1000000 in
theorem line_if2 (n : Nat) (HBR : LineC 74 blOK braceP n) (tx : List UInt8) (e : Tree) (b : Tree) (l : Int) (F : Nat → Prop) (w : World) (v : Value) (bl : List UInt8) (ht : IsT w F (.node 2 tx [e, b] l) v) (hd : depthT (.node 2 tx [e, b] l) ≤ n + 1) (hs : sizeT (.node 2 tx [e, b] l) ≤ 1000) (hsh : shortT (.node 2 tx [e, b] l)) (hbl : bl.length + 2 * depthT (.node 2 tx [e, b] l) ≤ 1000) (he : exprOK e = true) (hbk : blOK b = true) :
    Calls Tryd.prog 49 #[v, .string ⟨bl.toArray⟩] w fun e' w' => e' = .returned (.string ⟨(lineP (.node 2 tx [e, b] l) bl).toArray⟩) ∧ Below w.heap.size w w' := by
  obtain ⟨kv, rfl, hks⟩ := isT_node.1 ht
  rw [depthT_node] at hd hbl
  rw [sizeT_node] at hs
  rw [shortT_node] at hsh
  simp only [sizeL_cons, sizeL_nil, depthL_cons, depthL_nil] at hs hd hbl
  try simp only [shortL_cons] at hsh
  obtain ⟨a, c, rfl⟩ : ∃ a c, kv = .slice a 2 c := by
    obtain ⟨a, c, hv, _⟩ := hks
    exact ⟨a, c, hv⟩
  have HK := Lib.hid hks
  have htx := hsh.1
  have htz := size_of_list tx _ htx
  have hbl2 : bl.length ≤ 1000 := by omega
  clear ht hks
  obtain ⟨bk0, off0, cap0, k00, x00, a00, m00, n00, l00, hv0, c00, c01, c02, c03, hT0⟩ := IsKids.at HK.out (k := 0) (t := e) rfl
  simp only [Value.slice.injEq] at hv0
  obtain ⟨rfl, -, rfl⟩ := hv0
  simp only [Nat.zero_mul, Nat.add_zero, Nat.one_mul, Nat.reduceMul, Nat.add_assoc, Nat.reduceAdd] at c00 c01 c02 c03
  obtain ⟨bk1, off1, cap1, k10, x10, a10, m10, n10, l10, hv1, c10, c11, c12, c13, hT1⟩ := IsKids.at HK.out (k := 1) (t := b) rfl
  simp only [Value.slice.injEq, Option.some.injEq, Addr.mk.injEq, and_true] at hv1
  obtain ⟨⟨rfl, rfl⟩, -, -⟩ := hv1
  simp only [Nat.zero_mul, Nat.add_zero, Nat.one_mul, Nat.reduceMul, Nat.add_assoc, Nat.reduceAdd] at c10 c11 c12 c13
  have hlen0 := writP_len e hsh.2.1
  obtain ⟨S0, hS0⟩ : ∃ S : ByteArray, S = ⟨(writP e).toArray⟩ := ⟨_, rfl⟩
  have hSz0 : S0.size ≤ 703000000 := by rw [hS0]; exact size_of_list _ _ (by omega)
  have HC0 := Lib.hid (fun W (hW : Below w.heap.size w W) => written_any e F W _ (hT0.step hW) (by omega) hsh.2.1 he)
  rw [← hS0] at HC0
  have hlen1 := braceP_len b bl hsh.2.2.1 (by omega)
  obtain ⟨S1, hS1⟩ : ∃ S : ByteArray, S = ⟨(braceP b bl).toArray⟩ := ⟨_, rfl⟩
  have hSz1 : S1.size ≤ 703000000 := by rw [hS1]; exact size_of_list _ _ (by omega)
  have HC1 := Lib.hid (fun W (hW : Below w.heap.size w W) => HBR b F W _ bl (hT1.step hW) (by omega) (by omega) hsh.2.2.1 hbk (by omega))
  rw [← hS1] at HC1
  have HQ := Lib.hid (show (⟨#[105, 102, 32]⟩ ++ S0 ++ ⟨#[32]⟩ ++ S1 : ByteArray) = ⟨(lineP (.node 2 tx [e, b] l) bl).toArray⟩ by rw [hS0, hS1, lineP_2]; exact ba_of_list (by simp [ByteArray.data_append, lineI]))
  have HB0 := Lib.hid (bel_new w (.cells #[.int .i64 2, .string ⟨tx.toArray⟩, .slice (some ⟨bk0, off0, none⟩) 2 c, .int .i64 l] 32))
  have HX0 := Lib.hid (heap_alloc_new w (.cells #[.int .i64 2, .string ⟨tx.toArray⟩, .slice (some ⟨bk0, off0, none⟩) 2 c, .int .i64 l] 32))
  obtain ⟨r0, r1, r2, r3, q0, q1, q2, q3⟩ := box4 HX0.out
  have d00 := keep_at HB0.out c00
  have d01 := keep_at HB0.out c01
  have d02 := keep_at HB0.out c02
  have d03 := keep_at HB0.out c03
  have d10 := keep_at HB0.out c10
  have d11 := keep_at HB0.out c11
  have d12 := keep_at HB0.out c12
  have d13 := keep_at HB0.out c13
  clear hd hs hsh hbl HK hS0 hS1 he hbk hlen0 hlen1 HBR
  go_enter Tryd.func49, Tryd.ntmps49
  go_upto_region 3 with fail
  have R1 := fun d os => cell_regrown (r0) d os
  have R2 := fun d os => cell_regrown (r1) d os
  have R3 := fun d os => cell_regrown (r2) d os
  have R4 := fun d os => cell_regrown (r3) d os
  have R5 := fun d os => cell_regrown (d00) d os
  have R6 := fun d os => cell_regrown (d01) d os
  have R7 := fun d os => cell_regrown (d02) d os
  have R8 := fun d os => cell_regrown (d03) d os
  have R9 := fun d os => cell_regrown (d10) d os
  have R10 := fun d os => cell_regrown (d11) d os
  have R11 := fun d os => cell_regrown (d12) d os
  have R12 := fun d os => cell_regrown (d13) d os
  refine wp_region_quiet_below (by kernel_rfl) (by kernel_rfl) ?_
  repeat (go_big_quiet_step (first | (go_at_call 73; (with_reducible refine Calls.regrown_of (HC0.out _ ?_)); exact HB0.out.trans ((below_regrown _ _ _).mono HB0.out.size)) | (go_at_call 74; (with_reducible refine Calls.regrown_of (HC1.out _ ?_)); exact HB0.out.trans ((below_regrown _ _ _).mono HB0.out.size))))
  clear R1 R2 R3 R4 R5 R6 R7 R8 R9 R10 R11 R12
  refine wpQuiet_nil ?_
  intro w6 hw6
  have HB6 := Lib.hid (show Below w.heap.size w w6 by obtain ⟨p, rfl⟩ := hw6; exact HB0.out.trans ((below_regrown _ p.d p.os).mono HB0.out.size))
  have HX6 := Lib.hid (keep_blk (show Below (w.alloc _).heap.size (w.alloc _) w6 by obtain ⟨p, rfl⟩ := hw6; exact below_regrown _ p.d p.os) HX0.out)
  obtain ⟨s0, s1, s2, s3, z0, z1, z2, z3⟩ := box4 HX6.out
  have g00 := keep_at HB6.out c00
  have g01 := keep_at HB6.out c01
  have g02 := keep_at HB6.out c02
  have g03 := keep_at HB6.out c03
  have g10 := keep_at HB6.out c10
  have g11 := keep_at HB6.out c11
  have g12 := keep_at HB6.out c12
  have g13 := keep_at HB6.out c13
  clear hw6
  go_wp2_with fail
  go_ret
  exact ⟨ret_str HQ.out, HB6.out⟩
set_option maxRecDepth 20000 in
set_option maxHeartbeats 1000000 in
theorem line_if3l (n : Nat) (HBR : LineC 74 blOK braceP n) (HLN : LineC 49 stOK lineP n) (tx : List UInt8) (e : Tree) (b : Tree) (x : Tree) (l : Int) (F : Nat → Prop) (w : World) (v : Value) (bl : List UInt8) (ht : IsT w F (.node 2 tx [e, b, x] l) v) (hd : depthT (.node 2 tx [e, b, x] l) ≤ n + 1) (hs : sizeT (.node 2 tx [e, b, x] l) ≤ 1000) (hsh : shortT (.node 2 tx [e, b, x] l)) (hbl : bl.length + 2 * depthT (.node 2 tx [e, b, x] l) ≤ 1000) (he : exprOK e = true) (hbk : blOK b = true) (hxk : x.kind = 2) (hx : stOK x = true) :
    Calls Tryd.prog 49 #[v, .string ⟨bl.toArray⟩] w fun e' w' => e' = .returned (.string ⟨(lineP (.node 2 tx [e, b, x] l) bl).toArray⟩) ∧ Below w.heap.size w w' := by
  obtain ⟨kv, rfl, hks⟩ := isT_node.1 ht
  rw [depthT_node] at hd hbl
  rw [sizeT_node] at hs
  rw [shortT_node] at hsh
  simp only [sizeL_cons, sizeL_nil, depthL_cons, depthL_nil] at hs hd hbl
  try simp only [shortL_cons] at hsh
  obtain ⟨a, c, rfl⟩ : ∃ a c, kv = .slice a 3 c := by
    obtain ⟨a, c, hv, _⟩ := hks
    exact ⟨a, c, hv⟩
  have HK := Lib.hid hks
  have htx := hsh.1
  have htz := size_of_list tx _ htx
  have hbl2 : bl.length ≤ 1000 := by omega
  clear ht hks
  obtain ⟨bk0, off0, cap0, k00, x00, a00, m00, n00, l00, hv0, c00, c01, c02, c03, hT0⟩ := IsKids.at HK.out (k := 0) (t := e) rfl
  simp only [Value.slice.injEq] at hv0
  obtain ⟨rfl, -, rfl⟩ := hv0
  simp only [Nat.zero_mul, Nat.add_zero, Nat.one_mul, Nat.reduceMul, Nat.add_assoc, Nat.reduceAdd] at c00 c01 c02 c03
  obtain ⟨bk1, off1, cap1, k10, x10, a10, m10, n10, l10, hv1, c10, c11, c12, c13, hT1⟩ := IsKids.at HK.out (k := 1) (t := b) rfl
  simp only [Value.slice.injEq, Option.some.injEq, Addr.mk.injEq, and_true] at hv1
  obtain ⟨⟨rfl, rfl⟩, -, -⟩ := hv1
  simp only [Nat.zero_mul, Nat.add_zero, Nat.one_mul, Nat.reduceMul, Nat.add_assoc, Nat.reduceAdd] at c10 c11 c12 c13
  obtain ⟨bk2, off2, cap2, k20, x20, a20, m20, n20, l20, hv2, c20, c21, c22, c23, hT2⟩ := IsKids.at HK.out (k := 2) (t := x) rfl
  simp only [Value.slice.injEq, Option.some.injEq, Addr.mk.injEq, and_true] at hv2
  obtain ⟨⟨rfl, rfl⟩, -, -⟩ := hv2
  simp only [Nat.zero_mul, Nat.add_zero, Nat.one_mul, Nat.reduceMul, Nat.add_assoc, Nat.reduceAdd] at c20 c21 c22 c23
  have hlen0 := writP_len e hsh.2.1
  obtain ⟨S0, hS0⟩ : ∃ S : ByteArray, S = ⟨(writP e).toArray⟩ := ⟨_, rfl⟩
  have hSz0 : S0.size ≤ 703000000 := by rw [hS0]; exact size_of_list _ _ (by omega)
  have HC0 := Lib.hid (fun W (hW : Below w.heap.size w W) => written_any e F W _ (hT0.step hW) (by omega) hsh.2.1 he)
  rw [← hS0] at HC0
  have hlen1 := braceP_len b bl hsh.2.2.1 (by omega)
  obtain ⟨S1, hS1⟩ : ∃ S : ByteArray, S = ⟨(braceP b bl).toArray⟩ := ⟨_, rfl⟩
  have hSz1 : S1.size ≤ 703000000 := by rw [hS1]; exact size_of_list _ _ (by omega)
  have HC1 := Lib.hid (fun W (hW : Below w.heap.size w W) => HBR b F W _ bl (hT1.step hW) (by omega) (by omega) hsh.2.2.1 hbk (by omega))
  rw [← hS1] at HC1
  have hlen2 := lineP_len x bl hsh.2.2.2.1 (by omega)
  obtain ⟨S2, hS2⟩ : ∃ S : ByteArray, S = ⟨(lineP x bl).toArray⟩ := ⟨_, rfl⟩
  have hSz2 : S2.size ≤ 703000000 := by rw [hS2]; exact size_of_list _ _ (by omega)
  have HC2 := Lib.hid (fun W (hW : Below w.heap.size w W) => HLN x F W _ bl (hT2.step hW) (by omega) (by omega) hsh.2.2.2.1 hx (by omega))
  rw [← hS2] at HC2
  have hkx := isT_kindOf hT2
  have HQ := Lib.hid (show (⟨#[105, 102, 32]⟩ ++ S0 ++ ⟨#[32]⟩ ++ S1 ++ ⟨#[32, 101, 108, 115, 101, 32]⟩ ++ S2 : ByteArray) = ⟨(lineP (.node 2 tx [e, b, x] l) bl).toArray⟩ by rw [hS0, hS1, hS2, lineP_3, if_pos hxk]; exact ba_of_list (by simp [ByteArray.data_append, lineI]))
  have HB0 := Lib.hid (bel_new w (.cells #[.int .i64 2, .string ⟨tx.toArray⟩, .slice (some ⟨bk0, off0, none⟩) 3 c, .int .i64 l] 32))
  have HX0 := Lib.hid (heap_alloc_new w (.cells #[.int .i64 2, .string ⟨tx.toArray⟩, .slice (some ⟨bk0, off0, none⟩) 3 c, .int .i64 l] 32))
  obtain ⟨r0, r1, r2, r3, q0, q1, q2, q3⟩ := box4 HX0.out
  have d00 := keep_at HB0.out c00
  have d01 := keep_at HB0.out c01
  have d02 := keep_at HB0.out c02
  have d03 := keep_at HB0.out c03
  have d10 := keep_at HB0.out c10
  have d11 := keep_at HB0.out c11
  have d12 := keep_at HB0.out c12
  have d13 := keep_at HB0.out c13
  have d20 := keep_at HB0.out c20
  have d21 := keep_at HB0.out c21
  have d22 := keep_at HB0.out c22
  have d23 := keep_at HB0.out c23
  obtain rfl : k20 = 2 := hkx.trans hxk
  clear hd hs hsh hbl HK hS0 hS1 hS2 he hbk hx hlen0 hlen1 hlen2 HBR HLN hkx hxk
  go_enter Tryd.func49, Tryd.ntmps49
  go_upto_region 3 with fail
  have R1 := fun d os => cell_regrown (r0) d os
  have R2 := fun d os => cell_regrown (r1) d os
  have R3 := fun d os => cell_regrown (r2) d os
  have R4 := fun d os => cell_regrown (r3) d os
  have R5 := fun d os => cell_regrown (d00) d os
  have R6 := fun d os => cell_regrown (d01) d os
  have R7 := fun d os => cell_regrown (d02) d os
  have R8 := fun d os => cell_regrown (d03) d os
  have R9 := fun d os => cell_regrown (d10) d os
  have R10 := fun d os => cell_regrown (d11) d os
  have R11 := fun d os => cell_regrown (d12) d os
  have R12 := fun d os => cell_regrown (d13) d os
  have R13 := fun d os => cell_regrown (d20) d os
  have R14 := fun d os => cell_regrown (d21) d os
  have R15 := fun d os => cell_regrown (d22) d os
  have R16 := fun d os => cell_regrown (d23) d os
  refine wp_region_quiet_below (by kernel_rfl) (by kernel_rfl) ?_
  repeat (go_big_quiet_step (first | (go_at_call 73; (with_reducible refine Calls.regrown_of (HC0.out _ ?_)); exact HB0.out.trans ((below_regrown _ _ _).mono HB0.out.size)) | (go_at_call 74; (with_reducible refine Calls.regrown_of (HC1.out _ ?_)); exact HB0.out.trans ((below_regrown _ _ _).mono HB0.out.size))))
  clear R1 R2 R3 R4 R5 R6 R7 R8 R9 R10 R11 R12 R13 R14 R15 R16
  refine wpQuiet_nil ?_
  intro w6 hw6
  have HB6 := Lib.hid (show Below w.heap.size w w6 by obtain ⟨p, rfl⟩ := hw6; exact HB0.out.trans ((below_regrown _ p.d p.os).mono HB0.out.size))
  have HX6 := Lib.hid (keep_blk (show Below (w.alloc _).heap.size (w.alloc _) w6 by obtain ⟨p, rfl⟩ := hw6; exact below_regrown _ p.d p.os) HX0.out)
  obtain ⟨s0, s1, s2, s3, z0, z1, z2, z3⟩ := box4 HX6.out
  have g00 := keep_at HB6.out c00
  have g01 := keep_at HB6.out c01
  have g02 := keep_at HB6.out c02
  have g03 := keep_at HB6.out c03
  have g10 := keep_at HB6.out c10
  have g11 := keep_at HB6.out c11
  have g12 := keep_at HB6.out c12
  have g13 := keep_at HB6.out c13
  have g20 := keep_at HB6.out c20
  have g21 := keep_at HB6.out c21
  have g22 := keep_at HB6.out c22
  have g23 := keep_at HB6.out c23
  clear hw6
  go_wp2_with (first | (go_at_call 49; (with_reducible refine (HC2.out _ HB6.out).mono ?_); rintro e1 w7 ⟨rfl, hb⟩; have HB7 := Lib.hid (HB6.out.trans (hb.mono HB6.out.size)); clear hb))
  go_ret
  exact ⟨ret_str HQ.out, HB7.out⟩
set_option maxRecDepth 20000 in
set_option maxHeartbeats 1000000 in
theorem line_if3b (n : Nat) (HBR : LineC 74 blOK braceP n) (HLN : LineC 49 stOK lineP n) (tx : List UInt8) (e : Tree) (b : Tree) (x : Tree) (l : Int) (F : Nat → Prop) (w : World) (v : Value) (bl : List UInt8) (ht : IsT w F (.node 2 tx [e, b, x] l) v) (hd : depthT (.node 2 tx [e, b, x] l) ≤ n + 1) (hs : sizeT (.node 2 tx [e, b, x] l) ≤ 1000) (hsh : shortT (.node 2 tx [e, b, x] l)) (hbl : bl.length + 2 * depthT (.node 2 tx [e, b, x] l) ≤ 1000) (he : exprOK e = true) (hbk : blOK b = true) (hxk : ¬ x.kind = 2) (hx : blOK x = true) :
    Calls Tryd.prog 49 #[v, .string ⟨bl.toArray⟩] w fun e' w' => e' = .returned (.string ⟨(lineP (.node 2 tx [e, b, x] l) bl).toArray⟩) ∧ Below w.heap.size w w' := by
  obtain ⟨kv, rfl, hks⟩ := isT_node.1 ht
  rw [depthT_node] at hd hbl
  rw [sizeT_node] at hs
  rw [shortT_node] at hsh
  simp only [sizeL_cons, sizeL_nil, depthL_cons, depthL_nil] at hs hd hbl
  try simp only [shortL_cons] at hsh
  obtain ⟨a, c, rfl⟩ : ∃ a c, kv = .slice a 3 c := by
    obtain ⟨a, c, hv, _⟩ := hks
    exact ⟨a, c, hv⟩
  have HK := Lib.hid hks
  have htx := hsh.1
  have htz := size_of_list tx _ htx
  have hbl2 : bl.length ≤ 1000 := by omega
  clear ht hks
  obtain ⟨bk0, off0, cap0, k00, x00, a00, m00, n00, l00, hv0, c00, c01, c02, c03, hT0⟩ := IsKids.at HK.out (k := 0) (t := e) rfl
  simp only [Value.slice.injEq] at hv0
  obtain ⟨rfl, -, rfl⟩ := hv0
  simp only [Nat.zero_mul, Nat.add_zero, Nat.one_mul, Nat.reduceMul, Nat.add_assoc, Nat.reduceAdd] at c00 c01 c02 c03
  obtain ⟨bk1, off1, cap1, k10, x10, a10, m10, n10, l10, hv1, c10, c11, c12, c13, hT1⟩ := IsKids.at HK.out (k := 1) (t := b) rfl
  simp only [Value.slice.injEq, Option.some.injEq, Addr.mk.injEq, and_true] at hv1
  obtain ⟨⟨rfl, rfl⟩, -, -⟩ := hv1
  simp only [Nat.zero_mul, Nat.add_zero, Nat.one_mul, Nat.reduceMul, Nat.add_assoc, Nat.reduceAdd] at c10 c11 c12 c13
  obtain ⟨bk2, off2, cap2, k20, x20, a20, m20, n20, l20, hv2, c20, c21, c22, c23, hT2⟩ := IsKids.at HK.out (k := 2) (t := x) rfl
  simp only [Value.slice.injEq, Option.some.injEq, Addr.mk.injEq, and_true] at hv2
  obtain ⟨⟨rfl, rfl⟩, -, -⟩ := hv2
  simp only [Nat.zero_mul, Nat.add_zero, Nat.one_mul, Nat.reduceMul, Nat.add_assoc, Nat.reduceAdd] at c20 c21 c22 c23
  have hlen0 := writP_len e hsh.2.1
  obtain ⟨S0, hS0⟩ : ∃ S : ByteArray, S = ⟨(writP e).toArray⟩ := ⟨_, rfl⟩
  have hSz0 : S0.size ≤ 703000000 := by rw [hS0]; exact size_of_list _ _ (by omega)
  have HC0 := Lib.hid (fun W (hW : Below w.heap.size w W) => written_any e F W _ (hT0.step hW) (by omega) hsh.2.1 he)
  rw [← hS0] at HC0
  have hlen1 := braceP_len b bl hsh.2.2.1 (by omega)
  obtain ⟨S1, hS1⟩ : ∃ S : ByteArray, S = ⟨(braceP b bl).toArray⟩ := ⟨_, rfl⟩
  have hSz1 : S1.size ≤ 703000000 := by rw [hS1]; exact size_of_list _ _ (by omega)
  have HC1 := Lib.hid (fun W (hW : Below w.heap.size w W) => HBR b F W _ bl (hT1.step hW) (by omega) (by omega) hsh.2.2.1 hbk (by omega))
  rw [← hS1] at HC1
  have hlen2 := braceP_len x bl hsh.2.2.2.1 (by omega)
  obtain ⟨S2, hS2⟩ : ∃ S : ByteArray, S = ⟨(braceP x bl).toArray⟩ := ⟨_, rfl⟩
  have hSz2 : S2.size ≤ 703000000 := by rw [hS2]; exact size_of_list _ _ (by omega)
  have HC2 := Lib.hid (fun W (hW : Below w.heap.size w W) => HBR x F W _ bl (hT2.step hW) (by omega) (by omega) hsh.2.2.2.1 hx (by omega))
  rw [← hS2] at HC2
  have hkx := isT_kindOf hT2
  have HQ := Lib.hid (show (⟨#[105, 102, 32]⟩ ++ S0 ++ ⟨#[32]⟩ ++ S1 ++ ⟨#[32, 101, 108, 115, 101, 32]⟩ ++ S2 : ByteArray) = ⟨(lineP (.node 2 tx [e, b, x] l) bl).toArray⟩ by rw [hS0, hS1, hS2, lineP_3, if_neg hxk]; exact ba_of_list (by simp [ByteArray.data_append, lineI]))
  have HB0 := Lib.hid (bel_new w (.cells #[.int .i64 2, .string ⟨tx.toArray⟩, .slice (some ⟨bk0, off0, none⟩) 3 c, .int .i64 l] 32))
  have HX0 := Lib.hid (heap_alloc_new w (.cells #[.int .i64 2, .string ⟨tx.toArray⟩, .slice (some ⟨bk0, off0, none⟩) 3 c, .int .i64 l] 32))
  obtain ⟨r0, r1, r2, r3, q0, q1, q2, q3⟩ := box4 HX0.out
  have d00 := keep_at HB0.out c00
  have d01 := keep_at HB0.out c01
  have d02 := keep_at HB0.out c02
  have d03 := keep_at HB0.out c03
  have d10 := keep_at HB0.out c10
  have d11 := keep_at HB0.out c11
  have d12 := keep_at HB0.out c12
  have d13 := keep_at HB0.out c13
  have d20 := keep_at HB0.out c20
  have d21 := keep_at HB0.out c21
  have d22 := keep_at HB0.out c22
  have d23 := keep_at HB0.out c23
  have hkb : (k20 == 2) = false := beq_eq_false_iff_ne.2 (by rw [hkx]; exact hxk)
  have hkn : ¬ k20 = 2 := by rw [hkx]; exact hxk
  clear hd hs hsh hbl HK hS0 hS1 hS2 he hbk hx hlen0 hlen1 hlen2 HBR HLN hkx hxk
  go_enter Tryd.func49, Tryd.ntmps49
  go_upto_region 3 with fail
  have R1 := fun d os => cell_regrown (r0) d os
  have R2 := fun d os => cell_regrown (r1) d os
  have R3 := fun d os => cell_regrown (r2) d os
  have R4 := fun d os => cell_regrown (r3) d os
  have R5 := fun d os => cell_regrown (d00) d os
  have R6 := fun d os => cell_regrown (d01) d os
  have R7 := fun d os => cell_regrown (d02) d os
  have R8 := fun d os => cell_regrown (d03) d os
  have R9 := fun d os => cell_regrown (d10) d os
  have R10 := fun d os => cell_regrown (d11) d os
  have R11 := fun d os => cell_regrown (d12) d os
  have R12 := fun d os => cell_regrown (d13) d os
  have R13 := fun d os => cell_regrown (d20) d os
  have R14 := fun d os => cell_regrown (d21) d os
  have R15 := fun d os => cell_regrown (d22) d os
  have R16 := fun d os => cell_regrown (d23) d os
  refine wp_region_quiet_below (by kernel_rfl) (by kernel_rfl) ?_
  repeat (go_big_quiet_step (first | (go_at_call 73; (with_reducible refine Calls.regrown_of (HC0.out _ ?_)); exact HB0.out.trans ((below_regrown _ _ _).mono HB0.out.size)) | (go_at_call 74; (with_reducible refine Calls.regrown_of (HC1.out _ ?_)); exact HB0.out.trans ((below_regrown _ _ _).mono HB0.out.size))))
  clear R1 R2 R3 R4 R5 R6 R7 R8 R9 R10 R11 R12 R13 R14 R15 R16
  refine wpQuiet_nil ?_
  intro w6 hw6
  have HB6 := Lib.hid (show Below w.heap.size w w6 by obtain ⟨p, rfl⟩ := hw6; exact HB0.out.trans ((below_regrown _ p.d p.os).mono HB0.out.size))
  have HX6 := Lib.hid (keep_blk (show Below (w.alloc _).heap.size (w.alloc _) w6 by obtain ⟨p, rfl⟩ := hw6; exact below_regrown _ p.d p.os) HX0.out)
  obtain ⟨s0, s1, s2, s3, z0, z1, z2, z3⟩ := box4 HX6.out
  have g00 := keep_at HB6.out c00
  have g01 := keep_at HB6.out c01
  have g02 := keep_at HB6.out c02
  have g03 := keep_at HB6.out c03
  have g10 := keep_at HB6.out c10
  have g11 := keep_at HB6.out c11
  have g12 := keep_at HB6.out c12
  have g13 := keep_at HB6.out c13
  have g20 := keep_at HB6.out c20
  have g21 := keep_at HB6.out c21
  have g22 := keep_at HB6.out c22
  have g23 := keep_at HB6.out c23
  clear hw6
  go_wp2_with (first | (go_at_call 74; (with_reducible refine (HC2.out _ HB6.out).mono ?_); rintro e1 w7 ⟨rfl, hb⟩; have HB7 := Lib.hid (HB6.out.trans (hb.mono HB6.out.size)); clear hb))
  go_ret
  exact ⟨ret_str HQ.out, HB7.out⟩
end Go.Proofs.YtogkiifljdnjgaaDoor
