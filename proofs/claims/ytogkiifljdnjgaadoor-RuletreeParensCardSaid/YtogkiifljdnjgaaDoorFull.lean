/- The walks of the law's full and body. Conditions: a statement, bounds on size and texts. -/
import Derived.Test.YtogkiifljdnjgaaDoorWrap
namespace Go.Proofs.YtogkiifljdnjgaaDoor
open Go.RowKit
set_option linter.unusedVariables false
set_option linter.unusedSimpArgs false

def FullC (fid : FuncId) (ok : Tree → Bool) (f : Tree → List UInt8) (n : Nat) : Prop := ∀ (t : Tree) (F : Nat → Prop) (w : World) (v : Value), IsT w F t v → depthT t ≤ n → sizeT t ≤ 1000 → shortT t → ok t = true →
  Calls Tryd.prog fid #[v] w fun e w' => e = .returned (.string ⟨(f t).toArray⟩) ∧ Below w.heap.size w w'
set_option maxRecDepth 20000 in
set_option maxHeartbeats 1000000 in
theorem full_10 (n : Nat) (tx : List UInt8) (l : Int) (F : Nat → Prop) (w : World) (v : Value) (ht : IsT w F (.node 10 tx [] l) v) (hd : depthT (.node 10 tx [] l) ≤ n + 1) (hs : sizeT (.node 10 tx [] l) ≤ 1000) (hsh : shortT (.node 10 tx [] l)) :
    Calls Tryd.prog 17 #[v] w fun e' w' => e' = .returned (.string ⟨(fullP (.node 10 tx [] l)).toArray⟩) ∧ Below w.heap.size w w' := by
  obtain ⟨kv, rfl, hks⟩ := isT_node.1 ht
  rw [depthT_node] at hd
  rw [sizeT_node] at hs
  rw [shortT_node] at hsh
  simp only [sizeL_cons, sizeL_nil, depthL_cons, depthL_nil] at hs hd
  try simp only [shortL_cons] at hsh
  obtain ⟨a, c, rfl⟩ : ∃ a c, kv = .slice a 0 c := by
    obtain ⟨a, c, hv, _⟩ := hks
    exact ⟨a, c, hv⟩
  have HK := Lib.hid hks
  have htx := hsh.1
  have htz := size_of_list tx _ htx
  clear ht hks
  clear hd hs hsh HK
  have HQ := Lib.hid (show (⟨#[112, 97, 115, 115, 59]⟩ : ByteArray) = ⟨(fullP (.node 10 tx [] l)).toArray⟩ by rw [fullP_0]; exact ba_of_list (by simp [ByteArray.data_append, full0]))
  have HB0 := Lib.hid (bel_new w (.cells #[.int .i64 10, .string ⟨tx.toArray⟩, .slice a 0 c, .int .i64 l] 26))
  have HX0 := Lib.hid (heap_alloc_new w (.cells #[.int .i64 10, .string ⟨tx.toArray⟩, .slice a 0 c, .int .i64 l] 26))
  obtain ⟨r0, r1, r2, r3, q0, q1, q2, q3⟩ := box4 HX0.out
  go_enter Tryd.func17, Tryd.ntmps17
  go_wp2_with fail
  go_ret
  exact ⟨ret_str HQ.out, HB0.out⟩
set_option maxRecDepth 20000 in
set_option maxHeartbeats 1000000 in
theorem full_11 (n : Nat) (tx : List UInt8) (l : Int) (F : Nat → Prop) (w : World) (v : Value) (ht : IsT w F (.node 11 tx [] l) v) (hd : depthT (.node 11 tx [] l) ≤ n + 1) (hs : sizeT (.node 11 tx [] l) ≤ 1000) (hsh : shortT (.node 11 tx [] l)) :
    Calls Tryd.prog 17 #[v] w fun e' w' => e' = .returned (.string ⟨(fullP (.node 11 tx [] l)).toArray⟩) ∧ Below w.heap.size w w' := by
  obtain ⟨kv, rfl, hks⟩ := isT_node.1 ht
  rw [depthT_node] at hd
  rw [sizeT_node] at hs
  rw [shortT_node] at hsh
  simp only [sizeL_cons, sizeL_nil, depthL_cons, depthL_nil] at hs hd
  try simp only [shortL_cons] at hsh
  obtain ⟨a, c, rfl⟩ : ∃ a c, kv = .slice a 0 c := by
    obtain ⟨a, c, hv, _⟩ := hks
    exact ⟨a, c, hv⟩
  have HK := Lib.hid hks
  have htx := hsh.1
  have htz := size_of_list tx _ htx
  clear ht hks
  clear hd hs hsh HK
  have HQ := Lib.hid (show (⟨#[116, 111, 107, 101, 110, 32, 59]⟩ : ByteArray) = ⟨(fullP (.node 11 tx [] l)).toArray⟩ by rw [fullP_0]; exact ba_of_list (by simp [ByteArray.data_append, full0]))
  have HB0 := Lib.hid (bel_new w (.cells #[.int .i64 11, .string ⟨tx.toArray⟩, .slice a 0 c, .int .i64 l] 26))
  have HX0 := Lib.hid (heap_alloc_new w (.cells #[.int .i64 11, .string ⟨tx.toArray⟩, .slice a 0 c, .int .i64 l] 26))
  obtain ⟨r0, r1, r2, r3, q0, q1, q2, q3⟩ := box4 HX0.out
  go_enter Tryd.func17, Tryd.ntmps17
  go_wp2_with fail
  go_ret
  exact ⟨ret_str HQ.out, HB0.out⟩
set_option maxRecDepth 20000 in
set_option maxHeartbeats 1000000 in
theorem full_6 (n : Nat) (tx : List UInt8) (l : Int) (F : Nat → Prop) (w : World) (v : Value) (ht : IsT w F (.node 6 tx [] l) v) (hd : depthT (.node 6 tx [] l) ≤ n + 1) (hs : sizeT (.node 6 tx [] l) ≤ 1000) (hsh : shortT (.node 6 tx [] l)) :
    Calls Tryd.prog 17 #[v] w fun e' w' => e' = .returned (.string ⟨(fullP (.node 6 tx [] l)).toArray⟩) ∧ Below w.heap.size w w' := by
  obtain ⟨kv, rfl, hks⟩ := isT_node.1 ht
  rw [depthT_node] at hd
  rw [sizeT_node] at hs
  rw [shortT_node] at hsh
  simp only [sizeL_cons, sizeL_nil, depthL_cons, depthL_nil] at hs hd
  try simp only [shortL_cons] at hsh
  obtain ⟨a, c, rfl⟩ : ∃ a c, kv = .slice a 0 c := by
    obtain ⟨a, c, hv, _⟩ := hks
    exact ⟨a, c, hv⟩
  have HK := Lib.hid hks
  have htx := hsh.1
  have htz := size_of_list tx _ htx
  clear ht hks
  have HCQ := Lib.hid (fun W => fquote_any ⟨tx.toArray⟩ W htz)
  rw [show (⟨tx.toArray⟩ : ByteArray).data.toList = tx by simp] at HCQ
  have hql := quoL_len tx
  obtain ⟨Qt, hQt⟩ : ∃ Q : ByteArray, Q = ⟨(quoL tx).toArray⟩ := ⟨_, rfl⟩
  have hQs : Qt.size ≤ 703000000 := by rw [hQt]; exact size_of_list _ _ (by omega)
  rw [← hQt] at HCQ
  have HQ := Lib.hid (show (⟨#[118, 97, 114, 121]⟩ ++ Qt ++ ⟨#[59]⟩ : ByteArray) = ⟨(fullP (.node 6 tx [] l)).toArray⟩ by rw [fullP_0]; exact ba_of_list (by simp [ByteArray.data_append, full0, hQt]))
  have HB0 := Lib.hid (bel_new w (.cells #[.int .i64 6, .string ⟨tx.toArray⟩, .slice a 0 c, .int .i64 l] 26))
  have HX0 := Lib.hid (heap_alloc_new w (.cells #[.int .i64 6, .string ⟨tx.toArray⟩, .slice a 0 c, .int .i64 l] 26))
  obtain ⟨r0, r1, r2, r3, q0, q1, q2, q3⟩ := box4 HX0.out
  clear hd hs hsh HK hQt hql
  go_enter Tryd.func17, Tryd.ntmps17
  go_wp2_with (first | (go_at_call 31; (with_reducible refine (HCQ.out _).mono ?_); rintro e1 w1 ⟨rfl, hb⟩; have HB1 := Lib.hid (HB0.out.trans (hb.mono HB0.out.size)); clear hb))
  go_ret
  exact ⟨ret_str HQ.out, HB1.out⟩
set_option maxRecDepth 20000 in
set_option maxHeartbeats 1000000 in
theorem full_3 (n : Nat) (tx : List UInt8) (e : Tree) (l : Int) (F : Nat → Prop) (w : World) (v : Value) (ht : IsT w F (.node 3 tx [e] l) v) (hd : depthT (.node 3 tx [e] l) ≤ n + 1) (hs : sizeT (.node 3 tx [e] l) ≤ 1000) (hsh : shortT (.node 3 tx [e] l)) (he : exprOK e = true) :
    Calls Tryd.prog 17 #[v] w fun e' w' => e' = .returned (.string ⟨(fullP (.node 3 tx [e] l)).toArray⟩) ∧ Below w.heap.size w w' := by
  obtain ⟨kv, rfl, hks⟩ := isT_node.1 ht
  rw [depthT_node] at hd
  rw [sizeT_node] at hs
  rw [shortT_node] at hsh
  simp only [sizeL_cons, sizeL_nil, depthL_cons, depthL_nil] at hs hd
  try simp only [shortL_cons] at hsh
  obtain ⟨a, c, rfl⟩ : ∃ a c, kv = .slice a 1 c := by
    obtain ⟨a, c, hv, _⟩ := hks
    exact ⟨a, c, hv⟩
  have HK := Lib.hid hks
  have htx := hsh.1
  have htz := size_of_list tx _ htx
  clear ht hks
  obtain ⟨bk0, off0, cap0, k00, x00, a00, m00, n00, l00, hv0, c00, c01, c02, c03, hT0⟩ := IsKids.at HK.out (k := 0) (t := e) rfl
  simp only [Value.slice.injEq] at hv0
  obtain ⟨rfl, -, rfl⟩ := hv0
  simp only [Nat.zero_mul, Nat.add_zero, Nat.one_mul, Nat.reduceMul, Nat.add_assoc, Nat.reduceAdd] at c00 c01 c02 c03
  have hlen0 := wrapP_len e hsh.2.1
  obtain ⟨S0, hS0⟩ : ∃ S : ByteArray, S = ⟨(wrapP e).toArray⟩ := ⟨_, rfl⟩
  have hSz0 : S0.size ≤ 703000000 := by rw [hS0]; exact size_of_list _ _ (by omega)
  have HC0 := Lib.hid (fun W (hW : Below w.heap.size w W) => wrapped_any e F W _ (hT0.step hW) (by omega) hsh.2.1 he)
  rw [← hS0] at HC0
  have HQ := Lib.hid (show (⟨#[108, 101, 116, 32]⟩ ++ ⟨tx.toArray⟩ ++ ⟨#[61]⟩ ++ S0 ++ ⟨#[59]⟩ : ByteArray) = ⟨(fullP (.node 3 tx [e] l)).toArray⟩ by rw [fullP_1]; exact ba_of_list (by simp [ByteArray.data_append, full1, hS0]))
  have HB0 := Lib.hid (bel_new w (.cells #[.int .i64 3, .string ⟨tx.toArray⟩, .slice (some ⟨bk0, off0, none⟩) 1 c, .int .i64 l] 26))
  have HX0 := Lib.hid (heap_alloc_new w (.cells #[.int .i64 3, .string ⟨tx.toArray⟩, .slice (some ⟨bk0, off0, none⟩) 1 c, .int .i64 l] 26))
  obtain ⟨r0, r1, r2, r3, q0, q1, q2, q3⟩ := box4 HX0.out
  have d00 := keep_at HB0.out c00
  have d01 := keep_at HB0.out c01
  have d02 := keep_at HB0.out c02
  have d03 := keep_at HB0.out c03
  clear hd hs hsh HK hS0 he hlen0
  go_enter Tryd.func17, Tryd.ntmps17
  go_upto_region 10 with fail
  have R1 := fun d os => cell_regrown (r0) d os
  have R2 := fun d os => cell_regrown (r1) d os
  have R3 := fun d os => cell_regrown (r2) d os
  have R4 := fun d os => cell_regrown (r3) d os
  have R5 := fun d os => cell_regrown (d00) d os
  have R6 := fun d os => cell_regrown (d01) d os
  have R7 := fun d os => cell_regrown (d02) d os
  have R8 := fun d os => cell_regrown (d03) d os
  refine wp_region_quiet_below (by kernel_rfl) (by kernel_rfl) ?_
  repeat (go_big_quiet_step (first | (go_at_call 29; (with_reducible refine Calls.regrown_of (HC0.out _ ?_)); exact HB0.out.trans ((below_regrown _ _ _).mono HB0.out.size))))
  clear R1 R2 R3 R4 R5 R6 R7 R8
  refine wpQuiet_nil ?_
  intro w6 hw6
  have HB6 := Lib.hid (show Below w.heap.size w w6 by obtain ⟨p, rfl⟩ := hw6; exact HB0.out.trans ((below_regrown _ p.d p.os).mono HB0.out.size))
  have HX6 := Lib.hid (keep_blk (show Below (w.alloc _).heap.size (w.alloc _) w6 by obtain ⟨p, rfl⟩ := hw6; exact below_regrown _ p.d p.os) HX0.out)
  obtain ⟨s0, s1, s2, s3, z0, z1, z2, z3⟩ := box4 HX6.out
  have g00 := keep_at HB6.out c00
  have g01 := keep_at HB6.out c01
  have g02 := keep_at HB6.out c02
  have g03 := keep_at HB6.out c03
  clear hw6
  go_wp2_with fail
  go_ret
  exact ⟨ret_str HQ.out, HB6.out⟩
set_option maxRecDepth 20000 in
set_option maxHeartbeats 1000000 in
theorem full_4 (n : Nat) (tx : List UInt8) (e : Tree) (l : Int) (F : Nat → Prop) (w : World) (v : Value) (ht : IsT w F (.node 4 tx [e] l) v) (hd : depthT (.node 4 tx [e] l) ≤ n + 1) (hs : sizeT (.node 4 tx [e] l) ≤ 1000) (hsh : shortT (.node 4 tx [e] l)) (he : exprOK e = true) :
    Calls Tryd.prog 17 #[v] w fun e' w' => e' = .returned (.string ⟨(fullP (.node 4 tx [e] l)).toArray⟩) ∧ Below w.heap.size w w' := by
  obtain ⟨kv, rfl, hks⟩ := isT_node.1 ht
  rw [depthT_node] at hd
  rw [sizeT_node] at hs
  rw [shortT_node] at hsh
  simp only [sizeL_cons, sizeL_nil, depthL_cons, depthL_nil] at hs hd
  try simp only [shortL_cons] at hsh
  obtain ⟨a, c, rfl⟩ : ∃ a c, kv = .slice a 1 c := by
    obtain ⟨a, c, hv, _⟩ := hks
    exact ⟨a, c, hv⟩
  have HK := Lib.hid hks
  have htx := hsh.1
  have htz := size_of_list tx _ htx
  clear ht hks
  obtain ⟨bk0, off0, cap0, k00, x00, a00, m00, n00, l00, hv0, c00, c01, c02, c03, hT0⟩ := IsKids.at HK.out (k := 0) (t := e) rfl
  simp only [Value.slice.injEq] at hv0
  obtain ⟨rfl, -, rfl⟩ := hv0
  simp only [Nat.zero_mul, Nat.add_zero, Nat.one_mul, Nat.reduceMul, Nat.add_assoc, Nat.reduceAdd] at c00 c01 c02 c03
  have hlen0 := wrapP_len e hsh.2.1
  obtain ⟨S0, hS0⟩ : ∃ S : ByteArray, S = ⟨(wrapP e).toArray⟩ := ⟨_, rfl⟩
  have hSz0 : S0.size ≤ 703000000 := by rw [hS0]; exact size_of_list _ _ (by omega)
  have HC0 := Lib.hid (fun W (hW : Below w.heap.size w W) => wrapped_any e F W _ (hT0.step hW) (by omega) hsh.2.1 he)
  rw [← hS0] at HC0
  have HQ := Lib.hid (show (⟨tx.toArray⟩ ++ ⟨#[61]⟩ ++ S0 ++ ⟨#[59]⟩ : ByteArray) = ⟨(fullP (.node 4 tx [e] l)).toArray⟩ by rw [fullP_1]; exact ba_of_list (by simp [ByteArray.data_append, full1, hS0]))
  have HB0 := Lib.hid (bel_new w (.cells #[.int .i64 4, .string ⟨tx.toArray⟩, .slice (some ⟨bk0, off0, none⟩) 1 c, .int .i64 l] 26))
  have HX0 := Lib.hid (heap_alloc_new w (.cells #[.int .i64 4, .string ⟨tx.toArray⟩, .slice (some ⟨bk0, off0, none⟩) 1 c, .int .i64 l] 26))
  obtain ⟨r0, r1, r2, r3, q0, q1, q2, q3⟩ := box4 HX0.out
  have d00 := keep_at HB0.out c00
  have d01 := keep_at HB0.out c01
  have d02 := keep_at HB0.out c02
  have d03 := keep_at HB0.out c03
  clear hd hs hsh HK hS0 he hlen0
  go_enter Tryd.func17, Tryd.ntmps17
  go_upto_region 12 with fail
  have R1 := fun d os => cell_regrown (r0) d os
  have R2 := fun d os => cell_regrown (r1) d os
  have R3 := fun d os => cell_regrown (r2) d os
  have R4 := fun d os => cell_regrown (r3) d os
  have R5 := fun d os => cell_regrown (d00) d os
  have R6 := fun d os => cell_regrown (d01) d os
  have R7 := fun d os => cell_regrown (d02) d os
  have R8 := fun d os => cell_regrown (d03) d os
  refine wp_region_quiet_below (by kernel_rfl) (by kernel_rfl) ?_
  repeat (go_big_quiet_step (first | (go_at_call 29; (with_reducible refine Calls.regrown_of (HC0.out _ ?_)); exact HB0.out.trans ((below_regrown _ _ _).mono HB0.out.size))))
  clear R1 R2 R3 R4 R5 R6 R7 R8
  refine wpQuiet_nil ?_
  intro w6 hw6
  have HB6 := Lib.hid (show Below w.heap.size w w6 by obtain ⟨p, rfl⟩ := hw6; exact HB0.out.trans ((below_regrown _ p.d p.os).mono HB0.out.size))
  have HX6 := Lib.hid (keep_blk (show Below (w.alloc _).heap.size (w.alloc _) w6 by obtain ⟨p, rfl⟩ := hw6; exact below_regrown _ p.d p.os) HX0.out)
  obtain ⟨s0, s1, s2, s3, z0, z1, z2, z3⟩ := box4 HX6.out
  have g00 := keep_at HB6.out c00
  have g01 := keep_at HB6.out c01
  have g02 := keep_at HB6.out c02
  have g03 := keep_at HB6.out c03
  clear hw6
  go_wp2_with fail
  go_ret
  exact ⟨ret_str HQ.out, HB6.out⟩
set_option maxRecDepth 20000 in
set_option maxHeartbeats 1000000 in
theorem full_5 (n : Nat) (tx : List UInt8) (e : Tree) (l : Int) (F : Nat → Prop) (w : World) (v : Value) (ht : IsT w F (.node 5 tx [e] l) v) (hd : depthT (.node 5 tx [e] l) ≤ n + 1) (hs : sizeT (.node 5 tx [e] l) ≤ 1000) (hsh : shortT (.node 5 tx [e] l)) (he : exprOK e = true) :
    Calls Tryd.prog 17 #[v] w fun e' w' => e' = .returned (.string ⟨(fullP (.node 5 tx [e] l)).toArray⟩) ∧ Below w.heap.size w w' := by
  obtain ⟨kv, rfl, hks⟩ := isT_node.1 ht
  rw [depthT_node] at hd
  rw [sizeT_node] at hs
  rw [shortT_node] at hsh
  simp only [sizeL_cons, sizeL_nil, depthL_cons, depthL_nil] at hs hd
  try simp only [shortL_cons] at hsh
  obtain ⟨a, c, rfl⟩ : ∃ a c, kv = .slice a 1 c := by
    obtain ⟨a, c, hv, _⟩ := hks
    exact ⟨a, c, hv⟩
  have HK := Lib.hid hks
  have htx := hsh.1
  have htz := size_of_list tx _ htx
  clear ht hks
  obtain ⟨bk0, off0, cap0, k00, x00, a00, m00, n00, l00, hv0, c00, c01, c02, c03, hT0⟩ := IsKids.at HK.out (k := 0) (t := e) rfl
  simp only [Value.slice.injEq] at hv0
  obtain ⟨rfl, -, rfl⟩ := hv0
  simp only [Nat.zero_mul, Nat.add_zero, Nat.one_mul, Nat.reduceMul, Nat.add_assoc, Nat.reduceAdd] at c00 c01 c02 c03
  have hlen0 := wrapP_len e hsh.2.1
  obtain ⟨S0, hS0⟩ : ∃ S : ByteArray, S = ⟨(wrapP e).toArray⟩ := ⟨_, rfl⟩
  have hSz0 : S0.size ≤ 703000000 := by rw [hS0]; exact size_of_list _ _ (by omega)
  have HC0 := Lib.hid (fun W (hW : Below w.heap.size w W) => wrapped_any e F W _ (hT0.step hW) (by omega) hsh.2.1 he)
  rw [← hS0] at HC0
  have HCQ := Lib.hid (fun W => fquote_any ⟨tx.toArray⟩ W htz)
  rw [show (⟨tx.toArray⟩ : ByteArray).data.toList = tx by simp] at HCQ
  have hql := quoL_len tx
  obtain ⟨Qt, hQt⟩ : ∃ Q : ByteArray, Q = ⟨(quoL tx).toArray⟩ := ⟨_, rfl⟩
  have hQs : Qt.size ≤ 703000000 := by rw [hQt]; exact size_of_list _ _ (by omega)
  rw [← hQt] at HCQ
  have HQ := Lib.hid (show (⟨#[104, 101, 97, 100, 101, 114]⟩ ++ Qt ++ ⟨#[61]⟩ ++ S0 ++ ⟨#[59]⟩ : ByteArray) = ⟨(fullP (.node 5 tx [e] l)).toArray⟩ by rw [fullP_1]; exact ba_of_list (by simp [ByteArray.data_append, full1, hQt, hS0]))
  have HB0 := Lib.hid (bel_new w (.cells #[.int .i64 5, .string ⟨tx.toArray⟩, .slice (some ⟨bk0, off0, none⟩) 1 c, .int .i64 l] 26))
  have HX0 := Lib.hid (heap_alloc_new w (.cells #[.int .i64 5, .string ⟨tx.toArray⟩, .slice (some ⟨bk0, off0, none⟩) 1 c, .int .i64 l] 26))
  obtain ⟨r0, r1, r2, r3, q0, q1, q2, q3⟩ := box4 HX0.out
  have d00 := keep_at HB0.out c00
  have d01 := keep_at HB0.out c01
  have d02 := keep_at HB0.out c02
  have d03 := keep_at HB0.out c03
  clear hd hs hsh HK hS0 he hlen0 hQt hql
  go_enter Tryd.func17, Tryd.ntmps17
  go_upto_region 14 with fail
  have R1 := fun d os => cell_regrown (r0) d os
  have R2 := fun d os => cell_regrown (r1) d os
  have R3 := fun d os => cell_regrown (r2) d os
  have R4 := fun d os => cell_regrown (r3) d os
  have R5 := fun d os => cell_regrown (d00) d os
  have R6 := fun d os => cell_regrown (d01) d os
  have R7 := fun d os => cell_regrown (d02) d os
  have R8 := fun d os => cell_regrown (d03) d os
  refine wp_region_quiet_below (by kernel_rfl) (by kernel_rfl) ?_
  repeat (go_big_quiet_step (first | (go_at_call 29; (with_reducible refine Calls.regrown_of (HC0.out _ ?_)); exact HB0.out.trans ((below_regrown _ _ _).mono HB0.out.size)) | (go_at_call 31; (with_reducible refine Calls.regrown_of (HCQ.out _)))))
  clear R1 R2 R3 R4 R5 R6 R7 R8
  refine wpQuiet_nil ?_
  intro w6 hw6
  have HB6 := Lib.hid (show Below w.heap.size w w6 by obtain ⟨p, rfl⟩ := hw6; exact HB0.out.trans ((below_regrown _ p.d p.os).mono HB0.out.size))
  have HX6 := Lib.hid (keep_blk (show Below (w.alloc _).heap.size (w.alloc _) w6 by obtain ⟨p, rfl⟩ := hw6; exact below_regrown _ p.d p.os) HX0.out)
  obtain ⟨s0, s1, s2, s3, z0, z1, z2, z3⟩ := box4 HX6.out
  have g00 := keep_at HB6.out c00
  have g01 := keep_at HB6.out c01
  have g02 := keep_at HB6.out c02
  have g03 := keep_at HB6.out c03
  clear hw6
  go_wp2_with fail
  go_ret
  exact ⟨ret_str HQ.out, HB6.out⟩
set_option maxRecDepth 20000 in
set_option maxHeartbeats 1000000 in
theorem full_7 (n : Nat) (tx : List UInt8) (e : Tree) (l : Int) (F : Nat → Prop) (w : World) (v : Value) (ht : IsT w F (.node 7 tx [e] l) v) (hd : depthT (.node 7 tx [e] l) ≤ n + 1) (hs : sizeT (.node 7 tx [e] l) ≤ 1000) (hsh : shortT (.node 7 tx [e] l)) (he : exprOK e = true) :
    Calls Tryd.prog 17 #[v] w fun e' w' => e' = .returned (.string ⟨(fullP (.node 7 tx [e] l)).toArray⟩) ∧ Below w.heap.size w w' := by
  obtain ⟨kv, rfl, hks⟩ := isT_node.1 ht
  rw [depthT_node] at hd
  rw [sizeT_node] at hs
  rw [shortT_node] at hsh
  simp only [sizeL_cons, sizeL_nil, depthL_cons, depthL_nil] at hs hd
  try simp only [shortL_cons] at hsh
  obtain ⟨a, c, rfl⟩ : ∃ a c, kv = .slice a 1 c := by
    obtain ⟨a, c, hv, _⟩ := hks
    exact ⟨a, c, hv⟩
  have HK := Lib.hid hks
  have htx := hsh.1
  have htz := size_of_list tx _ htx
  clear ht hks
  obtain ⟨bk0, off0, cap0, k00, x00, a00, m00, n00, l00, hv0, c00, c01, c02, c03, hT0⟩ := IsKids.at HK.out (k := 0) (t := e) rfl
  simp only [Value.slice.injEq] at hv0
  obtain ⟨rfl, -, rfl⟩ := hv0
  simp only [Nat.zero_mul, Nat.add_zero, Nat.one_mul, Nat.reduceMul, Nat.add_assoc, Nat.reduceAdd] at c00 c01 c02 c03
  have hlen0 := wrapP_len e hsh.2.1
  obtain ⟨S0, hS0⟩ : ∃ S : ByteArray, S = ⟨(wrapP e).toArray⟩ := ⟨_, rfl⟩
  have hSz0 : S0.size ≤ 703000000 := by rw [hS0]; exact size_of_list _ _ (by omega)
  have HC0 := Lib.hid (fun W (hW : Below w.heap.size w W) => wrapped_any e F W _ (hT0.step hW) (by omega) hsh.2.1 he)
  rw [← hS0] at HC0
  have HQ := Lib.hid (show (⟨#[116, 97, 103]⟩ ++ S0 ++ ⟨#[59]⟩ : ByteArray) = ⟨(fullP (.node 7 tx [e] l)).toArray⟩ by rw [fullP_1]; exact ba_of_list (by simp [ByteArray.data_append, full1, hS0]))
  have HB0 := Lib.hid (bel_new w (.cells #[.int .i64 7, .string ⟨tx.toArray⟩, .slice (some ⟨bk0, off0, none⟩) 1 c, .int .i64 l] 26))
  have HX0 := Lib.hid (heap_alloc_new w (.cells #[.int .i64 7, .string ⟨tx.toArray⟩, .slice (some ⟨bk0, off0, none⟩) 1 c, .int .i64 l] 26))
  obtain ⟨r0, r1, r2, r3, q0, q1, q2, q3⟩ := box4 HX0.out
  have d00 := keep_at HB0.out c00
  have d01 := keep_at HB0.out c01
  have d02 := keep_at HB0.out c02
  have d03 := keep_at HB0.out c03
  clear hd hs hsh HK hS0 he hlen0
  go_enter Tryd.func17, Tryd.ntmps17
  go_wp2_with (first | (go_at_call 29; (with_reducible refine (HC0.out _ HB0.out).mono ?_); rintro e1 w2 ⟨rfl, hb⟩; have HB2 := Lib.hid (HB0.out.trans (hb.mono HB0.out.size)); clear hb))
  go_ret
  exact ⟨ret_str HQ.out, HB2.out⟩
set_option maxRecDepth 20000 in
set_option maxHeartbeats 1000000 in
theorem full_8 (n : Nat) (tx : List UInt8) (e : Tree) (l : Int) (F : Nat → Prop) (w : World) (v : Value) (ht : IsT w F (.node 8 tx [e] l) v) (hd : depthT (.node 8 tx [e] l) ≤ n + 1) (hs : sizeT (.node 8 tx [e] l) ≤ 1000) (hsh : shortT (.node 8 tx [e] l)) (he : exprOK e = true) :
    Calls Tryd.prog 17 #[v] w fun e' w' => e' = .returned (.string ⟨(fullP (.node 8 tx [e] l)).toArray⟩) ∧ Below w.heap.size w w' := by
  obtain ⟨kv, rfl, hks⟩ := isT_node.1 ht
  rw [depthT_node] at hd
  rw [sizeT_node] at hs
  rw [shortT_node] at hsh
  simp only [sizeL_cons, sizeL_nil, depthL_cons, depthL_nil] at hs hd
  try simp only [shortL_cons] at hsh
  obtain ⟨a, c, rfl⟩ : ∃ a c, kv = .slice a 1 c := by
    obtain ⟨a, c, hv, _⟩ := hks
    exact ⟨a, c, hv⟩
  have HK := Lib.hid hks
  have htx := hsh.1
  have htz := size_of_list tx _ htx
  clear ht hks
  obtain ⟨bk0, off0, cap0, k00, x00, a00, m00, n00, l00, hv0, c00, c01, c02, c03, hT0⟩ := IsKids.at HK.out (k := 0) (t := e) rfl
  simp only [Value.slice.injEq] at hv0
  obtain ⟨rfl, -, rfl⟩ := hv0
  simp only [Nat.zero_mul, Nat.add_zero, Nat.one_mul, Nat.reduceMul, Nat.add_assoc, Nat.reduceAdd] at c00 c01 c02 c03
  have hlen0 := wrapP_len e hsh.2.1
  obtain ⟨S0, hS0⟩ : ∃ S : ByteArray, S = ⟨(wrapP e).toArray⟩ := ⟨_, rfl⟩
  have hSz0 : S0.size ≤ 703000000 := by rw [hS0]; exact size_of_list _ _ (by omega)
  have HC0 := Lib.hid (fun W (hW : Below w.heap.size w W) => wrapped_any e F W _ (hT0.step hW) (by omega) hsh.2.1 he)
  rw [← hS0] at HC0
  have HQ := Lib.hid (show (⟨#[116, 116, 108]⟩ ++ S0 ++ ⟨#[59]⟩ : ByteArray) = ⟨(fullP (.node 8 tx [e] l)).toArray⟩ by rw [fullP_1]; exact ba_of_list (by simp [ByteArray.data_append, full1, hS0]))
  have HB0 := Lib.hid (bel_new w (.cells #[.int .i64 8, .string ⟨tx.toArray⟩, .slice (some ⟨bk0, off0, none⟩) 1 c, .int .i64 l] 26))
  have HX0 := Lib.hid (heap_alloc_new w (.cells #[.int .i64 8, .string ⟨tx.toArray⟩, .slice (some ⟨bk0, off0, none⟩) 1 c, .int .i64 l] 26))
  obtain ⟨r0, r1, r2, r3, q0, q1, q2, q3⟩ := box4 HX0.out
  have d00 := keep_at HB0.out c00
  have d01 := keep_at HB0.out c01
  have d02 := keep_at HB0.out c02
  have d03 := keep_at HB0.out c03
  clear hd hs hsh HK hS0 he hlen0
  go_enter Tryd.func17, Tryd.ntmps17
  go_wp2_with (first | (go_at_call 29; (with_reducible refine (HC0.out _ HB0.out).mono ?_); rintro e1 w2 ⟨rfl, hb⟩; have HB2 := Lib.hid (HB0.out.trans (hb.mono HB0.out.size)); clear hb))
  go_ret
  exact ⟨ret_str HQ.out, HB2.out⟩
set_option maxRecDepth 20000 in
set_option maxHeartbeats 1000000 in
theorem full_9 (n : Nat) (tx : List UInt8) (e : Tree) (l : Int) (F : Nat → Prop) (w : World) (v : Value) (ht : IsT w F (.node 9 tx [e] l) v) (hd : depthT (.node 9 tx [e] l) ≤ n + 1) (hs : sizeT (.node 9 tx [e] l) ≤ 1000) (hsh : shortT (.node 9 tx [e] l)) (he : exprOK e = true) :
    Calls Tryd.prog 17 #[v] w fun e' w' => e' = .returned (.string ⟨(fullP (.node 9 tx [e] l)).toArray⟩) ∧ Below w.heap.size w w' := by
  obtain ⟨kv, rfl, hks⟩ := isT_node.1 ht
  rw [depthT_node] at hd
  rw [sizeT_node] at hs
  rw [shortT_node] at hsh
  simp only [sizeL_cons, sizeL_nil, depthL_cons, depthL_nil] at hs hd
  try simp only [shortL_cons] at hsh
  obtain ⟨a, c, rfl⟩ : ∃ a c, kv = .slice a 1 c := by
    obtain ⟨a, c, hv, _⟩ := hks
    exact ⟨a, c, hv⟩
  have HK := Lib.hid hks
  have htx := hsh.1
  have htz := size_of_list tx _ htx
  clear ht hks
  obtain ⟨bk0, off0, cap0, k00, x00, a00, m00, n00, l00, hv0, c00, c01, c02, c03, hT0⟩ := IsKids.at HK.out (k := 0) (t := e) rfl
  simp only [Value.slice.injEq] at hv0
  obtain ⟨rfl, -, rfl⟩ := hv0
  simp only [Nat.zero_mul, Nat.add_zero, Nat.one_mul, Nat.reduceMul, Nat.add_assoc, Nat.reduceAdd] at c00 c01 c02 c03
  have hlen0 := wrapP_len e hsh.2.1
  obtain ⟨S0, hS0⟩ : ∃ S : ByteArray, S = ⟨(wrapP e).toArray⟩ := ⟨_, rfl⟩
  have hSz0 : S0.size ≤ 703000000 := by rw [hS0]; exact size_of_list _ _ (by omega)
  have HC0 := Lib.hid (fun W (hW : Below w.heap.size w W) => wrapped_any e F W _ (hT0.step hW) (by omega) hsh.2.1 he)
  rw [← hS0] at HC0
  have HQ := Lib.hid (show (⟨#[100, 101, 110, 121]⟩ ++ S0 ++ ⟨#[59]⟩ : ByteArray) = ⟨(fullP (.node 9 tx [e] l)).toArray⟩ by rw [fullP_1]; exact ba_of_list (by simp [ByteArray.data_append, full1, hS0]))
  have HB0 := Lib.hid (bel_new w (.cells #[.int .i64 9, .string ⟨tx.toArray⟩, .slice (some ⟨bk0, off0, none⟩) 1 c, .int .i64 l] 26))
  have HX0 := Lib.hid (heap_alloc_new w (.cells #[.int .i64 9, .string ⟨tx.toArray⟩, .slice (some ⟨bk0, off0, none⟩) 1 c, .int .i64 l] 26))
  obtain ⟨r0, r1, r2, r3, q0, q1, q2, q3⟩ := box4 HX0.out
  have d00 := keep_at HB0.out c00
  have d01 := keep_at HB0.out c01
  have d02 := keep_at HB0.out c02
  have d03 := keep_at HB0.out c03
  clear hd hs hsh HK hS0 he hlen0
  go_enter Tryd.func17, Tryd.ntmps17
  go_wp2_with (first | (go_at_call 29; (with_reducible refine (HC0.out _ HB0.out).mono ?_); rintro e1 w2 ⟨rfl, hb⟩; have HB2 := Lib.hid (HB0.out.trans (hb.mono HB0.out.size)); clear hb))
  go_ret
  exact ⟨ret_str HQ.out, HB2.out⟩
set_option maxRecDepth 20000 in
set_option maxHeartbeats 1000000 in
theorem full_if2 (n : Nat) (HBR : FullC 30 blOK bodyP n) (tx : List UInt8) (e : Tree) (b : Tree) (l : Int) (F : Nat → Prop) (w : World) (v : Value) (ht : IsT w F (.node 2 tx [e, b] l) v) (hd : depthT (.node 2 tx [e, b] l) ≤ n + 1) (hs : sizeT (.node 2 tx [e, b] l) ≤ 1000) (hsh : shortT (.node 2 tx [e, b] l)) (he : exprOK e = true) (hbk : blOK b = true) :
    Calls Tryd.prog 17 #[v] w fun e' w' => e' = .returned (.string ⟨(fullP (.node 2 tx [e, b] l)).toArray⟩) ∧ Below w.heap.size w w' := by
  obtain ⟨kv, rfl, hks⟩ := isT_node.1 ht
  rw [depthT_node] at hd
  rw [sizeT_node] at hs
  rw [shortT_node] at hsh
  simp only [sizeL_cons, sizeL_nil, depthL_cons, depthL_nil] at hs hd
  try simp only [shortL_cons] at hsh
  obtain ⟨a, c, rfl⟩ : ∃ a c, kv = .slice a 2 c := by
    obtain ⟨a, c, hv, _⟩ := hks
    exact ⟨a, c, hv⟩
  have HK := Lib.hid hks
  have htx := hsh.1
  have htz := size_of_list tx _ htx
  clear ht hks
  obtain ⟨bk0, off0, cap0, k00, x00, a00, m00, n00, l00, hv0, c00, c01, c02, c03, hT0⟩ := IsKids.at HK.out (k := 0) (t := e) rfl
  simp only [Value.slice.injEq] at hv0
  obtain ⟨rfl, -, rfl⟩ := hv0
  simp only [Nat.zero_mul, Nat.add_zero, Nat.one_mul, Nat.reduceMul, Nat.add_assoc, Nat.reduceAdd] at c00 c01 c02 c03
  obtain ⟨bk1, off1, cap1, k10, x10, a10, m10, n10, l10, hv1, c10, c11, c12, c13, hT1⟩ := IsKids.at HK.out (k := 1) (t := b) rfl
  simp only [Value.slice.injEq, Option.some.injEq, Addr.mk.injEq, and_true] at hv1
  obtain ⟨⟨rfl, rfl⟩, -, -⟩ := hv1
  simp only [Nat.zero_mul, Nat.add_zero, Nat.one_mul, Nat.reduceMul, Nat.add_assoc, Nat.reduceAdd] at c10 c11 c12 c13
  have hlen0 := wrapP_len e hsh.2.1
  obtain ⟨S0, hS0⟩ : ∃ S : ByteArray, S = ⟨(wrapP e).toArray⟩ := ⟨_, rfl⟩
  have hSz0 : S0.size ≤ 703000000 := by rw [hS0]; exact size_of_list _ _ (by omega)
  have HC0 := Lib.hid (fun W (hW : Below w.heap.size w W) => wrapped_any e F W _ (hT0.step hW) (by omega) hsh.2.1 he)
  rw [← hS0] at HC0
  have hlen1 := bodyP_len b hsh.2.2.1
  obtain ⟨S1, hS1⟩ : ∃ S : ByteArray, S = ⟨(bodyP b).toArray⟩ := ⟨_, rfl⟩
  have hSz1 : S1.size ≤ 703000000 := by rw [hS1]; exact size_of_list _ _ (by omega)
  have HC1 := Lib.hid (fun W (hW : Below w.heap.size w W) => HBR b F W _ (hT1.step hW) (by omega) (by omega) hsh.2.2.1 hbk)
  rw [← hS1] at HC1
  have HQ := Lib.hid (show (⟨#[105, 102, 32]⟩ ++ S0 ++ S1 : ByteArray) = ⟨(fullP (.node 2 tx [e, b] l)).toArray⟩ by rw [fullP_2]; exact ba_of_list (by simp [ByteArray.data_append, fullI, hS0, hS1]))
  have HB0 := Lib.hid (bel_new w (.cells #[.int .i64 2, .string ⟨tx.toArray⟩, .slice (some ⟨bk0, off0, none⟩) 2 c, .int .i64 l] 26))
  have HX0 := Lib.hid (heap_alloc_new w (.cells #[.int .i64 2, .string ⟨tx.toArray⟩, .slice (some ⟨bk0, off0, none⟩) 2 c, .int .i64 l] 26))
  obtain ⟨r0, r1, r2, r3, q0, q1, q2, q3⟩ := box4 HX0.out
  have d00 := keep_at HB0.out c00
  have d01 := keep_at HB0.out c01
  have d02 := keep_at HB0.out c02
  have d03 := keep_at HB0.out c03
  have d10 := keep_at HB0.out c10
  have d11 := keep_at HB0.out c11
  have d12 := keep_at HB0.out c12
  have d13 := keep_at HB0.out c13
  clear hd hs hsh HK hS0 hS1 he hbk hlen0 hlen1 HBR
  go_enter Tryd.func17, Tryd.ntmps17
  go_upto_region 3 with fail
  have R1 := fun d os => cell_regrown (r0) d os
  have R2 := fun d os => cell_regrown (r1) d os
  have R3 := fun d os => cell_regrown (r2) d os
  have R4 := fun d os => cell_regrown (r3) d os
  have R5 := fun d os => cell_regrown (d00) d os
  have R6 := fun d os => cell_regrown (d01) d os
  have R7 := fun d os => cell_regrown (d02) d os
  have R8 := fun d os => cell_regrown (d03) d os
  have R9 := fun d os => cell_regrown (d10) d os
  have R10 := fun d os => cell_regrown (d11) d os
  have R11 := fun d os => cell_regrown (d12) d os
  have R12 := fun d os => cell_regrown (d13) d os
  refine wp_region_quiet_below (by kernel_rfl) (by kernel_rfl) ?_
  repeat (go_big_quiet_step (first | (go_at_call 29; (with_reducible refine Calls.regrown_of (HC0.out _ ?_)); exact HB0.out.trans ((below_regrown _ _ _).mono HB0.out.size)) | (go_at_call 30; (with_reducible refine Calls.regrown_of (HC1.out _ ?_)); exact HB0.out.trans ((below_regrown _ _ _).mono HB0.out.size))))
  clear R1 R2 R3 R4 R5 R6 R7 R8 R9 R10 R11 R12
  refine wpQuiet_nil ?_
  intro w6 hw6
  have HB6 := Lib.hid (show Below w.heap.size w w6 by obtain ⟨p, rfl⟩ := hw6; exact HB0.out.trans ((below_regrown _ p.d p.os).mono HB0.out.size))
  have HX6 := Lib.hid (keep_blk (show Below (w.alloc _).heap.size (w.alloc _) w6 by obtain ⟨p, rfl⟩ := hw6; exact below_regrown _ p.d p.os) HX0.out)
  obtain ⟨s0, s1, s2, s3, z0, z1, z2, z3⟩ := box4 HX6.out
  have g00 := keep_at HB6.out c00
  have g01 := keep_at HB6.out c01
  have g02 := keep_at HB6.out c02
  have g03 := keep_at HB6.out c03
  have g10 := keep_at HB6.out c10
  have g11 := keep_at HB6.out c11
  have g12 := keep_at HB6.out c12
  have g13 := keep_at HB6.out c13
  clear hw6
  go_wp2_with fail
  go_ret
  exact ⟨ret_str HQ.out, HB6.out⟩
set_option maxRecDepth 20000 in
set_option maxHeartbeats 1000000 in
theorem full_if3l (n : Nat) (HBR : FullC 30 blOK bodyP n) (HLN : FullC 17 stOK fullP n) (tx : List UInt8) (e : Tree) (b : Tree) (x : Tree) (l : Int) (F : Nat → Prop) (w : World) (v : Value) (ht : IsT w F (.node 2 tx [e, b, x] l) v) (hd : depthT (.node 2 tx [e, b, x] l) ≤ n + 1) (hs : sizeT (.node 2 tx [e, b, x] l) ≤ 1000) (hsh : shortT (.node 2 tx [e, b, x] l)) (he : exprOK e = true) (hbk : blOK b = true) (hxk : x.kind = 2) (hx : stOK x = true) :
    Calls Tryd.prog 17 #[v] w fun e' w' => e' = .returned (.string ⟨(fullP (.node 2 tx [e, b, x] l)).toArray⟩) ∧ Below w.heap.size w w' := by
  obtain ⟨kv, rfl, hks⟩ := isT_node.1 ht
  rw [depthT_node] at hd
  rw [sizeT_node] at hs
  rw [shortT_node] at hsh
  simp only [sizeL_cons, sizeL_nil, depthL_cons, depthL_nil] at hs hd
  try simp only [shortL_cons] at hsh
  obtain ⟨a, c, rfl⟩ : ∃ a c, kv = .slice a 3 c := by
    obtain ⟨a, c, hv, _⟩ := hks
    exact ⟨a, c, hv⟩
  have HK := Lib.hid hks
  have htx := hsh.1
  have htz := size_of_list tx _ htx
  clear ht hks
  obtain ⟨bk0, off0, cap0, k00, x00, a00, m00, n00, l00, hv0, c00, c01, c02, c03, hT0⟩ := IsKids.at HK.out (k := 0) (t := e) rfl
  simp only [Value.slice.injEq] at hv0
  obtain ⟨rfl, -, rfl⟩ := hv0
  simp only [Nat.zero_mul, Nat.add_zero, Nat.one_mul, Nat.reduceMul, Nat.add_assoc, Nat.reduceAdd] at c00 c01 c02 c03
  obtain ⟨bk1, off1, cap1, k10, x10, a10, m10, n10, l10, hv1, c10, c11, c12, c13, hT1⟩ := IsKids.at HK.out (k := 1) (t := b) rfl
  simp only [Value.slice.injEq, Option.some.injEq, Addr.mk.injEq, and_true] at hv1
  obtain ⟨⟨rfl, rfl⟩, -, -⟩ := hv1
  simp only [Nat.zero_mul, Nat.add_zero, Nat.one_mul, Nat.reduceMul, Nat.add_assoc, Nat.reduceAdd] at c10 c11 c12 c13
  obtain ⟨bk2, off2, cap2, k20, x20, a20, m20, n20, l20, hv2, c20, c21, c22, c23, hT2⟩ := IsKids.at HK.out (k := 2) (t := x) rfl
  simp only [Value.slice.injEq, Option.some.injEq, Addr.mk.injEq, and_true] at hv2
  obtain ⟨⟨rfl, rfl⟩, -, -⟩ := hv2
  simp only [Nat.zero_mul, Nat.add_zero, Nat.one_mul, Nat.reduceMul, Nat.add_assoc, Nat.reduceAdd] at c20 c21 c22 c23
  have hlen0 := wrapP_len e hsh.2.1
  obtain ⟨S0, hS0⟩ : ∃ S : ByteArray, S = ⟨(wrapP e).toArray⟩ := ⟨_, rfl⟩
  have hSz0 : S0.size ≤ 703000000 := by rw [hS0]; exact size_of_list _ _ (by omega)
  have HC0 := Lib.hid (fun W (hW : Below w.heap.size w W) => wrapped_any e F W _ (hT0.step hW) (by omega) hsh.2.1 he)
  rw [← hS0] at HC0
  have hlen1 := bodyP_len b hsh.2.2.1
  obtain ⟨S1, hS1⟩ : ∃ S : ByteArray, S = ⟨(bodyP b).toArray⟩ := ⟨_, rfl⟩
  have hSz1 : S1.size ≤ 703000000 := by rw [hS1]; exact size_of_list _ _ (by omega)
  have HC1 := Lib.hid (fun W (hW : Below w.heap.size w W) => HBR b F W _ (hT1.step hW) (by omega) (by omega) hsh.2.2.1 hbk)
  rw [← hS1] at HC1
  have hlen2 := fullP_len x hsh.2.2.2.1
  obtain ⟨S2, hS2⟩ : ∃ S : ByteArray, S = ⟨(fullP x).toArray⟩ := ⟨_, rfl⟩
  have hSz2 : S2.size ≤ 703000000 := by rw [hS2]; exact size_of_list _ _ (by omega)
  have HC2 := Lib.hid (fun W (hW : Below w.heap.size w W) => HLN x F W _ (hT2.step hW) (by omega) (by omega) hsh.2.2.2.1 hx)
  rw [← hS2] at HC2
  have hkx := isT_kindOf hT2
  have HQ := Lib.hid (show (⟨#[105, 102, 32]⟩ ++ S0 ++ S1 ++ ⟨#[101, 108, 115, 101, 32]⟩ ++ S2 : ByteArray) = ⟨(fullP (.node 2 tx [e, b, x] l)).toArray⟩ by rw [fullP_3, if_pos hxk]; exact ba_of_list (by simp [ByteArray.data_append, fullI, hS0, hS1, hS2]))
  have HB0 := Lib.hid (bel_new w (.cells #[.int .i64 2, .string ⟨tx.toArray⟩, .slice (some ⟨bk0, off0, none⟩) 3 c, .int .i64 l] 26))
  have HX0 := Lib.hid (heap_alloc_new w (.cells #[.int .i64 2, .string ⟨tx.toArray⟩, .slice (some ⟨bk0, off0, none⟩) 3 c, .int .i64 l] 26))
  obtain ⟨r0, r1, r2, r3, q0, q1, q2, q3⟩ := box4 HX0.out
  have d00 := keep_at HB0.out c00
  have d01 := keep_at HB0.out c01
  have d02 := keep_at HB0.out c02
  have d03 := keep_at HB0.out c03
  have d10 := keep_at HB0.out c10
  have d11 := keep_at HB0.out c11
  have d12 := keep_at HB0.out c12
  have d13 := keep_at HB0.out c13
  have d20 := keep_at HB0.out c20
  have d21 := keep_at HB0.out c21
  have d22 := keep_at HB0.out c22
  have d23 := keep_at HB0.out c23
  obtain rfl : k20 = 2 := hkx.trans hxk
  clear hd hs hsh HK hS0 hS1 hS2 he hbk hx hlen0 hlen1 hlen2 HBR HLN hkx hxk
  go_enter Tryd.func17, Tryd.ntmps17
  go_upto_region 3 with fail
  have R1 := fun d os => cell_regrown (r0) d os
  have R2 := fun d os => cell_regrown (r1) d os
  have R3 := fun d os => cell_regrown (r2) d os
  have R4 := fun d os => cell_regrown (r3) d os
  have R5 := fun d os => cell_regrown (d00) d os
  have R6 := fun d os => cell_regrown (d01) d os
  have R7 := fun d os => cell_regrown (d02) d os
  have R8 := fun d os => cell_regrown (d03) d os
  have R9 := fun d os => cell_regrown (d10) d os
  have R10 := fun d os => cell_regrown (d11) d os
  have R11 := fun d os => cell_regrown (d12) d os
  have R12 := fun d os => cell_regrown (d13) d os
  have R13 := fun d os => cell_regrown (d20) d os
  have R14 := fun d os => cell_regrown (d21) d os
  have R15 := fun d os => cell_regrown (d22) d os
  have R16 := fun d os => cell_regrown (d23) d os
  refine wp_region_quiet_below (by kernel_rfl) (by kernel_rfl) ?_
  repeat (go_big_quiet_step (first | (go_at_call 29; (with_reducible refine Calls.regrown_of (HC0.out _ ?_)); exact HB0.out.trans ((below_regrown _ _ _).mono HB0.out.size)) | (go_at_call 30; (with_reducible refine Calls.regrown_of (HC1.out _ ?_)); exact HB0.out.trans ((below_regrown _ _ _).mono HB0.out.size))))
  clear R1 R2 R3 R4 R5 R6 R7 R8 R9 R10 R11 R12 R13 R14 R15 R16
  refine wpQuiet_nil ?_
  intro w6 hw6
  have HB6 := Lib.hid (show Below w.heap.size w w6 by obtain ⟨p, rfl⟩ := hw6; exact HB0.out.trans ((below_regrown _ p.d p.os).mono HB0.out.size))
  have HX6 := Lib.hid (keep_blk (show Below (w.alloc _).heap.size (w.alloc _) w6 by obtain ⟨p, rfl⟩ := hw6; exact below_regrown _ p.d p.os) HX0.out)
  obtain ⟨s0, s1, s2, s3, z0, z1, z2, z3⟩ := box4 HX6.out
  have g00 := keep_at HB6.out c00
  have g01 := keep_at HB6.out c01
  have g02 := keep_at HB6.out c02
  have g03 := keep_at HB6.out c03
  have g10 := keep_at HB6.out c10
  have g11 := keep_at HB6.out c11
  have g12 := keep_at HB6.out c12
  have g13 := keep_at HB6.out c13
  have g20 := keep_at HB6.out c20
  have g21 := keep_at HB6.out c21
  have g22 := keep_at HB6.out c22
  have g23 := keep_at HB6.out c23
  clear hw6
  go_wp2_with (first | (go_at_call 17; (with_reducible refine (HC2.out _ HB6.out).mono ?_); rintro e1 w7 ⟨rfl, hb⟩; have HB7 := Lib.hid (HB6.out.trans (hb.mono HB6.out.size)); clear hb))
  go_ret
  exact ⟨ret_str HQ.out, HB7.out⟩
set_option maxRecDepth 20000 in
set_option maxHeartbeats 1000000 in
theorem full_if3b (n : Nat) (HBR : FullC 30 blOK bodyP n) (HLN : FullC 17 stOK fullP n) (tx : List UInt8) (e : Tree) (b : Tree) (x : Tree) (l : Int) (F : Nat → Prop) (w : World) (v : Value) (ht : IsT w F (.node 2 tx [e, b, x] l) v) (hd : depthT (.node 2 tx [e, b, x] l) ≤ n + 1) (hs : sizeT (.node 2 tx [e, b, x] l) ≤ 1000) (hsh : shortT (.node 2 tx [e, b, x] l)) (he : exprOK e = true) (hbk : blOK b = true) (hxk : ¬ x.kind = 2) (hx : blOK x = true) :
    Calls Tryd.prog 17 #[v] w fun e' w' => e' = .returned (.string ⟨(fullP (.node 2 tx [e, b, x] l)).toArray⟩) ∧ Below w.heap.size w w' := by
  obtain ⟨kv, rfl, hks⟩ := isT_node.1 ht
  rw [depthT_node] at hd
  rw [sizeT_node] at hs
  rw [shortT_node] at hsh
  simp only [sizeL_cons, sizeL_nil, depthL_cons, depthL_nil] at hs hd
  try simp only [shortL_cons] at hsh
  obtain ⟨a, c, rfl⟩ : ∃ a c, kv = .slice a 3 c := by
    obtain ⟨a, c, hv, _⟩ := hks
    exact ⟨a, c, hv⟩
  have HK := Lib.hid hks
  have htx := hsh.1
  have htz := size_of_list tx _ htx
  clear ht hks
  obtain ⟨bk0, off0, cap0, k00, x00, a00, m00, n00, l00, hv0, c00, c01, c02, c03, hT0⟩ := IsKids.at HK.out (k := 0) (t := e) rfl
  simp only [Value.slice.injEq] at hv0
  obtain ⟨rfl, -, rfl⟩ := hv0
  simp only [Nat.zero_mul, Nat.add_zero, Nat.one_mul, Nat.reduceMul, Nat.add_assoc, Nat.reduceAdd] at c00 c01 c02 c03
  obtain ⟨bk1, off1, cap1, k10, x10, a10, m10, n10, l10, hv1, c10, c11, c12, c13, hT1⟩ := IsKids.at HK.out (k := 1) (t := b) rfl
  simp only [Value.slice.injEq, Option.some.injEq, Addr.mk.injEq, and_true] at hv1
  obtain ⟨⟨rfl, rfl⟩, -, -⟩ := hv1
  simp only [Nat.zero_mul, Nat.add_zero, Nat.one_mul, Nat.reduceMul, Nat.add_assoc, Nat.reduceAdd] at c10 c11 c12 c13
  obtain ⟨bk2, off2, cap2, k20, x20, a20, m20, n20, l20, hv2, c20, c21, c22, c23, hT2⟩ := IsKids.at HK.out (k := 2) (t := x) rfl
  simp only [Value.slice.injEq, Option.some.injEq, Addr.mk.injEq, and_true] at hv2
  obtain ⟨⟨rfl, rfl⟩, -, -⟩ := hv2
  simp only [Nat.zero_mul, Nat.add_zero, Nat.one_mul, Nat.reduceMul, Nat.add_assoc, Nat.reduceAdd] at c20 c21 c22 c23
  have hlen0 := wrapP_len e hsh.2.1
  obtain ⟨S0, hS0⟩ : ∃ S : ByteArray, S = ⟨(wrapP e).toArray⟩ := ⟨_, rfl⟩
  have hSz0 : S0.size ≤ 703000000 := by rw [hS0]; exact size_of_list _ _ (by omega)
  have HC0 := Lib.hid (fun W (hW : Below w.heap.size w W) => wrapped_any e F W _ (hT0.step hW) (by omega) hsh.2.1 he)
  rw [← hS0] at HC0
  have hlen1 := bodyP_len b hsh.2.2.1
  obtain ⟨S1, hS1⟩ : ∃ S : ByteArray, S = ⟨(bodyP b).toArray⟩ := ⟨_, rfl⟩
  have hSz1 : S1.size ≤ 703000000 := by rw [hS1]; exact size_of_list _ _ (by omega)
  have HC1 := Lib.hid (fun W (hW : Below w.heap.size w W) => HBR b F W _ (hT1.step hW) (by omega) (by omega) hsh.2.2.1 hbk)
  rw [← hS1] at HC1
  have hlen2 := bodyP_len x hsh.2.2.2.1
  obtain ⟨S2, hS2⟩ : ∃ S : ByteArray, S = ⟨(bodyP x).toArray⟩ := ⟨_, rfl⟩
  have hSz2 : S2.size ≤ 703000000 := by rw [hS2]; exact size_of_list _ _ (by omega)
  have HC2 := Lib.hid (fun W (hW : Below w.heap.size w W) => HBR x F W _ (hT2.step hW) (by omega) (by omega) hsh.2.2.2.1 hx)
  rw [← hS2] at HC2
  have hkx := isT_kindOf hT2
  have HQ := Lib.hid (show (⟨#[105, 102, 32]⟩ ++ S0 ++ S1 ++ ⟨#[101, 108, 115, 101]⟩ ++ S2 : ByteArray) = ⟨(fullP (.node 2 tx [e, b, x] l)).toArray⟩ by rw [fullP_3, if_neg hxk]; exact ba_of_list (by simp [ByteArray.data_append, fullI, hS0, hS1, hS2]))
  have HB0 := Lib.hid (bel_new w (.cells #[.int .i64 2, .string ⟨tx.toArray⟩, .slice (some ⟨bk0, off0, none⟩) 3 c, .int .i64 l] 26))
  have HX0 := Lib.hid (heap_alloc_new w (.cells #[.int .i64 2, .string ⟨tx.toArray⟩, .slice (some ⟨bk0, off0, none⟩) 3 c, .int .i64 l] 26))
  obtain ⟨r0, r1, r2, r3, q0, q1, q2, q3⟩ := box4 HX0.out
  have d00 := keep_at HB0.out c00
  have d01 := keep_at HB0.out c01
  have d02 := keep_at HB0.out c02
  have d03 := keep_at HB0.out c03
  have d10 := keep_at HB0.out c10
  have d11 := keep_at HB0.out c11
  have d12 := keep_at HB0.out c12
  have d13 := keep_at HB0.out c13
  have d20 := keep_at HB0.out c20
  have d21 := keep_at HB0.out c21
  have d22 := keep_at HB0.out c22
  have d23 := keep_at HB0.out c23
  have hkb : (k20 == 2) = false := beq_eq_false_iff_ne.2 (by rw [hkx]; exact hxk)
  have hkn : ¬ k20 = 2 := by rw [hkx]; exact hxk
  clear hd hs hsh HK hS0 hS1 hS2 he hbk hx hlen0 hlen1 hlen2 HBR HLN hkx hxk
  go_enter Tryd.func17, Tryd.ntmps17
  go_upto_region 3 with fail
  have R1 := fun d os => cell_regrown (r0) d os
  have R2 := fun d os => cell_regrown (r1) d os
  have R3 := fun d os => cell_regrown (r2) d os
  have R4 := fun d os => cell_regrown (r3) d os
  have R5 := fun d os => cell_regrown (d00) d os
  have R6 := fun d os => cell_regrown (d01) d os
  have R7 := fun d os => cell_regrown (d02) d os
  have R8 := fun d os => cell_regrown (d03) d os
  have R9 := fun d os => cell_regrown (d10) d os
  have R10 := fun d os => cell_regrown (d11) d os
  have R11 := fun d os => cell_regrown (d12) d os
  have R12 := fun d os => cell_regrown (d13) d os
  have R13 := fun d os => cell_regrown (d20) d os
  have R14 := fun d os => cell_regrown (d21) d os
  have R15 := fun d os => cell_regrown (d22) d os
  have R16 := fun d os => cell_regrown (d23) d os
  refine wp_region_quiet_below (by kernel_rfl) (by kernel_rfl) ?_
  repeat (go_big_quiet_step (first | (go_at_call 29; (with_reducible refine Calls.regrown_of (HC0.out _ ?_)); exact HB0.out.trans ((below_regrown _ _ _).mono HB0.out.size)) | (go_at_call 30; (with_reducible refine Calls.regrown_of (HC1.out _ ?_)); exact HB0.out.trans ((below_regrown _ _ _).mono HB0.out.size))))
  clear R1 R2 R3 R4 R5 R6 R7 R8 R9 R10 R11 R12 R13 R14 R15 R16
  refine wpQuiet_nil ?_
  intro w6 hw6
  have HB6 := Lib.hid (show Below w.heap.size w w6 by obtain ⟨p, rfl⟩ := hw6; exact HB0.out.trans ((below_regrown _ p.d p.os).mono HB0.out.size))
  have HX6 := Lib.hid (keep_blk (show Below (w.alloc _).heap.size (w.alloc _) w6 by obtain ⟨p, rfl⟩ := hw6; exact below_regrown _ p.d p.os) HX0.out)
  obtain ⟨s0, s1, s2, s3, z0, z1, z2, z3⟩ := box4 HX6.out
  have g00 := keep_at HB6.out c00
  have g01 := keep_at HB6.out c01
  have g02 := keep_at HB6.out c02
  have g03 := keep_at HB6.out c03
  have g10 := keep_at HB6.out c10
  have g11 := keep_at HB6.out c11
  have g12 := keep_at HB6.out c12
  have g13 := keep_at HB6.out c13
  have g20 := keep_at HB6.out c20
  have g21 := keep_at HB6.out c21
  have g22 := keep_at HB6.out c22
  have g23 := keep_at HB6.out c23
  clear hw6
  go_wp2_with (first | (go_at_call 30; (with_reducible refine (HC2.out _ HB6.out).mono ?_); rintro e1 w7 ⟨rfl, hb⟩; have HB7 := Lib.hid (HB6.out.trans (hb.mono HB6.out.size)); clear hb))
  go_ret
  exact ⟨ret_str HQ.out, HB7.out⟩
theorem full_ok (n : Nat) (HL : FullC 17 stOK fullP n) (HB : FullC 30 blOK bodyP n) : FullC 17 stOK fullP (n + 1) := by
  intro t F w v ht hd hs hsh hok
  obtain ⟨k, tx, ks, l⟩ := t
  rcases ks with _ | ⟨e, _ | ⟨b, _ | ⟨x, _ | ⟨y, r⟩⟩⟩⟩
  · rw [stOK_0] at hok
    by_cases h6 : k = 6
    · subst h6
      exact full_6 n tx l F w v ht hd hs hsh
    by_cases h10 : k = 10
    · subst h10
      exact full_10 n tx l F w v ht hd hs hsh
    by_cases h11 : k = 11
    · subst h11
      exact full_11 n tx l F w v ht hd hs hsh
    simp [head0, h6, h10, h11] at hok
  · rw [stOK_1, Bool.and_eq_true] at hok
    obtain ⟨hh, he⟩ := hok
    by_cases h3 : k = 3
    · subst h3
      exact full_3 n tx e l F w v ht hd hs hsh he
    by_cases h4 : k = 4
    · subst h4
      exact full_4 n tx e l F w v ht hd hs hsh he
    by_cases h5 : k = 5
    · subst h5
      exact full_5 n tx e l F w v ht hd hs hsh he
    by_cases h7 : k = 7
    · subst h7
      exact full_7 n tx e l F w v ht hd hs hsh he
    by_cases h8 : k = 8
    · subst h8
      exact full_8 n tx e l F w v ht hd hs hsh he
    by_cases h9 : k = 9
    · subst h9
      exact full_9 n tx e l F w v ht hd hs hsh he
    simp [head1, h3, h4, h5, h7, h8, h9] at hh
  · rw [stOK_2, Bool.and_eq_true, Bool.and_eq_true] at hok
    obtain ⟨h1, he, hb⟩ := hok
    obtain ⟨rfl, rfl⟩ := headI_parts h1
    exact full_if2 n HB [] e b l F w v ht hd hs hsh he hb
  · rw [stOK_3, Bool.and_eq_true, Bool.and_eq_true, Bool.and_eq_true, Bool.or_eq_true, Bool.and_eq_true, decide_eq_true_iff] at hok
    obtain ⟨h1, he, hb, hx⟩ := hok
    obtain ⟨rfl, rfl⟩ := headI_parts h1
    rcases hx with hx | ⟨hxk, hx⟩
    · exact full_if3b n HB HL [] e b x l F w v ht hd hs hsh he hb (by rw [blOK_kind hx]; decide) hx
    · exact full_if3l n HB HL [] e b x l F w v ht hd hs hsh he hb hxk hx
  · rw [stOK_4 (by simp)] at hok
    cases hok
set_option maxRecDepth 20000 in
set_option maxHeartbeats 2000000 in
theorem body_ok (n : Nat) (HC : FullC 17 stOK fullP n) : FullC 30 blOK bodyP (n + 1) := by
  intro t F w v ht hd hs hsh hok
  obtain ⟨k, tx, ks, l⟩ := t
  obtain ⟨rfl, rfl, hok⟩ := blOK_parts hok
  obtain ⟨kv, rfl, hks⟩ := isT_node.1 ht
  rw [depthT_node] at hd
  rw [sizeT_node] at hs
  rw [shortT_node] at hsh
  have hlen := fullsP_len ks hsh.2
  have hl : ks.length ≤ 1000 := by have := len_le_size ks; omega
  have HK := Lib.hid hks
  have HCall := Lib.hid HC
  have HD := Lib.hid hd
  have HS := Lib.hid hs
  have HSH := Lib.hid hsh.2
  have HOK := Lib.hid hok
  have HLN := Lib.hid (show (fullsP ks).length ≤ 703000000 by omega)
  obtain ⟨a, c, rfl⟩ : ∃ a c, kv = .slice a ks.length c := by
    obtain ⟨a, c, hv, _⟩ := hks
    exact ⟨a, c, hv⟩
  have HB0 := Lib.hid (bel_new w (.cells #[.int .i64 12, .string ⟨#[]⟩, .slice a ks.length c, .int .i64 l] 26))
  have HX0 := Lib.hid (heap_alloc_new w (.cells #[.int .i64 12, .string ⟨#[]⟩, .slice a ks.length c, .int .i64 l] 26))
  obtain ⟨r0, r1, r2, r3, q0, q1, q2, q3⟩ := box4 HX0.out
  have HR := Lib.hid (bodyP_node (k := 12) (tx := []) (ks := ks) (l := l))
  clear ht hks hd hs hsh hok HC hlen
  go_enter Tryd.func30, Tryd.ntmps30
  go_wp2_with fail
  go_loopw [3, 9] (fun x i wr => ∃ q : Nat, ∃ X : ByteArray, i = .int .i64 q ∧ q ≤ ks.length ∧ x = .string X ∧ X = ⟨(123 :: fullsP (ks.take q)).toArray⟩ ∧ Below w.heap.size w wr) (fun _ i _ => ks.length - (intOf i).toNat)
  case atStart => exact ⟨0, _, rfl, Nat.zero_le _, rfl, by rw [List.take_zero, fullsP_nil], HB0.out⟩
  case round =>
    obtain ⟨q, X, rfl, hq, rfl, hX, hb⟩ := hrel
    have HB := Lib.hid hb
    have hXs : X.size ≤ 703000001 := by
      rw [hX]
      refine size_of_list _ _ ?_
      have h1 := fullsP_append (ks.take q) (ks.drop q)
      rw [List.take_append_drop] at h1
      have h2 := congrArg List.length h1
      rw [List.length_append] at h2
      have := HLN.out
      simp only [List.length_cons]
      omega
    have HX := Lib.hid hX
    clear hb hX
    by_cases hlt : q < ks.length
    · obtain ⟨t', ht'⟩ : ∃ t', ks[q]? = some t' := ⟨_, List.getElem?_eq_getElem hlt⟩
      obtain ⟨b, off, cap, k0, x0, a0, m0, n0, l0, hv, c0, c1, c2, c3, hT⟩ := IsKids.at (HK.out.step HB.out) ht'
      simp only [Value.slice.injEq] at hv
      obtain ⟨rfl, -, rfl⟩ := hv
      have h3 := depthT_mem (List.mem_of_getElem? ht')
      have h4 := sizeT_mem (List.mem_of_getElem? ht')
      have h5 := shortT_at HSH.out ht'
      have h6 := stOK_at HOK.out ht'
      have h7 := fullP_len t' h5
      have HT := Lib.hid hT
      have HTK := Lib.hid (fullsP_take ht')
      have HCC := Lib.hid (fun W (hW : IsT W F t' (.agg #[.int .i64 k0, .string ⟨x0.toArray⟩, .slice a0 m0 n0, .int .i64 l0])) => HCall.out t' F W _ hW (by have := HD.out; omega) (by have := HS.out; omega) h5 h6)
      obtain ⟨S, hS⟩ : ∃ S : ByteArray, S = ⟨(fullP t').toArray⟩ := ⟨_, rfl⟩
      have hSs : S.size ≤ 703000000 := by rw [hS]; exact size_of_list _ _ (by have := HS.out; omega)
      rw [← hS] at HCC
      have HS2 := Lib.hid hS
      have hlti : (q : Int) < (ks.length : Int) := by omega
      clear h3 h4 h5 h6 h7 hT ht' hS
      go_wp2_with (first | (go_at_call 17; (with_reducible refine (HCC.out _ (HT.out.step (bel_new _ _))).mono ?_); rintro e w2 ⟨rfl, hb1⟩; have HB2 := Lib.hid ((bel_new wr (.cells #[.int .i64 k0, .string ⟨x0.toArray⟩, .slice a0 m0 n0, .int .i64 l0] 26)).trans (hb1.mono (by simp))); clear hb1))
      go_roundw
      case rel => exact ⟨q + 1, _, by go_num, by omega, rfl, by rw [HTK.out, HX.out, HS2.out]; exact ba_of_list (by simp [ByteArray.data_append]), HB.out.trans (HB2.out.mono HB.out.size)⟩
      case measure => simp [intOf]; omega
    · have hq2 : q = ks.length := by omega
      subst hq2
      rw [List.take_length] at HX
      go_wp2_with fail
      go_ret
      exact ⟨ret_str (by rw [HR.out, HX.out]; exact ba_of_list (by simp [ByteArray.data_append])), HB.out⟩
theorem full_all : ∀ n, FullC 17 stOK fullP n ∧ FullC 30 blOK bodyP n
  | 0 => ⟨fun t F w v ht hd hs hsh hok => by have := depth_pos t; omega, fun t F w v ht hd hs hsh hok => by have := depth_pos t; omega⟩
  | n + 1 => ⟨full_ok n (full_all n).1 (full_all n).2, body_ok n (full_all n).1⟩
theorem full_any (t : Tree) (F : Nat → Prop) (w : World) (v : Value) (ht : IsT w F t v) (hs : sizeT t ≤ 1000) (hsh : shortT t) (hok : stOK t = true) :
    Calls Tryd.prog 17 #[v] w fun e w' => e = .returned (.string ⟨(fullP t).toArray⟩) ∧ Below w.heap.size w w' := (full_all _).1 t F w v ht (Nat.le_refl _) hs hsh hok
end Go.Proofs.YtogkiifljdnjgaaDoor
