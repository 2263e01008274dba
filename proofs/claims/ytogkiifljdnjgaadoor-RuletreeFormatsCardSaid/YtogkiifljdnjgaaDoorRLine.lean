/- The walks of the reference's line, chain, inner and Format. Conditions: a statement, bounds on size and texts. -/
import Derived.Test.YtogkiifljdnjgaaDoorRWrit
import Derived.Test.YtogkiifljdnjgaaDoorFormat
import Derived.Test.YtogkiifljdnjgaaDoorRVal
namespace Go.Proofs.YtogkiifljdnjgaaDoor
open Go.RowKit
set_option linter.unusedVariables false
set_option linter.unusedSimpArgs false

def rlineP (t : Tree) (bl : List UInt8) : List UInt8 := bl ++ (lineP t bl ++ [10])
def ifOK (t : Tree) : Bool := stOK t && decide (t.kind = 2)
set_option maxRecDepth 20000 in
set_option maxHeartbeats 1000000 in
theorem rline_10 (n : Nat) (tx : List UInt8) (l : Int) (F : Nat → Prop) (w : World) (v : Value) (bl : List UInt8) (ht : IsT w F (.node 10 tx [] l) v) (hd : depthT (.node 10 tx [] l) ≤ n + 1) (hs : sizeT (.node 10 tx [] l) ≤ 1000) (hsh : shortT (.node 10 tx [] l)) (hbl : bl.length + 2 * depthT (.node 10 tx [] l) ≤ 1000) :
    Calls Tryd.prog 39 #[v, .string ⟨bl.toArray⟩] w fun e' w' => e' = .returned (.string ⟨(rlineP (.node 10 tx [] l) bl).toArray⟩) ∧ Below w.heap.size w w' := by
  obtain ⟨kv, rfl, hks⟩ := isT_node.1 ht
  rw [depthT_node] at hd hbl
  rw [sizeT_node] at hs
  rw [shortT_node] at hsh
  simp only [sizeL_cons, sizeL_nil, depthL_cons, depthL_nil] at hs hd hbl
  try simp only [shortL_cons] at hsh
  obtain ⟨a, c, rfl⟩ : ∃ a c, kv = .slice a 0 c := by
    obtain ⟨a, c, hv, _⟩ := hks
    exact ⟨a, c, hv⟩
  have HK := Lib.hid hks
  have htx := hsh.1
  have htz := size_of_list tx _ htx
  have hbl2 : bl.length ≤ 1000 := by omega
  have hbz := size_of_list bl _ hbl2
  clear ht hks
  have HQ := Lib.hid (show (⟨bl.toArray⟩ ++ ⟨#[112, 97, 115, 115]⟩ ++ ⟨#[59, 10]⟩ : ByteArray) = ⟨(rlineP (.node 10 tx [] l) bl).toArray⟩ by unfold rlineP; rw [lineP_0]; exact ba_of_list (by simp [ByteArray.data_append, line0]))
  have HB0 := Lib.hid (bel_new w (.cells #[.int .i64 10, .string ⟨tx.toArray⟩, .slice a 0 c, .int .i64 l] 26))
  have HX0 := Lib.hid (heap_alloc_new w (.cells #[.int .i64 10, .string ⟨tx.toArray⟩, .slice a 0 c, .int .i64 l] 26))
  obtain ⟨r0, r1, r2, r3, q0, q1, q2, q3⟩ := box4 HX0.out
  clear hd hs hsh hbl HK
  go_enter Tryd.func39, Tryd.ntmps39
  go_wp2_with fail
  go_ret
  exact ⟨ret_str (by first | (rw [← HQ.out]; done) | (rw [← HQ.out]; exact ba_of_list (by simp [ByteArray.data_append]))), HB0.out⟩
set_option maxRecDepth 20000 in
set_option maxHeartbeats 1000000 in
theorem rline_11 (n : Nat) (tx : List UInt8) (l : Int) (F : Nat → Prop) (w : World) (v : Value) (bl : List UInt8) (ht : IsT w F (.node 11 tx [] l) v) (hd : depthT (.node 11 tx [] l) ≤ n + 1) (hs : sizeT (.node 11 tx [] l) ≤ 1000) (hsh : shortT (.node 11 tx [] l)) (hbl : bl.length + 2 * depthT (.node 11 tx [] l) ≤ 1000) :
    Calls Tryd.prog 39 #[v, .string ⟨bl.toArray⟩] w fun e' w' => e' = .returned (.string ⟨(rlineP (.node 11 tx [] l) bl).toArray⟩) ∧ Below w.heap.size w w' := by
  obtain ⟨kv, rfl, hks⟩ := isT_node.1 ht
  rw [depthT_node] at hd hbl
  rw [sizeT_node] at hs
  rw [shortT_node] at hsh
  simp only [sizeL_cons, sizeL_nil, depthL_cons, depthL_nil] at hs hd hbl
  try simp only [shortL_cons] at hsh
  obtain ⟨a, c, rfl⟩ : ∃ a c, kv = .slice a 0 c := by
    obtain ⟨a, c, hv, _⟩ := hks
    exact ⟨a, c, hv⟩
  have HK := Lib.hid hks
  have htx := hsh.1
  have htz := size_of_list tx _ htx
  have hbl2 : bl.length ≤ 1000 := by omega
  have hbz := size_of_list bl _ hbl2
  clear ht hks
  have HQ := Lib.hid (show (⟨bl.toArray⟩ ++ ⟨#[116, 111, 107, 101, 110]⟩ ++ ⟨#[59, 10]⟩ : ByteArray) = ⟨(rlineP (.node 11 tx [] l) bl).toArray⟩ by unfold rlineP; rw [lineP_0]; exact ba_of_list (by simp [ByteArray.data_append, line0]))
  have HB0 := Lib.hid (bel_new w (.cells #[.int .i64 11, .string ⟨tx.toArray⟩, .slice a 0 c, .int .i64 l] 26))
  have HX0 := Lib.hid (heap_alloc_new w (.cells #[.int .i64 11, .string ⟨tx.toArray⟩, .slice a 0 c, .int .i64 l] 26))
  obtain ⟨r0, r1, r2, r3, q0, q1, q2, q3⟩ := box4 HX0.out
  clear hd hs hsh hbl HK
  go_enter Tryd.func39, Tryd.ntmps39
  go_wp2_with fail
  go_ret
  exact ⟨ret_str (by first | (rw [← HQ.out]; done) | (rw [← HQ.out]; exact ba_of_list (by simp [ByteArray.data_append]))), HB0.out⟩
set_option maxRecDepth 20000 in
set_option maxHeartbeats 1000000 in
theorem rline_6 (n : Nat) (tx : List UInt8) (l : Int) (F : Nat → Prop) (w : World) (v : Value) (bl : List UInt8) (ht : IsT w F (.node 6 tx [] l) v) (hd : depthT (.node 6 tx [] l) ≤ n + 1) (hs : sizeT (.node 6 tx [] l) ≤ 1000) (hsh : shortT (.node 6 tx [] l)) (hbl : bl.length + 2 * depthT (.node 6 tx [] l) ≤ 1000) (hq : tx.all okB = true) :
    Calls Tryd.prog 39 #[v, .string ⟨bl.toArray⟩] w fun e' w' => e' = .returned (.string ⟨(rlineP (.node 6 tx [] l) bl).toArray⟩) ∧ Below w.heap.size w w' := by
  obtain ⟨kv, rfl, hks⟩ := isT_node.1 ht
  rw [depthT_node] at hd hbl
  rw [sizeT_node] at hs
  rw [shortT_node] at hsh
  simp only [sizeL_cons, sizeL_nil, depthL_cons, depthL_nil] at hs hd hbl
  try simp only [shortL_cons] at hsh
  obtain ⟨a, c, rfl⟩ : ∃ a c, kv = .slice a 0 c := by
    obtain ⟨a, c, hv, _⟩ := hks
    exact ⟨a, c, hv⟩
  have HK := Lib.hid hks
  have htx := hsh.1
  have htz := size_of_list tx _ htx
  have hbl2 : bl.length ≤ 1000 := by omega
  have hbz := size_of_list bl _ hbl2
  clear ht hks
  have HCQ := Lib.hid (fun W => rquo_any ⟨tx.toArray⟩ W htz (by simpa using hq))
  rw [show (⟨tx.toArray⟩ : ByteArray).data.toList = tx by simp] at HCQ
  have hql := quoL_len tx
  obtain ⟨Qt, hQt⟩ : ∃ Q : ByteArray, Q = ⟨(quoL tx).toArray⟩ := ⟨_, rfl⟩
  have hQs : Qt.size ≤ 703000000 := by rw [hQt]; exact size_of_list _ _ (by omega)
  rw [← hQt] at HCQ
  have HQ := Lib.hid (show (⟨bl.toArray⟩ ++ (⟨#[118, 97, 114, 121, 32]⟩ ++ Qt) ++ ⟨#[59, 10]⟩ : ByteArray) = ⟨(rlineP (.node 6 tx [] l) bl).toArray⟩ by unfold rlineP; rw [lineP_0]; exact ba_of_list (by simp [ByteArray.data_append, line0, hQt]))
  have HB0 := Lib.hid (bel_new w (.cells #[.int .i64 6, .string ⟨tx.toArray⟩, .slice a 0 c, .int .i64 l] 26))
  have HX0 := Lib.hid (heap_alloc_new w (.cells #[.int .i64 6, .string ⟨tx.toArray⟩, .slice a 0 c, .int .i64 l] 26))
  obtain ⟨r0, r1, r2, r3, q0, q1, q2, q3⟩ := box4 HX0.out
  clear hd hs hsh hbl HK hQt hql hq
  go_enter Tryd.func39, Tryd.ntmps39
  go_wp2_with (first | (go_at_call 51; (with_reducible refine (HCQ.out _).mono ?_); rintro e1 w1 ⟨rfl, hb⟩; have HB1 := Lib.hid (HB0.out.trans (hb.mono HB0.out.size)); have HX1 := Lib.hid (keep_blk hb HX0.out); obtain ⟨s0, s1, s2, s3, z0, z1, z2, z3⟩ := box4 HX1.out; clear hb))
  go_ret
  exact ⟨ret_str (by first | (rw [← HQ.out]; done) | (rw [← HQ.out]; exact ba_of_list (by simp [ByteArray.data_append]))), HB1.out⟩
set_option maxRecDepth 20000 in
set_option maxHeartbeats 1000000 in
theorem rline_3 (n : Nat) (tx : List UInt8) (e : Tree) (l : Int) (F : Nat → Prop) (w : World) (v : Value) (bl : List UInt8) (ht : IsT w F (.node 3 tx [e] l) v) (hd : depthT (.node 3 tx [e] l) ≤ n + 1) (hs : sizeT (.node 3 tx [e] l) ≤ 1000) (hsh : shortT (.node 3 tx [e] l)) (hbl : bl.length + 2 * depthT (.node 3 tx [e] l) ≤ 1000) (he : exprOK e = true) :
    Calls Tryd.prog 39 #[v, .string ⟨bl.toArray⟩] w fun e' w' => e' = .returned (.string ⟨(rlineP (.node 3 tx [e] l) bl).toArray⟩) ∧ Below w.heap.size w w' := by
  obtain ⟨kv, rfl, hks⟩ := isT_node.1 ht
  rw [depthT_node] at hd hbl
  rw [sizeT_node] at hs
  rw [shortT_node] at hsh
  simp only [sizeL_cons, sizeL_nil, depthL_cons, depthL_nil] at hs hd hbl
  try simp only [shortL_cons] at hsh
  obtain ⟨a, c, rfl⟩ : ∃ a c, kv = .slice a 1 c := by
    obtain ⟨a, c, hv, _⟩ := hks
    exact ⟨a, c, hv⟩
  have HK := Lib.hid hks
  have htx := hsh.1
  have htz := size_of_list tx _ htx
  have hbl2 : bl.length ≤ 1000 := by omega
  have hbz := size_of_list bl _ hbl2
  clear ht hks
  obtain ⟨bk0, off0, cap0, k00, x00, a00, m00, n00, l00, hv0, c00, c01, c02, c03, hT0⟩ := IsKids.at HK.out (k := 0) (t := e) rfl
  simp only [Value.slice.injEq] at hv0
  obtain ⟨rfl, -, rfl⟩ := hv0
  simp only [Nat.zero_mul, Nat.add_zero, Nat.one_mul, Nat.reduceMul, Nat.add_assoc, Nat.reduceAdd] at c00 c01 c02 c03
  have hlen0 := writP_len e hsh.2.1
  obtain ⟨S0, hS0⟩ : ∃ S : ByteArray, S = ⟨(writP e).toArray⟩ := ⟨_, rfl⟩
  have hSz0 : S0.size ≤ 703000000 := by rw [hS0]; exact size_of_list _ _ (by omega)
  have HC0 := Lib.hid (fun W (hW : Below w.heap.size w W) => rwritten_any e F W _ (hT0.step hW) (by omega) hsh.2.1 he)
  rw [← hS0] at HC0
  have HQ := Lib.hid (show (⟨bl.toArray⟩ ++ (⟨#[108, 101, 116, 32]⟩ ++ ⟨tx.toArray⟩ ++ ⟨#[32, 61, 32]⟩) ++ S0 ++ ⟨#[59, 10]⟩ : ByteArray) = ⟨(rlineP (.node 3 tx [e] l) bl).toArray⟩ by unfold rlineP; rw [lineP_1]; exact ba_of_list (by simp [ByteArray.data_append, line1, hS0]))
  have HB0 := Lib.hid (bel_new w (.cells #[.int .i64 3, .string ⟨tx.toArray⟩, .slice (some ⟨bk0, off0, none⟩) 1 c, .int .i64 l] 26))
  have HX0 := Lib.hid (heap_alloc_new w (.cells #[.int .i64 3, .string ⟨tx.toArray⟩, .slice (some ⟨bk0, off0, none⟩) 1 c, .int .i64 l] 26))
  obtain ⟨r0, r1, r2, r3, q0, q1, q2, q3⟩ := box4 HX0.out
  have d00 := keep_at HB0.out c00
  have d01 := keep_at HB0.out c01
  have d02 := keep_at HB0.out c02
  have d03 := keep_at HB0.out c03
  clear hd hs hsh hbl HK hS0 he hlen0
  go_enter Tryd.func39, Tryd.ntmps39
  go_wp2_with (first | (go_at_call 52; (with_reducible refine (HC0.out _ HB0.out).mono ?_); rintro e1 w2 ⟨rfl, hb⟩; have HB2 := Lib.hid (HB0.out.trans (hb.mono HB0.out.size)); clear hb))
  go_ret
  exact ⟨ret_str (by first | (rw [← HQ.out]; done) | (rw [← HQ.out]; exact ba_of_list (by simp [ByteArray.data_append]))), HB2.out⟩
set_option maxRecDepth 20000 in
set_option maxHeartbeats 1000000 in
theorem rline_4 (n : Nat) (tx : List UInt8) (e : Tree) (l : Int) (F : Nat → Prop) (w : World) (v : Value) (bl : List UInt8) (ht : IsT w F (.node 4 tx [e] l) v) (hd : depthT (.node 4 tx [e] l) ≤ n + 1) (hs : sizeT (.node 4 tx [e] l) ≤ 1000) (hsh : shortT (.node 4 tx [e] l)) (hbl : bl.length + 2 * depthT (.node 4 tx [e] l) ≤ 1000) (he : exprOK e = true) :
    Calls Tryd.prog 39 #[v, .string ⟨bl.toArray⟩] w fun e' w' => e' = .returned (.string ⟨(rlineP (.node 4 tx [e] l) bl).toArray⟩) ∧ Below w.heap.size w w' := by
  obtain ⟨kv, rfl, hks⟩ := isT_node.1 ht
  rw [depthT_node] at hd hbl
  rw [sizeT_node] at hs
  rw [shortT_node] at hsh
  simp only [sizeL_cons, sizeL_nil, depthL_cons, depthL_nil] at hs hd hbl
  try simp only [shortL_cons] at hsh
  obtain ⟨a, c, rfl⟩ : ∃ a c, kv = .slice a 1 c := by
    obtain ⟨a, c, hv, _⟩ := hks
    exact ⟨a, c, hv⟩
  have HK := Lib.hid hks
  have htx := hsh.1
  have htz := size_of_list tx _ htx
  have hbl2 : bl.length ≤ 1000 := by omega
  have hbz := size_of_list bl _ hbl2
  clear ht hks
  obtain ⟨bk0, off0, cap0, k00, x00, a00, m00, n00, l00, hv0, c00, c01, c02, c03, hT0⟩ := IsKids.at HK.out (k := 0) (t := e) rfl
  simp only [Value.slice.injEq] at hv0
  obtain ⟨rfl, -, rfl⟩ := hv0
  simp only [Nat.zero_mul, Nat.add_zero, Nat.one_mul, Nat.reduceMul, Nat.add_assoc, Nat.reduceAdd] at c00 c01 c02 c03
  have hlen0 := writP_len e hsh.2.1
  obtain ⟨S0, hS0⟩ : ∃ S : ByteArray, S = ⟨(writP e).toArray⟩ := ⟨_, rfl⟩
  have hSz0 : S0.size ≤ 703000000 := by rw [hS0]; exact size_of_list _ _ (by omega)
  have HC0 := Lib.hid (fun W (hW : Below w.heap.size w W) => rwritten_any e F W _ (hT0.step hW) (by omega) hsh.2.1 he)
  rw [← hS0] at HC0
  have HQ := Lib.hid (show (⟨bl.toArray⟩ ++ (⟨tx.toArray⟩ ++ ⟨#[32, 61, 32]⟩) ++ S0 ++ ⟨#[59, 10]⟩ : ByteArray) = ⟨(rlineP (.node 4 tx [e] l) bl).toArray⟩ by unfold rlineP; rw [lineP_1]; exact ba_of_list (by simp [ByteArray.data_append, line1, hS0]))
  have HB0 := Lib.hid (bel_new w (.cells #[.int .i64 4, .string ⟨tx.toArray⟩, .slice (some ⟨bk0, off0, none⟩) 1 c, .int .i64 l] 26))
  have HX0 := Lib.hid (heap_alloc_new w (.cells #[.int .i64 4, .string ⟨tx.toArray⟩, .slice (some ⟨bk0, off0, none⟩) 1 c, .int .i64 l] 26))
  obtain ⟨r0, r1, r2, r3, q0, q1, q2, q3⟩ := box4 HX0.out
  have d00 := keep_at HB0.out c00
  have d01 := keep_at HB0.out c01
  have d02 := keep_at HB0.out c02
  have d03 := keep_at HB0.out c03
  clear hd hs hsh hbl HK hS0 he hlen0
  go_enter Tryd.func39, Tryd.ntmps39
  go_wp2_with (first | (go_at_call 52; (with_reducible refine (HC0.out _ HB0.out).mono ?_); rintro e1 w2 ⟨rfl, hb⟩; have HB2 := Lib.hid (HB0.out.trans (hb.mono HB0.out.size)); clear hb))
  go_ret
  exact ⟨ret_str (by first | (rw [← HQ.out]; done) | (rw [← HQ.out]; exact ba_of_list (by simp [ByteArray.data_append]))), HB2.out⟩
set_option maxRecDepth 20000 in
set_option maxHeartbeats 1000000 in
theorem rline_5 (n : Nat) (tx : List UInt8) (e : Tree) (l : Int) (F : Nat → Prop) (w : World) (v : Value) (bl : List UInt8) (ht : IsT w F (.node 5 tx [e] l) v) (hd : depthT (.node 5 tx [e] l) ≤ n + 1) (hs : sizeT (.node 5 tx [e] l) ≤ 1000) (hsh : shortT (.node 5 tx [e] l)) (hbl : bl.length + 2 * depthT (.node 5 tx [e] l) ≤ 1000) (he : exprOK e = true) (hq : tx.all okB = true) :
    Calls Tryd.prog 39 #[v, .string ⟨bl.toArray⟩] w fun e' w' => e' = .returned (.string ⟨(rlineP (.node 5 tx [e] l) bl).toArray⟩) ∧ Below w.heap.size w w' := by
  obtain ⟨kv, rfl, hks⟩ := isT_node.1 ht
  rw [depthT_node] at hd hbl
  rw [sizeT_node] at hs
  rw [shortT_node] at hsh
  simp only [sizeL_cons, sizeL_nil, depthL_cons, depthL_nil] at hs hd hbl
  try simp only [shortL_cons] at hsh
  obtain ⟨a, c, rfl⟩ : ∃ a c, kv = .slice a 1 c := by
    obtain ⟨a, c, hv, _⟩ := hks
    exact ⟨a, c, hv⟩
  have HK := Lib.hid hks
  have htx := hsh.1
  have htz := size_of_list tx _ htx
  have hbl2 : bl.length ≤ 1000 := by omega
  have hbz := size_of_list bl _ hbl2
  clear ht hks
  obtain ⟨bk0, off0, cap0, k00, x00, a00, m00, n00, l00, hv0, c00, c01, c02, c03, hT0⟩ := IsKids.at HK.out (k := 0) (t := e) rfl
  simp only [Value.slice.injEq] at hv0
  obtain ⟨rfl, -, rfl⟩ := hv0
  simp only [Nat.zero_mul, Nat.add_zero, Nat.one_mul, Nat.reduceMul, Nat.add_assoc, Nat.reduceAdd] at c00 c01 c02 c03
  have hlen0 := writP_len e hsh.2.1
  obtain ⟨S0, hS0⟩ : ∃ S : ByteArray, S = ⟨(writP e).toArray⟩ := ⟨_, rfl⟩
  have hSz0 : S0.size ≤ 703000000 := by rw [hS0]; exact size_of_list _ _ (by omega)
  have HC0 := Lib.hid (fun W (hW : Below w.heap.size w W) => rwritten_any e F W _ (hT0.step hW) (by omega) hsh.2.1 he)
  rw [← hS0] at HC0
  have HCQ := Lib.hid (fun W => rquo_any ⟨tx.toArray⟩ W htz (by simpa using hq))
  rw [show (⟨tx.toArray⟩ : ByteArray).data.toList = tx by simp] at HCQ
  have hql := quoL_len tx
  obtain ⟨Qt, hQt⟩ : ∃ Q : ByteArray, Q = ⟨(quoL tx).toArray⟩ := ⟨_, rfl⟩
  have hQs : Qt.size ≤ 703000000 := by rw [hQt]; exact size_of_list _ _ (by omega)
  rw [← hQt] at HCQ
  have HQ := Lib.hid (show (⟨bl.toArray⟩ ++ (⟨#[104, 101, 97, 100, 101, 114, 32]⟩ ++ Qt ++ ⟨#[32, 61, 32]⟩) ++ S0 ++ ⟨#[59, 10]⟩ : ByteArray) = ⟨(rlineP (.node 5 tx [e] l) bl).toArray⟩ by unfold rlineP; rw [lineP_1]; exact ba_of_list (by simp [ByteArray.data_append, line1, hS0, hQt]))
  have HB0 := Lib.hid (bel_new w (.cells #[.int .i64 5, .string ⟨tx.toArray⟩, .slice (some ⟨bk0, off0, none⟩) 1 c, .int .i64 l] 26))
  have HX0 := Lib.hid (heap_alloc_new w (.cells #[.int .i64 5, .string ⟨tx.toArray⟩, .slice (some ⟨bk0, off0, none⟩) 1 c, .int .i64 l] 26))
  obtain ⟨r0, r1, r2, r3, q0, q1, q2, q3⟩ := box4 HX0.out
  have d00 := keep_at HB0.out c00
  have d01 := keep_at HB0.out c01
  have d02 := keep_at HB0.out c02
  have d03 := keep_at HB0.out c03
  clear hd hs hsh hbl HK hS0 he hlen0 hQt hql hq
  go_enter Tryd.func39, Tryd.ntmps39
  go_wp2_with (first | (go_at_call 51; (with_reducible refine (HCQ.out _).mono ?_); rintro e1 w1 ⟨rfl, hb⟩; have HB1 := Lib.hid (HB0.out.trans (hb.mono HB0.out.size)); have HX1 := Lib.hid (keep_blk hb HX0.out); obtain ⟨s0, s1, s2, s3, z0, z1, z2, z3⟩ := box4 HX1.out; have g00 := keep_at HB1.out c00; have g01 := keep_at HB1.out c01; have g02 := keep_at HB1.out c02; have g03 := keep_at HB1.out c03; clear hb) | (go_at_call 52; (with_reducible refine (HC0.out _ HB1.out).mono ?_); rintro e1 w2 ⟨rfl, hb⟩; have HB2 := Lib.hid (HB1.out.trans (hb.mono HB1.out.size)); clear hb))
  go_ret
  exact ⟨ret_str (by first | (rw [← HQ.out]; done) | (rw [← HQ.out]; exact ba_of_list (by simp [ByteArray.data_append]))), HB2.out⟩
set_option maxRecDepth 20000 in
set_option maxHeartbeats 1000000 in
theorem rline_7 (n : Nat) (tx : List UInt8) (e : Tree) (l : Int) (F : Nat → Prop) (w : World) (v : Value) (bl : List UInt8) (ht : IsT w F (.node 7 tx [e] l) v) (hd : depthT (.node 7 tx [e] l) ≤ n + 1) (hs : sizeT (.node 7 tx [e] l) ≤ 1000) (hsh : shortT (.node 7 tx [e] l)) (hbl : bl.length + 2 * depthT (.node 7 tx [e] l) ≤ 1000) (he : exprOK e = true) :
    Calls Tryd.prog 39 #[v, .string ⟨bl.toArray⟩] w fun e' w' => e' = .returned (.string ⟨(rlineP (.node 7 tx [e] l) bl).toArray⟩) ∧ Below w.heap.size w w' := by
  obtain ⟨kv, rfl, hks⟩ := isT_node.1 ht
  rw [depthT_node] at hd hbl
  rw [sizeT_node] at hs
  rw [shortT_node] at hsh
  simp only [sizeL_cons, sizeL_nil, depthL_cons, depthL_nil] at hs hd hbl
  try simp only [shortL_cons] at hsh
  obtain ⟨a, c, rfl⟩ : ∃ a c, kv = .slice a 1 c := by
    obtain ⟨a, c, hv, _⟩ := hks
    exact ⟨a, c, hv⟩
  have HK := Lib.hid hks
  have htx := hsh.1
  have htz := size_of_list tx _ htx
  have hbl2 : bl.length ≤ 1000 := by omega
  have hbz := size_of_list bl _ hbl2
  clear ht hks
  obtain ⟨bk0, off0, cap0, k00, x00, a00, m00, n00, l00, hv0, c00, c01, c02, c03, hT0⟩ := IsKids.at HK.out (k := 0) (t := e) rfl
  simp only [Value.slice.injEq] at hv0
  obtain ⟨rfl, -, rfl⟩ := hv0
  simp only [Nat.zero_mul, Nat.add_zero, Nat.one_mul, Nat.reduceMul, Nat.add_assoc, Nat.reduceAdd] at c00 c01 c02 c03
  have hlen0 := writP_len e hsh.2.1
  obtain ⟨S0, hS0⟩ : ∃ S : ByteArray, S = ⟨(writP e).toArray⟩ := ⟨_, rfl⟩
  have hSz0 : S0.size ≤ 703000000 := by rw [hS0]; exact size_of_list _ _ (by omega)
  have HC0 := Lib.hid (fun W (hW : Below w.heap.size w W) => rwritten_any e F W _ (hT0.step hW) (by omega) hsh.2.1 he)
  rw [← hS0] at HC0
  have HQ := Lib.hid (show (⟨bl.toArray⟩ ++ ⟨#[116, 97, 103, 32]⟩ ++ S0 ++ ⟨#[59, 10]⟩ : ByteArray) = ⟨(rlineP (.node 7 tx [e] l) bl).toArray⟩ by unfold rlineP; rw [lineP_1]; exact ba_of_list (by simp [ByteArray.data_append, line1, hS0]))
  have HB0 := Lib.hid (bel_new w (.cells #[.int .i64 7, .string ⟨tx.toArray⟩, .slice (some ⟨bk0, off0, none⟩) 1 c, .int .i64 l] 26))
  have HX0 := Lib.hid (heap_alloc_new w (.cells #[.int .i64 7, .string ⟨tx.toArray⟩, .slice (some ⟨bk0, off0, none⟩) 1 c, .int .i64 l] 26))
  obtain ⟨r0, r1, r2, r3, q0, q1, q2, q3⟩ := box4 HX0.out
  have d00 := keep_at HB0.out c00
  have d01 := keep_at HB0.out c01
  have d02 := keep_at HB0.out c02
  have d03 := keep_at HB0.out c03
  clear hd hs hsh hbl HK hS0 he hlen0
  go_enter Tryd.func39, Tryd.ntmps39
  go_wp2_with (first | (go_at_call 52; (with_reducible refine (HC0.out _ HB0.out).mono ?_); rintro e1 w2 ⟨rfl, hb⟩; have HB2 := Lib.hid (HB0.out.trans (hb.mono HB0.out.size)); clear hb))
  go_ret
  exact ⟨ret_str (by first | (rw [← HQ.out]; done) | (rw [← HQ.out]; exact ba_of_list (by simp [ByteArray.data_append]))), HB2.out⟩
set_option maxRecDepth 20000 in
set_option maxHeartbeats 1000000 in
theorem rline_8 (n : Nat) (tx : List UInt8) (e : Tree) (l : Int) (F : Nat → Prop) (w : World) (v : Value) (bl : List UInt8) (ht : IsT w F (.node 8 tx [e] l) v) (hd : depthT (.node 8 tx [e] l) ≤ n + 1) (hs : sizeT (.node 8 tx [e] l) ≤ 1000) (hsh : shortT (.node 8 tx [e] l)) (hbl : bl.length + 2 * depthT (.node 8 tx [e] l) ≤ 1000) (he : exprOK e = true) :
    Calls Tryd.prog 39 #[v, .string ⟨bl.toArray⟩] w fun e' w' => e' = .returned (.string ⟨(rlineP (.node 8 tx [e] l) bl).toArray⟩) ∧ Below w.heap.size w w' := by
  obtain ⟨kv, rfl, hks⟩ := isT_node.1 ht
  rw [depthT_node] at hd hbl
  rw [sizeT_node] at hs
  rw [shortT_node] at hsh
  simp only [sizeL_cons, sizeL_nil, depthL_cons, depthL_nil] at hs hd hbl
  try simp only [shortL_cons] at hsh
  obtain ⟨a, c, rfl⟩ : ∃ a c, kv = .slice a 1 c := by
    obtain ⟨a, c, hv, _⟩ := hks
    exact ⟨a, c, hv⟩
  have HK := Lib.hid hks
  have htx := hsh.1
  have htz := size_of_list tx _ htx
  have hbl2 : bl.length ≤ 1000 := by omega
  have hbz := size_of_list bl _ hbl2
  clear ht hks
  obtain ⟨bk0, off0, cap0, k00, x00, a00, m00, n00, l00, hv0, c00, c01, c02, c03, hT0⟩ := IsKids.at HK.out (k := 0) (t := e) rfl
  simp only [Value.slice.injEq] at hv0
  obtain ⟨rfl, -, rfl⟩ := hv0
  simp only [Nat.zero_mul, Nat.add_zero, Nat.one_mul, Nat.reduceMul, Nat.add_assoc, Nat.reduceAdd] at c00 c01 c02 c03
  have hlen0 := writP_len e hsh.2.1
  obtain ⟨S0, hS0⟩ : ∃ S : ByteArray, S = ⟨(writP e).toArray⟩ := ⟨_, rfl⟩
  have hSz0 : S0.size ≤ 703000000 := by rw [hS0]; exact size_of_list _ _ (by omega)
  have HC0 := Lib.hid (fun W (hW : Below w.heap.size w W) => rwritten_any e F W _ (hT0.step hW) (by omega) hsh.2.1 he)
  rw [← hS0] at HC0
  have HQ := Lib.hid (show (⟨bl.toArray⟩ ++ ⟨#[116, 116, 108, 32]⟩ ++ S0 ++ ⟨#[59, 10]⟩ : ByteArray) = ⟨(rlineP (.node 8 tx [e] l) bl).toArray⟩ by unfold rlineP; rw [lineP_1]; exact ba_of_list (by simp [ByteArray.data_append, line1, hS0]))
  have HB0 := Lib.hid (bel_new w (.cells #[.int .i64 8, .string ⟨tx.toArray⟩, .slice (some ⟨bk0, off0, none⟩) 1 c, .int .i64 l] 26))
  have HX0 := Lib.hid (heap_alloc_new w (.cells #[.int .i64 8, .string ⟨tx.toArray⟩, .slice (some ⟨bk0, off0, none⟩) 1 c, .int .i64 l] 26))
  obtain ⟨r0, r1, r2, r3, q0, q1, q2, q3⟩ := box4 HX0.out
  have d00 := keep_at HB0.out c00
  have d01 := keep_at HB0.out c01
  have d02 := keep_at HB0.out c02
  have d03 := keep_at HB0.out c03
  clear hd hs hsh hbl HK hS0 he hlen0
  go_enter Tryd.func39, Tryd.ntmps39
  go_wp2_with (first | (go_at_call 52; (with_reducible refine (HC0.out _ HB0.out).mono ?_); rintro e1 w2 ⟨rfl, hb⟩; have HB2 := Lib.hid (HB0.out.trans (hb.mono HB0.out.size)); clear hb))
  go_ret
  exact ⟨ret_str (by first | (rw [← HQ.out]; done) | (rw [← HQ.out]; exact ba_of_list (by simp [ByteArray.data_append]))), HB2.out⟩
set_option maxRecDepth 20000 in
set_option maxHeartbeats 1000000 in
theorem rline_9 (n : Nat) (tx : List UInt8) (e : Tree) (l : Int) (F : Nat → Prop) (w : World) (v : Value) (bl : List UInt8) (ht : IsT w F (.node 9 tx [e] l) v) (hd : depthT (.node 9 tx [e] l) ≤ n + 1) (hs : sizeT (.node 9 tx [e] l) ≤ 1000) (hsh : shortT (.node 9 tx [e] l)) (hbl : bl.length + 2 * depthT (.node 9 tx [e] l) ≤ 1000) (he : exprOK e = true) :
    Calls Tryd.prog 39 #[v, .string ⟨bl.toArray⟩] w fun e' w' => e' = .returned (.string ⟨(rlineP (.node 9 tx [e] l) bl).toArray⟩) ∧ Below w.heap.size w w' := by
  obtain ⟨kv, rfl, hks⟩ := isT_node.1 ht
  rw [depthT_node] at hd hbl
  rw [sizeT_node] at hs
  rw [shortT_node] at hsh
  simp only [sizeL_cons, sizeL_nil, depthL_cons, depthL_nil] at hs hd hbl
  try simp only [shortL_cons] at hsh
  obtain ⟨a, c, rfl⟩ : ∃ a c, kv = .slice a 1 c := by
    obtain ⟨a, c, hv, _⟩ := hks
    exact ⟨a, c, hv⟩
  have HK := Lib.hid hks
  have htx := hsh.1
  have htz := size_of_list tx _ htx
  have hbl2 : bl.length ≤ 1000 := by omega
  have hbz := size_of_list bl _ hbl2
  clear ht hks
  obtain ⟨bk0, off0, cap0, k00, x00, a00, m00, n00, l00, hv0, c00, c01, c02, c03, hT0⟩ := IsKids.at HK.out (k := 0) (t := e) rfl
  simp only [Value.slice.injEq] at hv0
  obtain ⟨rfl, -, rfl⟩ := hv0
  simp only [Nat.zero_mul, Nat.add_zero, Nat.one_mul, Nat.reduceMul, Nat.add_assoc, Nat.reduceAdd] at c00 c01 c02 c03
  have hlen0 := writP_len e hsh.2.1
  obtain ⟨S0, hS0⟩ : ∃ S : ByteArray, S = ⟨(writP e).toArray⟩ := ⟨_, rfl⟩
  have hSz0 : S0.size ≤ 703000000 := by rw [hS0]; exact size_of_list _ _ (by omega)
  have HC0 := Lib.hid (fun W (hW : Below w.heap.size w W) => rwritten_any e F W _ (hT0.step hW) (by omega) hsh.2.1 he)
  rw [← hS0] at HC0
  have HQ := Lib.hid (show (⟨bl.toArray⟩ ++ ⟨#[100, 101, 110, 121, 32]⟩ ++ S0 ++ ⟨#[59, 10]⟩ : ByteArray) = ⟨(rlineP (.node 9 tx [e] l) bl).toArray⟩ by unfold rlineP; rw [lineP_1]; exact ba_of_list (by simp [ByteArray.data_append, line1, hS0]))
  have HB0 := Lib.hid (bel_new w (.cells #[.int .i64 9, .string ⟨tx.toArray⟩, .slice (some ⟨bk0, off0, none⟩) 1 c, .int .i64 l] 26))
  have HX0 := Lib.hid (heap_alloc_new w (.cells #[.int .i64 9, .string ⟨tx.toArray⟩, .slice (some ⟨bk0, off0, none⟩) 1 c, .int .i64 l] 26))
  obtain ⟨r0, r1, r2, r3, q0, q1, q2, q3⟩ := box4 HX0.out
  have d00 := keep_at HB0.out c00
  have d01 := keep_at HB0.out c01
  have d02 := keep_at HB0.out c02
  have d03 := keep_at HB0.out c03
  clear hd hs hsh hbl HK hS0 he hlen0
  go_enter Tryd.func39, Tryd.ntmps39
  go_wp2_with (first | (go_at_call 52; (with_reducible refine (HC0.out _ HB0.out).mono ?_); rintro e1 w2 ⟨rfl, hb⟩; have HB2 := Lib.hid (HB0.out.trans (hb.mono HB0.out.size)); clear hb))
  go_ret
  exact ⟨ret_str (by first | (rw [← HQ.out]; done) | (rw [← HQ.out]; exact ba_of_list (by simp [ByteArray.data_append]))), HB2.out⟩
set_option maxRecDepth 20000 in
set_option maxHeartbeats 1000000 in
theorem rline_2 (n : Nat) (HCh : LineC 50 ifOK lineP n) (tx : List UInt8) (ks : List Tree) (l : Int) (F : Nat → Prop) (w : World) (v : Value) (bl : List UInt8) (ht : IsT w F (.node 2 tx ks l) v) (hd : depthT (.node 2 tx ks l) ≤ n) (hs : sizeT (.node 2 tx ks l) ≤ 1000) (hsh : shortT (.node 2 tx ks l)) (hok : stOK (.node 2 tx ks l) = true) (hbl : bl.length + 2 * depthT (.node 2 tx ks l) ≤ 1000) :
    Calls Tryd.prog 39 #[v, .string ⟨bl.toArray⟩] w fun e w' => e = .returned (.string ⟨(rlineP (.node 2 tx ks l) bl).toArray⟩) ∧ Below w.heap.size w w' := by
  have hlen := lineP_len (.node 2 tx ks l) bl hsh hbl
  have hbl2 : bl.length ≤ 1000 := by omega
  have hbz := size_of_list bl _ hbl2
  have HC := Lib.hid (fun W (hW : Below w.heap.size w W) => HCh (.node 2 tx ks l) F W v bl (ht.step hW) hd hs hsh (by unfold ifOK; rw [hok]; rfl) hbl)
  obtain ⟨S, hS⟩ : ∃ S : ByteArray, S = ⟨(lineP (.node 2 tx ks l) bl).toArray⟩ := ⟨_, rfl⟩
  have hSz : S.size ≤ 703000000 := by rw [hS]; exact size_of_list _ _ (by omega)
  rw [← hS] at HC
  have HQ := Lib.hid (show (⟨bl.toArray⟩ ++ S ++ ⟨#[10]⟩ : ByteArray) = ⟨(rlineP (.node 2 tx ks l) bl).toArray⟩ by unfold rlineP; exact ba_of_list (by simp [ByteArray.data_append, hS]))
  obtain ⟨kv, rfl, hks⟩ := isT_node.1 ht
  obtain ⟨a, c, rfl⟩ : ∃ a c, kv = .slice a ks.length c := by
    obtain ⟨a, c, hv, _⟩ := hks
    exact ⟨a, c, hv⟩
  generalize (⟨(rlineP (.node 2 tx ks l) bl).toArray⟩ : ByteArray) = R at *
  generalize ks.length = N at *
  have HB0 := Lib.hid (bel_new w (.cells #[.int .i64 2, .string ⟨tx.toArray⟩, .slice a N c, .int .i64 l] 26))
  have HX0 := Lib.hid (heap_alloc_new w (.cells #[.int .i64 2, .string ⟨tx.toArray⟩, .slice a N c, .int .i64 l] 26))
  obtain ⟨r0, r1, r2, r3, q0, q1, q2, q3⟩ := box4 HX0.out
  clear hlen ht hd hs hsh hok hbl hks hS HCh
  go_enter Tryd.func39, Tryd.ntmps39
  go_wp2_with (first | (go_at_call 50; (with_reducible refine (HC.out _ HB0.out).mono ?_); rintro e1 w2 ⟨rfl, hb⟩; have HB2 := Lib.hid (HB0.out.trans (hb.mono HB0.out.size)); clear hb))
  go_ret
  exact ⟨ret_str (by first | (rw [← HQ.out]; done) | (rw [← HQ.out]; exact ba_of_list (by simp [ByteArray.data_append]))), HB2.out⟩
set_option maxRecDepth 20000 in
set_option maxHeartbeats 1000000 in
theorem chain_2 (n : Nat) (HBR : LineC 75 blOK braceP n) (tx : List UInt8) (e : Tree) (b : Tree) (l : Int) (F : Nat → Prop) (w : World) (v : Value) (bl : List UInt8) (ht : IsT w F (.node 2 tx [e, b] l) v) (hd : depthT (.node 2 tx [e, b] l) ≤ n + 1) (hs : sizeT (.node 2 tx [e, b] l) ≤ 1000) (hsh : shortT (.node 2 tx [e, b] l)) (hbl : bl.length + 2 * depthT (.node 2 tx [e, b] l) ≤ 1000) (he : exprOK e = true) (hbk : blOK b = true) :
    Calls Tryd.prog 50 #[v, .string ⟨bl.toArray⟩] w fun e' w' => e' = .returned (.string ⟨(lineP (.node 2 tx [e, b] l) bl).toArray⟩) ∧ Below w.heap.size w w' := by
  obtain ⟨kv, rfl, hks⟩ := isT_node.1 ht
  rw [depthT_node] at hd hbl
  rw [sizeT_node] at hs
  rw [shortT_node] at hsh
  simp only [sizeL_cons, sizeL_nil, depthL_cons, depthL_nil] at hs hd hbl
  try simp only [shortL_cons] at hsh
  obtain ⟨a, c, rfl⟩ : ∃ a c, kv = .slice a 2 c := by
    obtain ⟨a, c, hv, _⟩ := hks
    exact ⟨a, c, hv⟩
  have HK := Lib.hid hks
  have htx := hsh.1
  have htz := size_of_list tx _ htx
  have hbl2 : bl.length ≤ 1000 := by omega
  have hbz := size_of_list bl _ hbl2
  clear ht hks
  obtain ⟨bk0, off0, cap0, k00, x00, a00, m00, n00, l00, hv0, c00, c01, c02, c03, hT0⟩ := IsKids.at HK.out (k := 0) (t := e) rfl
  simp only [Value.slice.injEq] at hv0
  obtain ⟨rfl, -, rfl⟩ := hv0
  simp only [Nat.zero_mul, Nat.add_zero, Nat.one_mul, Nat.reduceMul, Nat.add_assoc, Nat.reduceAdd] at c00 c01 c02 c03
  obtain ⟨bk1, off1, cap1, k10, x10, a10, m10, n10, l10, hv1, c10, c11, c12, c13, hT1⟩ := IsKids.at HK.out (k := 1) (t := b) rfl
  simp only [Value.slice.injEq, Option.some.injEq, Addr.mk.injEq, and_true] at hv1
  obtain ⟨⟨rfl, rfl⟩, -, -⟩ := hv1
  simp only [Nat.zero_mul, Nat.add_zero, Nat.one_mul, Nat.reduceMul, Nat.add_assoc, Nat.reduceAdd] at c10 c11 c12 c13
  have hlen0 := writP_len e hsh.2.1
  obtain ⟨S0, hS0⟩ : ∃ S : ByteArray, S = ⟨(writP e).toArray⟩ := ⟨_, rfl⟩
  have hSz0 : S0.size ≤ 703000000 := by rw [hS0]; exact size_of_list _ _ (by omega)
  have HC0 := Lib.hid (fun W (hW : Below w.heap.size w W) => rwritten_any e F W _ (hT0.step hW) (by omega) hsh.2.1 he)
  rw [← hS0] at HC0
  have hlen1 := braceP_len b bl hsh.2.2.1 (by omega)
  obtain ⟨S1, hS1⟩ : ∃ S : ByteArray, S = ⟨(braceP b bl).toArray⟩ := ⟨_, rfl⟩
  have hSz1 : S1.size ≤ 703000000 := by rw [hS1]; exact size_of_list _ _ (by omega)
  have HC1 := Lib.hid (fun W (hW : Below w.heap.size w W) => HBR b F W _ bl (hT1.step hW) (by omega) (by omega) hsh.2.2.1 hbk (by omega))
  rw [← hS1] at HC1
  have HQ := Lib.hid (show (⟨#[105, 102, 32]⟩ ++ S0 ++ ⟨#[32]⟩ ++ S1 : ByteArray) = ⟨(lineP (.node 2 tx [e, b] l) bl).toArray⟩ by rw [lineP_2]; exact ba_of_list (by simp [ByteArray.data_append, lineI, hS0, hS1]))
  have HB0 := Lib.hid (bel_new w (.cells #[.int .i64 2, .string ⟨tx.toArray⟩, .slice (some ⟨bk0, off0, none⟩) 2 c, .int .i64 l] 26))
  have HX0 := Lib.hid (heap_alloc_new w (.cells #[.int .i64 2, .string ⟨tx.toArray⟩, .slice (some ⟨bk0, off0, none⟩) 2 c, .int .i64 l] 26))
  obtain ⟨r0, r1, r2, r3, q0, q1, q2, q3⟩ := box4 HX0.out
  have d00 := keep_at HB0.out c00
  have d01 := keep_at HB0.out c01
  have d02 := keep_at HB0.out c02
  have d03 := keep_at HB0.out c03
  have d10 := keep_at HB0.out c10
  have d11 := keep_at HB0.out c11
  have d12 := keep_at HB0.out c12
  have d13 := keep_at HB0.out c13
  clear hd hs hsh hbl HK hS0 hS1 he hbk hlen0 hlen1 HBR
  go_enter Tryd.func50, Tryd.ntmps50
  go_upto_region 1 with fail
  have R1 := fun d os => cell_regrown (r0) d os
  have R2 := fun d os => cell_regrown (r1) d os
  have R3 := fun d os => cell_regrown (r2) d os
  have R4 := fun d os => cell_regrown (r3) d os
  have R5 := fun d os => cell_regrown (d00) d os
  have R6 := fun d os => cell_regrown (d01) d os
  have R7 := fun d os => cell_regrown (d02) d os
  have R8 := fun d os => cell_regrown (d03) d os
  have R9 := fun d os => cell_regrown (d10) d os
  have R10 := fun d os => cell_regrown (d11) d os
  have R11 := fun d os => cell_regrown (d12) d os
  have R12 := fun d os => cell_regrown (d13) d os
  refine wp_region_quiet_below (by kernel_rfl) (by kernel_rfl) ?_
  repeat (go_big_quiet_step (first | (go_at_call 52; (with_reducible refine Calls.regrown_of (HC0.out _ ?_)); exact HB0.out.trans ((below_regrown _ _ _).mono HB0.out.size)) | (go_at_call 75; (with_reducible refine Calls.regrown_of (HC1.out _ ?_)); exact HB0.out.trans ((below_regrown _ _ _).mono HB0.out.size))))
  clear R1 R2 R3 R4 R5 R6 R7 R8 R9 R10 R11 R12
  refine wpQuiet_nil ?_
  intro w6 hw6
  have HB6 := Lib.hid (show Below w.heap.size w w6 by obtain ⟨p, rfl⟩ := hw6; exact HB0.out.trans ((below_regrown _ p.d p.os).mono HB0.out.size))
  have HX6 := Lib.hid (keep_blk (show Below (w.alloc _).heap.size (w.alloc _) w6 by obtain ⟨p, rfl⟩ := hw6; exact below_regrown _ p.d p.os) HX0.out)
  obtain ⟨s0, s1, s2, s3, z0, z1, z2, z3⟩ := box4 HX6.out
  have g00 := keep_at HB6.out c00
  have g01 := keep_at HB6.out c01
  have g02 := keep_at HB6.out c02
  have g03 := keep_at HB6.out c03
  have g10 := keep_at HB6.out c10
  have g11 := keep_at HB6.out c11
  have g12 := keep_at HB6.out c12
  have g13 := keep_at HB6.out c13
  clear hw6
  go_wp2_with fail
  go_ret
  exact ⟨ret_str (by first | (rw [← HQ.out]; done) | (rw [← HQ.out]; exact ba_of_list (by simp [ByteArray.data_append]))), HB6.out⟩
set_option maxRecDepth 20000 in
set_option maxHeartbeats 1000000 in
theorem chain_3l (n : Nat) (HBR : LineC 75 blOK braceP n) (HLN : LineC 50 ifOK lineP n) (tx : List UInt8) (e : Tree) (b : Tree) (x : Tree) (l : Int) (F : Nat → Prop) (w : World) (v : Value) (bl : List UInt8) (ht : IsT w F (.node 2 tx [e, b, x] l) v) (hd : depthT (.node 2 tx [e, b, x] l) ≤ n + 1) (hs : sizeT (.node 2 tx [e, b, x] l) ≤ 1000) (hsh : shortT (.node 2 tx [e, b, x] l)) (hbl : bl.length + 2 * depthT (.node 2 tx [e, b, x] l) ≤ 1000) (he : exprOK e = true) (hbk : blOK b = true) (hxk : x.kind = 2) (hx : ifOK x = true) :
    Calls Tryd.prog 50 #[v, .string ⟨bl.toArray⟩] w fun e' w' => e' = .returned (.string ⟨(lineP (.node 2 tx [e, b, x] l) bl).toArray⟩) ∧ Below w.heap.size w w' := by
  obtain ⟨kv, rfl, hks⟩ := isT_node.1 ht
  rw [depthT_node] at hd hbl
  rw [sizeT_node] at hs
  rw [shortT_node] at hsh
  simp only [sizeL_cons, sizeL_nil, depthL_cons, depthL_nil] at hs hd hbl
  try simp only [shortL_cons] at hsh
  obtain ⟨a, c, rfl⟩ : ∃ a c, kv = .slice a 3 c := by
    obtain ⟨a, c, hv, _⟩ := hks
    exact ⟨a, c, hv⟩
  have HK := Lib.hid hks
  have htx := hsh.1
  have htz := size_of_list tx _ htx
  have hbl2 : bl.length ≤ 1000 := by omega
  have hbz := size_of_list bl _ hbl2
  clear ht hks
  obtain ⟨bk0, off0, cap0, k00, x00, a00, m00, n00, l00, hv0, c00, c01, c02, c03, hT0⟩ := IsKids.at HK.out (k := 0) (t := e) rfl
  simp only [Value.slice.injEq] at hv0
  obtain ⟨rfl, -, rfl⟩ := hv0
  simp only [Nat.zero_mul, Nat.add_zero, Nat.one_mul, Nat.reduceMul, Nat.add_assoc, Nat.reduceAdd] at c00 c01 c02 c03
  obtain ⟨bk1, off1, cap1, k10, x10, a10, m10, n10, l10, hv1, c10, c11, c12, c13, hT1⟩ := IsKids.at HK.out (k := 1) (t := b) rfl
  simp only [Value.slice.injEq, Option.some.injEq, Addr.mk.injEq, and_true] at hv1
  obtain ⟨⟨rfl, rfl⟩, -, -⟩ := hv1
  simp only [Nat.zero_mul, Nat.add_zero, Nat.one_mul, Nat.reduceMul, Nat.add_assoc, Nat.reduceAdd] at c10 c11 c12 c13
  obtain ⟨bk2, off2, cap2, k20, x20, a20, m20, n20, l20, hv2, c20, c21, c22, c23, hT2⟩ := IsKids.at HK.out (k := 2) (t := x) rfl
  simp only [Value.slice.injEq, Option.some.injEq, Addr.mk.injEq, and_true] at hv2
  obtain ⟨⟨rfl, rfl⟩, -, -⟩ := hv2
  simp only [Nat.zero_mul, Nat.add_zero, Nat.one_mul, Nat.reduceMul, Nat.add_assoc, Nat.reduceAdd] at c20 c21 c22 c23
  have hlen0 := writP_len e hsh.2.1
  obtain ⟨S0, hS0⟩ : ∃ S : ByteArray, S = ⟨(writP e).toArray⟩ := ⟨_, rfl⟩
  have hSz0 : S0.size ≤ 703000000 := by rw [hS0]; exact size_of_list _ _ (by omega)
  have HC0 := Lib.hid (fun W (hW : Below w.heap.size w W) => rwritten_any e F W _ (hT0.step hW) (by omega) hsh.2.1 he)
  rw [← hS0] at HC0
  have hlen1 := braceP_len b bl hsh.2.2.1 (by omega)
  obtain ⟨S1, hS1⟩ : ∃ S : ByteArray, S = ⟨(braceP b bl).toArray⟩ := ⟨_, rfl⟩
  have hSz1 : S1.size ≤ 703000000 := by rw [hS1]; exact size_of_list _ _ (by omega)
  have HC1 := Lib.hid (fun W (hW : Below w.heap.size w W) => HBR b F W _ bl (hT1.step hW) (by omega) (by omega) hsh.2.2.1 hbk (by omega))
  rw [← hS1] at HC1
  have hlen2 := lineP_len x bl hsh.2.2.2.1 (by omega)
  obtain ⟨S2, hS2⟩ : ∃ S : ByteArray, S = ⟨(lineP x bl).toArray⟩ := ⟨_, rfl⟩
  have hSz2 : S2.size ≤ 703000000 := by rw [hS2]; exact size_of_list _ _ (by omega)
  have HC2 := Lib.hid (fun W (hW : Below w.heap.size w W) => HLN x F W _ bl (hT2.step hW) (by omega) (by omega) hsh.2.2.2.1 hx (by omega))
  rw [← hS2] at HC2
  have hkx := isT_kindOf hT2
  have HQ := Lib.hid (show (⟨#[105, 102, 32]⟩ ++ S0 ++ ⟨#[32]⟩ ++ S1 ++ ⟨#[32, 101, 108, 115, 101, 32]⟩ ++ S2 : ByteArray) = ⟨(lineP (.node 2 tx [e, b, x] l) bl).toArray⟩ by rw [lineP_3, if_pos hxk]; exact ba_of_list (by simp [ByteArray.data_append, lineI, hS0, hS1, hS2]))
  have HB0 := Lib.hid (bel_new w (.cells #[.int .i64 2, .string ⟨tx.toArray⟩, .slice (some ⟨bk0, off0, none⟩) 3 c, .int .i64 l] 26))
  have HX0 := Lib.hid (heap_alloc_new w (.cells #[.int .i64 2, .string ⟨tx.toArray⟩, .slice (some ⟨bk0, off0, none⟩) 3 c, .int .i64 l] 26))
  obtain ⟨r0, r1, r2, r3, q0, q1, q2, q3⟩ := box4 HX0.out
  have d00 := keep_at HB0.out c00
  have d01 := keep_at HB0.out c01
  have d02 := keep_at HB0.out c02
  have d03 := keep_at HB0.out c03
  have d10 := keep_at HB0.out c10
  have d11 := keep_at HB0.out c11
  have d12 := keep_at HB0.out c12
  have d13 := keep_at HB0.out c13
  have d20 := keep_at HB0.out c20
  have d21 := keep_at HB0.out c21
  have d22 := keep_at HB0.out c22
  have d23 := keep_at HB0.out c23
  obtain rfl : k20 = 2 := hkx.trans hxk
  clear hd hs hsh hbl HK hS0 hS1 hS2 he hbk hx hlen0 hlen1 hlen2 HBR HLN hkx hxk
  go_enter Tryd.func50, Tryd.ntmps50
  go_upto_region 1 with fail
  have R1 := fun d os => cell_regrown (r0) d os
  have R2 := fun d os => cell_regrown (r1) d os
  have R3 := fun d os => cell_regrown (r2) d os
  have R4 := fun d os => cell_regrown (r3) d os
  have R5 := fun d os => cell_regrown (d00) d os
  have R6 := fun d os => cell_regrown (d01) d os
  have R7 := fun d os => cell_regrown (d02) d os
  have R8 := fun d os => cell_regrown (d03) d os
  have R9 := fun d os => cell_regrown (d10) d os
  have R10 := fun d os => cell_regrown (d11) d os
  have R11 := fun d os => cell_regrown (d12) d os
  have R12 := fun d os => cell_regrown (d13) d os
  have R13 := fun d os => cell_regrown (d20) d os
  have R14 := fun d os => cell_regrown (d21) d os
  have R15 := fun d os => cell_regrown (d22) d os
  have R16 := fun d os => cell_regrown (d23) d os
  refine wp_region_quiet_below (by kernel_rfl) (by kernel_rfl) ?_
  repeat (go_big_quiet_step (first | (go_at_call 52; (with_reducible refine Calls.regrown_of (HC0.out _ ?_)); exact HB0.out.trans ((below_regrown _ _ _).mono HB0.out.size)) | (go_at_call 75; (with_reducible refine Calls.regrown_of (HC1.out _ ?_)); exact HB0.out.trans ((below_regrown _ _ _).mono HB0.out.size))))
  clear R1 R2 R3 R4 R5 R6 R7 R8 R9 R10 R11 R12 R13 R14 R15 R16
  refine wpQuiet_nil ?_
  intro w6 hw6
  have HB6 := Lib.hid (show Below w.heap.size w w6 by obtain ⟨p, rfl⟩ := hw6; exact HB0.out.trans ((below_regrown _ p.d p.os).mono HB0.out.size))
  have HX6 := Lib.hid (keep_blk (show Below (w.alloc _).heap.size (w.alloc _) w6 by obtain ⟨p, rfl⟩ := hw6; exact below_regrown _ p.d p.os) HX0.out)
  obtain ⟨s0, s1, s2, s3, z0, z1, z2, z3⟩ := box4 HX6.out
  have g00 := keep_at HB6.out c00
  have g01 := keep_at HB6.out c01
  have g02 := keep_at HB6.out c02
  have g03 := keep_at HB6.out c03
  have g10 := keep_at HB6.out c10
  have g11 := keep_at HB6.out c11
  have g12 := keep_at HB6.out c12
  have g13 := keep_at HB6.out c13
  have g20 := keep_at HB6.out c20
  have g21 := keep_at HB6.out c21
  have g22 := keep_at HB6.out c22
  have g23 := keep_at HB6.out c23
  clear hw6
  go_wp2_with (first | (go_at_call 50; (with_reducible refine (HC2.out _ HB6.out).mono ?_); rintro e1 w7 ⟨rfl, hb⟩; have HB7 := Lib.hid (HB6.out.trans (hb.mono HB6.out.size)); clear hb))
  go_ret
  exact ⟨ret_str (by first | (rw [← HQ.out]; done) | (rw [← HQ.out]; exact ba_of_list (by simp [ByteArray.data_append]))), HB7.out⟩
set_option maxRecDepth 20000 in
set_option maxHeartbeats 1000000 in
theorem chain_3b (n : Nat) (HBR : LineC 75 blOK braceP n) (HLN : LineC 50 ifOK lineP n) (tx : List UInt8) (e : Tree) (b : Tree) (x : Tree) (l : Int) (F : Nat → Prop) (w : World) (v : Value) (bl : List UInt8) (ht : IsT w F (.node 2 tx [e, b, x] l) v) (hd : depthT (.node 2 tx [e, b, x] l) ≤ n + 1) (hs : sizeT (.node 2 tx [e, b, x] l) ≤ 1000) (hsh : shortT (.node 2 tx [e, b, x] l)) (hbl : bl.length + 2 * depthT (.node 2 tx [e, b, x] l) ≤ 1000) (he : exprOK e = true) (hbk : blOK b = true) (hxk : ¬ x.kind = 2) (hx : blOK x = true) :
    Calls Tryd.prog 50 #[v, .string ⟨bl.toArray⟩] w fun e' w' => e' = .returned (.string ⟨(lineP (.node 2 tx [e, b, x] l) bl).toArray⟩) ∧ Below w.heap.size w w' := by
  obtain ⟨kv, rfl, hks⟩ := isT_node.1 ht
  rw [depthT_node] at hd hbl
  rw [sizeT_node] at hs
  rw [shortT_node] at hsh
  simp only [sizeL_cons, sizeL_nil, depthL_cons, depthL_nil] at hs hd hbl
  try simp only [shortL_cons] at hsh
  obtain ⟨a, c, rfl⟩ : ∃ a c, kv = .slice a 3 c := by
    obtain ⟨a, c, hv, _⟩ := hks
    exact ⟨a, c, hv⟩
  have HK := Lib.hid hks
  have htx := hsh.1
  have htz := size_of_list tx _ htx
  have hbl2 : bl.length ≤ 1000 := by omega
  have hbz := size_of_list bl _ hbl2
  clear ht hks
  obtain ⟨bk0, off0, cap0, k00, x00, a00, m00, n00, l00, hv0, c00, c01, c02, c03, hT0⟩ := IsKids.at HK.out (k := 0) (t := e) rfl
  simp only [Value.slice.injEq] at hv0
  obtain ⟨rfl, -, rfl⟩ := hv0
  simp only [Nat.zero_mul, Nat.add_zero, Nat.one_mul, Nat.reduceMul, Nat.add_assoc, Nat.reduceAdd] at c00 c01 c02 c03
  obtain ⟨bk1, off1, cap1, k10, x10, a10, m10, n10, l10, hv1, c10, c11, c12, c13, hT1⟩ := IsKids.at HK.out (k := 1) (t := b) rfl
  simp only [Value.slice.injEq, Option.some.injEq, Addr.mk.injEq, and_true] at hv1
  obtain ⟨⟨rfl, rfl⟩, -, -⟩ := hv1
  simp only [Nat.zero_mul, Nat.add_zero, Nat.one_mul, Nat.reduceMul, Nat.add_assoc, Nat.reduceAdd] at c10 c11 c12 c13
  obtain ⟨bk2, off2, cap2, k20, x20, a20, m20, n20, l20, hv2, c20, c21, c22, c23, hT2⟩ := IsKids.at HK.out (k := 2) (t := x) rfl
  simp only [Value.slice.injEq, Option.some.injEq, Addr.mk.injEq, and_true] at hv2
  obtain ⟨⟨rfl, rfl⟩, -, -⟩ := hv2
  simp only [Nat.zero_mul, Nat.add_zero, Nat.one_mul, Nat.reduceMul, Nat.add_assoc, Nat.reduceAdd] at c20 c21 c22 c23
  have hlen0 := writP_len e hsh.2.1
  obtain ⟨S0, hS0⟩ : ∃ S : ByteArray, S = ⟨(writP e).toArray⟩ := ⟨_, rfl⟩
  have hSz0 : S0.size ≤ 703000000 := by rw [hS0]; exact size_of_list _ _ (by omega)
  have HC0 := Lib.hid (fun W (hW : Below w.heap.size w W) => rwritten_any e F W _ (hT0.step hW) (by omega) hsh.2.1 he)
  rw [← hS0] at HC0
  have hlen1 := braceP_len b bl hsh.2.2.1 (by omega)
  obtain ⟨S1, hS1⟩ : ∃ S : ByteArray, S = ⟨(braceP b bl).toArray⟩ := ⟨_, rfl⟩
  have hSz1 : S1.size ≤ 703000000 := by rw [hS1]; exact size_of_list _ _ (by omega)
  have HC1 := Lib.hid (fun W (hW : Below w.heap.size w W) => HBR b F W _ bl (hT1.step hW) (by omega) (by omega) hsh.2.2.1 hbk (by omega))
  rw [← hS1] at HC1
  have hlen2 := braceP_len x bl hsh.2.2.2.1 (by omega)
  obtain ⟨S2, hS2⟩ : ∃ S : ByteArray, S = ⟨(braceP x bl).toArray⟩ := ⟨_, rfl⟩
  have hSz2 : S2.size ≤ 703000000 := by rw [hS2]; exact size_of_list _ _ (by omega)
  have HC2 := Lib.hid (fun W (hW : Below w.heap.size w W) => HBR x F W _ bl (hT2.step hW) (by omega) (by omega) hsh.2.2.2.1 hx (by omega))
  rw [← hS2] at HC2
  have hkx := isT_kindOf hT2
  have HQ := Lib.hid (show (⟨#[105, 102, 32]⟩ ++ S0 ++ ⟨#[32]⟩ ++ S1 ++ ⟨#[32, 101, 108, 115, 101, 32]⟩ ++ S2 : ByteArray) = ⟨(lineP (.node 2 tx [e, b, x] l) bl).toArray⟩ by rw [lineP_3, if_neg hxk]; exact ba_of_list (by simp [ByteArray.data_append, lineI, hS0, hS1, hS2]))
  have HB0 := Lib.hid (bel_new w (.cells #[.int .i64 2, .string ⟨tx.toArray⟩, .slice (some ⟨bk0, off0, none⟩) 3 c, .int .i64 l] 26))
  have HX0 := Lib.hid (heap_alloc_new w (.cells #[.int .i64 2, .string ⟨tx.toArray⟩, .slice (some ⟨bk0, off0, none⟩) 3 c, .int .i64 l] 26))
  obtain ⟨r0, r1, r2, r3, q0, q1, q2, q3⟩ := box4 HX0.out
  have d00 := keep_at HB0.out c00
  have d01 := keep_at HB0.out c01
  have d02 := keep_at HB0.out c02
  have d03 := keep_at HB0.out c03
  have d10 := keep_at HB0.out c10
  have d11 := keep_at HB0.out c11
  have d12 := keep_at HB0.out c12
  have d13 := keep_at HB0.out c13
  have d20 := keep_at HB0.out c20
  have d21 := keep_at HB0.out c21
  have d22 := keep_at HB0.out c22
  have d23 := keep_at HB0.out c23
  have hkb : (k20 == 2) = false := beq_eq_false_iff_ne.2 (by rw [hkx]; exact hxk)
  have hkn : ¬ k20 = 2 := by rw [hkx]; exact hxk
  clear hd hs hsh hbl HK hS0 hS1 hS2 he hbk hx hlen0 hlen1 hlen2 HBR HLN hkx hxk
  go_enter Tryd.func50, Tryd.ntmps50
  go_upto_region 1 with fail
  have R1 := fun d os => cell_regrown (r0) d os
  have R2 := fun d os => cell_regrown (r1) d os
  have R3 := fun d os => cell_regrown (r2) d os
  have R4 := fun d os => cell_regrown (r3) d os
  have R5 := fun d os => cell_regrown (d00) d os
  have R6 := fun d os => cell_regrown (d01) d os
  have R7 := fun d os => cell_regrown (d02) d os
  have R8 := fun d os => cell_regrown (d03) d os
  have R9 := fun d os => cell_regrown (d10) d os
  have R10 := fun d os => cell_regrown (d11) d os
  have R11 := fun d os => cell_regrown (d12) d os
  have R12 := fun d os => cell_regrown (d13) d os
  have R13 := fun d os => cell_regrown (d20) d os
  have R14 := fun d os => cell_regrown (d21) d os
  have R15 := fun d os => cell_regrown (d22) d os
  have R16 := fun d os => cell_regrown (d23) d os
  refine wp_region_quiet_below (by kernel_rfl) (by kernel_rfl) ?_
  repeat (go_big_quiet_step (first | (go_at_call 52; (with_reducible refine Calls.regrown_of (HC0.out _ ?_)); exact HB0.out.trans ((below_regrown _ _ _).mono HB0.out.size)) | (go_at_call 75; (with_reducible refine Calls.regrown_of (HC1.out _ ?_)); exact HB0.out.trans ((below_regrown _ _ _).mono HB0.out.size))))
  clear R1 R2 R3 R4 R5 R6 R7 R8 R9 R10 R11 R12 R13 R14 R15 R16
  refine wpQuiet_nil ?_
  intro w6 hw6
  have HB6 := Lib.hid (show Below w.heap.size w w6 by obtain ⟨p, rfl⟩ := hw6; exact HB0.out.trans ((below_regrown _ p.d p.os).mono HB0.out.size))
  have HX6 := Lib.hid (keep_blk (show Below (w.alloc _).heap.size (w.alloc _) w6 by obtain ⟨p, rfl⟩ := hw6; exact below_regrown _ p.d p.os) HX0.out)
  obtain ⟨s0, s1, s2, s3, z0, z1, z2, z3⟩ := box4 HX6.out
  have g00 := keep_at HB6.out c00
  have g01 := keep_at HB6.out c01
  have g02 := keep_at HB6.out c02
  have g03 := keep_at HB6.out c03
  have g10 := keep_at HB6.out c10
  have g11 := keep_at HB6.out c11
  have g12 := keep_at HB6.out c12
  have g13 := keep_at HB6.out c13
  have g20 := keep_at HB6.out c20
  have g21 := keep_at HB6.out c21
  have g22 := keep_at HB6.out c22
  have g23 := keep_at HB6.out c23
  clear hw6
  go_wp2_with (first | (go_at_call 75; (with_reducible refine (HC2.out _ HB6.out).mono ?_); rintro e1 w7 ⟨rfl, hb⟩; have HB7 := Lib.hid (HB6.out.trans (hb.mono HB6.out.size)); clear hb))
  go_ret
  exact ⟨ret_str (by first | (rw [← HQ.out]; done) | (rw [← HQ.out]; exact ba_of_list (by simp [ByteArray.data_append]))), HB7.out⟩
theorem chain_ok (n : Nat) (HB : LineC 75 blOK braceP n) (HL : LineC 50 ifOK lineP n) : LineC 50 ifOK lineP (n + 1) := by
  intro t F w v bl ht hd hs hsh hok hbl
  obtain ⟨k, tx, ks, l⟩ := t
  unfold ifOK at hok
  rw [Bool.and_eq_true, decide_eq_true_iff] at hok
  obtain ⟨hok, hk⟩ := hok
  obtain rfl : k = 2 := hk
  rcases ks with _ | ⟨e, _ | ⟨b, _ | ⟨x, _ | ⟨y, r⟩⟩⟩⟩
  · rw [stOK_0] at hok
    simp [head0] at hok
  · rw [stOK_1, Bool.and_eq_true] at hok
    simp [head1] at hok
  · rw [stOK_2, Bool.and_eq_true, Bool.and_eq_true] at hok
    obtain ⟨h1, he, hb⟩ := hok
    exact chain_2 n HB tx e b l F w v bl ht hd hs hsh hbl he hb
  · rw [stOK_3, Bool.and_eq_true, Bool.and_eq_true, Bool.and_eq_true, Bool.or_eq_true, Bool.and_eq_true, decide_eq_true_iff] at hok
    obtain ⟨h1, he, hb, hx⟩ := hok
    have hbk : ∀ t : Tree, blOK t = true → t.kind = 12 := by
      intro t h
      obtain ⟨k, tx, ks, l⟩ := t
      rw [blOK_node] at h
      simp only [Bool.and_eq_true, decide_eq_true_eq] at h
      exact h.1.1
    rcases hx with hx | ⟨hxk, hx⟩
    · exact chain_3b n HB HL tx e b x l F w v bl ht hd hs hsh hbl he hb (by rw [hbk x hx]; decide) hx
    · exact chain_3l n HB HL tx e b x l F w v bl ht hd hs hsh hbl he hb hxk (by unfold ifOK; rw [hx, decide_eq_true hxk]; rfl)
  · rw [stOK_4 (by simp)] at hok
    cases hok
theorem rline_ok (n : Nat) (HCh : LineC 50 ifOK lineP (n + 1)) : LineC 39 stOK rlineP (n + 1) := by
  intro t F w v bl ht hd hs hsh hok hbl
  obtain ⟨k, tx, ks, l⟩ := t
  by_cases h2 : k = 2
  · subst h2
    exact rline_2 (n + 1) HCh tx ks l F w v bl ht hd hs hsh hok hbl
  rw [stOK_not2 h2] at hok
  rcases ks with _ | ⟨e, _ | ⟨b, r⟩⟩
  · by_cases h6 : k = 6
    · subst h6
      exact rline_6 n tx l F w v bl ht hd hs hsh hbl (by simpa [head0] using hok)
    by_cases h10 : k = 10
    · subst h10
      exact rline_10 n tx l F w v bl ht hd hs hsh hbl
    by_cases h11 : k = 11
    · subst h11
      exact rline_11 n tx l F w v bl ht hd hs hsh hbl
    simp [head0, h6, h10, h11] at hok
  · rw [Bool.and_eq_true] at hok
    obtain ⟨hh, he⟩ := hok
    by_cases h3 : k = 3
    · subst h3
      exact rline_3 n tx e l F w v bl ht hd hs hsh hbl he
    by_cases h4 : k = 4
    · subst h4
      exact rline_4 n tx e l F w v bl ht hd hs hsh hbl he
    by_cases h5 : k = 5
    · subst h5
      exact rline_5 n tx e l F w v bl ht hd hs hsh hbl he (by simpa [head1] using hh)
    by_cases h7 : k = 7
    · subst h7
      exact rline_7 n tx e l F w v bl ht hd hs hsh hbl he
    by_cases h8 : k = 8
    · subst h8
      exact rline_8 n tx e l F w v bl ht hd hs hsh hbl he
    by_cases h9 : k = 9
    · subst h9
      exact rline_9 n tx e l F w v bl ht hd hs hsh hbl he
    simp [head1, h3, h4, h5, h7, h8, h9] at hh
  · cases hok
theorem linesP_some {ks : List Tree} {q : Nat} {t : Tree} {bl : List UInt8} (h : ks[q]? = some t) : linesP (ks.take (q + 1)) bl = linesP (ks.take q) bl ++ rlineP t bl := linesP_take h
set_option maxRecDepth 20000 in
set_option maxHeartbeats 2000000 in
theorem inner_ok (n : Nat) (HC : LineC 39 stOK rlineP n) : LineC 75 blOK braceP (n + 1) := by
  intro t F w v bl ht hd hs hsh hok hbl
  obtain ⟨k, tx, ks, l⟩ := t
  obtain ⟨kv, rfl, hks⟩ := isT_node.1 ht
  rw [depthT_node] at hd hbl
  rw [sizeT_node] at hs
  rw [shortT_node] at hsh
  rw [blOK_node, Bool.and_eq_true] at hok
  have hb2 : (bl ++ [32, 32]).length + 2 * depthL ks ≤ 1000 := by simp only [List.length_append, List.length_cons, List.length_nil]; omega
  have hlen := linesP_len ks (bl ++ [32, 32]) hsh.2 hb2
  have hl : ks.length ≤ 1000 := by have := len_le_size ks; omega
  have hbl2 : bl.length ≤ 1000 := by omega
  have hbz := size_of_list bl _ hbl2
  have HK := Lib.hid hks
  have HCall := Lib.hid HC
  have HD := Lib.hid hd
  have HS := Lib.hid hs
  have HSH := Lib.hid hsh.2
  have HOK := Lib.hid hok.2
  have HBL := Lib.hid hb2
  have HLN := Lib.hid (show (linesP ks (bl ++ [32, 32])).length ≤ 703000000 by omega)
  have HE := Lib.hid (show (⟨bl.toArray⟩ ++ ⟨#[32, 32]⟩ : ByteArray) = ⟨(bl ++ [32, 32]).toArray⟩ from ba_of_list (by simp [ByteArray.data_append]))
  have HR := Lib.hid (braceP_node (k := k) (tx := tx) (ks := ks) (l := l) (bl := bl))
  obtain ⟨a, c, rfl⟩ : ∃ a c, kv = .slice a ks.length c := by
    obtain ⟨a, c, hv, _⟩ := hks
    exact ⟨a, c, hv⟩
  have HB0 := Lib.hid (bel_new w (.cells #[.int .i64 k, .string ⟨tx.toArray⟩, .slice a ks.length c, .int .i64 l] 26))
  have HX0 := Lib.hid (heap_alloc_new w (.cells #[.int .i64 k, .string ⟨tx.toArray⟩, .slice a ks.length c, .int .i64 l] 26))
  obtain ⟨r0, r1, r2, r3, q0, q1, q2, q3⟩ := box4 HX0.out
  clear ht hks hd hs hsh hok hbl HC hlen hb2
  go_enter Tryd.func75, Tryd.ntmps75
  go_wp2_with fail
  go_loopw [5, 10] (fun x i wr => ∃ q : Nat, ∃ X : ByteArray, i = .int .i64 q ∧ q ≤ ks.length ∧ x = .string X ∧ X = ⟨([123, 10] ++ linesP (ks.take q) (bl ++ [32, 32])).toArray⟩ ∧ Below w.heap.size w wr ∧ wr.heap[w.heap.size]? = some (.cells #[.int .i64 k, .string ⟨tx.toArray⟩, .slice a ks.length c, .int .i64 l] 26 (0, 0))) (fun _ i _ => ks.length - (intOf i).toNat)
  case atStart => exact ⟨0, _, rfl, Nat.zero_le _, rfl, by rw [List.take_zero, linesP_nil]; rfl, HB0.out, HX0.out⟩
  case round =>
    obtain ⟨q, X, rfl, hq, rfl, hX, hb, hx⟩ := hrel
    have HB := Lib.hid hb
    have HBX := Lib.hid hx
    have hXs : X.size ≤ 703000002 := by
      rw [hX]
      refine size_of_list _ _ ?_
      have h1 := linesP_append (ks.take q) (ks.drop q) (bl ++ [32, 32])
      rw [List.take_append_drop] at h1
      have h2 := congrArg List.length h1
      rw [List.length_append] at h2
      have := HLN.out
      simp only [List.length_append, List.length_cons, List.length_nil] at *
      omega
    have HX := Lib.hid hX
    clear hb hX hx
    obtain ⟨e0, e1, e2, e3, f0, f1, f2, f3⟩ := box4 HBX.out
    by_cases hlt : q < ks.length
    · obtain ⟨t', ht'⟩ : ∃ t', ks[q]? = some t' := ⟨_, List.getElem?_eq_getElem hlt⟩
      obtain ⟨b, off, cap, k0, x0, a0, m0, n0, l0, hv, c0, c1, c2, c3, hT⟩ := IsKids.at (HK.out.step HB.out) ht'
      simp only [Value.slice.injEq] at hv
      obtain ⟨rfl, -, rfl⟩ := hv
      have h3 := depthT_mem (List.mem_of_getElem? ht')
      have h4 := sizeT_mem (List.mem_of_getElem? ht')
      have h5 := shortT_at HSH.out ht'
      have h6 := stOK_at HOK.out ht'
      have h7 := lineP_len t' (bl ++ [32, 32]) h5 (by have := HBL.out; omega)
      have HT := Lib.hid hT
      have HTK := Lib.hid (linesP_some (bl := bl ++ [32, 32]) ht')
      have HCC := Lib.hid (fun W (hW : IsT W F t' (.agg #[.int .i64 k0, .string ⟨x0.toArray⟩, .slice a0 m0 n0, .int .i64 l0])) => HCall.out t' F W _ (bl ++ [32, 32]) hW (by have := HD.out; omega) (by have := HS.out; omega) h5 h6 (by have := HBL.out; omega))
      obtain ⟨S, hS⟩ : ∃ S : ByteArray, S = ⟨(rlineP t' (bl ++ [32, 32])).toArray⟩ := ⟨_, rfl⟩
      have hSs : S.size ≤ 703100000 := by rw [hS]; exact size_of_list _ _ (by have := HS.out; have := HBL.out; unfold rlineP; simp only [List.length_append, List.length_cons, List.length_nil] at *; omega)
      rw [← hS, ← HE.out] at HCC
      have HS2 := Lib.hid hS
      have hlti : (q : Int) < (ks.length : Int) := by omega
      clear h3 h4 h5 h6 h7 hT ht' hS
      go_wp2_with (first | (go_at_call 39; (with_reducible refine (HCC.out _ HT.out).mono ?_); rintro e w2 ⟨rfl, hb1⟩; have HB2 := Lib.hid hb1; clear hb1))
      go_roundw
      case rel => exact ⟨q + 1, _, by go_num, by omega, rfl, by rw [HTK.out, HX.out, HS2.out]; exact ba_of_list (by simp [ByteArray.data_append]), HB.out.trans (HB2.out.mono HB.out.size), keep_blk HB2.out HBX.out⟩
      case measure => simp [intOf]; omega
    · have hq2 : q = ks.length := by omega
      subst hq2
      rw [List.take_length] at HX
      go_wp2_with fail
      go_ret
      exact ⟨ret_str (by rw [HR.out, HX.out]; exact ba_of_list (by simp [ByteArray.data_append])), HB.out⟩
theorem rline_all : ∀ n, LineC 75 blOK braceP n ∧ LineC 50 ifOK lineP n ∧ LineC 39 stOK rlineP n
  | 0 => ⟨fun t F w v bl ht hd hs hsh hok hbl => by have := depth_pos t; omega, fun t F w v bl ht hd hs hsh hok hbl => by have := depth_pos t; omega, fun t F w v bl ht hd hs hsh hok hbl => by have := depth_pos t; omega⟩
  | n + 1 => ⟨inner_ok n (rline_all n).2.2, chain_ok n (rline_all n).1 (rline_all n).2.1, rline_ok n (chain_ok n (rline_all n).1 (rline_all n).2.1)⟩
end Go.Proofs.YtogkiifljdnjgaaDoor
