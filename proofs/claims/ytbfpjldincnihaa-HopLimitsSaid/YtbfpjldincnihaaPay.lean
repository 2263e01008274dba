/- The walk of hop.payload, for each kind's fields. No condition beyond the sizes that Encode lets through. -/
import Derived.Test.YtbfpjldincnihaaVals
namespace Go.Proofs.Ytbfpjldincnihaa
open Go.RowKit
set_option linter.unusedVariables false
set_option linter.unusedSimpArgs false

def numI (n : Int) : List UInt8 := numB (clampN n)
/-- The fields of a message but kind and number. -/
def payM (m : Msg) (u : Flds) : List UInt8 :=
  (if u.num then numI m.num else []) ++ ((if u.tot then numI m.tot else []) ++ ((if u.off then numI m.off else []) ++ ((if u.txt then textB m.txt else []) ++ ((if u.lst then textsB m.lst else []) ++ (if u.dat then textB m.dat else [])))))
def SmallM (m : Msg) : Prop := m.txt.length ≤ 8192 ∧ m.dat.length ≤ 65536 ∧ m.lst.length ≤ 1024 ∧ (textsB m.lst).length ≤ 3000000

set_option maxRecDepth 20000 in
set_option maxHeartbeats 2000000 in
theorem pay_1 (k id nm tt of : Int) (tx : List UInt8) (ls : List (List UInt8)) (dt : List UInt8) (la da : Option Addr) (lc dc : Nat) (w : World)
    (hT : IsT w (.slice la ls.length lc) ls) (hD : IsB w (.slice da dt.length dc) dt) (hS : SmallM (Msg.mk k id nm tt of tx ls dt)) :
    Calls Try.prog 30 #[(Msg.mk k id nm tt of tx ls dt).val (.slice la ls.length lc) (.slice da dt.length dc), (Flds.mk true true false false true true false).val] w fun e w' => ∃ u, e = .returned u ∧ OwnB w' w.heap.size u (payM (Msg.mk k id nm tt of tx ls dt) (Flds.mk true true false false true true false)) ∧ Below w.heap.size w w' := by
  unfold Msg.val Flds.val
  dsimp only
  obtain ⟨s1, s2, s3, s4⟩ := hS
  dsimp only at s1 s2 s3 s4
  have n1 := numB_len (clampN nm)
  have n2 := numB_len (clampN tt)
  have n3 := numB_len (clampN of)
  have n4 := numB_len tx.length
  have n5 := numB_len dt.length
  have SZ1 := Lib.hid (show (ByteArray.mk tx.toArray).size = tx.length by simp [ByteArray.size])
  have SZ2 := Lib.hid (show (ByteArray.mk dt.toArray).size = dt.length by simp [ByteArray.size])
  have SZ3 := Lib.hid (show (ByteArray.mk tx.toArray).data.toList.length = tx.length by simp)
  have N6 := Lib.hid (numB_len (ByteArray.mk tx.toArray).size)
  have HLS := Lib.hid (And.intro s3 s4)
  have HTT := Lib.hid hT
  have HDT := Lib.hid hD
  have HBL := Lib.hid (bel_alloc (x := (.cells #[.bool true, .bool true, .bool false, .bool false, .bool true, .bool true, .bool false] 56)) (bel_new w (.cells #[.int .i64 k, .int .i64 id, .int .i64 nm, .int .i64 tt, .int .i64 of, .string ⟨tx.toArray⟩, .slice la ls.length lc, .slice da dt.length dc] 25)))
  have hc : ∀ j v, (#[.int .i64 k, .int .i64 id, .int .i64 nm, .int .i64 tt, .int .i64 of, .string ⟨tx.toArray⟩, .slice la ls.length lc, .slice da dt.length dc] : Array Value)[j]? = some v → ((w.alloc (.cells #[.int .i64 k, .int .i64 id, .int .i64 nm, .int .i64 tt, .int .i64 of, .string ⟨tx.toArray⟩, .slice la ls.length lc, .slice da dt.length dc] 25)).alloc (.cells #[.bool true, .bool true, .bool false, .bool false, .bool true, .bool true, .bool false] 56)).cell? ⟨w.heap.size, j, none⟩ = some v := fun j v hj => keep_alloc ((cell_of_row _ _ _ _ _ _ (heap_alloc_new w _)).trans hj)
  have hf : ∀ j v, (#[.bool true, .bool true, .bool false, .bool false, .bool true, .bool true, .bool false] : Array Value)[j]? = some v → ((w.alloc (.cells #[.int .i64 k, .int .i64 id, .int .i64 nm, .int .i64 tt, .int .i64 of, .string ⟨tx.toArray⟩, .slice la ls.length lc, .slice da dt.length dc] 25)).alloc (.cells #[.bool true, .bool true, .bool false, .bool false, .bool true, .bool true, .bool false] 56)).cell? ⟨w.heap.size + 1, j, none⟩ = some v := fun j v hj => by
    have := (cell_of_row _ _ j _ _ _ (heap_alloc_new (w.alloc (.cells #[.int .i64 k, .int .i64 id, .int .i64 nm, .int .i64 tt, .int .i64 of, .string ⟨tx.toArray⟩, .slice la ls.length lc, .slice da dt.length dc] 25)) (.cells #[.bool true, .bool true, .bool false, .bool false, .bool true, .bool true, .bool false] 56))).trans hj
    simpa [go_sem] using this
  have c2 := hc 2 (.int .i64 nm) rfl
  have c3 := hc 3 (.int .i64 tt) rfl
  have c4 := hc 4 (.int .i64 of) rfl
  have c5 := hc 5 (.string ⟨tx.toArray⟩) rfl
  have c6 := hc 6 (.slice la ls.length lc) rfl
  have c7 := hc 7 (.slice da dt.length dc) rfl
  have f1 := hf 1 (.bool true) rfl
  have f2 := hf 2 (.bool false) rfl
  have f3 := hf 3 (.bool false) rfl
  have f4 := hf 4 (.bool true) rfl
  have f5 := hf 5 (.bool true) rfl
  have f6 := hf 6 (.bool false) rfl
  clear hT hD hc hf s4
  go_enter Try.func30, Try.ntmps30
  go_upto_region 1 with fail
  generalize ((w.alloc (.cells #[.int .i64 k, .int .i64 id, .int .i64 nm, .int .i64 tt, .int .i64 of, .string ⟨tx.toArray⟩, .slice la ls.length lc, .slice da dt.length dc] 25)).alloc (.cells #[.bool true, .bool true, .bool false, .bool false, .bool true, .bool true, .bool false] 56)) = W1 at *
  have HOW := Lib.hid (OwnB.nil W1 w.heap.size)
  go_wp2_with (first | (go_at_call 47; refine (appendUint_any _ _ _ _ HOW.out.isB (by simp only [List.length_append, List.length_nil]; omega)).mono ?_; rintro r W2 ⟨v2, rfl, ho2, hb2⟩; replace HOW := Lib.hid (ho2.mono HBL.out.size); replace HBL := Lib.hid (bel_step HBL.out hb2); have hst := run_str W2 _ _ (HDT.out.step HBL.out); replace c2 := keep_at hb2 c2; replace c3 := keep_at hb2 c3; replace c4 := keep_at hb2 c4; replace c5 := keep_at hb2 c5; replace c6 := keep_at hb2 c6; replace c7 := keep_at hb2 c7; replace f1 := keep_at hb2 f1; replace f2 := keep_at hb2 f2; replace f3 := keep_at hb2 f3; replace f4 := keep_at hb2 f4; replace f5 := keep_at hb2 f5; replace f6 := keep_at hb2 f6; clear ho2 hb2) | (go_at_call 48; refine (appendText_any _ _ _ _ HOW.out.isB (by have e1 := SZ1.out; have e2 := SZ2.out; simp only [List.length_append, List.length_nil]; omega)).mono ?_; rintro r W2 ⟨v2, rfl, ho2, hb2⟩; replace HOW := Lib.hid (ho2.mono HBL.out.size); replace HBL := Lib.hid (bel_step HBL.out hb2); have hst := run_str W2 _ _ (HDT.out.step HBL.out); replace c2 := keep_at hb2 c2; replace c3 := keep_at hb2 c3; replace c4 := keep_at hb2 c4; replace c5 := keep_at hb2 c5; replace c6 := keep_at hb2 c6; replace c7 := keep_at hb2 c7; replace f1 := keep_at hb2 f1; replace f2 := keep_at hb2 f2; replace f3 := keep_at hb2 f3; replace f4 := keep_at hb2 f4; replace f5 := keep_at hb2 f5; replace f6 := keep_at hb2 f6; clear ho2 hb2) | (go_at_call 49; refine (appendTexts_any _ _ _ ls _ HOW.out.isB (HTT.out.step HBL.out) (by have := HLS.out.2; have e1 := SZ1.out; have e3 := SZ3.out; have e4 := N6.out; simp only [List.length_append, List.length_nil]; omega) (by have := HLS.out.1; omega)).mono ?_; rintro r W2 ⟨v2, rfl, ho2, hb2⟩; replace HOW := Lib.hid (ho2.mono HBL.out.size); replace HBL := Lib.hid (bel_step HBL.out hb2); have hst := run_str W2 _ _ (HDT.out.step HBL.out); replace c2 := keep_at hb2 c2; replace c3 := keep_at hb2 c3; replace c4 := keep_at hb2 c4; replace c5 := keep_at hb2 c5; replace c6 := keep_at hb2 c6; replace c7 := keep_at hb2 c7; replace f1 := keep_at hb2 f1; replace f2 := keep_at hb2 f2; replace f3 := keep_at hb2 f3; replace f4 := keep_at hb2 f4; replace f5 := keep_at hb2 f5; replace f6 := keep_at hb2 f6; clear ho2 hb2))
  go_ret
  exact ⟨_, rfl, by have h := HOW.out; have e1 := SZ1.out; have e2 := SZ2.out; simp only [payM, numI, textB]; first | (simpa [e1, e2] using h) | (simpa [e1, e2, List.append_assoc] using h), HBL.out⟩
set_option maxRecDepth 20000 in
set_option maxHeartbeats 2000000 in
theorem pay_2 (k id nm tt of : Int) (tx : List UInt8) (ls : List (List UInt8)) (dt : List UInt8) (la da : Option Addr) (lc dc : Nat) (w : World)
    (hT : IsT w (.slice la ls.length lc) ls) (hD : IsB w (.slice da dt.length dc) dt) (hS : SmallM (Msg.mk k id nm tt of tx ls dt)) :
    Calls Try.prog 30 #[(Msg.mk k id nm tt of tx ls dt).val (.slice la ls.length lc) (.slice da dt.length dc), (Flds.mk true true true false true false false).val] w fun e w' => ∃ u, e = .returned u ∧ OwnB w' w.heap.size u (payM (Msg.mk k id nm tt of tx ls dt) (Flds.mk true true true false true false false)) ∧ Below w.heap.size w w' := by
  unfold Msg.val Flds.val
  dsimp only
  obtain ⟨s1, s2, s3, s4⟩ := hS
  dsimp only at s1 s2 s3 s4
  have n1 := numB_len (clampN nm)
  have n2 := numB_len (clampN tt)
  have n3 := numB_len (clampN of)
  have n4 := numB_len tx.length
  have n5 := numB_len dt.length
  have SZ1 := Lib.hid (show (ByteArray.mk tx.toArray).size = tx.length by simp [ByteArray.size])
  have SZ2 := Lib.hid (show (ByteArray.mk dt.toArray).size = dt.length by simp [ByteArray.size])
  have SZ3 := Lib.hid (show (ByteArray.mk tx.toArray).data.toList.length = tx.length by simp)
  have N6 := Lib.hid (numB_len (ByteArray.mk tx.toArray).size)
  have HLS := Lib.hid (And.intro s3 s4)
  have HTT := Lib.hid hT
  have HDT := Lib.hid hD
  have HBL := Lib.hid (bel_alloc (x := (.cells #[.bool true, .bool true, .bool true, .bool false, .bool true, .bool false, .bool false] 56)) (bel_new w (.cells #[.int .i64 k, .int .i64 id, .int .i64 nm, .int .i64 tt, .int .i64 of, .string ⟨tx.toArray⟩, .slice la ls.length lc, .slice da dt.length dc] 25)))
  have hc : ∀ j v, (#[.int .i64 k, .int .i64 id, .int .i64 nm, .int .i64 tt, .int .i64 of, .string ⟨tx.toArray⟩, .slice la ls.length lc, .slice da dt.length dc] : Array Value)[j]? = some v → ((w.alloc (.cells #[.int .i64 k, .int .i64 id, .int .i64 nm, .int .i64 tt, .int .i64 of, .string ⟨tx.toArray⟩, .slice la ls.length lc, .slice da dt.length dc] 25)).alloc (.cells #[.bool true, .bool true, .bool true, .bool false, .bool true, .bool false, .bool false] 56)).cell? ⟨w.heap.size, j, none⟩ = some v := fun j v hj => keep_alloc ((cell_of_row _ _ _ _ _ _ (heap_alloc_new w _)).trans hj)
  have hf : ∀ j v, (#[.bool true, .bool true, .bool true, .bool false, .bool true, .bool false, .bool false] : Array Value)[j]? = some v → ((w.alloc (.cells #[.int .i64 k, .int .i64 id, .int .i64 nm, .int .i64 tt, .int .i64 of, .string ⟨tx.toArray⟩, .slice la ls.length lc, .slice da dt.length dc] 25)).alloc (.cells #[.bool true, .bool true, .bool true, .bool false, .bool true, .bool false, .bool false] 56)).cell? ⟨w.heap.size + 1, j, none⟩ = some v := fun j v hj => by
    have := (cell_of_row _ _ j _ _ _ (heap_alloc_new (w.alloc (.cells #[.int .i64 k, .int .i64 id, .int .i64 nm, .int .i64 tt, .int .i64 of, .string ⟨tx.toArray⟩, .slice la ls.length lc, .slice da dt.length dc] 25)) (.cells #[.bool true, .bool true, .bool true, .bool false, .bool true, .bool false, .bool false] 56))).trans hj
    simpa [go_sem] using this
  have c2 := hc 2 (.int .i64 nm) rfl
  have c3 := hc 3 (.int .i64 tt) rfl
  have c4 := hc 4 (.int .i64 of) rfl
  have c5 := hc 5 (.string ⟨tx.toArray⟩) rfl
  have c6 := hc 6 (.slice la ls.length lc) rfl
  have c7 := hc 7 (.slice da dt.length dc) rfl
  have f1 := hf 1 (.bool true) rfl
  have f2 := hf 2 (.bool true) rfl
  have f3 := hf 3 (.bool false) rfl
  have f4 := hf 4 (.bool true) rfl
  have f5 := hf 5 (.bool false) rfl
  have f6 := hf 6 (.bool false) rfl
  clear hT hD hc hf s4
  go_enter Try.func30, Try.ntmps30
  go_upto_region 1 with fail
  generalize ((w.alloc (.cells #[.int .i64 k, .int .i64 id, .int .i64 nm, .int .i64 tt, .int .i64 of, .string ⟨tx.toArray⟩, .slice la ls.length lc, .slice da dt.length dc] 25)).alloc (.cells #[.bool true, .bool true, .bool true, .bool false, .bool true, .bool false, .bool false] 56)) = W1 at *
  have HOW := Lib.hid (OwnB.nil W1 w.heap.size)
  go_wp2_with (first | (go_at_call 47; refine (appendUint_any _ _ _ _ HOW.out.isB (by simp only [List.length_append, List.length_nil]; omega)).mono ?_; rintro r W2 ⟨v2, rfl, ho2, hb2⟩; replace HOW := Lib.hid (ho2.mono HBL.out.size); replace HBL := Lib.hid (bel_step HBL.out hb2); have hst := run_str W2 _ _ (HDT.out.step HBL.out); replace c2 := keep_at hb2 c2; replace c3 := keep_at hb2 c3; replace c4 := keep_at hb2 c4; replace c5 := keep_at hb2 c5; replace c6 := keep_at hb2 c6; replace c7 := keep_at hb2 c7; replace f1 := keep_at hb2 f1; replace f2 := keep_at hb2 f2; replace f3 := keep_at hb2 f3; replace f4 := keep_at hb2 f4; replace f5 := keep_at hb2 f5; replace f6 := keep_at hb2 f6; clear ho2 hb2) | (go_at_call 48; refine (appendText_any _ _ _ _ HOW.out.isB (by have e1 := SZ1.out; have e2 := SZ2.out; simp only [List.length_append, List.length_nil]; omega)).mono ?_; rintro r W2 ⟨v2, rfl, ho2, hb2⟩; replace HOW := Lib.hid (ho2.mono HBL.out.size); replace HBL := Lib.hid (bel_step HBL.out hb2); have hst := run_str W2 _ _ (HDT.out.step HBL.out); replace c2 := keep_at hb2 c2; replace c3 := keep_at hb2 c3; replace c4 := keep_at hb2 c4; replace c5 := keep_at hb2 c5; replace c6 := keep_at hb2 c6; replace c7 := keep_at hb2 c7; replace f1 := keep_at hb2 f1; replace f2 := keep_at hb2 f2; replace f3 := keep_at hb2 f3; replace f4 := keep_at hb2 f4; replace f5 := keep_at hb2 f5; replace f6 := keep_at hb2 f6; clear ho2 hb2))
  go_ret
  exact ⟨_, rfl, by have h := HOW.out; have e1 := SZ1.out; have e2 := SZ2.out; simp only [payM, numI, textB]; first | (simpa [e1, e2] using h) | (simpa [e1, e2, List.append_assoc] using h), HBL.out⟩
set_option maxRecDepth 20000 in
set_option maxHeartbeats 2000000 in
theorem pay_3 (k id nm tt of : Int) (tx : List UInt8) (ls : List (List UInt8)) (dt : List UInt8) (la da : Option Addr) (lc dc : Nat) (w : World)
    (hT : IsT w (.slice la ls.length lc) ls) (hD : IsB w (.slice da dt.length dc) dt) (hS : SmallM (Msg.mk k id nm tt of tx ls dt)) :
    Calls Try.prog 30 #[(Msg.mk k id nm tt of tx ls dt).val (.slice la ls.length lc) (.slice da dt.length dc), (Flds.mk true false false true false false true).val] w fun e w' => ∃ u, e = .returned u ∧ OwnB w' w.heap.size u (payM (Msg.mk k id nm tt of tx ls dt) (Flds.mk true false false true false false true)) ∧ Below w.heap.size w w' := by
  unfold Msg.val Flds.val
  dsimp only
  obtain ⟨s1, s2, s3, s4⟩ := hS
  dsimp only at s1 s2 s3 s4
  have n1 := numB_len (clampN nm)
  have n2 := numB_len (clampN tt)
  have n3 := numB_len (clampN of)
  have n4 := numB_len tx.length
  have n5 := numB_len dt.length
  have SZ1 := Lib.hid (show (ByteArray.mk tx.toArray).size = tx.length by simp [ByteArray.size])
  have SZ2 := Lib.hid (show (ByteArray.mk dt.toArray).size = dt.length by simp [ByteArray.size])
  have SZ3 := Lib.hid (show (ByteArray.mk tx.toArray).data.toList.length = tx.length by simp)
  have N6 := Lib.hid (numB_len (ByteArray.mk tx.toArray).size)
  have HLS := Lib.hid (And.intro s3 s4)
  have HTT := Lib.hid hT
  have HDT := Lib.hid hD
  have HBL := Lib.hid (bel_alloc (x := (.cells #[.bool true, .bool false, .bool false, .bool true, .bool false, .bool false, .bool true] 56)) (bel_new w (.cells #[.int .i64 k, .int .i64 id, .int .i64 nm, .int .i64 tt, .int .i64 of, .string ⟨tx.toArray⟩, .slice la ls.length lc, .slice da dt.length dc] 25)))
  have hc : ∀ j v, (#[.int .i64 k, .int .i64 id, .int .i64 nm, .int .i64 tt, .int .i64 of, .string ⟨tx.toArray⟩, .slice la ls.length lc, .slice da dt.length dc] : Array Value)[j]? = some v → ((w.alloc (.cells #[.int .i64 k, .int .i64 id, .int .i64 nm, .int .i64 tt, .int .i64 of, .string ⟨tx.toArray⟩, .slice la ls.length lc, .slice da dt.length dc] 25)).alloc (.cells #[.bool true, .bool false, .bool false, .bool true, .bool false, .bool false, .bool true] 56)).cell? ⟨w.heap.size, j, none⟩ = some v := fun j v hj => keep_alloc ((cell_of_row _ _ _ _ _ _ (heap_alloc_new w _)).trans hj)
  have hf : ∀ j v, (#[.bool true, .bool false, .bool false, .bool true, .bool false, .bool false, .bool true] : Array Value)[j]? = some v → ((w.alloc (.cells #[.int .i64 k, .int .i64 id, .int .i64 nm, .int .i64 tt, .int .i64 of, .string ⟨tx.toArray⟩, .slice la ls.length lc, .slice da dt.length dc] 25)).alloc (.cells #[.bool true, .bool false, .bool false, .bool true, .bool false, .bool false, .bool true] 56)).cell? ⟨w.heap.size + 1, j, none⟩ = some v := fun j v hj => by
    have := (cell_of_row _ _ j _ _ _ (heap_alloc_new (w.alloc (.cells #[.int .i64 k, .int .i64 id, .int .i64 nm, .int .i64 tt, .int .i64 of, .string ⟨tx.toArray⟩, .slice la ls.length lc, .slice da dt.length dc] 25)) (.cells #[.bool true, .bool false, .bool false, .bool true, .bool false, .bool false, .bool true] 56))).trans hj
    simpa [go_sem] using this
  have c2 := hc 2 (.int .i64 nm) rfl
  have c3 := hc 3 (.int .i64 tt) rfl
  have c4 := hc 4 (.int .i64 of) rfl
  have c5 := hc 5 (.string ⟨tx.toArray⟩) rfl
  have c6 := hc 6 (.slice la ls.length lc) rfl
  have c7 := hc 7 (.slice da dt.length dc) rfl
  have f1 := hf 1 (.bool false) rfl
  have f2 := hf 2 (.bool false) rfl
  have f3 := hf 3 (.bool true) rfl
  have f4 := hf 4 (.bool false) rfl
  have f5 := hf 5 (.bool false) rfl
  have f6 := hf 6 (.bool true) rfl
  clear hT hD hc hf s4
  go_enter Try.func30, Try.ntmps30
  go_upto_region 1 with fail
  generalize ((w.alloc (.cells #[.int .i64 k, .int .i64 id, .int .i64 nm, .int .i64 tt, .int .i64 of, .string ⟨tx.toArray⟩, .slice la ls.length lc, .slice da dt.length dc] 25)).alloc (.cells #[.bool true, .bool false, .bool false, .bool true, .bool false, .bool false, .bool true] 56)) = W1 at *
  have HOW := Lib.hid (OwnB.nil W1 w.heap.size)
  go_wp2_with (first | (go_at_call 47; refine (appendUint_any _ _ _ _ HOW.out.isB (by simp only [List.length_append, List.length_nil]; omega)).mono ?_; rintro r W2 ⟨v2, rfl, ho2, hb2⟩; replace HOW := Lib.hid (ho2.mono HBL.out.size); replace HBL := Lib.hid (bel_step HBL.out hb2); have hst := run_str W2 _ _ (HDT.out.step HBL.out); replace c2 := keep_at hb2 c2; replace c3 := keep_at hb2 c3; replace c4 := keep_at hb2 c4; replace c5 := keep_at hb2 c5; replace c6 := keep_at hb2 c6; replace c7 := keep_at hb2 c7; replace f1 := keep_at hb2 f1; replace f2 := keep_at hb2 f2; replace f3 := keep_at hb2 f3; replace f4 := keep_at hb2 f4; replace f5 := keep_at hb2 f5; replace f6 := keep_at hb2 f6; clear ho2 hb2) | (go_at_call 48; refine (appendText_any _ _ _ _ HOW.out.isB (by have e1 := SZ1.out; have e2 := SZ2.out; simp only [List.length_append, List.length_nil]; omega)).mono ?_; rintro r W2 ⟨v2, rfl, ho2, hb2⟩; replace HOW := Lib.hid (ho2.mono HBL.out.size); replace HBL := Lib.hid (bel_step HBL.out hb2); have hst := run_str W2 _ _ (HDT.out.step HBL.out); replace c2 := keep_at hb2 c2; replace c3 := keep_at hb2 c3; replace c4 := keep_at hb2 c4; replace c5 := keep_at hb2 c5; replace c6 := keep_at hb2 c6; replace c7 := keep_at hb2 c7; replace f1 := keep_at hb2 f1; replace f2 := keep_at hb2 f2; replace f3 := keep_at hb2 f3; replace f4 := keep_at hb2 f4; replace f5 := keep_at hb2 f5; replace f6 := keep_at hb2 f6; clear ho2 hb2))
  go_ret
  exact ⟨_, rfl, by have h := HOW.out; have e1 := SZ1.out; have e2 := SZ2.out; simp only [payM, numI, textB]; first | (simpa [e1, e2] using h) | (simpa [e1, e2, List.append_assoc] using h), HBL.out⟩
set_option maxRecDepth 20000 in
set_option maxHeartbeats 2000000 in
theorem pay_4 (k id nm tt of : Int) (tx : List UInt8) (ls : List (List UInt8)) (dt : List UInt8) (la da : Option Addr) (lc dc : Nat) (w : World)
    (hT : IsT w (.slice la ls.length lc) ls) (hD : IsB w (.slice da dt.length dc) dt) (hS : SmallM (Msg.mk k id nm tt of tx ls dt)) :
    Calls Try.prog 30 #[(Msg.mk k id nm tt of tx ls dt).val (.slice la ls.length lc) (.slice da dt.length dc), (Flds.mk true false false false false false false).val] w fun e w' => ∃ u, e = .returned u ∧ OwnB w' w.heap.size u (payM (Msg.mk k id nm tt of tx ls dt) (Flds.mk true false false false false false false)) ∧ Below w.heap.size w w' := by
  unfold Msg.val Flds.val
  dsimp only
  obtain ⟨s1, s2, s3, s4⟩ := hS
  dsimp only at s1 s2 s3 s4
  have n1 := numB_len (clampN nm)
  have n2 := numB_len (clampN tt)
  have n3 := numB_len (clampN of)
  have n4 := numB_len tx.length
  have n5 := numB_len dt.length
  have SZ1 := Lib.hid (show (ByteArray.mk tx.toArray).size = tx.length by simp [ByteArray.size])
  have SZ2 := Lib.hid (show (ByteArray.mk dt.toArray).size = dt.length by simp [ByteArray.size])
  have SZ3 := Lib.hid (show (ByteArray.mk tx.toArray).data.toList.length = tx.length by simp)
  have N6 := Lib.hid (numB_len (ByteArray.mk tx.toArray).size)
  have HLS := Lib.hid (And.intro s3 s4)
  have HTT := Lib.hid hT
  have HDT := Lib.hid hD
  have HBL := Lib.hid (bel_alloc (x := (.cells #[.bool true, .bool false, .bool false, .bool false, .bool false, .bool false, .bool false] 56)) (bel_new w (.cells #[.int .i64 k, .int .i64 id, .int .i64 nm, .int .i64 tt, .int .i64 of, .string ⟨tx.toArray⟩, .slice la ls.length lc, .slice da dt.length dc] 25)))
  have hc : ∀ j v, (#[.int .i64 k, .int .i64 id, .int .i64 nm, .int .i64 tt, .int .i64 of, .string ⟨tx.toArray⟩, .slice la ls.length lc, .slice da dt.length dc] : Array Value)[j]? = some v → ((w.alloc (.cells #[.int .i64 k, .int .i64 id, .int .i64 nm, .int .i64 tt, .int .i64 of, .string ⟨tx.toArray⟩, .slice la ls.length lc, .slice da dt.length dc] 25)).alloc (.cells #[.bool true, .bool false, .bool false, .bool false, .bool false, .bool false, .bool false] 56)).cell? ⟨w.heap.size, j, none⟩ = some v := fun j v hj => keep_alloc ((cell_of_row _ _ _ _ _ _ (heap_alloc_new w _)).trans hj)
  have hf : ∀ j v, (#[.bool true, .bool false, .bool false, .bool false, .bool false, .bool false, .bool false] : Array Value)[j]? = some v → ((w.alloc (.cells #[.int .i64 k, .int .i64 id, .int .i64 nm, .int .i64 tt, .int .i64 of, .string ⟨tx.toArray⟩, .slice la ls.length lc, .slice da dt.length dc] 25)).alloc (.cells #[.bool true, .bool false, .bool false, .bool false, .bool false, .bool false, .bool false] 56)).cell? ⟨w.heap.size + 1, j, none⟩ = some v := fun j v hj => by
    have := (cell_of_row _ _ j _ _ _ (heap_alloc_new (w.alloc (.cells #[.int .i64 k, .int .i64 id, .int .i64 nm, .int .i64 tt, .int .i64 of, .string ⟨tx.toArray⟩, .slice la ls.length lc, .slice da dt.length dc] 25)) (.cells #[.bool true, .bool false, .bool false, .bool false, .bool false, .bool false, .bool false] 56))).trans hj
    simpa [go_sem] using this
  have c2 := hc 2 (.int .i64 nm) rfl
  have c3 := hc 3 (.int .i64 tt) rfl
  have c4 := hc 4 (.int .i64 of) rfl
  have c5 := hc 5 (.string ⟨tx.toArray⟩) rfl
  have c6 := hc 6 (.slice la ls.length lc) rfl
  have c7 := hc 7 (.slice da dt.length dc) rfl
  have f1 := hf 1 (.bool false) rfl
  have f2 := hf 2 (.bool false) rfl
  have f3 := hf 3 (.bool false) rfl
  have f4 := hf 4 (.bool false) rfl
  have f5 := hf 5 (.bool false) rfl
  have f6 := hf 6 (.bool false) rfl
  clear hT hD hc hf s4
  go_enter Try.func30, Try.ntmps30
  go_upto_region 1 with fail
  generalize ((w.alloc (.cells #[.int .i64 k, .int .i64 id, .int .i64 nm, .int .i64 tt, .int .i64 of, .string ⟨tx.toArray⟩, .slice la ls.length lc, .slice da dt.length dc] 25)).alloc (.cells #[.bool true, .bool false, .bool false, .bool false, .bool false, .bool false, .bool false] 56)) = W1 at *
  have HOW := Lib.hid (OwnB.nil W1 w.heap.size)
  go_wp2_with fail
  go_ret
  exact ⟨_, rfl, by have h := HOW.out; have e1 := SZ1.out; have e2 := SZ2.out; simp only [payM, numI, textB]; first | (simpa [e1, e2] using h) | (simpa [e1, e2, List.append_assoc] using h), HBL.out⟩
set_option maxRecDepth 20000 in
set_option maxHeartbeats 2000000 in
theorem pay_5 (k id nm tt of : Int) (tx : List UInt8) (ls : List (List UInt8)) (dt : List UInt8) (la da : Option Addr) (lc dc : Nat) (w : World)
    (hT : IsT w (.slice la ls.length lc) ls) (hD : IsB w (.slice da dt.length dc) dt) (hS : SmallM (Msg.mk k id nm tt of tx ls dt)) :
    Calls Try.prog 30 #[(Msg.mk k id nm tt of tx ls dt).val (.slice la ls.length lc) (.slice da dt.length dc), (Flds.mk true true false false false false false).val] w fun e w' => ∃ u, e = .returned u ∧ OwnB w' w.heap.size u (payM (Msg.mk k id nm tt of tx ls dt) (Flds.mk true true false false false false false)) ∧ Below w.heap.size w w' := by
  unfold Msg.val Flds.val
  dsimp only
  obtain ⟨s1, s2, s3, s4⟩ := hS
  dsimp only at s1 s2 s3 s4
  have n1 := numB_len (clampN nm)
  have n2 := numB_len (clampN tt)
  have n3 := numB_len (clampN of)
  have n4 := numB_len tx.length
  have n5 := numB_len dt.length
  have SZ1 := Lib.hid (show (ByteArray.mk tx.toArray).size = tx.length by simp [ByteArray.size])
  have SZ2 := Lib.hid (show (ByteArray.mk dt.toArray).size = dt.length by simp [ByteArray.size])
  have SZ3 := Lib.hid (show (ByteArray.mk tx.toArray).data.toList.length = tx.length by simp)
  have N6 := Lib.hid (numB_len (ByteArray.mk tx.toArray).size)
  have HLS := Lib.hid (And.intro s3 s4)
  have HTT := Lib.hid hT
  have HDT := Lib.hid hD
  have HBL := Lib.hid (bel_alloc (x := (.cells #[.bool true, .bool true, .bool false, .bool false, .bool false, .bool false, .bool false] 56)) (bel_new w (.cells #[.int .i64 k, .int .i64 id, .int .i64 nm, .int .i64 tt, .int .i64 of, .string ⟨tx.toArray⟩, .slice la ls.length lc, .slice da dt.length dc] 25)))
  have hc : ∀ j v, (#[.int .i64 k, .int .i64 id, .int .i64 nm, .int .i64 tt, .int .i64 of, .string ⟨tx.toArray⟩, .slice la ls.length lc, .slice da dt.length dc] : Array Value)[j]? = some v → ((w.alloc (.cells #[.int .i64 k, .int .i64 id, .int .i64 nm, .int .i64 tt, .int .i64 of, .string ⟨tx.toArray⟩, .slice la ls.length lc, .slice da dt.length dc] 25)).alloc (.cells #[.bool true, .bool true, .bool false, .bool false, .bool false, .bool false, .bool false] 56)).cell? ⟨w.heap.size, j, none⟩ = some v := fun j v hj => keep_alloc ((cell_of_row _ _ _ _ _ _ (heap_alloc_new w _)).trans hj)
  have hf : ∀ j v, (#[.bool true, .bool true, .bool false, .bool false, .bool false, .bool false, .bool false] : Array Value)[j]? = some v → ((w.alloc (.cells #[.int .i64 k, .int .i64 id, .int .i64 nm, .int .i64 tt, .int .i64 of, .string ⟨tx.toArray⟩, .slice la ls.length lc, .slice da dt.length dc] 25)).alloc (.cells #[.bool true, .bool true, .bool false, .bool false, .bool false, .bool false, .bool false] 56)).cell? ⟨w.heap.size + 1, j, none⟩ = some v := fun j v hj => by
    have := (cell_of_row _ _ j _ _ _ (heap_alloc_new (w.alloc (.cells #[.int .i64 k, .int .i64 id, .int .i64 nm, .int .i64 tt, .int .i64 of, .string ⟨tx.toArray⟩, .slice la ls.length lc, .slice da dt.length dc] 25)) (.cells #[.bool true, .bool true, .bool false, .bool false, .bool false, .bool false, .bool false] 56))).trans hj
    simpa [go_sem] using this
  have c2 := hc 2 (.int .i64 nm) rfl
  have c3 := hc 3 (.int .i64 tt) rfl
  have c4 := hc 4 (.int .i64 of) rfl
  have c5 := hc 5 (.string ⟨tx.toArray⟩) rfl
  have c6 := hc 6 (.slice la ls.length lc) rfl
  have c7 := hc 7 (.slice da dt.length dc) rfl
  have f1 := hf 1 (.bool true) rfl
  have f2 := hf 2 (.bool false) rfl
  have f3 := hf 3 (.bool false) rfl
  have f4 := hf 4 (.bool false) rfl
  have f5 := hf 5 (.bool false) rfl
  have f6 := hf 6 (.bool false) rfl
  clear hT hD hc hf s4
  go_enter Try.func30, Try.ntmps30
  go_upto_region 1 with fail
  generalize ((w.alloc (.cells #[.int .i64 k, .int .i64 id, .int .i64 nm, .int .i64 tt, .int .i64 of, .string ⟨tx.toArray⟩, .slice la ls.length lc, .slice da dt.length dc] 25)).alloc (.cells #[.bool true, .bool true, .bool false, .bool false, .bool false, .bool false, .bool false] 56)) = W1 at *
  have HOW := Lib.hid (OwnB.nil W1 w.heap.size)
  go_wp2_with (first | (go_at_call 47; refine (appendUint_any _ _ _ _ HOW.out.isB (by simp only [List.length_append, List.length_nil]; omega)).mono ?_; rintro r W2 ⟨v2, rfl, ho2, hb2⟩; replace HOW := Lib.hid (ho2.mono HBL.out.size); replace HBL := Lib.hid (bel_step HBL.out hb2); have hst := run_str W2 _ _ (HDT.out.step HBL.out); replace c2 := keep_at hb2 c2; replace c3 := keep_at hb2 c3; replace c4 := keep_at hb2 c4; replace c5 := keep_at hb2 c5; replace c6 := keep_at hb2 c6; replace c7 := keep_at hb2 c7; replace f1 := keep_at hb2 f1; replace f2 := keep_at hb2 f2; replace f3 := keep_at hb2 f3; replace f4 := keep_at hb2 f4; replace f5 := keep_at hb2 f5; replace f6 := keep_at hb2 f6; clear ho2 hb2))
  go_ret
  exact ⟨_, rfl, by have h := HOW.out; have e1 := SZ1.out; have e2 := SZ2.out; simp only [payM, numI, textB]; first | (simpa [e1, e2] using h) | (simpa [e1, e2, List.append_assoc] using h), HBL.out⟩
set_option maxRecDepth 20000 in
set_option maxHeartbeats 2000000 in
theorem pay_6 (k id nm tt of : Int) (tx : List UInt8) (ls : List (List UInt8)) (dt : List UInt8) (la da : Option Addr) (lc dc : Nat) (w : World)
    (hT : IsT w (.slice la ls.length lc) ls) (hD : IsB w (.slice da dt.length dc) dt) (hS : SmallM (Msg.mk k id nm tt of tx ls dt)) :
    Calls Try.prog 30 #[(Msg.mk k id nm tt of tx ls dt).val (.slice la ls.length lc) (.slice da dt.length dc), (Flds.mk true false false false true false false).val] w fun e w' => ∃ u, e = .returned u ∧ OwnB w' w.heap.size u (payM (Msg.mk k id nm tt of tx ls dt) (Flds.mk true false false false true false false)) ∧ Below w.heap.size w w' := by
  unfold Msg.val Flds.val
  dsimp only
  obtain ⟨s1, s2, s3, s4⟩ := hS
  dsimp only at s1 s2 s3 s4
  have n1 := numB_len (clampN nm)
  have n2 := numB_len (clampN tt)
  have n3 := numB_len (clampN of)
  have n4 := numB_len tx.length
  have n5 := numB_len dt.length
  have SZ1 := Lib.hid (show (ByteArray.mk tx.toArray).size = tx.length by simp [ByteArray.size])
  have SZ2 := Lib.hid (show (ByteArray.mk dt.toArray).size = dt.length by simp [ByteArray.size])
  have SZ3 := Lib.hid (show (ByteArray.mk tx.toArray).data.toList.length = tx.length by simp)
  have N6 := Lib.hid (numB_len (ByteArray.mk tx.toArray).size)
  have HLS := Lib.hid (And.intro s3 s4)
  have HTT := Lib.hid hT
  have HDT := Lib.hid hD
  have HBL := Lib.hid (bel_alloc (x := (.cells #[.bool true, .bool false, .bool false, .bool false, .bool true, .bool false, .bool false] 56)) (bel_new w (.cells #[.int .i64 k, .int .i64 id, .int .i64 nm, .int .i64 tt, .int .i64 of, .string ⟨tx.toArray⟩, .slice la ls.length lc, .slice da dt.length dc] 25)))
  have hc : ∀ j v, (#[.int .i64 k, .int .i64 id, .int .i64 nm, .int .i64 tt, .int .i64 of, .string ⟨tx.toArray⟩, .slice la ls.length lc, .slice da dt.length dc] : Array Value)[j]? = some v → ((w.alloc (.cells #[.int .i64 k, .int .i64 id, .int .i64 nm, .int .i64 tt, .int .i64 of, .string ⟨tx.toArray⟩, .slice la ls.length lc, .slice da dt.length dc] 25)).alloc (.cells #[.bool true, .bool false, .bool false, .bool false, .bool true, .bool false, .bool false] 56)).cell? ⟨w.heap.size, j, none⟩ = some v := fun j v hj => keep_alloc ((cell_of_row _ _ _ _ _ _ (heap_alloc_new w _)).trans hj)
  have hf : ∀ j v, (#[.bool true, .bool false, .bool false, .bool false, .bool true, .bool false, .bool false] : Array Value)[j]? = some v → ((w.alloc (.cells #[.int .i64 k, .int .i64 id, .int .i64 nm, .int .i64 tt, .int .i64 of, .string ⟨tx.toArray⟩, .slice la ls.length lc, .slice da dt.length dc] 25)).alloc (.cells #[.bool true, .bool false, .bool false, .bool false, .bool true, .bool false, .bool false] 56)).cell? ⟨w.heap.size + 1, j, none⟩ = some v := fun j v hj => by
    have := (cell_of_row _ _ j _ _ _ (heap_alloc_new (w.alloc (.cells #[.int .i64 k, .int .i64 id, .int .i64 nm, .int .i64 tt, .int .i64 of, .string ⟨tx.toArray⟩, .slice la ls.length lc, .slice da dt.length dc] 25)) (.cells #[.bool true, .bool false, .bool false, .bool false, .bool true, .bool false, .bool false] 56))).trans hj
    simpa [go_sem] using this
  have c2 := hc 2 (.int .i64 nm) rfl
  have c3 := hc 3 (.int .i64 tt) rfl
  have c4 := hc 4 (.int .i64 of) rfl
  have c5 := hc 5 (.string ⟨tx.toArray⟩) rfl
  have c6 := hc 6 (.slice la ls.length lc) rfl
  have c7 := hc 7 (.slice da dt.length dc) rfl
  have f1 := hf 1 (.bool false) rfl
  have f2 := hf 2 (.bool false) rfl
  have f3 := hf 3 (.bool false) rfl
  have f4 := hf 4 (.bool true) rfl
  have f5 := hf 5 (.bool false) rfl
  have f6 := hf 6 (.bool false) rfl
  clear hT hD hc hf s4
  go_enter Try.func30, Try.ntmps30
  go_upto_region 1 with fail
  generalize ((w.alloc (.cells #[.int .i64 k, .int .i64 id, .int .i64 nm, .int .i64 tt, .int .i64 of, .string ⟨tx.toArray⟩, .slice la ls.length lc, .slice da dt.length dc] 25)).alloc (.cells #[.bool true, .bool false, .bool false, .bool false, .bool true, .bool false, .bool false] 56)) = W1 at *
  have HOW := Lib.hid (OwnB.nil W1 w.heap.size)
  go_wp2_with (first | (go_at_call 48; refine (appendText_any _ _ _ _ HOW.out.isB (by have e1 := SZ1.out; have e2 := SZ2.out; simp only [List.length_append, List.length_nil]; omega)).mono ?_; rintro r W2 ⟨v2, rfl, ho2, hb2⟩; replace HOW := Lib.hid (ho2.mono HBL.out.size); replace HBL := Lib.hid (bel_step HBL.out hb2); have hst := run_str W2 _ _ (HDT.out.step HBL.out); replace c2 := keep_at hb2 c2; replace c3 := keep_at hb2 c3; replace c4 := keep_at hb2 c4; replace c5 := keep_at hb2 c5; replace c6 := keep_at hb2 c6; replace c7 := keep_at hb2 c7; replace f1 := keep_at hb2 f1; replace f2 := keep_at hb2 f2; replace f3 := keep_at hb2 f3; replace f4 := keep_at hb2 f4; replace f5 := keep_at hb2 f5; replace f6 := keep_at hb2 f6; clear ho2 hb2))
  go_ret
  exact ⟨_, rfl, by have h := HOW.out; have e1 := SZ1.out; have e2 := SZ2.out; simp only [payM, numI, textB]; first | (simpa [e1, e2] using h) | (simpa [e1, e2, List.append_assoc] using h), HBL.out⟩
set_option maxRecDepth 20000 in
set_option maxHeartbeats 2000000 in
theorem pay_8 (k id nm tt of : Int) (tx : List UInt8) (ls : List (List UInt8)) (dt : List UInt8) (la da : Option Addr) (lc dc : Nat) (w : World)
    (hT : IsT w (.slice la ls.length lc) ls) (hD : IsB w (.slice da dt.length dc) dt) (hS : SmallM (Msg.mk k id nm tt of tx ls dt)) :
    Calls Try.prog 30 #[(Msg.mk k id nm tt of tx ls dt).val (.slice la ls.length lc) (.slice da dt.length dc), (Flds.mk false true true false false true false).val] w fun e w' => ∃ u, e = .returned u ∧ OwnB w' w.heap.size u (payM (Msg.mk k id nm tt of tx ls dt) (Flds.mk false true true false false true false)) ∧ Below w.heap.size w w' := by
  unfold Msg.val Flds.val
  dsimp only
  obtain ⟨s1, s2, s3, s4⟩ := hS
  dsimp only at s1 s2 s3 s4
  have n1 := numB_len (clampN nm)
  have n2 := numB_len (clampN tt)
  have n3 := numB_len (clampN of)
  have n4 := numB_len tx.length
  have n5 := numB_len dt.length
  have SZ1 := Lib.hid (show (ByteArray.mk tx.toArray).size = tx.length by simp [ByteArray.size])
  have SZ2 := Lib.hid (show (ByteArray.mk dt.toArray).size = dt.length by simp [ByteArray.size])
  have SZ3 := Lib.hid (show (ByteArray.mk tx.toArray).data.toList.length = tx.length by simp)
  have N6 := Lib.hid (numB_len (ByteArray.mk tx.toArray).size)
  have HLS := Lib.hid (And.intro s3 s4)
  have HTT := Lib.hid hT
  have HDT := Lib.hid hD
  have HBL := Lib.hid (bel_alloc (x := (.cells #[.bool false, .bool true, .bool true, .bool false, .bool false, .bool true, .bool false] 56)) (bel_new w (.cells #[.int .i64 k, .int .i64 id, .int .i64 nm, .int .i64 tt, .int .i64 of, .string ⟨tx.toArray⟩, .slice la ls.length lc, .slice da dt.length dc] 25)))
  have hc : ∀ j v, (#[.int .i64 k, .int .i64 id, .int .i64 nm, .int .i64 tt, .int .i64 of, .string ⟨tx.toArray⟩, .slice la ls.length lc, .slice da dt.length dc] : Array Value)[j]? = some v → ((w.alloc (.cells #[.int .i64 k, .int .i64 id, .int .i64 nm, .int .i64 tt, .int .i64 of, .string ⟨tx.toArray⟩, .slice la ls.length lc, .slice da dt.length dc] 25)).alloc (.cells #[.bool false, .bool true, .bool true, .bool false, .bool false, .bool true, .bool false] 56)).cell? ⟨w.heap.size, j, none⟩ = some v := fun j v hj => keep_alloc ((cell_of_row _ _ _ _ _ _ (heap_alloc_new w _)).trans hj)
  have hf : ∀ j v, (#[.bool false, .bool true, .bool true, .bool false, .bool false, .bool true, .bool false] : Array Value)[j]? = some v → ((w.alloc (.cells #[.int .i64 k, .int .i64 id, .int .i64 nm, .int .i64 tt, .int .i64 of, .string ⟨tx.toArray⟩, .slice la ls.length lc, .slice da dt.length dc] 25)).alloc (.cells #[.bool false, .bool true, .bool true, .bool false, .bool false, .bool true, .bool false] 56)).cell? ⟨w.heap.size + 1, j, none⟩ = some v := fun j v hj => by
    have := (cell_of_row _ _ j _ _ _ (heap_alloc_new (w.alloc (.cells #[.int .i64 k, .int .i64 id, .int .i64 nm, .int .i64 tt, .int .i64 of, .string ⟨tx.toArray⟩, .slice la ls.length lc, .slice da dt.length dc] 25)) (.cells #[.bool false, .bool true, .bool true, .bool false, .bool false, .bool true, .bool false] 56))).trans hj
    simpa [go_sem] using this
  have c2 := hc 2 (.int .i64 nm) rfl
  have c3 := hc 3 (.int .i64 tt) rfl
  have c4 := hc 4 (.int .i64 of) rfl
  have c5 := hc 5 (.string ⟨tx.toArray⟩) rfl
  have c6 := hc 6 (.slice la ls.length lc) rfl
  have c7 := hc 7 (.slice da dt.length dc) rfl
  have f1 := hf 1 (.bool true) rfl
  have f2 := hf 2 (.bool true) rfl
  have f3 := hf 3 (.bool false) rfl
  have f4 := hf 4 (.bool false) rfl
  have f5 := hf 5 (.bool true) rfl
  have f6 := hf 6 (.bool false) rfl
  clear hT hD hc hf s4
  go_enter Try.func30, Try.ntmps30
  go_upto_region 1 with fail
  generalize ((w.alloc (.cells #[.int .i64 k, .int .i64 id, .int .i64 nm, .int .i64 tt, .int .i64 of, .string ⟨tx.toArray⟩, .slice la ls.length lc, .slice da dt.length dc] 25)).alloc (.cells #[.bool false, .bool true, .bool true, .bool false, .bool false, .bool true, .bool false] 56)) = W1 at *
  have HOW := Lib.hid (OwnB.nil W1 w.heap.size)
  go_wp2_with (first | (go_at_call 47; refine (appendUint_any _ _ _ _ HOW.out.isB (by simp only [List.length_append, List.length_nil]; omega)).mono ?_; rintro r W2 ⟨v2, rfl, ho2, hb2⟩; replace HOW := Lib.hid (ho2.mono HBL.out.size); replace HBL := Lib.hid (bel_step HBL.out hb2); have hst := run_str W2 _ _ (HDT.out.step HBL.out); replace c2 := keep_at hb2 c2; replace c3 := keep_at hb2 c3; replace c4 := keep_at hb2 c4; replace c5 := keep_at hb2 c5; replace c6 := keep_at hb2 c6; replace c7 := keep_at hb2 c7; replace f1 := keep_at hb2 f1; replace f2 := keep_at hb2 f2; replace f3 := keep_at hb2 f3; replace f4 := keep_at hb2 f4; replace f5 := keep_at hb2 f5; replace f6 := keep_at hb2 f6; clear ho2 hb2) | (go_at_call 49; refine (appendTexts_any _ _ _ ls _ HOW.out.isB (HTT.out.step HBL.out) (by have := HLS.out.2; have e1 := SZ1.out; have e3 := SZ3.out; have e4 := N6.out; simp only [List.length_append, List.length_nil]; omega) (by have := HLS.out.1; omega)).mono ?_; rintro r W2 ⟨v2, rfl, ho2, hb2⟩; replace HOW := Lib.hid (ho2.mono HBL.out.size); replace HBL := Lib.hid (bel_step HBL.out hb2); have hst := run_str W2 _ _ (HDT.out.step HBL.out); replace c2 := keep_at hb2 c2; replace c3 := keep_at hb2 c3; replace c4 := keep_at hb2 c4; replace c5 := keep_at hb2 c5; replace c6 := keep_at hb2 c6; replace c7 := keep_at hb2 c7; replace f1 := keep_at hb2 f1; replace f2 := keep_at hb2 f2; replace f3 := keep_at hb2 f3; replace f4 := keep_at hb2 f4; replace f5 := keep_at hb2 f5; replace f6 := keep_at hb2 f6; clear ho2 hb2))
  go_ret
  exact ⟨_, rfl, by have h := HOW.out; have e1 := SZ1.out; have e2 := SZ2.out; simp only [payM, numI, textB]; first | (simpa [e1, e2] using h) | (simpa [e1, e2, List.append_assoc] using h), HBL.out⟩
set_option maxRecDepth 20000 in
set_option maxHeartbeats 2000000 in
theorem pay_9 (k id nm tt of : Int) (tx : List UInt8) (ls : List (List UInt8)) (dt : List UInt8) (la da : Option Addr) (lc dc : Nat) (w : World)
    (hT : IsT w (.slice la ls.length lc) ls) (hD : IsB w (.slice da dt.length dc) dt) (hS : SmallM (Msg.mk k id nm tt of tx ls dt)) :
    Calls Try.prog 30 #[(Msg.mk k id nm tt of tx ls dt).val (.slice la ls.length lc) (.slice da dt.length dc), (Flds.mk false true false false false false false).val] w fun e w' => ∃ u, e = .returned u ∧ OwnB w' w.heap.size u (payM (Msg.mk k id nm tt of tx ls dt) (Flds.mk false true false false false false false)) ∧ Below w.heap.size w w' := by
  unfold Msg.val Flds.val
  dsimp only
  obtain ⟨s1, s2, s3, s4⟩ := hS
  dsimp only at s1 s2 s3 s4
  have n1 := numB_len (clampN nm)
  have n2 := numB_len (clampN tt)
  have n3 := numB_len (clampN of)
  have n4 := numB_len tx.length
  have n5 := numB_len dt.length
  have SZ1 := Lib.hid (show (ByteArray.mk tx.toArray).size = tx.length by simp [ByteArray.size])
  have SZ2 := Lib.hid (show (ByteArray.mk dt.toArray).size = dt.length by simp [ByteArray.size])
  have SZ3 := Lib.hid (show (ByteArray.mk tx.toArray).data.toList.length = tx.length by simp)
  have N6 := Lib.hid (numB_len (ByteArray.mk tx.toArray).size)
  have HLS := Lib.hid (And.intro s3 s4)
  have HTT := Lib.hid hT
  have HDT := Lib.hid hD
  have HBL := Lib.hid (bel_alloc (x := (.cells #[.bool false, .bool true, .bool false, .bool false, .bool false, .bool false, .bool false] 56)) (bel_new w (.cells #[.int .i64 k, .int .i64 id, .int .i64 nm, .int .i64 tt, .int .i64 of, .string ⟨tx.toArray⟩, .slice la ls.length lc, .slice da dt.length dc] 25)))
  have hc : ∀ j v, (#[.int .i64 k, .int .i64 id, .int .i64 nm, .int .i64 tt, .int .i64 of, .string ⟨tx.toArray⟩, .slice la ls.length lc, .slice da dt.length dc] : Array Value)[j]? = some v → ((w.alloc (.cells #[.int .i64 k, .int .i64 id, .int .i64 nm, .int .i64 tt, .int .i64 of, .string ⟨tx.toArray⟩, .slice la ls.length lc, .slice da dt.length dc] 25)).alloc (.cells #[.bool false, .bool true, .bool false, .bool false, .bool false, .bool false, .bool false] 56)).cell? ⟨w.heap.size, j, none⟩ = some v := fun j v hj => keep_alloc ((cell_of_row _ _ _ _ _ _ (heap_alloc_new w _)).trans hj)
  have hf : ∀ j v, (#[.bool false, .bool true, .bool false, .bool false, .bool false, .bool false, .bool false] : Array Value)[j]? = some v → ((w.alloc (.cells #[.int .i64 k, .int .i64 id, .int .i64 nm, .int .i64 tt, .int .i64 of, .string ⟨tx.toArray⟩, .slice la ls.length lc, .slice da dt.length dc] 25)).alloc (.cells #[.bool false, .bool true, .bool false, .bool false, .bool false, .bool false, .bool false] 56)).cell? ⟨w.heap.size + 1, j, none⟩ = some v := fun j v hj => by
    have := (cell_of_row _ _ j _ _ _ (heap_alloc_new (w.alloc (.cells #[.int .i64 k, .int .i64 id, .int .i64 nm, .int .i64 tt, .int .i64 of, .string ⟨tx.toArray⟩, .slice la ls.length lc, .slice da dt.length dc] 25)) (.cells #[.bool false, .bool true, .bool false, .bool false, .bool false, .bool false, .bool false] 56))).trans hj
    simpa [go_sem] using this
  have c2 := hc 2 (.int .i64 nm) rfl
  have c3 := hc 3 (.int .i64 tt) rfl
  have c4 := hc 4 (.int .i64 of) rfl
  have c5 := hc 5 (.string ⟨tx.toArray⟩) rfl
  have c6 := hc 6 (.slice la ls.length lc) rfl
  have c7 := hc 7 (.slice da dt.length dc) rfl
  have f1 := hf 1 (.bool true) rfl
  have f2 := hf 2 (.bool false) rfl
  have f3 := hf 3 (.bool false) rfl
  have f4 := hf 4 (.bool false) rfl
  have f5 := hf 5 (.bool false) rfl
  have f6 := hf 6 (.bool false) rfl
  clear hT hD hc hf s4
  go_enter Try.func30, Try.ntmps30
  go_upto_region 1 with fail
  generalize ((w.alloc (.cells #[.int .i64 k, .int .i64 id, .int .i64 nm, .int .i64 tt, .int .i64 of, .string ⟨tx.toArray⟩, .slice la ls.length lc, .slice da dt.length dc] 25)).alloc (.cells #[.bool false, .bool true, .bool false, .bool false, .bool false, .bool false, .bool false] 56)) = W1 at *
  have HOW := Lib.hid (OwnB.nil W1 w.heap.size)
  go_wp2_with (first | (go_at_call 47; refine (appendUint_any _ _ _ _ HOW.out.isB (by simp only [List.length_append, List.length_nil]; omega)).mono ?_; rintro r W2 ⟨v2, rfl, ho2, hb2⟩; replace HOW := Lib.hid (ho2.mono HBL.out.size); replace HBL := Lib.hid (bel_step HBL.out hb2); have hst := run_str W2 _ _ (HDT.out.step HBL.out); replace c2 := keep_at hb2 c2; replace c3 := keep_at hb2 c3; replace c4 := keep_at hb2 c4; replace c5 := keep_at hb2 c5; replace c6 := keep_at hb2 c6; replace c7 := keep_at hb2 c7; replace f1 := keep_at hb2 f1; replace f2 := keep_at hb2 f2; replace f3 := keep_at hb2 f3; replace f4 := keep_at hb2 f4; replace f5 := keep_at hb2 f5; replace f6 := keep_at hb2 f6; clear ho2 hb2))
  go_ret
  exact ⟨_, rfl, by have h := HOW.out; have e1 := SZ1.out; have e2 := SZ2.out; simp only [payM, numI, textB]; first | (simpa [e1, e2] using h) | (simpa [e1, e2, List.append_assoc] using h), HBL.out⟩
set_option maxRecDepth 20000 in
set_option maxHeartbeats 2000000 in
theorem pay_12 (k id nm tt of : Int) (tx : List UInt8) (ls : List (List UInt8)) (dt : List UInt8) (la da : Option Addr) (lc dc : Nat) (w : World)
    (hT : IsT w (.slice la ls.length lc) ls) (hD : IsB w (.slice da dt.length dc) dt) (hS : SmallM (Msg.mk k id nm tt of tx ls dt)) :
    Calls Try.prog 30 #[(Msg.mk k id nm tt of tx ls dt).val (.slice la ls.length lc) (.slice da dt.length dc), (Flds.mk true true true false false false false).val] w fun e w' => ∃ u, e = .returned u ∧ OwnB w' w.heap.size u (payM (Msg.mk k id nm tt of tx ls dt) (Flds.mk true true true false false false false)) ∧ Below w.heap.size w w' := by
  unfold Msg.val Flds.val
  dsimp only
  obtain ⟨s1, s2, s3, s4⟩ := hS
  dsimp only at s1 s2 s3 s4
  have n1 := numB_len (clampN nm)
  have n2 := numB_len (clampN tt)
  have n3 := numB_len (clampN of)
  have n4 := numB_len tx.length
  have n5 := numB_len dt.length
  have SZ1 := Lib.hid (show (ByteArray.mk tx.toArray).size = tx.length by simp [ByteArray.size])
  have SZ2 := Lib.hid (show (ByteArray.mk dt.toArray).size = dt.length by simp [ByteArray.size])
  have SZ3 := Lib.hid (show (ByteArray.mk tx.toArray).data.toList.length = tx.length by simp)
  have N6 := Lib.hid (numB_len (ByteArray.mk tx.toArray).size)
  have HLS := Lib.hid (And.intro s3 s4)
  have HTT := Lib.hid hT
  have HDT := Lib.hid hD
  have HBL := Lib.hid (bel_alloc (x := (.cells #[.bool true, .bool true, .bool true, .bool false, .bool false, .bool false, .bool false] 56)) (bel_new w (.cells #[.int .i64 k, .int .i64 id, .int .i64 nm, .int .i64 tt, .int .i64 of, .string ⟨tx.toArray⟩, .slice la ls.length lc, .slice da dt.length dc] 25)))
  have hc : ∀ j v, (#[.int .i64 k, .int .i64 id, .int .i64 nm, .int .i64 tt, .int .i64 of, .string ⟨tx.toArray⟩, .slice la ls.length lc, .slice da dt.length dc] : Array Value)[j]? = some v → ((w.alloc (.cells #[.int .i64 k, .int .i64 id, .int .i64 nm, .int .i64 tt, .int .i64 of, .string ⟨tx.toArray⟩, .slice la ls.length lc, .slice da dt.length dc] 25)).alloc (.cells #[.bool true, .bool true, .bool true, .bool false, .bool false, .bool false, .bool false] 56)).cell? ⟨w.heap.size, j, none⟩ = some v := fun j v hj => keep_alloc ((cell_of_row _ _ _ _ _ _ (heap_alloc_new w _)).trans hj)
  have hf : ∀ j v, (#[.bool true, .bool true, .bool true, .bool false, .bool false, .bool false, .bool false] : Array Value)[j]? = some v → ((w.alloc (.cells #[.int .i64 k, .int .i64 id, .int .i64 nm, .int .i64 tt, .int .i64 of, .string ⟨tx.toArray⟩, .slice la ls.length lc, .slice da dt.length dc] 25)).alloc (.cells #[.bool true, .bool true, .bool true, .bool false, .bool false, .bool false, .bool false] 56)).cell? ⟨w.heap.size + 1, j, none⟩ = some v := fun j v hj => by
    have := (cell_of_row _ _ j _ _ _ (heap_alloc_new (w.alloc (.cells #[.int .i64 k, .int .i64 id, .int .i64 nm, .int .i64 tt, .int .i64 of, .string ⟨tx.toArray⟩, .slice la ls.length lc, .slice da dt.length dc] 25)) (.cells #[.bool true, .bool true, .bool true, .bool false, .bool false, .bool false, .bool false] 56))).trans hj
    simpa [go_sem] using this
  have c2 := hc 2 (.int .i64 nm) rfl
  have c3 := hc 3 (.int .i64 tt) rfl
  have c4 := hc 4 (.int .i64 of) rfl
  have c5 := hc 5 (.string ⟨tx.toArray⟩) rfl
  have c6 := hc 6 (.slice la ls.length lc) rfl
  have c7 := hc 7 (.slice da dt.length dc) rfl
  have f1 := hf 1 (.bool true) rfl
  have f2 := hf 2 (.bool true) rfl
  have f3 := hf 3 (.bool false) rfl
  have f4 := hf 4 (.bool false) rfl
  have f5 := hf 5 (.bool false) rfl
  have f6 := hf 6 (.bool false) rfl
  clear hT hD hc hf s4
  go_enter Try.func30, Try.ntmps30
  go_upto_region 1 with fail
  generalize ((w.alloc (.cells #[.int .i64 k, .int .i64 id, .int .i64 nm, .int .i64 tt, .int .i64 of, .string ⟨tx.toArray⟩, .slice la ls.length lc, .slice da dt.length dc] 25)).alloc (.cells #[.bool true, .bool true, .bool true, .bool false, .bool false, .bool false, .bool false] 56)) = W1 at *
  have HOW := Lib.hid (OwnB.nil W1 w.heap.size)
  go_wp2_with (first | (go_at_call 47; refine (appendUint_any _ _ _ _ HOW.out.isB (by simp only [List.length_append, List.length_nil]; omega)).mono ?_; rintro r W2 ⟨v2, rfl, ho2, hb2⟩; replace HOW := Lib.hid (ho2.mono HBL.out.size); replace HBL := Lib.hid (bel_step HBL.out hb2); have hst := run_str W2 _ _ (HDT.out.step HBL.out); replace c2 := keep_at hb2 c2; replace c3 := keep_at hb2 c3; replace c4 := keep_at hb2 c4; replace c5 := keep_at hb2 c5; replace c6 := keep_at hb2 c6; replace c7 := keep_at hb2 c7; replace f1 := keep_at hb2 f1; replace f2 := keep_at hb2 f2; replace f3 := keep_at hb2 f3; replace f4 := keep_at hb2 f4; replace f5 := keep_at hb2 f5; replace f6 := keep_at hb2 f6; clear ho2 hb2))
  go_ret
  exact ⟨_, rfl, by have h := HOW.out; have e1 := SZ1.out; have e2 := SZ2.out; simp only [payM, numI, textB]; first | (simpa [e1, e2] using h) | (simpa [e1, e2, List.append_assoc] using h), HBL.out⟩
end Go.Proofs.Ytbfpjldincnihaa
