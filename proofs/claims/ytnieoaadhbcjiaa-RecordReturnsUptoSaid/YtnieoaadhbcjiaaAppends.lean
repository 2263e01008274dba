/- The walks of AppendUint, AppendText and of the statements' fixed example. No condition beyond lengths that memory allows. -/
import Derived.Test.YtnieoaadhbcjiaaCursor
namespace Go.Proofs.Ytnieoaadhbcjiaa
open Go.RowKit
set_option linter.unusedVariables false
set_option linter.unusedSimpArgs false

theorem appendUint_any (v : Value) (l : List UInt8) (n : Int) (w : World) (h : IsB w v l) (hl : l.length ≤ 70368744177664) :
    Calls Try.prog 37 #[v, .int .i64 n] w fun e w' => ∃ u, e = .returned u ∧ OwnB w' w.heap.size u (l ++ numB (clampN n)) ∧ Below w.heap.size w w' := by
  have hn := numB_len (clampN n)
  have H := Lib.hid h
  clear h
  go_enter Try.func37, Try.ntmps37
  go_wp2_with fail
  refine (number_any _ _).mono ?_
  rintro e w1 ⟨v1, rfl, ho, _, hb⟩
  have HO := Lib.hid ho
  clear ho
  go_wp2_with fail
  refine (joined_any _ _ l (numB (clampN n)) _ (H.out.step hb) HO.out.isB (by omega)).mono ?_
  rintro e w2 ⟨v2, rfl, ho2, hb2⟩
  have HO2 := Lib.hid (ho2.mono hb.size)
  have hB := bel_step hb hb2
  clear ho2 hb2
  go_wp2_with fail
  go_ret
  exact ⟨v2, rfl, HO2.out, hB⟩

theorem appendText_any (v : Value) (l : List UInt8) (s : ByteArray) (w : World) (h : IsB w v l) (hl : l.length + s.size ≤ 70368744177664) :
    Calls Try.prog 38 #[v, .string s] w fun e w' => ∃ u, e = .returned u ∧ OwnB w' w.heap.size u (l ++ (numB s.size ++ s.data.toList)) ∧ Below w.heap.size w w' := by
  have hc : clampN (s.size : Int) = s.size := by unfold clampN; omega
  have hn := numB_len s.size
  have hsz : s.data.toList.length = s.size := by rw [Array.length_toList]; rfl
  have H := Lib.hid h
  have HC := Lib.hid hc
  have HSZ := Lib.hid hsz
  clear h hc hsz
  go_enter Try.func38, Try.ntmps38
  go_wp2_with fail
  refine (number_any _ _).mono ?_
  rintro e w1 ⟨v1, rfl, ho, _, hb⟩
  rw [HC.out] at ho
  have HO := Lib.hid ho
  clear ho
  go_wp2_with (at_builtin; refine wpList_app_string rfl _ _ rfl w.heap.size _ (numB s.size) rfl HO.out s rfl (by omega) hb.size ?_; intro v2 w2 ho2 hb2 hz2 hn2; have HO2 := Lib.hid ho2; have hB2 := hb.trans hb2; clear ho2 hn2 hb2)
  refine (joined_any _ _ l (numB s.size ++ s.data.toList) _ (H.out.step hB2) HO2.out.isB (by have := HSZ.out; simp only [List.length_append]; omega)).mono ?_
  rintro e w3 ⟨v3, rfl, ho3, hb3⟩
  have HO3 := Lib.hid (ho3.mono hB2.size)
  have hB := bel_step hB2 hb3
  clear ho3 hb3
  go_wp2_with fail
  go_ret
  exact ⟨v3, rfl, HO3.out, hB⟩

set_option maxHeartbeats 1000000 in
theorem awake_any (w : World) : Calls Try.prog 13 #[] w fun e w' => e = .returned (.bool true) ∧ Below w.heap.size w w' := by
  have h300 : numB (clampN 300) = [172, 2] := by decide
  have ht : takeP 9 [172, 2] = (300, 2) := by decide
  have H3 := Lib.hid h300
  have HT := Lib.hid ht
  clear h300 ht
  go_enter Try.func13, Try.ntmps13
  go_wp2_with fail
  refine (appendUint_any _ [] 300 _ (IsB.nil _) (by simp)).mono ?_
  rintro e w1 ⟨v1, rfl, ho, hb⟩
  rw [H3.out, List.nil_append] at ho
  have hi := ho.isB
  have HI := Lib.hid hi
  rcases hi with ⟨h, _⟩ | ⟨_, g, off, cap, rfl, h1, h2, hc⟩
  · cases h
  have d0 := hc 0 172 rfl
  have d1 := hc 1 2 rfl
  clear ho hc
  simp only [Nat.add_zero] at d0
  go_wp2_with fail
  refine (read_any _ [172, 2] _ HI.out (by simp)).mono ?_
  rintro e w2 ⟨b, rfl, hbb, hcur, hb2⟩
  have d0 := keep_at hb2 d0
  have d1 := keep_at hb2 d1
  have hB := bel_step hb hb2
  have hwb : w.heap.size ≤ b := Nat.le_trans hb.size hbb
  have HCU := Lib.hid hcur
  clear hb hb2 hcur
  go_wp2_with fail
  refine (uint_ok b [172, 2] _ HCU.out (by rw [HT.out]; decide) (by rw [HT.out]; decide)).mono ?_
  rw [HT.out]
  rintro e w3 ⟨rfl, hcur, hon⟩
  have HCU2 := Lib.hid hcur
  have hB3 := hB.trans (hon.below hwb hB.size)
  clear hcur hon
  go_wp2_with (first | (go_at_call 27; refine (err_ok b _ _ HCU2.out).mono ?_; rintro e w' ⟨rfl, rfl⟩) | (go_at_call 25; refine (left_ok b _ _ HCU2.out).mono ?_; rintro e w' ⟨rfl, rfl⟩))
  go_ret
  exact ⟨rfl, hB3⟩
end Go.Proofs.Ytnieoaadhbcjiaa
