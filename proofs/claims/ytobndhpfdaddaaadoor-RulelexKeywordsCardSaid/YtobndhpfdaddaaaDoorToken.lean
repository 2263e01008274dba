/- The walks of HasPrefix and token. No condition beyond a text's length. -/
import Derived.Test.YtobndhpfdaddaaaDoorPlain
import Derived.Laws.Strings2
import Derived.Laws.Strings3
import Derived.Lib.Strings
namespace Go.Proofs.YtobndhpfdaddaaaDoor
open Go.RowKit
set_option linter.unusedVariables false
set_option linter.unusedSimpArgs false

theorem text_mk (s : ByteArray) : (⟨s.data.toList.toArray⟩ : ByteArray) = s := by cases s; simp
theorem size_list (s : ByteArray) : s.data.toList.length = s.size := by rw [Array.length_toList]; rfl
theorem extract_list (s : ByteArray) (a b : Nat) : s.extract a b = ⟨((s.data.toList.drop a).take (b - a)).toArray⟩ := by
  have := ByteArray.extract_mk s.data.toList a b
  rwa [text_mk] at this
theorem take_tw {α : Type} (p : α → Bool) (r : List α) : r.take (r.takeWhile p).length = r.takeWhile p := by
  induction r with
  | nil => simp
  | cons a r ih =>
    rw [List.takeWhile_cons]
    split
    · simpa using ih
    · simp
theorem take_head (s : ByteArray) (p : UInt8 → Bool) (h : 0 < s.size) : s.extract 0 (1 + ((s.data.toList.drop 1).takeWhile p).length) = ⟨(s[0] :: (s.data.toList.drop 1).takeWhile p).toArray⟩ := by
  rw [extract_list]
  congr 2
  have := drop_cons s 0 h
  rw [List.drop_zero] at this
  rw [List.drop_zero, Nat.sub_zero]
  generalize hm : (List.takeWhile p (List.drop 1 s.data.toList)).length = m
  rw [this, Nat.add_comm, List.take_succ_cons, ← hm, take_tw]
  simp

def isPre (p s : List UInt8) : Bool := p.isPrefixOf s
theorem isPre_take (p s : List UInt8) (h : p.length ≤ s.length) : isPre p s = (s.take p.length == p) := by
  unfold isPre
  rw [Bool.eq_iff_iff, List.isPrefixOf_iff_prefix, beq_iff_eq]
  constructor
  · intro h
    exact (List.prefix_iff_eq_take.1 h).symm
  · intro h
    exact List.prefix_iff_eq_take.2 h.symm
theorem isPre_short (p s : List UInt8) (h : ¬ p.length ≤ s.length) : isPre p s = false := by
  unfold isPre
  rw [Bool.eq_false_iff]
  intro hp
  exact h (List.isPrefixOf_iff_prefix.1 hp).length_le
set_option maxHeartbeats 1000000 in
theorem hasP (s p : ByteArray) (w : World) : Calls Tryd.prog 16 #[.string s, .string p] w fun e w' => e = .returned (.bool (isPre p.data.toList s.data.toList)) ∧ w = w' := by
  go_enter Tryd.func16, Tryd.ntmps16
  go_wp2
  · rename_i h
    go_ret
    refine ⟨ret_bool ?_, rfl⟩
    rw [isPre_take _ _ (by rw [size_list, size_list]; exact h), extract_list, ByteArray.toList_eq, ByteArray.toList_eq, List.drop_zero, Nat.sub_zero, ← size_list p]
  · rename_i h
    go_ret
    refine ⟨ret_bool ?_, rfl⟩
    rw [isPre_short _ _ (by rw [size_list, size_list]; exact h)]
theorem hasPrefix_any (s p : ByteArray) (w : World) : Calls Tryd.prog 14 #[.string s, .string p] w fun e w' => e = .returned (.bool (isPre p.data.toList s.data.toList)) ∧ w = w' := by
  go_enter Tryd.func14, Tryd.ntmps14
  go_wp2_with (go_at_call 16; refine (hasP _ _ _).mono ?_; rintro e w' ⟨rfl, rfl⟩)
  go_ret
  exact ⟨rfl, rfl⟩

def tokV (t : Nat × Nat × List UInt8) : Value := .tuple #[.int .i64 t.1, .int .i64 t.2.1, .string ⟨t.2.2.toArray⟩]
/-- The reference's results: the text stands before the length. -/
def takV (t : Nat × Nat × List UInt8) : Value := .tuple #[.int .i64 t.1, .string ⟨t.2.2.toArray⟩, .int .i64 t.2.1]
set_option maxRecDepth 20000 in
set_option maxHeartbeats 2000000 in
theorem token_word (s : ByteArray) (w : World) (hs : s.size ≤ 100000) (h0 : 0 < s.size) (hc : letN s[0].toNat = true) :
    Calls Tryd.prog 9 #[.string s] w fun e w' => e = .returned (tokV (1, 1 + ((s.data.toList.drop 1).takeWhile wordB).length, s[0] :: (s.data.toList.drop 1).takeWhile wordB)) ∧ Below w.heap.size w w' := by
  have hsi : (s.size : Int) ≤ 100000 := by omega
  have hs0 : (0 : Int) < (s.size : Int) := by omega
  obtain ⟨R, hR⟩ : ∃ R, (1, 1 + ((s.data.toList.drop 1).takeWhile wordB).length, s[0] :: (s.data.toList.drop 1).takeWhile wordB) = R := ⟨_, rfl⟩
  rw [hR]
  have HR := Lib.hid hR
  clear hR
  obtain ⟨N, hN⟩ : ∃ N, 1 + ((s.data.toList.drop 1).takeWhile wordB).length = N := ⟨_, rfl⟩
  have HT := Lib.hid (take_head s wordB h0)
  have HN := Lib.hid hN
  clear hN
  go_enter Tryd.func9, Tryd.ntmps9
  go_wp2_with (first | (go_at_call 11; refine (letter_any _ _).mono ?_; rintro e w' ⟨rfl, rfl⟩) | (go_at_call 12; refine (digit_any _ _).mono ?_; rintro e w' ⟨rfl, rfl⟩))
  go_loop [5] (fun i => ∃ k : Nat, i = .int .i64 k ∧ 1 ≤ k ∧ k ≤ s.size ∧ k + ((s.data.toList.drop k).takeWhile wordB).length = N) (fun i => s.size - (intOf i).toNat)
  case atStart => exact ⟨1, rfl, by omega, by omega, HN.out⟩
  case round =>
    obtain ⟨k, rfl, hk1, hk, hq⟩ := hrel
    have HQ := Lib.hid hq
    clear hq
    by_cases hlt : k < s.size
    · have HDR := Lib.hid (drop_cons s k hlt)
      have hcb := s[k].toNat_lt
      have hk0 : (0 : Int) ≤ (k : Int) := by omega
      have hki : (k : Int) < (s.size : Int) := by omega
      cases hl : letN s[k].toNat with
      | true =>
        have HQ2 := Lib.hid (show k + 1 + ((s.data.toList.drop (k + 1)).takeWhile wordB).length = N by
          rw [← HQ.out, HDR.out, List.takeWhile_cons_of_pos (by simp [wordB, hl])]; simp; omega)
        clear HDR HQ hcb
        go_wp2_with (first | (go_at_call 11; refine (letter_any _ _).mono ?_; rintro e w' ⟨rfl, rfl⟩) | (go_at_call 12; refine (digit_any _ _).mono ?_; rintro e w' ⟨rfl, rfl⟩))
        go_round
        case rel => exact ⟨k + 1, by go_num, by omega, by omega, HQ2.out⟩
        case measure => simp [intOf]; omega
      | false =>
        cases hd : digN s[k].toNat with
        | true =>
          have HQ2 := Lib.hid (show k + 1 + ((s.data.toList.drop (k + 1)).takeWhile wordB).length = N by
            rw [← HQ.out, HDR.out, List.takeWhile_cons_of_pos (by simp [wordB, hl, hd])]; simp; omega)
          clear HDR HQ hcb
          go_wp2_with (first | (go_at_call 11; refine (letter_any _ _).mono ?_; rintro e w' ⟨rfl, rfl⟩) | (go_at_call 12; refine (digit_any _ _).mono ?_; rintro e w' ⟨rfl, rfl⟩))
          go_round
          case rel => exact ⟨k + 1, by go_num, by omega, by omega, HQ2.out⟩
          case measure => simp [intOf]; omega
        | false =>
          have HQ2 := Lib.hid (show k = N by
            rw [← HQ.out, HDR.out, List.takeWhile_cons_of_neg (by simp [wordB, hl, hd])]; simp)
          clear HDR HQ hcb
          go_wp2_with (first | (go_at_call 11; refine (letter_any _ _).mono ?_; rintro e w' ⟨rfl, rfl⟩) | (go_at_call 12; refine (digit_any _ _).mono ?_; rintro e w' ⟨rfl, rfl⟩))
          go_quiet (fail)
          go_wp2_with fail
          go_ret3
          have HX : s.extract 0 k = ⟨(s[0] :: (s.data.toList.drop 1).takeWhile wordB).toArray⟩ := by rw [HQ2.out, ← HN.out]; exact HT.out
          refine ⟨?_, bel_drewN (Below.refl _ _)⟩
          show Ending.returned (.tuple #[.int .i64 1, .int .i64 k, .string (s.extract 0 k)]) = _
          rw [HX, ← HR.out, HN.out, ← HQ2.out]
          rfl
    · have hki : ¬ (k : Int) < (s.size : Int) := by omega
      have HQ2 := Lib.hid (show k = N by
        rw [← HQ.out, List.drop_of_length_le (by simpa using (by omega : s.size ≤ k))]; simp)
      clear HQ
      go_wp2_with fail
      go_quiet (fail)
      go_wp2_with fail
      go_ret3
      have HX : s.extract 0 k = ⟨(s[0] :: (s.data.toList.drop 1).takeWhile wordB).toArray⟩ := by rw [HQ2.out, ← HN.out]; exact HT.out
      refine ⟨?_, bel_drewN (Below.refl _ _)⟩
      show Ending.returned (.tuple #[.int .i64 1, .int .i64 k, .string (s.extract 0 k)]) = _
      rw [HX, ← HR.out, HN.out, ← HQ2.out]
      rfl
set_option maxRecDepth 20000 in
set_option maxHeartbeats 2000000 in
theorem token_dig (s : ByteArray) (w : World) (hs : s.size ≤ 100000) (h0 : 0 < s.size) (hc : letN s[0].toNat = false) (hd0 : digN s[0].toNat = true) :
    Calls Tryd.prog 9 #[.string s] w fun e w' => e = .returned (tokV (if 9 < 1 + ((s.data.toList.drop 1).takeWhile digB).length then (0, 0, []) else (2, 1 + ((s.data.toList.drop 1).takeWhile digB).length, s[0] :: (s.data.toList.drop 1).takeWhile digB))) ∧ Below w.heap.size w w' := by
  have hsi : (s.size : Int) ≤ 100000 := by omega
  have hs0 : (0 : Int) < (s.size : Int) := by omega
  obtain ⟨R, hR⟩ : ∃ R, (if 9 < 1 + ((s.data.toList.drop 1).takeWhile digB).length then (0, 0, []) else (2, 1 + ((s.data.toList.drop 1).takeWhile digB).length, s[0] :: (s.data.toList.drop 1).takeWhile digB)) = R := ⟨_, rfl⟩
  rw [hR]
  have HR := Lib.hid hR
  clear hR
  obtain ⟨N, hN⟩ : ∃ N, 1 + ((s.data.toList.drop 1).takeWhile digB).length = N := ⟨_, rfl⟩
  have HT := Lib.hid (take_head s digB h0)
  have HN := Lib.hid hN
  clear hN
  go_enter Tryd.func9, Tryd.ntmps9
  go_wp2_with (first | (go_at_call 11; refine (letter_any _ _).mono ?_; rintro e w' ⟨rfl, rfl⟩) | (go_at_call 12; refine (digit_any _ _).mono ?_; rintro e w' ⟨rfl, rfl⟩))
  go_loop [5] (fun i => ∃ k : Nat, i = .int .i64 k ∧ 1 ≤ k ∧ k ≤ s.size ∧ k + ((s.data.toList.drop k).takeWhile digB).length = N) (fun i => s.size - (intOf i).toNat)
  case atStart => exact ⟨1, rfl, by omega, by omega, HN.out⟩
  case round =>
    obtain ⟨k, rfl, hk1, hk, hq⟩ := hrel
    have HQ := Lib.hid hq
    clear hq
    by_cases hlt : k < s.size
    · have HDR := Lib.hid (drop_cons s k hlt)
      have hcb := s[k].toNat_lt
      have hk0 : (0 : Int) ≤ (k : Int) := by omega
      have hki : (k : Int) < (s.size : Int) := by omega
      cases hd : digN s[k].toNat with
      | true =>
        have HQ2 := Lib.hid (show k + 1 + ((s.data.toList.drop (k + 1)).takeWhile digB).length = N by
          rw [← HQ.out, HDR.out, List.takeWhile_cons_of_pos (by simp [digB, hd])]; simp; omega)
        clear HDR HQ hcb
        go_wp2_with (first | (go_at_call 11; refine (letter_any _ _).mono ?_; rintro e w' ⟨rfl, rfl⟩) | (go_at_call 12; refine (digit_any _ _).mono ?_; rintro e w' ⟨rfl, rfl⟩))
        go_round
        case rel => exact ⟨k + 1, by go_num, by omega, by omega, HQ2.out⟩
        case measure => simp [intOf]; omega
      | false =>
        have HQ2 := Lib.hid (show k = N by
          rw [← HQ.out, HDR.out, List.takeWhile_cons_of_neg (by simp [digB, hd])]; simp)
        clear HDR HQ hcb
        by_cases h9 : 9 < k
        · have h9i : (9 : Int) < (k : Int) := by omega
          have H9 := Lib.hid h9
          clear h9
          go_wp2_with (first | (go_at_call 11; refine (letter_any _ _).mono ?_; rintro e w' ⟨rfl, rfl⟩) | (go_at_call 12; refine (digit_any _ _).mono ?_; rintro e w' ⟨rfl, rfl⟩))
          go_ret3
          refine ⟨?_, Below.refl _ _⟩
          rw [← HR.out, HN.out, ← HQ2.out, if_pos H9.out]
          rfl
        · have h9i : ¬ (9 : Int) < (k : Int) := by omega
          have H9 := Lib.hid h9
          clear h9
          go_wp2_with (first | (go_at_call 11; refine (letter_any _ _).mono ?_; rintro e w' ⟨rfl, rfl⟩) | (go_at_call 12; refine (digit_any _ _).mono ?_; rintro e w' ⟨rfl, rfl⟩))
          go_quiet (fail)
          go_wp2_with fail
          go_ret3
          have HX : s.extract 0 k = ⟨(s[0] :: (s.data.toList.drop 1).takeWhile digB).toArray⟩ := by rw [HQ2.out, ← HN.out]; exact HT.out
          refine ⟨?_, bel_drewN (Below.refl _ _)⟩
          show Ending.returned (.tuple #[.int .i64 2, .int .i64 k, .string (s.extract 0 k)]) = _
          rw [HX, ← HR.out, HN.out, ← HQ2.out, if_neg H9.out]
          rfl
    · have hki : ¬ (k : Int) < (s.size : Int) := by omega
      have HQ2 := Lib.hid (show k = N by
        rw [← HQ.out, List.drop_of_length_le (by simpa using (by omega : s.size ≤ k))]; simp)
      clear HQ
      by_cases h9 : 9 < k
      · have h9i : (9 : Int) < (k : Int) := by omega
        have H9 := Lib.hid h9
        clear h9
        go_wp2_with fail
        go_ret3
        refine ⟨?_, Below.refl _ _⟩
        rw [← HR.out, HN.out, ← HQ2.out, if_pos H9.out]
        rfl
      · have h9i : ¬ (9 : Int) < (k : Int) := by omega
        have H9 := Lib.hid h9
        clear h9
        go_wp2_with fail
        go_quiet (fail)
        go_wp2_with fail
        go_ret3
        have HX : s.extract 0 k = ⟨(s[0] :: (s.data.toList.drop 1).takeWhile digB).toArray⟩ := by rw [HQ2.out, ← HN.out]; exact HT.out
        refine ⟨?_, bel_drewN (Below.refl _ _)⟩
        show Ending.returned (.tuple #[.int .i64 2, .int .i64 k, .string (s.extract 0 k)]) = _
        rw [HX, ← HR.out, HN.out, ← HQ2.out, if_neg H9.out]
        rfl
end Go.Proofs.YtobndhpfdaddaaaDoor
