/- The walks of the reference's lexer: take, quoted, Split, Quote. No condition beyond a text's length. -/
import Derived.Test.YtogkiifljdnjgaaDoorBase
import Derived.Test.YtogkiifljdnjgaaDoorQuote
import Derived.Laws.Concat
namespace Go.Proofs.YtogkiifljdnjgaaDoor
open Go.RowKit
set_option linter.unusedVariables false
set_option linter.unusedSimpArgs false

theorem info109 : (Tryd.prog.info? 109).map (fun i => (i.zero, i.size, i.bytes)) = some (some (.agg #[.int .i64 0, .string ⟨#[]⟩, .int .i64 0, .int .i64 0]), 4, 40) := by kernel_rfl
set_option maxRecDepth 20000 in
theorem rletter_any (c : Nat) (w : World) : Calls Tryd.prog 103 #[.int .u8 c] w fun e w' => e = .returned (.bool (letN c)) ∧ w = w' := by
  go_enter Tryd.func103, Tryd.ntmps103
  go_wp2
  all_goals
    go_ret
    exact ⟨ret_bool (by rw [Bool.eq_iff_iff]; simp [letN]; omega), rfl⟩
theorem rdigit_any (c : Nat) (w : World) : Calls Tryd.prog 104 #[.int .u8 c] w fun e w' => e = .returned (.bool (digN c)) ∧ w = w' := by
  go_enter Tryd.func104, Tryd.ntmps104
  go_wp2
  all_goals
    go_ret
    exact ⟨ret_bool (by rw [Bool.eq_iff_iff]; simp [digN]; omega), rfl⟩
theorem extract_one (s : ByteArray) (k : Nat) (h : k < s.size) : s.extract k (k + 1) = ⟨[s[k]].toArray⟩ := by
  rw [extract_list, drop_cons s k h]
  simp
theorem run_cat_one (s : ByteArray) (k : Nat) (h : k < s.size) (out : List UInt8) (hl : out.length ≤ 1000000) (W : World) :
    (Op.stringOp .add (⟨out.toArray⟩ : ByteArray) (s.extract k (k + 1))).run Tryd.prog W = .ok (.string ⟨(out ++ [s[k]]).toArray⟩) W := by
  rw [extract_one s k h]
  have h1 : ((ByteArray.mk out.toArray).size : Int) ≤ 8388608 := by rw [show (ByteArray.mk out.toArray).size = out.length from by simp [ByteArray.size]]; omega
  have h2 : ((ByteArray.mk [s[k]].toArray).size : Int) ≤ 8388608 := by rw [show (ByteArray.mk [s[k]].toArray).size = 1 from rfl]; omega
  rw [run_string_add W _ _ h1 h2, ByteArray.mk_append_mk]
/-- What the reference's quoted returns. -/
def rquoE (R : Nat × List UInt8) (e : Ending) : Prop := ∃ n : Int, (n = 3 ∨ R.1 = 0) ∧ e = .returned (.tuple #[.int .i64 n, .string ⟨R.2.toArray⟩, .int .i64 R.1])
set_option maxRecDepth 20000 in
set_option maxHeartbeats 2000000 in
theorem rquoted_any (s : ByteArray) (w : World) (hs : s.size ≤ 100000) (h1 : 1 ≤ s.size) :
    Calls Tryd.prog 105 #[.string s] w fun e w' => rquoE (quoP (s.data.toList.drop 1) 1 []) e ∧ Below w.heap.size w w' := by
  have hsi : (s.size : Int) ≤ 100000 := by omega
  obtain ⟨R, hR⟩ : ∃ R, quoP (s.data.toList.drop 1) 1 [] = R := ⟨_, rfl⟩
  rw [hR]
  have HR := Lib.hid hR
  clear hR
  go_enter Tryd.func105, Tryd.ntmps105
  go_wp2_with fail
  go_loop [5, 6] (fun u i => ∃ (k : Nat) (out : List UInt8), i = .int .i64 k ∧ u = .string ⟨out.toArray⟩ ∧ 1 ≤ k ∧ k ≤ s.size ∧ out.length ≤ k ∧ quoP (s.data.toList.drop k) k out = R) (fun _ i => s.size - (intOf i).toNat)
  case atStart => exact ⟨1, [], rfl, rfl, by omega, h1, by simp, HR.out⟩
  case round =>
    obtain ⟨k, out, rfl, rfl, hk1, hk, hol, hq⟩ := hrel
    have HQ := Lib.hid hq
    clear hq
    by_cases hlt : k < s.size
    · have HDR := Lib.hid (drop_cons s k hlt)
      have hcb := s[k].toNat_lt
      have hk0 : (0 : Int) ≤ (k : Int) := by omega
      have hki : (k : Int) < (s.size : Int) := by omega
      have hcat := run_cat_one s k hlt out (by omega)
      by_cases h34 : s[k].toNat = 34
      · have h34b : ((s[k].toNat : Int) == 34) = true := beq_iff_eq.2 (by omega)
        have HQ2 := Lib.hid (show (k + 1, out) = R by rw [← HQ.out, HDR.out]; unfold quoP; rw [if_pos h34])
        clear HDR HQ hcb h34
        go_wp2_with fail
        go_ret3
        exact ⟨⟨3, .inl rfl, by rw [← HQ2.out]; simp⟩, Below.refl _ _⟩
      · have h34b : ((s[k].toNat : Int) == 34) = false := beq_eq_false_iff_ne.2 (by omega)
        by_cases h92 : s[k].toNat = 92
        · have h92b : ((s[k].toNat : Int) == 92) = true := beq_iff_eq.2 (by omega)
          have g5 : ¬ (s[k].toNat : Int) < 32 := by omega
          have g6 : ¬ 126 < (s[k].toNat : Int) := by omega
          by_cases hlt2 : k + 1 < s.size
          · have hk2i : (k : Int) + 1 < (s.size : Int) := by omega
            have hk2e : (((k : Int) + 1) == (s.size : Int)) = false := beq_eq_false_iff_ne.2 (by omega)
            have hk2n : ¬ ((k : Int) + 1 = (s.size : Int)) := by omega
            have HDR2 := Lib.hid (drop_cons s (k + 1) hlt2)
            have hcat2 := run_cat_one s (k + 1) hlt2 out (by omega)
            by_cases hq2 : s[k + 1].toNat = 34 ∨ s[k + 1].toNat = 92
            · have HQ2 := Lib.hid (show quoP (s.data.toList.drop (k + 2)) (k + 2) (out ++ [s[k + 1]]) = R by
                rw [← HQ.out, HDR.out, HDR2.out]
                conv => rhs; unfold quoP
                rw [if_neg h34, if_pos h92]
                simp only []
                rw [if_pos hq2])
              have hq3 : (((s[k + 1].toNat : Int) != 92) = false) ∨ (((s[k + 1].toNat : Int) != 92) = true ∧ ((s[k + 1].toNat : Int) != 34) = false) := by
                rcases hq2 with h | h <;> simp [h]
              clear HDR HDR2 HQ hcb h34 h92 hq2
              rcases hq3 with g1 | ⟨g1, g2⟩
              all_goals
                go_wp2_with fail
                go_round
                case rel => exact ⟨k + 2, _, by go_num, rfl, by omega, by omega, by simp; omega, HQ2.out⟩
                case measure => simp [intOf]; omega
            · have HQ2 := Lib.hid (show (0, []) = R by
                rw [← HQ.out, HDR.out, HDR2.out]
                unfold quoP
                rw [if_neg h34, if_pos h92]
                simp only []
                rw [if_neg hq2])
              have g1 : ((s[k + 1].toNat : Int) != 34) = true := bne_iff_ne.2 (by omega)
              have g2 : ((s[k + 1].toNat : Int) != 92) = true := bne_iff_ne.2 (by omega)
              clear HDR HDR2 HQ hcb h34 h92 hq2
              go_wp2_with fail
              go_ret3
              exact ⟨⟨0, .inr (by rw [← HQ2.out]), by rw [← HQ2.out]; rfl⟩, Below.refl _ _⟩
          · have hk2e : ((k : Int) + 1 = (s.size : Int)) := by omega
            have HQ2 := Lib.hid (show (0, []) = R by
              rw [← HQ.out, HDR.out, List.drop_of_length_le (by simpa using (by omega : s.size ≤ k + 1))]
              unfold quoP
              rw [if_neg h34, if_pos h92])
            clear HDR HQ hcb h34 h92
            go_wp2_with fail
            go_ret3
            exact ⟨⟨0, .inr (by rw [← HQ2.out]), by rw [← HQ2.out]; rfl⟩, Below.refl _ _⟩
        · have h92b : ((s[k].toNat : Int) == 92) = false := beq_eq_false_iff_ne.2 (by omega)
          by_cases hbad : s[k].toNat < 32 ∨ 126 < s[k].toNat
          · have HQ2 := Lib.hid (show (0, []) = R by
              rw [← HQ.out, HDR.out]
              unfold quoP
              rw [if_neg h34, if_neg h92, if_pos hbad])
            have hbi : (s[k].toNat : Int) < 32 ∨ (¬ (s[k].toNat : Int) < 32 ∧ 126 < (s[k].toNat : Int)) := by omega
            clear HDR HQ hcb h34 h92 hbad
            rcases hbi with g1 | ⟨g1, g2⟩
            all_goals
              go_wp2_with fail
              go_ret3
              exact ⟨⟨0, .inr (by rw [← HQ2.out]), by rw [← HQ2.out]; rfl⟩, Below.refl _ _⟩
          · have HQ2 := Lib.hid (show quoP (s.data.toList.drop (k + 1)) (k + 1) (out ++ [s[k]]) = R by
              rw [← HQ.out, HDR.out]
              conv => rhs; unfold quoP
              rw [if_neg h34, if_neg h92, if_neg hbad])
            have g1 : ¬ (s[k].toNat : Int) < 32 := by omega
            have g2 : ¬ 126 < (s[k].toNat : Int) := by omega
            clear HDR HQ hcb h34 h92 hbad
            go_wp2_with fail
            go_round
            case rel => exact ⟨k + 1, _, by go_num, rfl, by omega, by omega, by simp; omega, HQ2.out⟩
            case measure => simp [intOf]; omega
    · have hki : ¬ (k : Int) < (s.size : Int) := by omega
      have HQ2 := Lib.hid (show (0, []) = R by
        rw [← HQ.out, List.drop_of_length_le (by simpa using (by omega : s.size ≤ k))]
        rfl)
      clear HQ
      go_wp2_with fail
      go_ret3
      exact ⟨⟨0, .inr (by rw [← HQ2.out]), by rw [← HQ2.out]; rfl⟩, Below.refl _ _⟩
set_option maxRecDepth 20000 in
set_option maxHeartbeats 2000000 in
theorem take_word (s : ByteArray) (w : World) (hs : s.size ≤ 100000) (h0 : 0 < s.size) (hc : letN s[0].toNat = true) :
    Calls Tryd.prog 99 #[.string s] w fun e w' => e = .returned (takV (1, 1 + ((s.data.toList.drop 1).takeWhile wordB).length, s[0] :: (s.data.toList.drop 1).takeWhile wordB)) ∧ Below w.heap.size w w' := by
  have hsi : (s.size : Int) ≤ 100000 := by omega
  have hs0 : (0 : Int) < (s.size : Int) := by omega
  obtain ⟨R, hR⟩ : ∃ R, (1, 1 + ((s.data.toList.drop 1).takeWhile wordB).length, s[0] :: (s.data.toList.drop 1).takeWhile wordB) = R := ⟨_, rfl⟩
  rw [hR]
  have HR := Lib.hid hR
  clear hR
  obtain ⟨N, hN⟩ : ∃ N, 1 + ((s.data.toList.drop 1).takeWhile wordB).length = N := ⟨_, rfl⟩
  have HT := Lib.hid (take_head s wordB h0)
  have HN := Lib.hid hN
  have HZ := Lib.hid (show 0 + ((s.data.toList.drop 0).takeWhile wordB).length = N by
    rw [← hN, drop_cons s 0 h0, List.takeWhile_cons_of_pos (by simp [hc, wordB, digB])]; simp; omega)
  clear hN
  go_enter Tryd.func99, Tryd.ntmps99
  go_wp2_with (first | (go_at_call 103; refine (rletter_any _ _).mono ?_; rintro e w' ⟨rfl, rfl⟩) | (go_at_call 104; refine (rdigit_any _ _).mono ?_; rintro e w' ⟨rfl, rfl⟩))
  go_loop [5] (fun i => ∃ k : Nat, i = .int .i64 k ∧ 0 ≤ k ∧ k ≤ s.size ∧ k + ((s.data.toList.drop k).takeWhile wordB).length = N) (fun i => s.size - (intOf i).toNat)
  case atStart => exact ⟨0, rfl, by omega, by omega, HZ.out⟩
  case round =>
    obtain ⟨k, rfl, hk1, hk, hq⟩ := hrel
    have HQ := Lib.hid hq
    clear hq
    by_cases hlt : k < s.size
    · have HDR := Lib.hid (drop_cons s k hlt)
      have hcb := s[k].toNat_lt
      have hk0 : (0 : Int) ≤ (k : Int) := by omega
      have hki : (k : Int) < (s.size : Int) := by omega
      cases hl : letN s[k].toNat with
      | true =>
        have HQ2 := Lib.hid (show k + 1 + ((s.data.toList.drop (k + 1)).takeWhile wordB).length = N by
          rw [← HQ.out, HDR.out, List.takeWhile_cons_of_pos (by simp [wordB, hl])]; simp; omega)
        clear HDR HQ hcb
        go_wp2_with (first | (go_at_call 103; refine (rletter_any _ _).mono ?_; rintro e w' ⟨rfl, rfl⟩) | (go_at_call 104; refine (rdigit_any _ _).mono ?_; rintro e w' ⟨rfl, rfl⟩))
        go_round
        case rel => exact ⟨k + 1, by go_num, by omega, by omega, HQ2.out⟩
        case measure => simp [intOf]; omega
      | false =>
        cases hd : digN s[k].toNat with
        | true =>
          have HQ2 := Lib.hid (show k + 1 + ((s.data.toList.drop (k + 1)).takeWhile wordB).length = N by
            rw [← HQ.out, HDR.out, List.takeWhile_cons_of_pos (by simp [wordB, hl, hd])]; simp; omega)
          clear HDR HQ hcb
          go_wp2_with (first | (go_at_call 103; refine (rletter_any _ _).mono ?_; rintro e w' ⟨rfl, rfl⟩) | (go_at_call 104; refine (rdigit_any _ _).mono ?_; rintro e w' ⟨rfl, rfl⟩))
          go_round
          case rel => exact ⟨k + 1, by go_num, by omega, by omega, HQ2.out⟩
          case measure => simp [intOf]; omega
        | false =>
          have HQ2 := Lib.hid (show k = N by
            rw [← HQ.out, HDR.out, List.takeWhile_cons_of_neg (by simp [wordB, hl, hd])]; simp)
          clear HDR HQ hcb
          go_wp2_with (first | (go_at_call 103; refine (rletter_any _ _).mono ?_; rintro e w' ⟨rfl, rfl⟩) | (go_at_call 104; refine (rdigit_any _ _).mono ?_; rintro e w' ⟨rfl, rfl⟩))
          go_quiet (fail)
          go_wp2_with fail
          go_ret3
          have HX : s.extract 0 k = ⟨(s[0] :: (s.data.toList.drop 1).takeWhile wordB).toArray⟩ := by rw [HQ2.out, ← HN.out]; exact HT.out
          refine ⟨?_, bel_drewN (Below.refl _ _)⟩
          show Ending.returned (.tuple #[.int .i64 1, .string (s.extract 0 k), .int .i64 k]) = _
          rw [HX, ← HR.out, HN.out, ← HQ2.out]
          rfl
    · have hki : ¬ (k : Int) < (s.size : Int) := by omega
      have HQ2 := Lib.hid (show k = N by
        rw [← HQ.out, List.drop_of_length_le (by simpa using (by omega : s.size ≤ k))]; simp)
      clear HQ
      go_wp2_with fail
      go_quiet (fail)
      go_wp2_with fail
      go_ret3
      have HX : s.extract 0 k = ⟨(s[0] :: (s.data.toList.drop 1).takeWhile wordB).toArray⟩ := by rw [HQ2.out, ← HN.out]; exact HT.out
      refine ⟨?_, bel_drewN (Below.refl _ _)⟩
      show Ending.returned (.tuple #[.int .i64 1, .string (s.extract 0 k), .int .i64 k]) = _
      rw [HX, ← HR.out, HN.out, ← HQ2.out]
      rfl
set_option maxRecDepth 20000 in
set_option maxHeartbeats 2000000 in
theorem take_dig (s : ByteArray) (w : World) (hs : s.size ≤ 100000) (h0 : 0 < s.size) (hc : letN s[0].toNat = false) (hd0 : digN s[0].toNat = true) :
    Calls Tryd.prog 99 #[.string s] w fun e w' => e = .returned (takV (if 9 < 1 + ((s.data.toList.drop 1).takeWhile digB).length then (0, 0, []) else (2, 1 + ((s.data.toList.drop 1).takeWhile digB).length, s[0] :: (s.data.toList.drop 1).takeWhile digB))) ∧ Below w.heap.size w w' := by
  have hsi : (s.size : Int) ≤ 100000 := by omega
  have hs0 : (0 : Int) < (s.size : Int) := by omega
  obtain ⟨R, hR⟩ : ∃ R, (if 9 < 1 + ((s.data.toList.drop 1).takeWhile digB).length then (0, 0, []) else (2, 1 + ((s.data.toList.drop 1).takeWhile digB).length, s[0] :: (s.data.toList.drop 1).takeWhile digB)) = R := ⟨_, rfl⟩
  rw [hR]
  have HR := Lib.hid hR
  clear hR
  obtain ⟨N, hN⟩ : ∃ N, 1 + ((s.data.toList.drop 1).takeWhile digB).length = N := ⟨_, rfl⟩
  have HT := Lib.hid (take_head s digB h0)
  have HN := Lib.hid hN
  have HZ := Lib.hid (show 0 + ((s.data.toList.drop 0).takeWhile digB).length = N by
    rw [← hN, drop_cons s 0 h0, List.takeWhile_cons_of_pos (by simp [hd0, wordB, digB])]; simp; omega)
  clear hN
  go_enter Tryd.func99, Tryd.ntmps99
  go_wp2_with (first | (go_at_call 103; refine (rletter_any _ _).mono ?_; rintro e w' ⟨rfl, rfl⟩) | (go_at_call 104; refine (rdigit_any _ _).mono ?_; rintro e w' ⟨rfl, rfl⟩))
  go_loop [5] (fun i => ∃ k : Nat, i = .int .i64 k ∧ 0 ≤ k ∧ k ≤ s.size ∧ k + ((s.data.toList.drop k).takeWhile digB).length = N) (fun i => s.size - (intOf i).toNat)
  case atStart => exact ⟨0, rfl, by omega, by omega, HZ.out⟩
  case round =>
    obtain ⟨k, rfl, hk1, hk, hq⟩ := hrel
    have HQ := Lib.hid hq
    clear hq
    by_cases hlt : k < s.size
    · have HDR := Lib.hid (drop_cons s k hlt)
      have hcb := s[k].toNat_lt
      have hk0 : (0 : Int) ≤ (k : Int) := by omega
      have hki : (k : Int) < (s.size : Int) := by omega
      cases hd : digN s[k].toNat with
      | true =>
        have HQ2 := Lib.hid (show k + 1 + ((s.data.toList.drop (k + 1)).takeWhile digB).length = N by
          rw [← HQ.out, HDR.out, List.takeWhile_cons_of_pos (by simp [digB, hd])]; simp; omega)
        clear HDR HQ hcb
        go_wp2_with (first | (go_at_call 103; refine (rletter_any _ _).mono ?_; rintro e w' ⟨rfl, rfl⟩) | (go_at_call 104; refine (rdigit_any _ _).mono ?_; rintro e w' ⟨rfl, rfl⟩))
        go_round
        case rel => exact ⟨k + 1, by go_num, by omega, by omega, HQ2.out⟩
        case measure => simp [intOf]; omega
      | false =>
        have HQ2 := Lib.hid (show k = N by
          rw [← HQ.out, HDR.out, List.takeWhile_cons_of_neg (by simp [digB, hd])]; simp)
        clear HDR HQ hcb
        by_cases h9 : 9 < k
        · have h9i : (9 : Int) < (k : Int) := by omega
          have H9 := Lib.hid h9
          clear h9
          go_wp2_with (first | (go_at_call 103; refine (rletter_any _ _).mono ?_; rintro e w' ⟨rfl, rfl⟩) | (go_at_call 104; refine (rdigit_any _ _).mono ?_; rintro e w' ⟨rfl, rfl⟩))
          go_ret3
          refine ⟨?_, Below.refl _ _⟩
          rw [← HR.out, HN.out, ← HQ2.out, if_pos H9.out]
          rfl
        · have h9i : ¬ (9 : Int) < (k : Int) := by omega
          have H9 := Lib.hid h9
          clear h9
          go_wp2_with (first | (go_at_call 103; refine (rletter_any _ _).mono ?_; rintro e w' ⟨rfl, rfl⟩) | (go_at_call 104; refine (rdigit_any _ _).mono ?_; rintro e w' ⟨rfl, rfl⟩))
          go_quiet (fail)
          go_wp2_with fail
          go_ret3
          have HX : s.extract 0 k = ⟨(s[0] :: (s.data.toList.drop 1).takeWhile digB).toArray⟩ := by rw [HQ2.out, ← HN.out]; exact HT.out
          refine ⟨?_, bel_drewN (Below.refl _ _)⟩
          show Ending.returned (.tuple #[.int .i64 2, .string (s.extract 0 k), .int .i64 k]) = _
          rw [HX, ← HR.out, HN.out, ← HQ2.out, if_neg H9.out]
          rfl
    · have hki : ¬ (k : Int) < (s.size : Int) := by omega
      have HQ2 := Lib.hid (show k = N by
        rw [← HQ.out, List.drop_of_length_le (by simpa using (by omega : s.size ≤ k))]; simp)
      clear HQ
      by_cases h9 : 9 < k
      · have h9i : (9 : Int) < (k : Int) := by omega
        have H9 := Lib.hid h9
        clear h9
        go_wp2_with fail
        go_ret3
        refine ⟨?_, Below.refl _ _⟩
        rw [← HR.out, HN.out, ← HQ2.out, if_pos H9.out]
        rfl
      · have h9i : ¬ (9 : Int) < (k : Int) := by omega
        have H9 := Lib.hid h9
        clear h9
        go_wp2_with fail
        go_quiet (fail)
        go_wp2_with fail
        go_ret3
        have HX : s.extract 0 k = ⟨(s[0] :: (s.data.toList.drop 1).takeWhile digB).toArray⟩ := by rw [HQ2.out, ← HN.out]; exact HT.out
        refine ⟨?_, bel_drewN (Below.refl _ _)⟩
        show Ending.returned (.tuple #[.int .i64 2, .string (s.extract 0 k), .int .i64 k]) = _
        rw [HX, ← HR.out, HN.out, ← HQ2.out, if_neg H9.out]
        rfl
set_option maxRecDepth 20000 in
set_option maxHeartbeats 2000000 in
theorem take_quo (s : ByteArray) (w : World) (hs : s.size ≤ 100000) (h0 : 0 < s.size) (hc : letN s[0].toNat = false) (hd : digN s[0].toNat = false) (hq : s[0].toNat = 34) :
    Calls Tryd.prog 99 #[.string s] w fun e w' => rquoE (quoP (s.data.toList.drop 1) 1 []) e ∧ Below w.heap.size w w' := by
  have hsi : (s.size : Int) ≤ 100000 := by omega
  have hs0 : (0 : Int) < (s.size : Int) := by omega
  have hq0 : ((s[0].toNat : Int) == 34) = true := beq_iff_eq.2 (by omega)
  have hquo := rquoted_any s w hs (by omega)
  generalize quoP (s.data.toList.drop 1) 1 [] = R at hquo ⊢
  have HQUO := Lib.hid hquo
  clear hquo hq
  go_enter Tryd.func99, Tryd.ntmps99
  go_wp2_with (first | (go_at_call 103; refine (rletter_any _ _).mono ?_; rintro e w' ⟨rfl, rfl⟩) | (go_at_call 104; refine (rdigit_any _ _).mono ?_; rintro e w' ⟨rfl, rfl⟩) | (go_at_call 105; refine HQUO.out.mono ?_; rintro e w' ⟨⟨n, hn, rfl⟩, hb⟩))
  go_ret3
  exact ⟨⟨n, hn, rfl⟩, hb⟩
set_option maxRecDepth 20000 in
set_option maxHeartbeats 4000000 in
theorem take_sign (s : ByteArray) (w : World) (hs : s.size ≤ 100000) (h0 : 0 < s.size) (hc : letN s[0].toNat = false) (hd : digN s[0].toNat = false) (hq : s[0].toNat ≠ 34) :
    Calls Tryd.prog 99 #[.string s] w fun e w' => e = .returned (takV (match signP s.data.toList with | some g => (4, g.length, g) | none => (0, 0, []))) ∧ Below w.heap.size w w' := by
  have hsi : (s.size : Int) ≤ 100000 := by omega
  have hs0 : (0 : Int) < (s.size : Int) := by omega
  have hq0 : ((s[0].toNat : Int) == 34) = false := beq_eq_false_iff_ne.2 (by omega)
  obtain ⟨R0, hR0⟩ : ∃ R0, signP s.data.toList = R0 := ⟨_, rfl⟩
  rw [hR0]
  have HR0 := Lib.hid (show (signs.drop 0).find? (fun g => isPre g s.data.toList) = R0 from hR0)
  clear hR0 hq
  obtain ⟨R, hR⟩ : ∃ R, (match R0 with | some g => (4, g.length, g) | none => (0, 0, [])) = R := ⟨_, rfl⟩
  rw [hR]
  have HR := Lib.hid hR
  clear hR
  have HCELL := Lib.hid (fun (j : Nat) (g : List UInt8) (h : signs[j]? = some g) => sign_cell w h)
  have HS0 := Lib.hid h0
  go_enter Tryd.func99, Tryd.ntmps99
  go_wp2_with (first | (go_at_call 103; refine (rletter_any _ _).mono ?_; rintro e w' ⟨rfl, rfl⟩) | (go_at_call 104; refine (rdigit_any _ _).mono ?_; rintro e w' ⟨rfl, rfl⟩))
  go_loopw [68] (fun i wr => ∃ k n : Nat, i = .int .i64 k ∧ k ≤ 14 ∧ (signs.drop k).find? (fun g => isPre g s.data.toList) = R0 ∧ wr = (w.alloc (.cells signCells 9)).drewN n) (fun i _ => 14 - (intOf i).toNat)
  case atStart => exact ⟨0, 0, rfl, by omega, HR0.out, rfl⟩
  case round =>
    obtain ⟨k, n, rfl, hk, hq, hwr⟩ := hrel
    have HQ := Lib.hid hq
    have HB := Lib.hid (show Below w.heap.size w wr by rw [hwr]; exact bel_drewN (bel_new _ _))
    have HW := Lib.hid hwr
    clear hq
    by_cases hlt : k < 14
    · obtain ⟨g, hg⟩ : ∃ g, signs[k]? = some g := ⟨signs[k]'hlt, List.getElem?_eq_getElem hlt⟩
      have hcell : wr.cell? ⟨w.heap.size, k, none⟩ = some (.string ⟨g.toArray⟩) := by rw [hwr]; exact HCELL.out k g hg
      have hstep := signP_step hg HQ.out
      have hgl : g.length ≤ 2 := (sign_pos (List.mem_of_getElem? hg)).2
      have hsz : (ByteArray.mk g.toArray).size = g.length := by simp [ByteArray.size]
      clear hg HQ hwr
      by_cases hge : g.length ≤ s.size
      · have hcmp := isPre_bytes s g hge
        have hgi : (g.length : Int) ≤ (s.size : Int) := by omega
        cases hp : isPre g s.data.toList with
        | true =>
          have HS := Lib.hid (hstep.1 hp)
          rw [hp] at hcmp
          clear hstep hp
          go_wp2_with fail
          go_quiet (fail)
          go_wp2_with fail
          go_quiet (fail)
          go_wp2_with fail
          go_ret3
          refine ⟨?_, bel_drewN (bel_drewN HB.out)⟩
          rw [← HR.out, HS.out]
          rfl
        | false =>
          have HS := Lib.hid (hstep.2 hp)
          rw [hp] at hcmp
          clear hstep hp
          go_wp2_with fail
          go_quiet (fail)
          go_wp2_with fail
          go_roundw
          case rel => exact ⟨k + 1, _, by go_num, by omega, HS.out, by rw [HW.out]; exact drewN_two _ _ _⟩
          case measure => simp [intOf]; omega
      · have hgi : ¬ (g.length : Int) ≤ (s.size : Int) := by omega
        have HS := Lib.hid (hstep.2 (isPre_short _ _ (by rw [size_list]; exact hge)))
        clear hstep
        go_wp2_with fail
        go_quiet (fail)
        go_wp2_with fail
        go_roundw
        case rel => exact ⟨k + 1, _, by go_num, by omega, HS.out, by rw [HW.out]; exact drewN_two _ _ _⟩
        case measure => simp [intOf]; omega
    · obtain rfl : k = 14 := by omega
      have HS := Lib.hid (show R0 = none by rw [← HQ.out]; rfl)
      clear HQ hwr
      go_wp2_with fail
      go_ret3
      refine ⟨?_, HB.out⟩
      rw [← HR.out, HS.out]
      rfl
/-- take, whole. -/
theorem rtake_any (s : ByteArray) (w : World) (hs : s.size ≤ 100000) (h0 : 0 < s.size) :
    Calls Tryd.prog 99 #[.string s] w fun e w' => takE (tokP s.data.toList) e ∧ Below w.heap.size w w' := by
  have hl := head_list s h0
  cases hc : letN s[0].toNat with
  | true => rw [hl, tokP_word hc]; exact (take_word s w hs h0 hc).mono fun _ _ h => ⟨takE_of h.1, h.2⟩
  | false =>
    cases hd : digN s[0].toNat with
    | true =>
      have := take_dig s w hs h0 hc hd
      by_cases h9 : 9 < 1 + ((s.data.toList.drop 1).takeWhile digB).length
      · rw [if_pos h9] at this; rw [hl, tokP_long hc hd h9]; exact this.mono fun _ _ h => ⟨takE_of h.1, h.2⟩
      · rw [if_neg h9] at this; rw [hl, tokP_dig hc hd h9]; exact this.mono fun _ _ h => ⟨takE_of h.1, h.2⟩
    | false =>
      by_cases hq : s[0].toNat = 34
      · rw [hl, tokP_quo hc hd hq]
        refine (take_quo s w hs h0 hc hd hq).mono ?_
        rintro e w' ⟨⟨n, hn, rfl⟩, hb⟩
        exact ⟨⟨n, hn, rfl⟩, hb⟩
      · have := take_sign s w hs h0 hc hd hq
        cases hg : signP s.data.toList with
        | some g => rw [hg] at this; rw [hl, tokP_sign hc hd hq (hl ▸ hg)]; exact this.mono fun _ _ h => ⟨takE_of h.1, h.2⟩
        | none => rw [hg] at this; rw [hl, tokP_none hc hd hq (hl ▸ hg)]; exact this.mono fun _ _ h => ⟨takE_of h.1, h.2⟩
theorem take_tail (s : ByteArray) (w : World) (k : Nat) (hs : s.size ≤ 100000) (hk : k < s.size) :
    Calls Tryd.prog 99 #[.string (s.extract k s.size)] w fun e w' => takE (tokP (s.data.toList.drop k)) e ∧ Below w.heap.size w w' := by
  have := rtake_any (s.extract k s.size) w (by rw [tail_size]; omega) (by rw [tail_size]; omega)
  rwa [tail_list] at this
set_option maxRecDepth 20000 in
set_option maxHeartbeats 4000000 in
theorem rsplit_any (s : ByteArray) (w : World) (hs : s.size ≤ 4096) :
    Calls Tryd.prog 91 #[.string s] w fun e w' => SplitE 109 w.heap.size w' (.int .i64 2) (.int .i64 0) (splitT s.data.toList) e ∧ Below w.heap.size w w' := by
  have hsi : (s.size : Int) ≤ 4096 := by omega
  obtain ⟨R, hR⟩ : ∃ R, splitT s.data.toList = R := ⟨_, rfl⟩
  rw [hR]
  have HR0 := Lib.hid (show restS [] (s.data.toList.drop 0) ((1 : Nat) : Int) ((1 : Nat) : Int) = R by
    rw [← hR, restS, splitT, List.drop_zero]; simp)
  clear hR
  go_enter Tryd.func91, Tryd.ntmps91
  go_wp2_with fail
  go_loopw [4, 5, 6, 7] (fun u l b i wr => ∃ (k line col : Nat) (ts : List Tok), i = .int .i64 k ∧ l = .int .i64 line ∧ b = .int .i64 col ∧ col ≤ k + 1 ∧ k ≤ s.size ∧ line ≤ k + 1 ∧ ts.length ≤ k ∧ OwnK 109 wr w.heap.size u ts ∧ restS ts (s.data.toList.drop k) (line : Int) (col : Int) = R ∧ Below w.heap.size w wr) (fun _ _ _ i _ => s.size - (intOf i).toNat)
  case atStart => exact ⟨0, 1, 1, [], rfl, rfl, rfl, by omega, by omega, by omega, by simp, OwnK.nil _ _ _, HR0.out, Below.refl _ _⟩
  case round =>
    obtain ⟨k, line, col, ts, rfl, rfl, rfl, hbg, hk, hline, htl, ho, hq, hb⟩ := hrel
    have HO := Lib.hid ho
    have HB := Lib.hid hb
    have HQ := Lib.hid hq
    clear ho hb hq
    by_cases hlt : k < s.size
    · have HDR := Lib.hid (drop_cons s k hlt)
      have hcb := s[k].toNat_lt
      have hk0 : (0 : Int) ≤ (k : Int) := by omega
      have hki : (k : Int) < (s.size : Int) := by omega
      by_cases h10 : s[k].toNat = 10
      · have g1 : ((s[k].toNat : Int) == 10) = true := beq_iff_eq.2 (by omega)
        have HQ2 := Lib.hid (show restS ts (s.data.toList.drop (k + 1)) ((line + 1 : Nat) : Int) ((1 : Nat) : Int) = R by
          rw [← HQ.out, HDR.out]; exact rest_same (by rw [split_nl h10]; rfl))
        clear HDR HQ hcb h10
        go_wp2_with fail
        go_roundw
        case rel => exact ⟨k + 1, line + 1, 1, ts, by go_num, by go_num, by go_num, by omega, by omega, by omega, by omega, HO.out, HQ2.out, HB.out⟩
        case measure => simp [intOf]; omega
      · have g1 : ((s[k].toNat : Int) == 10) = false := beq_eq_false_iff_ne.2 (by omega)
        by_cases h35 : s[k].toNat = 35
        · have g5 : ((s[k].toNat : Int) == 35) = true := beq_iff_eq.2 (by omega)
          obtain ⟨N, hN⟩ : ∃ N, k + 1 + ((s.data.toList.drop (k + 1)).takeWhile notNl).length = N := ⟨_, rfl⟩
          have HQ2 := Lib.hid (show restS ts (s.data.toList.drop N) (line : Int) ((col + (N - k) : Nat) : Int) = R by
            rw [← HQ.out, HDR.out]
            refine (rest_same ?_).symm
            rw [split_note h35, List.drop_drop, hN]
            congr 1
            omega)
          have hN2 : N ≤ s.size := by
            have := takeWhile_len notNl (s.data.toList.drop (k + 1))
            rw [List.length_drop, size_list] at this
            omega
          have hN3 : k + 1 ≤ N := by omega
          have HN := Lib.hid hN
          clear HDR HQ hcb h10 h35 hN
          go_wp2_with fail
          go_loop [9] (fun i => ∃ j : Nat, i = .int .i64 j ∧ 1 ≤ j ∧ k + j ≤ s.size ∧ k + j + ((s.data.toList.drop (k + j)).takeWhile notNl).length = N) (fun i => s.size - (intOf i).toNat)
          case atStart => exact ⟨1, rfl, by omega, by omega, HN.out⟩
          case round =>
            obtain ⟨j, rfl, hj1, hj, hjq⟩ := hrel
            have HJ := Lib.hid hjq
            clear hjq
            by_cases hjlt : k + j < s.size
            · have HDJ := Lib.hid (drop_cons s (k + j) hjlt)
              have hcb := s[k + j].toNat_lt
              have hj0 : (0 : Int) ≤ (k : Int) + (j : Int) := by omega
              have hji : (k : Int) + (j : Int) < (s.size : Int) := by omega
              by_cases hjn : s[k + j].toNat = 10
              · have f1 : ((s[k + j].toNat : Int) != 10) = false := by simp [hjn]
                have HJ2 := Lib.hid (show k + j = N by
                  rw [← HJ.out, HDJ.out, List.takeWhile_cons_of_neg (by simp [notNl, hjn])]; simp)
                clear HDJ HJ hcb hjn
                go_wp2_with fail
                go_roundw
                case rel => exact ⟨N, line, col + (N - k), ts, by rw [← HJ2.out]; go_num, by go_num, by rw [← HJ2.out, show k + j - k = j by omega]; go_num, by omega, by omega, by omega, by omega, HO.out, HQ2.out, HB.out⟩
                case measure => have := HJ2.out; simp [intOf]; omega
              · have f1 : ((s[k + j].toNat : Int) != 10) = true := bne_iff_ne.2 (by omega)
                have HJ2 := Lib.hid (show k + (j + 1) + ((s.data.toList.drop (k + (j + 1))).takeWhile notNl).length = N by
                  rw [← HJ.out, HDJ.out, List.takeWhile_cons_of_pos (by simp [notNl, hjn])]; simp [← Nat.add_assoc]; omega)
                clear HDJ HJ hcb hjn
                go_wp2_with fail
                go_round
                case rel => exact ⟨j + 1, by go_num, by omega, by omega, HJ2.out⟩
                case measure => simp [intOf]; omega
            · have hji : ¬ (k : Int) + (j : Int) < (s.size : Int) := by omega
              have HJ2 := Lib.hid (show k + j = N by
                rw [← HJ.out, List.drop_of_length_le (by rw [size_list]; omega)]; simp)
              clear HJ
              go_wp2_with fail
              go_roundw
              case rel => exact ⟨N, line, col + (N - k), ts, by rw [← HJ2.out]; go_num, by go_num, by rw [← HJ2.out, show k + j - k = j by omega]; go_num, by omega, by omega, by omega, by omega, HO.out, HQ2.out, HB.out⟩
              case measure => have := HJ2.out; simp [intOf]; omega
        · have g5 : ((s[k].toNat : Int) == 35) = false := beq_eq_false_iff_ne.2 (by omega)
          by_cases hbl : s[k].toNat = 32 ∨ s[k].toNat = 9 ∨ s[k].toNat = 13
          · have HQ2 := Lib.hid (show restS ts (s.data.toList.drop (k + 1)) (line : Int) ((col + 1 : Nat) : Int) = R by
              rw [← HQ.out, HDR.out]; exact rest_same (by rw [split_blank hbl]; congr 1))
            have g2 : (((s[k].toNat : Int) != 32) = false) ∨ (((s[k].toNat : Int) != 32) = true ∧ ((s[k].toNat : Int) != 9) = false) ∨ (((s[k].toNat : Int) != 32) = true ∧ ((s[k].toNat : Int) != 9) = true ∧ ((s[k].toNat : Int) != 13) = false) := by
              rcases hbl with h | h | h <;> simp [h]
            clear HDR HQ hcb h10 hbl h35
            rcases g2 with g2 | ⟨g2, g3⟩ | ⟨g2, g3, g4⟩
            all_goals
              go_wp2_with fail
              go_roundw
              case rel => exact ⟨k + 1, line, col + 1, ts, by go_num, by go_num, by go_num, by omega, by omega, by omega, by omega, HO.out, HQ2.out, HB.out⟩
              case measure => simp [intOf]; omega
          · have g2 : ((s[k].toNat : Int) != 32) = true := bne_iff_ne.2 (by omega)
            have g3 : ((s[k].toNat : Int) != 9) = true := bne_iff_ne.2 (by omega)
            have g4 : ((s[k].toNat : Int) != 13) = true := bne_iff_ne.2 (by omega)
            have hpl : plainB s[k] := ⟨h10, by omega, by omega, by omega, h35⟩
            have htk := fun W => take_tail s W k (by omega) hlt
            rw [HDR.out] at htk
            have hln := tokP_len (s[k] :: s.data.toList.drop (k + 1))
            rw [← HDR.out, List.length_drop, size_list, HDR.out] at hln
            by_cases hz : (tokP (s[k] :: s.data.toList.drop (k + 1))).2.1 = 0
            · have HQ2 := Lib.hid (show none = R by
                rw [← HQ.out, HDR.out]; exact (rest_none (split_bad hpl hz)).symm)
              generalize tokP (s[k] :: s.data.toList.drop (k + 1)) = t at htk hz hln
              obtain ⟨kd, n, tx⟩ := t
              dsimp only at hz hln
              subst hz
              have HTK := Lib.hid htk
              clear htk HDR HQ hcb h10 hbl h35 hpl
              go_wp2_with (go_at_call 99; refine (HTK.out _).mono ?_; rintro e w1 ⟨⟨nk, hnk, rfl⟩, hb1⟩)
              go_ret2
              exact ⟨by rw [← HQ2.out]; rfl, HB.out.trans (hb1.mono HB.out.size)⟩
            · have hqq := show restS (ts ++ [⟨((tokP (s[k] :: s.data.toList.drop (k + 1))).1 : Int), (tokP (s[k] :: s.data.toList.drop (k + 1))).2.2, (line : Int), (col : Int)⟩]) (s.data.toList.drop (k + (tokP (s[k] :: s.data.toList.drop (k + 1))).2.1)) (line : Int) ((col + (tokP (s[k] :: s.data.toList.drop (k + 1))).2.1 : Nat) : Int) = R by
                rw [← HQ.out, HDR.out]
                refine (rest_tok ?_).symm
                rw [split_tok hpl hz, ← HDR.out, List.drop_drop]
                congr 2
              generalize tokP (s[k] :: s.data.toList.drop (k + 1)) = t at htk hz hln hqq
              obtain ⟨kd, n, tx⟩ := t
              dsimp only at hz hln hqq
              have HTK := Lib.hid (show ∀ W, Calls Tryd.prog 99 #[.string (s.extract k s.size)] W fun e w' => e = .returned (.tuple #[.int .i64 kd, .string ⟨tx.toArray⟩, .int .i64 n]) ∧ Below W.heap.size W w' by
                intro W
                refine (htk W).mono ?_
                rintro e w' ⟨⟨nk, hnk, rfl⟩, hb⟩
                rcases hnk with rfl | hnk
                · exact ⟨rfl, hb⟩
                · exact absurd hnk hz)
              have HQ2 := Lib.hid hqq
              have hz1 : 1 ≤ n := by omega
              have hz0 : ((n : Int) == 0) = false := beq_eq_false_iff_ne.2 (by omega)
              have hzi : ¬ (n : Int) = 0 := by omega
              clear htk HDR HQ hcb h10 hbl h35 hpl hqq hz
              go_wp2_with (first | (go_at_call 99; refine (HTK.out _).mono ?_; rintro e w1 ⟨rfl, hb1⟩; have HB1 := Lib.hid hb1; have HO1 := Lib.hid (HO.out.step hb1); have HB2 := Lib.hid (HB.out.trans (hb1.mono HB.out.size)); clear hb1) | (at_builtin; refine wpList_appK 106 109 Tryd.underlying106 info109 rfl (.tmp 68) (.tmp 74) rfl w.heap.size _ ts rfl (HO1.out.step (bel_new _ _)) _ ⟨(kd : Int), tx, (line : Int), (col : Int)⟩ rfl (tok_cells 109 _ _) (by omega) (by have := HB2.out.size; simp; omega) ?_; intro v' w2 hown' hb' hz'))
              go_roundw
              case rel => exact ⟨k + n, line, col + n, _, by go_num, by go_num, by go_num, by omega, by omega, by omega, by simp; omega, hown', HQ2.out, (HB2.out.trans ((bel_new w1 _).mono HB2.out.size)).trans hb'⟩
              case measure => simp [intOf]; omega
    · obtain rfl : k = s.size := by omega
      have HQ2 := Lib.hid (show some (ts ++ [⟨5, [], (line : Int), (col : Int)⟩]) = R by
        rw [← HQ.out, List.drop_of_length_le (by rw [size_list]; omega), rest_end])
      clear HQ
      go_wp2_with (at_builtin; refine wpList_appK 106 109 Tryd.underlying106 info109 rfl (.tmp 83) (.tmp 87) rfl w.heap.size _ ts rfl (HO.out.step (bel_new _ _)) _ ⟨5, [], (line : Int), (col : Int)⟩ rfl (tok_cells 109 _ _) (by omega) (by have := HB.out.size; simp; omega) ?_; intro v' w1 hown' hb' hz')
      go_ret2
      exact ⟨by rw [← HQ2.out]; exact ⟨_, rfl, hown'⟩, (HB.out.trans ((bel_new wr _).mono HB.out.size)).trans hb'⟩
theorem rsplit_large (s : ByteArray) (w : World) (hs : ¬ s.size ≤ 4096) :
    Calls Tryd.prog 91 #[.string s] w fun e w' => e = .returned (.tuple #[.slice none 0 0, .int .i64 5]) ∧ Below w.heap.size w w' := by
  have hsi : (4096 : Int) < (s.size : Int) := by omega
  go_enter Tryd.func91, Tryd.ntmps91
  go_wp2_with fail
  go_ret2
  exact ⟨rfl, Below.refl _ _⟩
theorem mk_size (a : List UInt8) : (ByteArray.mk a.toArray).size = a.length := by simp [ByteArray.size]
theorem run_cat (a b : List UInt8) (ha : a.length ≤ 8388608) (hb : b.length ≤ 8388608) (W : World) :
    (Op.stringOp .add (⟨a.toArray⟩ : ByteArray) ⟨b.toArray⟩).run Tryd.prog W = .ok (.string ⟨(a ++ b).toArray⟩) W := by
  have h1 : ((ByteArray.mk a.toArray).size : Int) ≤ 8388608 := by rw [mk_size]; omega
  have h2 : ((ByteArray.mk b.toArray).size : Int) ≤ 8388608 := by rw [mk_size]; omega
  rw [run_string_add W _ _ h1 h2, ByteArray.mk_append_mk]
set_option maxRecDepth 20000 in
set_option maxHeartbeats 2000000 in
theorem rquote_any (s : ByteArray) (w : World) (hs : s.size ≤ 100000) :
    Calls Tryd.prog 76 #[.string s] w fun e w' => e = .returned (rquoV s.data.toList) ∧ Below w.heap.size w w' := by
  have hsi : (s.size : Int) ≤ 100000 := by omega
  obtain ⟨R, hR⟩ : ∃ R, rquoV s.data.toList = R := ⟨_, rfl⟩
  rw [hR]
  have HR := Lib.hid hR
  clear hR
  go_enter Tryd.func76, Tryd.ntmps76
  go_wp2_with fail
  go_loopw [4, 8] (fun u i wr => ∃ k : Nat, i = .int .i64 k ∧ k ≤ s.size ∧ u = .string ⟨(34 :: (s.data.toList.take k).flatMap escB).toArray⟩ ∧ (s.data.toList.take k).all okB = true ∧ Below w.heap.size w wr) (fun _ i _ => s.size - (intOf i).toNat)
  case atStart => exact ⟨0, rfl, by omega, by simp, rfl, Below.refl _ _⟩
  case round =>
    obtain ⟨k, rfl, hk, rfl, hall, hb⟩ := hrel
    have HB := Lib.hid hb
    have HA := Lib.hid hall
    have hlen : (34 :: (s.data.toList.take k).flatMap escB).length ≤ 200001 := by
      have := esc_len (s.data.toList.take k)
      rw [List.length_take] at this
      simp only [List.length_cons]; omega
    clear hb hall
    by_cases hlt : k < s.size
    · have hcb := s[k].toNat_lt
      have hk0 : (0 : Int) ≤ (k : Int) := by omega
      have hki : (k : Int) < (s.size : Int) := by omega
      cases hok : okB s[k] with
      | false =>
        have HQ := Lib.hid (all_bad s k hlt hok)
        have hbi : (s[k].toNat : Int) < 32 ∨ (¬ (s[k].toNat : Int) < 32 ∧ 126 < (s[k].toNat : Int)) := by
          simp only [okB, decide_eq_false_iff_not] at hok
          omega
        clear hok hcb hlen
        rcases hbi with g1 | ⟨g1, g2⟩
        all_goals
          go_wp2_with fail
          go_ret2
          exact ⟨by rw [← HR.out, rquoV, HQ.out]; rfl, HB.out⟩
      | true =>
        have HA2 := Lib.hid (show (s.data.toList.take (k + 1)).all okB = true by rw [take_one s k hlt, List.all_append, HA.out]; simp [hok])
        have HE := Lib.hid (esc_step s k hlt)
        have g1 : ¬ (s[k].toNat : Int) < 32 := by simp only [okB, decide_eq_true_iff] at hok; omega
        have g2 : ¬ 126 < (s[k].toNat : Int) := by simp only [okB, decide_eq_true_iff] at hok; omega
        by_cases hq : s[k].toNat = 34 ∨ s[k].toNat = 92
        · have HE2 := Lib.hid (show escB s[k] = [92, s[k]] by rw [escB, if_pos hq])
          have hq3 : (((s[k].toNat : Int) == 34) = true) ∨ (((s[k].toNat : Int) == 34) = false ∧ ((s[k].toNat : Int) == 92) = true) := by
            rcases hq with h | h <;> simp [h]
          generalize hx : 34 :: (s.data.toList.take k).flatMap escB = out at hlen ⊢
          have HX := Lib.hid hx
          have hcat1 := run_cat out [92] (by omega) (by simp)
          have hcat2 := run_cat_one s k hlt (out ++ [92]) (by simp; omega)
          have hst := run_str (wr.alloc (.cells #[.int .u8 92] 5)) _ [92] (IsB.one wr 92 92 rfl)
          clear hok hcb hq hlen hx
          rcases hq3 with f1 | ⟨f1, f2⟩
          all_goals
            go_wp2_with fail
            go_roundw
            case rel => exact ⟨k + 1, by go_num, by omega, by rw [HE.out, HE2.out, ← HX.out]; simp, HA2.out, HB.out.trans ((bel_new wr _).mono HB.out.size)⟩
            case measure => simp [intOf]; omega
        · have HE2 := Lib.hid (show escB s[k] = [s[k]] by rw [escB, if_neg hq])
          have f1 : ((s[k].toNat : Int) == 34) = false := beq_eq_false_iff_ne.2 (by omega)
          have f2 : ((s[k].toNat : Int) == 92) = false := beq_eq_false_iff_ne.2 (by omega)
          generalize hx : 34 :: (s.data.toList.take k).flatMap escB = out at hlen ⊢
          have HX := Lib.hid hx
          have hcat2 := run_cat_one s k hlt out (by omega)
          clear hok hcb hq hlen hx
          go_wp2_with fail
          go_roundw
          case rel => exact ⟨k + 1, by go_num, by omega, by rw [HE.out, HE2.out, ← HX.out]; simp, HA2.out, HB.out⟩
          case measure => simp [intOf]; omega
    · obtain rfl : k = s.size := by omega
      rw [List.take_of_length_le (by rw [size_list]; omega)] at HA hlen ⊢
      have HR2 := Lib.hid (show Value.tuple #[.string ⟨(34 :: s.data.toList.flatMap escB ++ [34]).toArray⟩, .bool true] = R by rw [← HR.out, rquoV, HA.out]; rfl)
      generalize 34 :: s.data.toList.flatMap escB = out at hlen HR2 ⊢
      have hcat1 := run_cat out [34] (by omega) (by simp)
      clear hlen
      go_wp2_with fail
      go_ret2
      exact ⟨by rw [← HR2.out]; rfl, HB.out⟩
end Go.Proofs.YtogkiifljdnjgaaDoor
