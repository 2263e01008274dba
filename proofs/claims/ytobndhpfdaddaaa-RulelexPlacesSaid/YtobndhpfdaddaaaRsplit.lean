/- The walk of the reference's Split. No condition beyond a text's length. -/
import Derived.Test.YtobndhpfdaddaaaSplit
namespace Go.Proofs.Ytobndhpfdaddaaa
open Go.RowKit
set_option linter.unusedVariables false
set_option linter.unusedSimpArgs false

theorem take_tail (s : ByteArray) (w : World) (k : Nat) (hs : s.size ≤ 100000) (hk : k < s.size) :
    Calls Try.prog 19 #[.string (s.extract k s.size)] w fun e w' => takE (tokP (s.data.toList.drop k)) e ∧ Below w.heap.size w w' := by
  have := take_any (s.extract k s.size) w (by rw [tail_size]; omega) (by rw [tail_size]; omega)
  rwa [tail_list] at this
set_option maxRecDepth 20000 in
set_option maxHeartbeats 4000000 in
theorem rsplit_any (s : ByteArray) (w : World) (hs : s.size ≤ 4096) :
    Calls Try.prog 11 #[.string s] w fun e w' => SplitE 55 w.heap.size w' (.int .i64 2) (.int .i64 0) (splitT s.data.toList) e ∧ Below w.heap.size w w' := by
  have hsi : (s.size : Int) ≤ 4096 := by omega
  obtain ⟨R, hR⟩ : ∃ R, splitT s.data.toList = R := ⟨_, rfl⟩
  rw [hR]
  have HR0 := Lib.hid (show restS [] (s.data.toList.drop 0) ((1 : Nat) : Int) ((1 : Nat) : Int) = R by
    rw [← hR, restS, splitT, List.drop_zero]; simp)
  clear hR
  go_enter Try.func11, Try.ntmps11
  go_wp2_with fail
  go_loopw [4, 5, 6, 7] (fun u l b i wr => ∃ (k line col : Nat) (ts : List Tok), i = .int .i64 k ∧ l = .int .i64 line ∧ b = .int .i64 col ∧ col ≤ k + 1 ∧ k ≤ s.size ∧ line ≤ k + 1 ∧ ts.length ≤ k ∧ OwnK 55 wr w.heap.size u ts ∧ restS ts (s.data.toList.drop k) (line : Int) (col : Int) = R ∧ Below w.heap.size w wr) (fun _ _ _ i _ => s.size - (intOf i).toNat)
  case atStart => exact ⟨0, 1, 1, [], rfl, rfl, rfl, by omega, by omega, by omega, by simp, OwnK.nil _ _ _, HR0.out, Below.refl _ _⟩
  case round =>
    obtain ⟨k, line, col, ts, rfl, rfl, rfl, hbg, hk, hline, htl, ho, hq, hb⟩ := hrel
    have HO := Lib.hid ho
    have HB := Lib.hid hb
    have HQ := Lib.hid hq
    clear ho hb hq
    by_cases hlt : k < s.size
    · have HDR := Lib.hid (drop_cons s k hlt)
      have hcb := s[k].toNat_lt
      have hk0 : (0 : Int) ≤ (k : Int) := by omega
      have hki : (k : Int) < (s.size : Int) := by omega
      by_cases h10 : s[k].toNat = 10
      · have g1 : ((s[k].toNat : Int) == 10) = true := beq_iff_eq.2 (by omega)
        have HQ2 := Lib.hid (show restS ts (s.data.toList.drop (k + 1)) ((line + 1 : Nat) : Int) ((1 : Nat) : Int) = R by
          rw [← HQ.out, HDR.out]; exact rest_same (by rw [split_nl h10]; rfl))
        clear HDR HQ hcb h10
        go_wp2_with fail
        go_roundw
        case rel => exact ⟨k + 1, line + 1, 1, ts, by go_num, by go_num, by go_num, by omega, by omega, by omega, by omega, HO.out, HQ2.out, HB.out⟩
        case measure => simp [intOf]; omega
      · have g1 : ((s[k].toNat : Int) == 10) = false := beq_eq_false_iff_ne.2 (by omega)
        by_cases h35 : s[k].toNat = 35
        · have g5 : ((s[k].toNat : Int) == 35) = true := beq_iff_eq.2 (by omega)
          obtain ⟨N, hN⟩ : ∃ N, k + 1 + ((s.data.toList.drop (k + 1)).takeWhile notNl).length = N := ⟨_, rfl⟩
          have HQ2 := Lib.hid (show restS ts (s.data.toList.drop N) (line : Int) ((col + (N - k) : Nat) : Int) = R by
            rw [← HQ.out, HDR.out]
            refine (rest_same ?_).symm
            rw [split_note h35, List.drop_drop, hN]
            congr 1
            omega)
          have hN2 : N ≤ s.size := by
            have := takeWhile_len notNl (s.data.toList.drop (k + 1))
            rw [List.length_drop, size_list] at this
            omega
          have hN3 : k + 1 ≤ N := by omega
          have HN := Lib.hid hN
          clear HDR HQ hcb h10 h35 hN
          go_wp2_with fail
          go_loop [9] (fun i => ∃ j : Nat, i = .int .i64 j ∧ 1 ≤ j ∧ k + j ≤ s.size ∧ k + j + ((s.data.toList.drop (k + j)).takeWhile notNl).length = N) (fun i => s.size - (intOf i).toNat)
          case atStart => exact ⟨1, rfl, by omega, by omega, HN.out⟩
          case round =>
            obtain ⟨j, rfl, hj1, hj, hjq⟩ := hrel
            have HJ := Lib.hid hjq
            clear hjq
            by_cases hjlt : k + j < s.size
            · have HDJ := Lib.hid (drop_cons s (k + j) hjlt)
              have hcb := s[k + j].toNat_lt
              have hj0 : (0 : Int) ≤ (k : Int) + (j : Int) := by omega
              have hji : (k : Int) + (j : Int) < (s.size : Int) := by omega
              by_cases hjn : s[k + j].toNat = 10
              · have f1 : ((s[k + j].toNat : Int) != 10) = false := by simp [hjn]
                have HJ2 := Lib.hid (show k + j = N by
                  rw [← HJ.out, HDJ.out, List.takeWhile_cons_of_neg (by simp [notNl, hjn])]; simp)
                clear HDJ HJ hcb hjn
                go_wp2_with fail
                go_roundw
                case rel => exact ⟨N, line, col + (N - k), ts, by rw [← HJ2.out]; go_num, by go_num, by rw [← HJ2.out, show k + j - k = j by omega]; go_num, by omega, by omega, by omega, by omega, HO.out, HQ2.out, HB.out⟩
                case measure => have := HJ2.out; simp [intOf]; omega
              · have f1 : ((s[k + j].toNat : Int) != 10) = true := bne_iff_ne.2 (by omega)
                have HJ2 := Lib.hid (show k + (j + 1) + ((s.data.toList.drop (k + (j + 1))).takeWhile notNl).length = N by
                  rw [← HJ.out, HDJ.out, List.takeWhile_cons_of_pos (by simp [notNl, hjn])]; simp [← Nat.add_assoc]; omega)
                clear HDJ HJ hcb hjn
                go_wp2_with fail
                go_round
                case rel => exact ⟨j + 1, by go_num, by omega, by omega, HJ2.out⟩
                case measure => simp [intOf]; omega
            · have hji : ¬ (k : Int) + (j : Int) < (s.size : Int) := by omega
              have HJ2 := Lib.hid (show k + j = N by
                rw [← HJ.out, List.drop_of_length_le (by rw [size_list]; omega)]; simp)
              clear HJ
              go_wp2_with fail
              go_roundw
              case rel => exact ⟨N, line, col + (N - k), ts, by rw [← HJ2.out]; go_num, by go_num, by rw [← HJ2.out, show k + j - k = j by omega]; go_num, by omega, by omega, by omega, by omega, HO.out, HQ2.out, HB.out⟩
              case measure => have := HJ2.out; simp [intOf]; omega
        · have g5 : ((s[k].toNat : Int) == 35) = false := beq_eq_false_iff_ne.2 (by omega)
          by_cases hbl : s[k].toNat = 32 ∨ s[k].toNat = 9 ∨ s[k].toNat = 13
          · have HQ2 := Lib.hid (show restS ts (s.data.toList.drop (k + 1)) (line : Int) ((col + 1 : Nat) : Int) = R by
              rw [← HQ.out, HDR.out]; exact rest_same (by rw [split_blank hbl]; congr 1))
            have g2 : (((s[k].toNat : Int) != 32) = false) ∨ (((s[k].toNat : Int) != 32) = true ∧ ((s[k].toNat : Int) != 9) = false) ∨ (((s[k].toNat : Int) != 32) = true ∧ ((s[k].toNat : Int) != 9) = true ∧ ((s[k].toNat : Int) != 13) = false) := by
              rcases hbl with h | h | h <;> simp [h]
            clear HDR HQ hcb h10 hbl h35
            rcases g2 with g2 | ⟨g2, g3⟩ | ⟨g2, g3, g4⟩
            all_goals
              go_wp2_with fail
              go_roundw
              case rel => exact ⟨k + 1, line, col + 1, ts, by go_num, by go_num, by go_num, by omega, by omega, by omega, by omega, HO.out, HQ2.out, HB.out⟩
              case measure => simp [intOf]; omega
          · have g2 : ((s[k].toNat : Int) != 32) = true := bne_iff_ne.2 (by omega)
            have g3 : ((s[k].toNat : Int) != 9) = true := bne_iff_ne.2 (by omega)
            have g4 : ((s[k].toNat : Int) != 13) = true := bne_iff_ne.2 (by omega)
            have hpl : plainB s[k] := ⟨h10, by omega, by omega, by omega, h35⟩
            have htk := fun W => take_tail s W k (by omega) hlt
            rw [HDR.out] at htk
            have hln := tokP_len (s[k] :: s.data.toList.drop (k + 1))
            rw [← HDR.out, List.length_drop, size_list, HDR.out] at hln
            by_cases hz : (tokP (s[k] :: s.data.toList.drop (k + 1))).2.1 = 0
            · have HQ2 := Lib.hid (show none = R by
                rw [← HQ.out, HDR.out]; exact (rest_none (split_bad hpl hz)).symm)
              generalize tokP (s[k] :: s.data.toList.drop (k + 1)) = t at htk hz hln
              obtain ⟨kd, n, tx⟩ := t
              dsimp only at hz hln
              subst hz
              have HTK := Lib.hid htk
              clear htk HDR HQ hcb h10 hbl h35 hpl
              go_wp2_with (go_at_call 19; refine (HTK.out _).mono ?_; rintro e w1 ⟨⟨nk, hnk, rfl⟩, hb1⟩)
              go_ret2
              exact ⟨by rw [← HQ2.out]; rfl, HB.out.trans (hb1.mono HB.out.size)⟩
            · have hqq := show restS (ts ++ [⟨((tokP (s[k] :: s.data.toList.drop (k + 1))).1 : Int), (tokP (s[k] :: s.data.toList.drop (k + 1))).2.2, (line : Int), (col : Int)⟩]) (s.data.toList.drop (k + (tokP (s[k] :: s.data.toList.drop (k + 1))).2.1)) (line : Int) ((col + (tokP (s[k] :: s.data.toList.drop (k + 1))).2.1 : Nat) : Int) = R by
                rw [← HQ.out, HDR.out]
                refine (rest_tok ?_).symm
                rw [split_tok hpl hz, ← HDR.out, List.drop_drop]
                congr 2
              generalize tokP (s[k] :: s.data.toList.drop (k + 1)) = t at htk hz hln hqq
              obtain ⟨kd, n, tx⟩ := t
              dsimp only at hz hln hqq
              have HTK := Lib.hid (show ∀ W, Calls Try.prog 19 #[.string (s.extract k s.size)] W fun e w' => e = .returned (.tuple #[.int .i64 kd, .string ⟨tx.toArray⟩, .int .i64 n]) ∧ Below W.heap.size W w' by
                intro W
                refine (htk W).mono ?_
                rintro e w' ⟨⟨nk, hnk, rfl⟩, hb⟩
                rcases hnk with rfl | hnk
                · exact ⟨rfl, hb⟩
                · exact absurd hnk hz)
              have HQ2 := Lib.hid hqq
              have hz1 : 1 ≤ n := by omega
              have hz0 : ((n : Int) == 0) = false := beq_eq_false_iff_ne.2 (by omega)
              have hzi : ¬ (n : Int) = 0 := by omega
              clear htk HDR HQ hcb h10 hbl h35 hpl hqq hz
              go_wp2_with (first | (go_at_call 19; refine (HTK.out _).mono ?_; rintro e w1 ⟨rfl, hb1⟩; have HB1 := Lib.hid hb1; have HO1 := Lib.hid (HO.out.step hb1); have HB2 := Lib.hid (HB.out.trans (hb1.mono HB.out.size)); clear hb1) | (at_builtin; refine wpList_appK 28 55 Try.underlying28 info55 rfl (.tmp 68) (.tmp 74) rfl w.heap.size _ ts rfl (HO1.out.step (bel_new _ _)) _ ⟨(kd : Int), tx, (line : Int), (col : Int)⟩ rfl (tok_cells 55 _ _) (by omega) (by have := HB2.out.size; simp; omega) ?_; intro v' w2 hown' hb' hz'))
              go_roundw
              case rel => exact ⟨k + n, line, col + n, _, by go_num, by go_num, by go_num, by omega, by omega, by omega, by simp; omega, hown', HQ2.out, (HB2.out.trans ((bel_new w1 _).mono HB2.out.size)).trans hb'⟩
              case measure => simp [intOf]; omega
    · obtain rfl : k = s.size := by omega
      have HQ2 := Lib.hid (show some (ts ++ [⟨5, [], (line : Int), (col : Int)⟩]) = R by
        rw [← HQ.out, List.drop_of_length_le (by rw [size_list]; omega), rest_end])
      clear HQ
      go_wp2_with (at_builtin; refine wpList_appK 28 55 Try.underlying28 info55 rfl (.tmp 83) (.tmp 87) rfl w.heap.size _ ts rfl (HO.out.step (bel_new _ _)) _ ⟨5, [], (line : Int), (col : Int)⟩ rfl (tok_cells 55 _ _) (by omega) (by have := HB.out.size; simp; omega) ?_; intro v' w1 hown' hb' hz')
      go_ret2
      exact ⟨by rw [← HQ2.out]; exact ⟨_, rfl, hown'⟩, (HB.out.trans ((bel_new wr _).mono HB.out.size)).trans hb'⟩
end Go.Proofs.Ytobndhpfdaddaaa
