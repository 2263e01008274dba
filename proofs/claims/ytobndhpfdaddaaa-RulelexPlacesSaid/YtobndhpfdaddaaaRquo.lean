/- The walk of the reference's quoted. No condition beyond a text's length. -/
import Derived.Test.YtobndhpfdaddaaaSigns
import Derived.Laws.Concat
namespace Go.Proofs.Ytobndhpfdaddaaa
open Go.RowKit
set_option linter.unusedVariables false
set_option linter.unusedSimpArgs false

theorem extract_one (s : ByteArray) (k : Nat) (h : k < s.size) : s.extract k (k + 1) = ⟨[s[k]].toArray⟩ := by
  rw [extract_list, drop_cons s k h]
  simp
theorem run_cat_one (s : ByteArray) (k : Nat) (h : k < s.size) (out : List UInt8) (hl : out.length ≤ 1000000) (W : World) :
    (Op.stringOp .add (⟨out.toArray⟩ : ByteArray) (s.extract k (k + 1))).run Try.prog W = .ok (.string ⟨(out ++ [s[k]]).toArray⟩) W := by
  rw [extract_one s k h]
  have h1 : ((ByteArray.mk out.toArray).size : Int) ≤ 8388608 := by rw [show (ByteArray.mk out.toArray).size = out.length from by simp [ByteArray.size]]; omega
  have h2 : ((ByteArray.mk [s[k]].toArray).size : Int) ≤ 8388608 := by rw [show (ByteArray.mk [s[k]].toArray).size = 1 from rfl]; omega
  rw [run_string_add W _ _ h1 h2, ByteArray.mk_append_mk]
/-- What the reference's quoted returns. -/
def rquoE (R : Nat × List UInt8) (e : Ending) : Prop := ∃ n : Int, (n = 3 ∨ R.1 = 0) ∧ e = .returned (.tuple #[.int .i64 n, .string ⟨R.2.toArray⟩, .int .i64 R.1])
set_option maxRecDepth 20000 in
set_option maxHeartbeats 2000000 in
theorem rquoted_any (s : ByteArray) (w : World) (hs : s.size ≤ 100000) (h1 : 1 ≤ s.size) :
    Calls Try.prog 26 #[.string s] w fun e w' => rquoE (quoP (s.data.toList.drop 1) 1 []) e ∧ Below w.heap.size w w' := by
  have hsi : (s.size : Int) ≤ 100000 := by omega
  obtain ⟨R, hR⟩ : ∃ R, quoP (s.data.toList.drop 1) 1 [] = R := ⟨_, rfl⟩
  rw [hR]
  have HR := Lib.hid hR
  clear hR
  go_enter Try.func26, Try.ntmps26
  go_wp2_with fail
  go_loop [5, 6] (fun u i => ∃ (k : Nat) (out : List UInt8), i = .int .i64 k ∧ u = .string ⟨out.toArray⟩ ∧ 1 ≤ k ∧ k ≤ s.size ∧ out.length ≤ k ∧ quoP (s.data.toList.drop k) k out = R) (fun _ i => s.size - (intOf i).toNat)
  case atStart => exact ⟨1, [], rfl, rfl, by omega, h1, by simp, HR.out⟩
  case round =>
    obtain ⟨k, out, rfl, rfl, hk1, hk, hol, hq⟩ := hrel
    have HQ := Lib.hid hq
    clear hq
    by_cases hlt : k < s.size
    · have HDR := Lib.hid (drop_cons s k hlt)
      have hcb := s[k].toNat_lt
      have hk0 : (0 : Int) ≤ (k : Int) := by omega
      have hki : (k : Int) < (s.size : Int) := by omega
      have hcat := run_cat_one s k hlt out (by omega)
      by_cases h34 : s[k].toNat = 34
      · have h34b : ((s[k].toNat : Int) == 34) = true := beq_iff_eq.2 (by omega)
        have HQ2 := Lib.hid (show (k + 1, out) = R by rw [← HQ.out, HDR.out]; unfold quoP; rw [if_pos h34])
        clear HDR HQ hcb h34
        go_wp2_with fail
        go_ret3
        exact ⟨⟨3, .inl rfl, by rw [← HQ2.out]; simp⟩, Below.refl _ _⟩
      · have h34b : ((s[k].toNat : Int) == 34) = false := beq_eq_false_iff_ne.2 (by omega)
        by_cases h92 : s[k].toNat = 92
        · have h92b : ((s[k].toNat : Int) == 92) = true := beq_iff_eq.2 (by omega)
          have g5 : ¬ (s[k].toNat : Int) < 32 := by omega
          have g6 : ¬ 126 < (s[k].toNat : Int) := by omega
          by_cases hlt2 : k + 1 < s.size
          · have hk2i : (k : Int) + 1 < (s.size : Int) := by omega
            have hk2e : (((k : Int) + 1) == (s.size : Int)) = false := beq_eq_false_iff_ne.2 (by omega)
            have hk2n : ¬ ((k : Int) + 1 = (s.size : Int)) := by omega
            have HDR2 := Lib.hid (drop_cons s (k + 1) hlt2)
            have hcat2 := run_cat_one s (k + 1) hlt2 out (by omega)
            by_cases hq2 : s[k + 1].toNat = 34 ∨ s[k + 1].toNat = 92
            · have HQ2 := Lib.hid (show quoP (s.data.toList.drop (k + 2)) (k + 2) (out ++ [s[k + 1]]) = R by
                rw [← HQ.out, HDR.out, HDR2.out]
                conv => rhs; unfold quoP
                rw [if_neg h34, if_pos h92]
                simp only []
                rw [if_pos hq2])
              have hq3 : (((s[k + 1].toNat : Int) != 92) = false) ∨ (((s[k + 1].toNat : Int) != 92) = true ∧ ((s[k + 1].toNat : Int) != 34) = false) := by
                rcases hq2 with h | h <;> simp [h]
              clear HDR HDR2 HQ hcb h34 h92 hq2
              rcases hq3 with g1 | ⟨g1, g2⟩
              all_goals
                go_wp2_with fail
                go_round
                case rel => exact ⟨k + 2, _, by go_num, rfl, by omega, by omega, by simp; omega, HQ2.out⟩
                case measure => simp [intOf]; omega
            · have HQ2 := Lib.hid (show (0, []) = R by
                rw [← HQ.out, HDR.out, HDR2.out]
                unfold quoP
                rw [if_neg h34, if_pos h92]
                simp only []
                rw [if_neg hq2])
              have g1 : ((s[k + 1].toNat : Int) != 34) = true := bne_iff_ne.2 (by omega)
              have g2 : ((s[k + 1].toNat : Int) != 92) = true := bne_iff_ne.2 (by omega)
              clear HDR HDR2 HQ hcb h34 h92 hq2
              go_wp2_with fail
              go_ret3
              exact ⟨⟨0, .inr (by rw [← HQ2.out]), by rw [← HQ2.out]; rfl⟩, Below.refl _ _⟩
          · have hk2e : ((k : Int) + 1 = (s.size : Int)) := by omega
            have HQ2 := Lib.hid (show (0, []) = R by
              rw [← HQ.out, HDR.out, List.drop_of_length_le (by simpa using (by omega : s.size ≤ k + 1))]
              unfold quoP
              rw [if_neg h34, if_pos h92])
            clear HDR HQ hcb h34 h92
            go_wp2_with fail
            go_ret3
            exact ⟨⟨0, .inr (by rw [← HQ2.out]), by rw [← HQ2.out]; rfl⟩, Below.refl _ _⟩
        · have h92b : ((s[k].toNat : Int) == 92) = false := beq_eq_false_iff_ne.2 (by omega)
          by_cases hbad : s[k].toNat < 32 ∨ 126 < s[k].toNat
          · have HQ2 := Lib.hid (show (0, []) = R by
              rw [← HQ.out, HDR.out]
              unfold quoP
              rw [if_neg h34, if_neg h92, if_pos hbad])
            have hbi : (s[k].toNat : Int) < 32 ∨ (¬ (s[k].toNat : Int) < 32 ∧ 126 < (s[k].toNat : Int)) := by omega
            clear HDR HQ hcb h34 h92 hbad
            rcases hbi with g1 | ⟨g1, g2⟩
            all_goals
              go_wp2_with fail
              go_ret3
              exact ⟨⟨0, .inr (by rw [← HQ2.out]), by rw [← HQ2.out]; rfl⟩, Below.refl _ _⟩
          · have HQ2 := Lib.hid (show quoP (s.data.toList.drop (k + 1)) (k + 1) (out ++ [s[k]]) = R by
              rw [← HQ.out, HDR.out]
              conv => rhs; unfold quoP
              rw [if_neg h34, if_neg h92, if_neg hbad])
            have g1 : ¬ (s[k].toNat : Int) < 32 := by omega
            have g2 : ¬ 126 < (s[k].toNat : Int) := by omega
            clear HDR HQ hcb h34 h92 hbad
            go_wp2_with fail
            go_round
            case rel => exact ⟨k + 1, _, by go_num, rfl, by omega, by omega, by simp; omega, HQ2.out⟩
            case measure => simp [intOf]; omega
    · have hki : ¬ (k : Int) < (s.size : Int) := by omega
      have HQ2 := Lib.hid (show (0, []) = R by
        rw [← HQ.out, List.drop_of_length_le (by simpa using (by omega : s.size ≤ k))]
        rfl)
      clear HQ
      go_wp2_with fail
      go_ret3
      exact ⟨⟨0, .inr (by rw [← HQ2.out]), by rw [← HQ2.out]; rfl⟩, Below.refl _ _⟩
end Go.Proofs.Ytobndhpfdaddaaa
