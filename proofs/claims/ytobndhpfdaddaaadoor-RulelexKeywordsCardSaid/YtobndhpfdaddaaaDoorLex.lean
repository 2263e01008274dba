/- The walks of letter, digit and quoted. No condition beyond a text's length. -/
import Derived.Test.YtobndhpfdaddaaaDoorToks
namespace Go.Proofs.YtobndhpfdaddaaaDoor
open Go.RowKit
set_option linter.unusedVariables false
set_option linter.unusedSimpArgs false

def letN (c : Nat) : Bool := decide (97 ≤ c ∧ c ≤ 122 ∨ c = 95)
def digN (c : Nat) : Bool := decide (48 ≤ c ∧ c ≤ 57)
set_option maxRecDepth 20000 in
theorem letter_any (c : Nat) (w : World) : Calls Tryd.prog 11 #[.int .u8 c] w fun e w' => e = .returned (.bool (letN c)) ∧ w = w' := by
  go_enter Tryd.func11, Tryd.ntmps11
  go_wp2
  all_goals
    go_ret
    exact ⟨ret_bool (by rw [Bool.eq_iff_iff]; simp [letN]; omega), rfl⟩
theorem digit_any (c : Nat) (w : World) : Calls Tryd.prog 12 #[.int .u8 c] w fun e w' => e = .returned (.bool (digN c)) ∧ w = w' := by
  go_enter Tryd.func12, Tryd.ntmps12
  go_wp2
  all_goals
    go_ret
    exact ⟨ret_bool (by rw [Bool.eq_iff_iff]; simp [digN]; omega), rfl⟩
/-- The text of a string token, of what lies behind its first byte: how far it goes, and the text. -/
def quoP : List UInt8 → Nat → List UInt8 → Nat × List UInt8
  | [], _, _ => (0, [])
  | c :: r, i, out =>
    if c.toNat = 34 then (i + 1, out)
    else if c.toNat = 92 then match r with
      | [] => (0, [])
      | d :: r' => if d.toNat = 34 ∨ d.toNat = 92 then quoP r' (i + 2) (out ++ [d]) else (0, [])
    else if c.toNat < 32 ∨ 126 < c.toNat then (0, []) else quoP r (i + 1) (out ++ [c])
theorem drop_cons (s : ByteArray) (k : Nat) (h : k < s.size) : s.data.toList.drop k = s[k] :: s.data.toList.drop (k + 1) := by
  rw [List.drop_eq_getElem_cons (by simpa using h)]; rfl

set_option maxRecDepth 20000 in
set_option maxHeartbeats 2000000 in
theorem quoted_any (s : ByteArray) (w : World) (hs : s.size ≤ 100000) (h1 : 1 ≤ s.size) :
    Calls Tryd.prog 13 #[.string s] w fun e w' => e = .returned (.tuple #[.int .i64 (quoP (s.data.toList.drop 1) 1 []).1, .string ⟨(quoP (s.data.toList.drop 1) 1 []).2.toArray⟩]) ∧ Below w.heap.size w w' := by
  have hsi : (s.size : Int) ≤ 100000 := by omega
  generalize hR : quoP (s.data.toList.drop 1) 1 [] = R
  have HR := Lib.hid hR
  clear hR
  go_enter Tryd.func13, Tryd.ntmps13
  go_wp2_with fail
  go_loopw [4, 5] (fun u i wr => ∃ (k : Nat) (out : List UInt8), i = .int .i64 k ∧ 1 ≤ k ∧ k ≤ s.size ∧ OwnB wr w.heap.size u out ∧ out.length ≤ k ∧ quoP (s.data.toList.drop k) k out = R ∧ Below w.heap.size w wr) (fun _ i _ => s.size - (intOf i).toNat)
  case atStart => exact ⟨1, [], rfl, by omega, h1, OwnB.nil _ _, by simp, HR.out, Below.refl _ _⟩
  case round =>
    obtain ⟨k, out, rfl, hk1, hk, ho, hol, hq, hb⟩ := hrel
    have HO := Lib.hid ho
    have HB := Lib.hid hb
    have HQ := Lib.hid hq
    have hst := fun n => run_str (wr.drewN n) u4 _ (show IsB (wr.drewN n) u4 out from ho.isB)
    clear ho hb hq
    by_cases hlt : k < s.size
    · have HDR := Lib.hid (drop_cons s k hlt)
      have hcb := s[k].toNat_lt
      have hk0 : (0 : Int) ≤ (k : Int) := by omega
      have hki : (k : Int) < (s.size : Int) := by omega
      by_cases h34 : s[k].toNat = 34
      · have h34b : ((s[k].toNat : Int) == 34) = true := beq_iff_eq.2 (by omega)
        have HQ2 := Lib.hid (show (k + 1, out) = R by rw [← HQ.out, HDR.out]; unfold quoP; rw [if_pos h34])
        clear HDR HQ hcb h34
        go_wp2_with fail
        go_quiet (fail)
        go_wp2_with fail
        go_ret2
        exact ⟨by rw [← HQ2.out]; simp, bel_drewN HB.out⟩
      · have h34b : ((s[k].toNat : Int) == 34) = false := beq_eq_false_iff_ne.2 (by omega)
        by_cases h92 : s[k].toNat = 92
        · have h92b : ((s[k].toNat : Int) == 92) = true := beq_iff_eq.2 (by omega)
          by_cases hlt2 : k + 1 < s.size
          · have hk2i : (k : Int) + 1 < (s.size : Int) := by omega
            have hk2e : (((k : Int) + 1) == (s.size : Int)) = false := beq_eq_false_iff_ne.2 (by omega)
            have hk2n : ¬ ((k : Int) + 1 = (s.size : Int)) := by omega
            have HDR2 := Lib.hid (drop_cons s (k + 1) hlt2)
            by_cases hq2 : s[k + 1].toNat = 34 ∨ s[k + 1].toNat = 92
            · have HQ2 := Lib.hid (show quoP (s.data.toList.drop (k + 2)) (k + 2) (out ++ [s[k + 1]]) = R by
                rw [← HQ.out, HDR.out, HDR2.out]
                conv => rhs; unfold quoP
                rw [if_neg h34, if_pos h92]
                simp only []
                rw [if_pos hq2])
              have hq3 : (((s[k + 1].toNat : Int) != 34) = false) ∨ (((s[k + 1].toNat : Int) != 34) = true ∧ ((s[k + 1].toNat : Int) != 92) = false) := by
                rcases hq2 with h | h <;> simp [h]
              clear HDR HDR2 HQ hcb h34 h92 hq2
              rcases hq3 with g1 | ⟨g1, g2⟩
              all_goals
                go_wp2_with (at_builtin; refine wpList_app rfl (.tmp 54) (.tmp 56) rfl w.heap.size _ out rfl (HO.out.step (bel_new _ _)) _ [s[k + 1]] rfl (IsB.one _ _ _ rfl) (by simp; omega) (by have := HB.out.size; simp; omega) ?_; intro v' w1 hown' hb' hz' hne)
                go_roundw
                case rel => exact ⟨k + 2, _, by go_num, by omega, by omega, hown', by simp; omega, HQ2.out, (HB.out.trans ((bel_new wr _).mono HB.out.size)).trans hb'⟩
                case measure => simp [intOf]; omega
            · have HQ2 := Lib.hid (show (0, []) = R by
                rw [← HQ.out, HDR.out, HDR2.out]
                unfold quoP
                rw [if_neg h34, if_pos h92]
                simp only []
                rw [if_neg hq2])
              have g1 : ((s[k + 1].toNat : Int) != 34) = true := bne_iff_ne.2 (by omega)
              have g2 : ((s[k + 1].toNat : Int) != 92) = true := bne_iff_ne.2 (by omega)
              clear HDR HDR2 HQ hcb h34 h92 hq2
              go_wp2_with fail
              go_ret2
              exact ⟨by rw [← HQ2.out]; rfl, HB.out⟩
          · have hk2e : ((k : Int) + 1 = (s.size : Int)) := by omega
            have HQ2 := Lib.hid (show (0, []) = R by
              rw [← HQ.out, HDR.out, List.drop_of_length_le (by simpa using (by omega : s.size ≤ k + 1))]
              unfold quoP
              rw [if_neg h34, if_pos h92])
            clear HDR HQ hcb h34 h92
            go_wp2_with fail
            go_ret2
            exact ⟨by rw [← HQ2.out]; rfl, HB.out⟩
        · have h92b : ((s[k].toNat : Int) == 92) = false := beq_eq_false_iff_ne.2 (by omega)
          by_cases hbad : s[k].toNat < 32 ∨ 126 < s[k].toNat
          · have HQ2 := Lib.hid (show (0, []) = R by
              rw [← HQ.out, HDR.out]
              unfold quoP
              rw [if_neg h34, if_neg h92, if_pos hbad])
            have hbi : (s[k].toNat : Int) < 32 ∨ (¬ (s[k].toNat : Int) < 32 ∧ 126 < (s[k].toNat : Int)) := by omega
            clear HDR HQ hcb h34 h92 hbad
            rcases hbi with g1 | ⟨g1, g2⟩
            all_goals
              go_wp2_with fail
              go_ret2
              exact ⟨by rw [← HQ2.out]; rfl, HB.out⟩
          · have HQ2 := Lib.hid (show quoP (s.data.toList.drop (k + 1)) (k + 1) (out ++ [s[k]]) = R by
              rw [← HQ.out, HDR.out]
              conv => rhs; unfold quoP
              rw [if_neg h34, if_neg h92, if_neg hbad])
            have g1 : ¬ (s[k].toNat : Int) < 32 := by omega
            have g2 : ¬ 126 < (s[k].toNat : Int) := by omega
            clear HDR HQ hcb h34 h92 hbad
            go_wp2_with (at_builtin; refine wpList_app rfl (.tmp 54) (.tmp 56) rfl w.heap.size _ out rfl (HO.out.step (bel_new _ _)) _ [s[k]] rfl (IsB.one _ _ _ rfl) (by simp; omega) (by have := HB.out.size; simp; omega) ?_; intro v' w1 hown' hb' hz' hne)
            go_roundw
            case rel => exact ⟨k + 1, _, by go_num, by omega, by omega, hown', by simp; omega, HQ2.out, (HB.out.trans ((bel_new wr _).mono HB.out.size)).trans hb'⟩
            case measure => simp [intOf]; omega
    · have hki : ¬ (k : Int) < (s.size : Int) := by omega
      have HQ2 := Lib.hid (show (0, []) = R by
        rw [← HQ.out, List.drop_of_length_le (by simpa using (by omega : s.size ≤ k))]
        rfl)
      clear HQ
      go_wp2_with fail
      go_ret2
      exact ⟨by rw [← HQ2.out]; rfl, HB.out⟩
end Go.Proofs.YtobndhpfdaddaaaDoor
