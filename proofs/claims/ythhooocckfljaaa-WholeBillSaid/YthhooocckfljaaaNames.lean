/- The walks of named, Name, Check and Code. No condition. -/
import Derived.Test.YthhooocckfljaaaBytes
namespace Go.Proofs.Ythhooocckfljaaa
open Go.RowKit
set_option linter.unusedVariables false
set_option linter.unusedSimpArgs false

/-- May a byte occur in a node's name? -/
def letN (c : Nat) : Bool := decide (97 ≤ c ∧ c ≤ 122 ∨ 65 ≤ c ∧ c ≤ 90 ∨ 48 ≤ c ∧ c ≤ 57 ∨ c = 45)
def namedB (s : List UInt8) : Bool := s.all (fun c => letN c.toNat) && decide (1 ≤ s.length ∧ s.length ≤ 32)
theorem let_true {c : Nat} (h : letN c = true) : 97 ≤ c ∧ c ≤ 122 ∨ 65 ≤ c ∧ c ≤ 90 ∨ 48 ≤ c ∧ c ≤ 57 ∨ c = 45 := by simpa [letN] using h
theorem let_false {c : Nat} (h : letN c = false) : ¬ (97 ≤ c ∧ c ≤ 122 ∨ 65 ≤ c ∧ c ≤ 90 ∨ 48 ≤ c ∧ c ≤ 57 ∨ c = 45) := by
  intro h'
  have : letN c = true := by simpa [letN] using h'
  rw [h] at this
  cases this
/-- The class of a byte, by its bounds. -/
theorem let_cases (c : Nat) : (letN c = true ∧ ((97 ≤ c ∧ c ≤ 122) ∨ (65 ≤ c ∧ c ≤ 90) ∨ (48 ≤ c ∧ c ≤ 57) ∨ c = 45)) ∨
    (letN c = false ∧ (c < 45 ∨ (45 < c ∧ c < 48) ∨ (57 < c ∧ c < 65) ∨ (90 < c ∧ c < 97) ∨ 122 < c)) := by
  cases h : letN c
  · have := let_false h
    right
    refine ⟨rfl, ?_⟩
    omega
  · exact .inl ⟨rfl, let_true h⟩

theorem take_snoc (s : ByteArray) (k : Nat) (h : k < s.size) : s.data.toList.take (k + 1) = s.data.toList.take k ++ [s[k]] := by
  rw [List.take_succ_eq_append_getElem (by simpa using h)]; rfl
theorem all_snoc (s : ByteArray) (k : Nat) (h : k < s.size) : (s.data.toList.take (k + 1)).all (fun c => letN c.toNat) = ((s.data.toList.take k).all (fun c => letN c.toNat) && letN s[k].toNat) := by
  rw [take_snoc s k h, List.all_append]
  simp
theorem all_bad (s : ByteArray) (k : Nat) (h : k < s.size) (hb : letN s[k].toNat = false) : namedB s.data.toList = false := by
  unfold namedB
  have : s.data.toList.all (fun c => letN c.toNat) = false := by
    rw [List.all_eq_false]
    exact ⟨s[k], by rw [Array.mem_toList_iff]; exact Array.getElem_mem _, by simp [hb]⟩
  rw [this]
  rfl
theorem named_len {s : ByteArray} (h : s.data.toList.all (fun c => letN c.toNat) = true) : namedB s.data.toList = decide (1 ≤ s.size ∧ s.size ≤ 32) := by
  unfold namedB
  rw [h, Bool.true_and]
  have e : s.data.toList.length = s.size := by rw [Array.length_toList]; rfl
  rw [e]

set_option maxRecDepth 20000 in
set_option maxHeartbeats 4000000 in
theorem named_any (s : ByteArray) (w : World) (hs : s.size ≤ 9223372036854775807) : Calls Try.prog 33 #[.string s] w fun e w' => e = .returned (.bool (namedB s.data.toList)) ∧ w = w' := by
  have hsi : (s.size : Int) ≤ 9223372036854775807 := by omega
  go_enter Try.func33, Try.ntmps33
  go_wp2
  go_loop [7] (fun i => ∃ k : Nat, k ≤ s.size ∧ i = .int .i64 k ∧ (s.data.toList.take k).all (fun c => letN c.toNat) = true) (fun i => s.size - (intOf i).toNat)
  case atStart => exact ⟨0, Nat.zero_le _, rfl, by simp⟩
  case round =>
    obtain ⟨k, hk, rfl, hall⟩ := hrel
    have HA := Lib.hid hall
    clear hall
    by_cases hlt : k < s.size
    · have hsn := all_snoc s k hlt
      have HSN := Lib.hid hsn
      have hbad := all_bad s k hlt
      have HBAD := Lib.hid hbad
      have hcb := s[k].toNat_lt
      clear hsn hbad hcb
      rcases let_cases s[k].toNat with ⟨hl, h⟩ | ⟨hl, h⟩
      · have HL := Lib.hid hl
        clear hl
        have h' : (97 ≤ (s[k].toNat : Int) ∧ (s[k].toNat : Int) ≤ 122) ∨ (65 ≤ (s[k].toNat : Int) ∧ (s[k].toNat : Int) ≤ 90) ∨ (48 ≤ (s[k].toNat : Int) ∧ (s[k].toNat : Int) ≤ 57) ∨ (s[k].toNat : Int) = 45 := by omega
        have hb45 : ((s[k].toNat : Int) = 45 ∧ ((s[k].toNat : Int) == 45) = true) ∨ ((s[k].toNat : Int) ≠ 45 ∧ ((s[k].toNat : Int) == 45) = false) := by
          by_cases e : (s[k].toNat : Int) = 45
          · exact .inl ⟨e, by simp [e]⟩
          · exact .inr ⟨e, by simp [e]⟩
        clear h
        rcases hb45 with ⟨e, hb⟩ | ⟨e, hb⟩
        · have g1 : (s[k].toNat : Int) < 48 := by omega
          have g2 : (s[k].toNat : Int) < 65 := by omega
          have g3 : (s[k].toNat : Int) < 97 := by omega
          clear e h'
          go_wp2
          go_round
          case rel => exact ⟨k + 1, by omega, by go_num, by rw [HSN.out, HA.out, HL.out]; rfl⟩
          case measure => simp [intOf]; omega
        · rcases h' with ⟨g1, g2⟩ | ⟨g1, g2⟩ | ⟨g1, g2⟩ | g
          · clear e
            go_wp2
            all_goals exact ⟨⟨k + 1, by omega, by go_num, by rw [HSN.out, HA.out, HL.out]; rfl⟩, by simp [intOf]; omega⟩
          · have g3 : (s[k].toNat : Int) < 97 := by omega
            clear e
            go_wp2
            all_goals exact ⟨⟨k + 1, by omega, by go_num, by rw [HSN.out, HA.out, HL.out]; rfl⟩, by simp [intOf]; omega⟩
          · have g3 : (s[k].toNat : Int) < 97 := by omega
            have g4 : (s[k].toNat : Int) < 65 := by omega
            clear e
            go_wp2
            all_goals exact ⟨⟨k + 1, by omega, by go_num, by rw [HSN.out, HA.out, HL.out]; rfl⟩, by simp [intOf]; omega⟩
          · exact absurd g e
      · have HL := Lib.hid hl
        clear hl
        have hb : ((s[k].toNat : Int) == 45) = false := by simp; omega
        have h' : (s[k].toNat : Int) < 48 ∨ (57 < (s[k].toNat : Int) ∧ (s[k].toNat : Int) < 65) ∨ (90 < (s[k].toNat : Int) ∧ (s[k].toNat : Int) < 97) ∨ 122 < (s[k].toNat : Int) := by omega
        clear h
        rcases h' with g1 | ⟨g1, g2⟩ | ⟨g1, g2⟩ | g1
        · have g3 : (s[k].toNat : Int) < 65 := by omega
          have g4 : (s[k].toNat : Int) < 97 := by omega
          go_wp2
          go_ret
          exact ⟨ret_bool (HBAD.out HL.out).symm, rfl⟩
        · have g4 : (s[k].toNat : Int) < 97 := by omega
          have g5 : (48 : Int) ≤ (s[k].toNat : Int) := by omega
          have d57 : decide ((s[k].toNat : Int) ≤ 57) = false := by simp; omega
          go_wp2
          go_ret
          exact ⟨ret_bool (HBAD.out HL.out).symm, rfl⟩
        · have g5 : (48 : Int) ≤ (s[k].toNat : Int) := by omega
          have g6 : (57 : Int) < (s[k].toNat : Int) := by omega
          have g7 : (65 : Int) ≤ (s[k].toNat : Int) := by omega
          have d57 : decide ((s[k].toNat : Int) ≤ 57) = false := by simp; omega
          have d90 : decide ((s[k].toNat : Int) ≤ 90) = false := by simp; omega
          go_wp2
          go_ret
          exact ⟨ret_bool (HBAD.out HL.out).symm, rfl⟩
        · have g5 : (48 : Int) ≤ (s[k].toNat : Int) := by omega
          have g6 : (57 : Int) < (s[k].toNat : Int) := by omega
          have g7 : (65 : Int) ≤ (s[k].toNat : Int) := by omega
          have g8 : (90 : Int) < (s[k].toNat : Int) := by omega
          have g9 : (97 : Int) ≤ (s[k].toNat : Int) := by omega
          have d57 : decide ((s[k].toNat : Int) ≤ 57) = false := by simp; omega
          have d90 : decide ((s[k].toNat : Int) ≤ 90) = false := by simp; omega
          have d122 : decide ((s[k].toNat : Int) ≤ 122) = false := by simp; omega
          go_wp2
          go_ret
          exact ⟨ret_bool (HBAD.out HL.out).symm, rfl⟩
    · have hall : s.data.toList.all (fun c => letN c.toNat) = true := by
        have := HA.out
        rwa [List.take_of_length_le (by rw [Array.length_toList]; show s.size ≤ k; omega)] at this
      have HN := Lib.hid (named_len hall)
      clear hall
      go_wp2
      all_goals
        go_ret
        exact ⟨ret_bool (by rw [HN.out, Bool.eq_iff_iff]; simp; omega), rfl⟩
end Go.Proofs.Ythhooocckfljaaa
