/- The walks of the signs of token and take. No condition beyond a text's length. -/
import Derived.Test.YtobndhpfdaddaaaDoorToken
namespace Go.Proofs.YtobndhpfdaddaaaDoor
open Go.RowKit
set_option linter.unusedVariables false
set_option linter.unusedSimpArgs false

theorem hasPrefix_list (s : ByteArray) (g : List UInt8) (w : World) : Calls Tryd.prog 14 #[.string s, .string ⟨g.toArray⟩] w fun e w' => e = .returned (.bool (isPre g s.data.toList)) ∧ w = w' := by
  have := hasPrefix_any s ⟨g.toArray⟩ w
  simpa using this
def signCells : Array Value := (signs.map fun g => Value.string ⟨g.toArray⟩).toArray
theorem sign_cell (w : World) {j : Nat} {g : List UInt8} (h : signs[j]? = some g) : (w.alloc (.cells signCells 9)).cell? ⟨w.heap.size, j, none⟩ = some (.string ⟨g.toArray⟩) := by
  rw [cell_of_row _ _ _ _ _ _ (heap_alloc_new w _)]
  simp [signCells, h]
theorem signP_step {l : List UInt8} {j : Nat} {g : List UInt8} {R : Option (List UInt8)} (hj : signs[j]? = some g) (h : (signs.drop j).find? (fun g => isPre g l) = R) :
    (isPre g l = true → R = some g) ∧ (isPre g l = false → (signs.drop (j + 1)).find? (fun g => isPre g l) = R) := by
  obtain ⟨hlt, rfl⟩ := List.getElem?_eq_some_iff.1 hj
  rw [List.drop_eq_getElem_cons hlt, List.find?_cons] at h
  constructor
  · intro hp
    rw [hp] at h
    exact h.symm
  · intro hp
    rw [hp] at h
    exact h

set_option maxRecDepth 20000 in
set_option maxHeartbeats 2000000 in
theorem token_sign (s : ByteArray) (w : World) (hs : s.size ≤ 100000) (h0 : 0 < s.size) (hc : letN s[0].toNat = false) (hd : digN s[0].toNat = false) (hq : s[0].toNat ≠ 34) :
    Calls Tryd.prog 9 #[.string s] w fun e w' => e = .returned (tokV (match signP s.data.toList with | some g => (4, g.length, g) | none => (0, 0, []))) ∧ Below w.heap.size w w' := by
  have hsi : (s.size : Int) ≤ 100000 := by omega
  have hs0 : (0 : Int) < (s.size : Int) := by omega
  have hq0 : ((s[0].toNat : Int) == 34) = false := beq_eq_false_iff_ne.2 (by omega)
  obtain ⟨R0, hR0⟩ : ∃ R0, signP s.data.toList = R0 := ⟨_, rfl⟩
  rw [hR0]
  have HR0 := Lib.hid (show (signs.drop 0).find? (fun g => isPre g s.data.toList) = R0 from hR0)
  clear hR0 hq
  obtain ⟨R, hR⟩ : ∃ R, (match R0 with | some g => (4, g.length, g) | none => (0, 0, [])) = R := ⟨_, rfl⟩
  rw [hR]
  have HR := Lib.hid hR
  clear hR
  have HCELL := Lib.hid (fun (j : Nat) (g : List UInt8) (h : signs[j]? = some g) => sign_cell w h)
  go_enter Tryd.func9, Tryd.ntmps9
  go_wp2_with (first | (go_at_call 11; refine (letter_any _ _).mono ?_; rintro e w' ⟨rfl, rfl⟩) | (go_at_call 12; refine (digit_any _ _).mono ?_; rintro e w' ⟨rfl, rfl⟩))
  go_loop [71] (fun i => ∃ k : Nat, i = .int .i64 k ∧ k ≤ 14 ∧ (signs.drop k).find? (fun g => isPre g s.data.toList) = R0) (fun i => 14 - (intOf i).toNat)
  case atStart => exact ⟨0, rfl, by omega, HR0.out⟩
  case round =>
    obtain ⟨k, rfl, hk, hq⟩ := hrel
    have HQ := Lib.hid hq
    clear hq
    by_cases hlt : k < 14
    · obtain ⟨g, hg⟩ : ∃ g, signs[k]? = some g := ⟨signs[k]'hlt, List.getElem?_eq_getElem hlt⟩
      have hcell := HCELL.out k g hg
      have hstep := signP_step hg HQ.out
      unfold signCells signs at hcell
      simp only [List.map_cons, List.map_nil] at hcell
      have hgl : g.length ≤ 2 := (sign_pos (List.mem_of_getElem? hg)).2
      clear hg HQ
      cases hp : isPre g s.data.toList with
      | true =>
        have HS := Lib.hid (hstep.1 hp)
        clear hstep
        go_wp2_with (go_at_call 14; refine (hasPrefix_list _ _ _).mono ?_; rintro e w' ⟨rfl, rfl⟩)
        go_ret3
        refine ⟨?_, bel_new _ _⟩
        rw [← HR.out, HS.out]
        rfl
      | false =>
        have HS := Lib.hid (hstep.2 hp)
        clear hstep
        go_wp2_with (go_at_call 14; refine (hasPrefix_list _ _ _).mono ?_; rintro e w' ⟨rfl, rfl⟩)
        go_round
        case rel => exact ⟨k + 1, by go_num, by omega, HS.out⟩
        case measure => simp [intOf]; omega
    · obtain rfl : k = 14 := by omega
      have HS := Lib.hid (show R0 = none by rw [← HQ.out]; rfl)
      clear HQ
      go_wp2_with fail
      go_ret3
      refine ⟨?_, bel_new _ _⟩
      rw [← HR.out, HS.out]
      rfl
end Go.Proofs.YtobndhpfdaddaaaDoor
