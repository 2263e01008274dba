/- token and take, whole. No condition beyond a text's length. -/
import Derived.Test.YtobndhpfdaddaaaDoorSigns
namespace Go.Proofs.YtobndhpfdaddaaaDoor
open Go.RowKit
set_option linter.unusedVariables false
set_option linter.unusedSimpArgs false

set_option maxRecDepth 20000 in
set_option maxHeartbeats 2000000 in
theorem token_quo (s : ByteArray) (w : World) (hs : s.size ≤ 100000) (h0 : 0 < s.size) (hc : letN s[0].toNat = false) (hd : digN s[0].toNat = false) (hq : s[0].toNat = 34) :
    Calls Tryd.prog 9 #[.string s] w fun e w' => e = .returned (tokV (3, quoP (s.data.toList.drop 1) 1 [])) ∧ Below w.heap.size w w' := by
  have hsi : (s.size : Int) ≤ 100000 := by omega
  have hs0 : (0 : Int) < (s.size : Int) := by omega
  have hq0 : ((s[0].toNat : Int) == 34) = true := beq_iff_eq.2 (by omega)
  have hquo := quoted_any s w hs (by omega)
  generalize quoP (s.data.toList.drop 1) 1 [] = R at hquo ⊢
  have HQUO := Lib.hid hquo
  clear hquo hq
  go_enter Tryd.func9, Tryd.ntmps9
  go_wp2_with (first | (go_at_call 11; refine (letter_any _ _).mono ?_; rintro e w' ⟨rfl, rfl⟩) | (go_at_call 12; refine (digit_any _ _).mono ?_; rintro e w' ⟨rfl, rfl⟩) | (go_at_call 13; refine HQUO.out.mono ?_; rintro e w' ⟨rfl, hb⟩))
  go_ret3
  exact ⟨rfl, hb⟩
/-- How the reference tries a sign. -/
theorem drewN_two (w : World) (n m : Nat) : (w.drewN n).drewN m = w.drewN (n + m) := by
  first | rfl | simp [World.drewN, Nat.add_assoc]
theorem isPre_bytes (s : ByteArray) (g : List UInt8) (h : g.length ≤ s.size) : ((s.extract 0 g.length).toList == g) = isPre g s.data.toList := by
  rw [isPre_take _ _ (by rw [size_list]; exact h), extract_list, ByteArray.toList_eq, List.drop_zero, Nat.sub_zero]
theorem head_list (s : ByteArray) (h : 0 < s.size) : s.data.toList = s[0] :: s.data.toList.drop 1 := by
  have := drop_cons s 0 h
  simpa using this
/-- token, whole. -/
theorem token_any (s : ByteArray) (w : World) (hs : s.size ≤ 100000) (h0 : 0 < s.size) :
    Calls Tryd.prog 9 #[.string s] w fun e w' => e = .returned (tokV (tokP s.data.toList)) ∧ Below w.heap.size w w' := by
  have hl := head_list s h0
  cases hc : letN s[0].toNat with
  | true => have := token_word s w hs h0 hc; rw [hl, tokP_word hc]; exact this
  | false =>
    cases hd : digN s[0].toNat with
    | true =>
      have := token_dig s w hs h0 hc hd
      by_cases h9 : 9 < 1 + ((s.data.toList.drop 1).takeWhile digB).length
      · rw [if_pos h9] at this; rw [hl, tokP_long hc hd h9]; exact this
      · rw [if_neg h9] at this; rw [hl, tokP_dig hc hd h9]; exact this
    | false =>
      by_cases hq : s[0].toNat = 34
      · have := token_quo s w hs h0 hc hd hq; rw [hl, tokP_quo hc hd hq]; exact this
      · have := token_sign s w hs h0 hc hd hq
        cases hg : signP s.data.toList with
        | some g => rw [hg] at this; rw [hl, tokP_sign hc hd hq (hl ▸ hg)]; exact this
        | none => rw [hg] at this; rw [hl, tokP_none hc hd hq (hl ▸ hg)]; exact this
/-- What the reference's take returns: the kind is free where there is no token. -/
def takE (t : Nat × Nat × List UInt8) (e : Ending) : Prop := ∃ n : Int, (n = t.1 ∨ t.2.1 = 0) ∧ e = .returned (.tuple #[.int .i64 n, .string ⟨t.2.2.toArray⟩, .int .i64 t.2.1])
theorem takE_of {t : Nat × Nat × List UInt8} {e : Ending} (h : e = .returned (takV t)) : takE t e := ⟨t.1, .inl rfl, h⟩
end Go.Proofs.YtobndhpfdaddaaaDoor
