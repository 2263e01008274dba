/- token and take, whole. No condition beyond a text's length. -/
import Derived.Test.YtobndhpfdaddaaaRquo
namespace Go.Proofs.Ytobndhpfdaddaaa
open Go.RowKit
set_option linter.unusedVariables false
set_option linter.unusedSimpArgs false

set_option maxRecDepth 20000 in
set_option maxHeartbeats 2000000 in
theorem token_quo (s : ByteArray) (w : World) (hs : s.size ≤ 100000) (h0 : 0 < s.size) (hc : letN s[0].toNat = false) (hd : digN s[0].toNat = false) (hq : s[0].toNat = 34) :
    Calls Try.prog 18 #[.string s] w fun e w' => e = .returned (tokV (3, quoP (s.data.toList.drop 1) 1 [])) ∧ Below w.heap.size w w' := by
  have hsi : (s.size : Int) ≤ 100000 := by omega
  have hs0 : (0 : Int) < (s.size : Int) := by omega
  have hq0 : ((s[0].toNat : Int) == 34) = true := beq_iff_eq.2 (by omega)
  have hquo := quoted_any s w hs (by omega)
  generalize quoP (s.data.toList.drop 1) 1 [] = R at hquo ⊢
  have HQUO := Lib.hid hquo
  clear hquo hq
  go_enter Try.func18, Try.ntmps18
  go_wp2_with (first | (go_at_call 20; refine (letter_any _ _).mono ?_; rintro e w' ⟨rfl, rfl⟩) | (go_at_call 21; refine (digit_any _ _).mono ?_; rintro e w' ⟨rfl, rfl⟩) | (go_at_call 22; refine HQUO.out.mono ?_; rintro e w' ⟨rfl, hb⟩))
  go_ret3
  exact ⟨rfl, hb⟩
set_option maxRecDepth 20000 in
set_option maxHeartbeats 2000000 in
theorem take_quo (s : ByteArray) (w : World) (hs : s.size ≤ 100000) (h0 : 0 < s.size) (hc : letN s[0].toNat = false) (hd : digN s[0].toNat = false) (hq : s[0].toNat = 34) :
    Calls Try.prog 19 #[.string s] w fun e w' => rquoE (quoP (s.data.toList.drop 1) 1 []) e ∧ Below w.heap.size w w' := by
  have hsi : (s.size : Int) ≤ 100000 := by omega
  have hs0 : (0 : Int) < (s.size : Int) := by omega
  have hq0 : ((s[0].toNat : Int) == 34) = true := beq_iff_eq.2 (by omega)
  have hquo := rquoted_any s w hs (by omega)
  generalize quoP (s.data.toList.drop 1) 1 [] = R at hquo ⊢
  have HQUO := Lib.hid hquo
  clear hquo hq
  go_enter Try.func19, Try.ntmps19
  go_wp2_with (first | (go_at_call 24; refine (rletter_any _ _).mono ?_; rintro e w' ⟨rfl, rfl⟩) | (go_at_call 25; refine (rdigit_any _ _).mono ?_; rintro e w' ⟨rfl, rfl⟩) | (go_at_call 26; refine HQUO.out.mono ?_; rintro e w' ⟨⟨n, hn, rfl⟩, hb⟩))
  go_ret3
  exact ⟨⟨n, hn, rfl⟩, hb⟩

/-- How the reference tries a sign. -/
theorem drewN_two (w : World) (n m : Nat) : (w.drewN n).drewN m = w.drewN (n + m) := by
  first | rfl | simp [World.drewN, Nat.add_assoc]
theorem isPre_bytes (s : ByteArray) (g : List UInt8) (h : g.length ≤ s.size) : ((s.extract 0 g.length).toList == g) = isPre g s.data.toList := by
  rw [isPre_take _ _ (by rw [size_list]; exact h), extract_list, ByteArray.toList_eq, List.drop_zero, Nat.sub_zero]
set_option maxRecDepth 20000 in
set_option maxHeartbeats 4000000 in
theorem take_sign (s : ByteArray) (w : World) (hs : s.size ≤ 100000) (h0 : 0 < s.size) (hc : letN s[0].toNat = false) (hd : digN s[0].toNat = false) (hq : s[0].toNat ≠ 34) :
    Calls Try.prog 19 #[.string s] w fun e w' => e = .returned (takV (match signP s.data.toList with | some g => (4, g.length, g) | none => (0, 0, []))) ∧ Below w.heap.size w w' := by
  have hsi : (s.size : Int) ≤ 100000 := by omega
  have hs0 : (0 : Int) < (s.size : Int) := by omega
  have hq0 : ((s[0].toNat : Int) == 34) = false := beq_eq_false_iff_ne.2 (by omega)
  obtain ⟨R0, hR0⟩ : ∃ R0, signP s.data.toList = R0 := ⟨_, rfl⟩
  rw [hR0]
  have HR0 := Lib.hid (show (signs.drop 0).find? (fun g => isPre g s.data.toList) = R0 from hR0)
  clear hR0 hq
  obtain ⟨R, hR⟩ : ∃ R, (match R0 with | some g => (4, g.length, g) | none => (0, 0, [])) = R := ⟨_, rfl⟩
  rw [hR]
  have HR := Lib.hid hR
  clear hR
  have HCELL := Lib.hid (fun (j : Nat) (g : List UInt8) (h : signs[j]? = some g) => sign_cell w h)
  have HS0 := Lib.hid h0
  go_enter Try.func19, Try.ntmps19
  go_wp2_with (first | (go_at_call 24; refine (rletter_any _ _).mono ?_; rintro e w' ⟨rfl, rfl⟩) | (go_at_call 25; refine (rdigit_any _ _).mono ?_; rintro e w' ⟨rfl, rfl⟩))
  go_loopw [68] (fun i wr => ∃ k n : Nat, i = .int .i64 k ∧ k ≤ 14 ∧ (signs.drop k).find? (fun g => isPre g s.data.toList) = R0 ∧ wr = (w.alloc (.cells signCells 9)).drewN n) (fun i _ => 14 - (intOf i).toNat)
  case atStart => exact ⟨0, 0, rfl, by omega, HR0.out, rfl⟩
  case round =>
    obtain ⟨k, n, rfl, hk, hq, hwr⟩ := hrel
    have HQ := Lib.hid hq
    have HB := Lib.hid (show Below w.heap.size w wr by rw [hwr]; exact bel_drewN (bel_new _ _))
    have HW := Lib.hid hwr
    clear hq
    by_cases hlt : k < 14
    · obtain ⟨g, hg⟩ : ∃ g, signs[k]? = some g := ⟨signs[k]'hlt, List.getElem?_eq_getElem hlt⟩
      have hcell : wr.cell? ⟨w.heap.size, k, none⟩ = some (.string ⟨g.toArray⟩) := by rw [hwr]; exact HCELL.out k g hg
      have hstep := signP_step hg HQ.out
      have hgl : g.length ≤ 2 := (sign_pos (List.mem_of_getElem? hg)).2
      have hsz : (ByteArray.mk g.toArray).size = g.length := by simp [ByteArray.size]
      clear hg HQ hwr
      by_cases hge : g.length ≤ s.size
      · have hcmp := isPre_bytes s g hge
        have hgi : (g.length : Int) ≤ (s.size : Int) := by omega
        cases hp : isPre g s.data.toList with
        | true =>
          have HS := Lib.hid (hstep.1 hp)
          rw [hp] at hcmp
          clear hstep hp
          go_wp2_with fail
          go_quiet (fail)
          go_wp2_with fail
          go_quiet (fail)
          go_wp2_with fail
          go_ret3
          refine ⟨?_, bel_drewN (bel_drewN HB.out)⟩
          rw [← HR.out, HS.out]
          rfl
        | false =>
          have HS := Lib.hid (hstep.2 hp)
          rw [hp] at hcmp
          clear hstep hp
          go_wp2_with fail
          go_quiet (fail)
          go_wp2_with fail
          go_roundw
          case rel => exact ⟨k + 1, _, by go_num, by omega, HS.out, by rw [HW.out]; exact drewN_two _ _ _⟩
          case measure => simp [intOf]; omega
      · have hgi : ¬ (g.length : Int) ≤ (s.size : Int) := by omega
        have HS := Lib.hid (hstep.2 (isPre_short _ _ (by rw [size_list]; exact hge)))
        clear hstep
        go_wp2_with fail
        go_quiet (fail)
        go_wp2_with fail
        go_roundw
        case rel => exact ⟨k + 1, _, by go_num, by omega, HS.out, by rw [HW.out]; exact drewN_two _ _ _⟩
        case measure => simp [intOf]; omega
    · obtain rfl : k = 14 := by omega
      have HS := Lib.hid (show R0 = none by rw [← HQ.out]; rfl)
      clear HQ hwr
      go_wp2_with fail
      go_ret3
      refine ⟨?_, HB.out⟩
      rw [← HR.out, HS.out]
      rfl

theorem head_list (s : ByteArray) (h : 0 < s.size) : s.data.toList = s[0] :: s.data.toList.drop 1 := by
  have := drop_cons s 0 h
  simpa using this
/-- token, whole. -/
theorem token_any (s : ByteArray) (w : World) (hs : s.size ≤ 100000) (h0 : 0 < s.size) :
    Calls Try.prog 18 #[.string s] w fun e w' => e = .returned (tokV (tokP s.data.toList)) ∧ Below w.heap.size w w' := by
  have hl := head_list s h0
  cases hc : letN s[0].toNat with
  | true => have := token_word s w hs h0 hc; rw [hl, tokP_word hc]; exact this
  | false =>
    cases hd : digN s[0].toNat with
    | true =>
      have := token_dig s w hs h0 hc hd
      by_cases h9 : 9 < 1 + ((s.data.toList.drop 1).takeWhile digB).length
      · rw [if_pos h9] at this; rw [hl, tokP_long hc hd h9]; exact this
      · rw [if_neg h9] at this; rw [hl, tokP_dig hc hd h9]; exact this
    | false =>
      by_cases hq : s[0].toNat = 34
      · have := token_quo s w hs h0 hc hd hq; rw [hl, tokP_quo hc hd hq]; exact this
      · have := token_sign s w hs h0 hc hd hq
        cases hg : signP s.data.toList with
        | some g => rw [hg] at this; rw [hl, tokP_sign hc hd hq (hl ▸ hg)]; exact this
        | none => rw [hg] at this; rw [hl, tokP_none hc hd hq (hl ▸ hg)]; exact this
/-- What the reference's take returns: the kind is free where there is no token. -/
def takE (t : Nat × Nat × List UInt8) (e : Ending) : Prop := ∃ n : Int, (n = t.1 ∨ t.2.1 = 0) ∧ e = .returned (.tuple #[.int .i64 n, .string ⟨t.2.2.toArray⟩, .int .i64 t.2.1])
theorem takE_of {t : Nat × Nat × List UInt8} {e : Ending} (h : e = .returned (takV t)) : takE t e := ⟨t.1, .inl rfl, h⟩
/-- take, whole. -/
theorem take_any (s : ByteArray) (w : World) (hs : s.size ≤ 100000) (h0 : 0 < s.size) :
    Calls Try.prog 19 #[.string s] w fun e w' => takE (tokP s.data.toList) e ∧ Below w.heap.size w w' := by
  have hl := head_list s h0
  cases hc : letN s[0].toNat with
  | true => rw [hl, tokP_word hc]; exact (take_word s w hs h0 hc).mono fun _ _ h => ⟨takE_of h.1, h.2⟩
  | false =>
    cases hd : digN s[0].toNat with
    | true =>
      have := take_dig s w hs h0 hc hd
      by_cases h9 : 9 < 1 + ((s.data.toList.drop 1).takeWhile digB).length
      · rw [if_pos h9] at this; rw [hl, tokP_long hc hd h9]; exact this.mono fun _ _ h => ⟨takE_of h.1, h.2⟩
      · rw [if_neg h9] at this; rw [hl, tokP_dig hc hd h9]; exact this.mono fun _ _ h => ⟨takE_of h.1, h.2⟩
    | false =>
      by_cases hq : s[0].toNat = 34
      · rw [hl, tokP_quo hc hd hq]
        refine (take_quo s w hs h0 hc hd hq).mono ?_
        rintro e w' ⟨⟨n, hn, rfl⟩, hb⟩
        exact ⟨⟨n, hn, rfl⟩, hb⟩
      · have := take_sign s w hs h0 hc hd hq
        cases hg : signP s.data.toList with
        | some g => rw [hg] at this; rw [hl, tokP_sign hc hd hq (hl ▸ hg)]; exact this.mono fun _ _ h => ⟨takE_of h.1, h.2⟩
        | none => rw [hg] at this; rw [hl, tokP_none hc hd hq (hl ▸ hg)]; exact this.mono fun _ _ h => ⟨takE_of h.1, h.2⟩
end Go.Proofs.Ytobndhpfdaddaaa
