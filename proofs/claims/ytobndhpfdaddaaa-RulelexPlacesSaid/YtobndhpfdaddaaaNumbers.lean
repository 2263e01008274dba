/- The walk of the law RulelexNumbers: it returns true. No condition. -/
import Derived.Test.YtobndhpfdaddaaaRquote
namespace Go.Proofs.Ytobndhpfdaddaaa
open Go.RowKit
set_option linter.unusedVariables false
set_option linter.unusedSimpArgs false

theorem tw_all {p : UInt8 → Bool} : ∀ (l r : List UInt8), l.all p = true → (∀ x, r.head? = some x → p x = false) → (l ++ r).takeWhile p = l
  | [], [], _, _ => rfl
  | [], x :: r, _, h => by rw [List.nil_append, List.takeWhile_cons_of_neg (by rw [h x rfl]; decide)]
  | a :: l, r, h, hr => by
    rw [List.all_cons, Bool.and_eq_true] at h
    rw [List.cons_append, List.takeWhile_cons_of_pos h.1, tw_all l r h.2 hr]
theorem dig_facts {c : UInt8} (h : digB c = true) : letN c.toNat = false ∧ digN c.toNat = true ∧ plainB c := by
  have hd : 48 ≤ c.toNat ∧ c.toNat ≤ 57 := by simpa [digB, digN] using h
  refine ⟨?_, h, ?_⟩
  · simp [letN]; omega
  · unfold plainB; omega
theorem tok_dig (c : UInt8) (r t : List UInt8) (h : (c :: r).all digB = true) (ht : ∀ x, t.head? = some x → digB x = false) :
    tokP (c :: r ++ t) = if 9 < (c :: r).length then (0, 0, []) else (2, (c :: r).length, c :: r) := by
  rw [List.all_cons, Bool.and_eq_true] at h
  obtain ⟨h1, h2, _⟩ := dig_facts h.1
  have hw := tw_all r t h.2 ht
  rw [List.cons_append]
  by_cases h9 : 9 < 1 + ((r ++ t).takeWhile digB).length
  · rw [tokP_long h1 h2 h9, if_pos (by rw [hw] at h9; simp only [List.length_cons]; omega)]
  · rw [tokP_dig h1 h2 h9, hw, if_neg (by rw [hw] at h9; simp only [List.length_cons]; omega)]
    simp only [List.length_cons, Nat.add_comm]
theorem split_num (D : List UInt8) (h : D.all digB = true) (h0 : D ≠ []) :
    splitT (D ++ [120]) = if 9 < D.length then none else some [⟨2, D, 1, 1⟩, ⟨1, [120], 1, (D.length : Int) + 1⟩, ⟨5, [], 1, (D.length : Int) + 2⟩] := by
  match D, h0 with
  | c :: r, _ =>
    have hp := (dig_facts (List.all_eq_true.1 h c (by simp))).2.2
    have ht := tok_dig c r [120] h (fun x hx => by simp at hx; subst hx; decide)
    unfold splitT
    rw [List.cons_append] at ht ⊢
    by_cases h9 : 9 < (c :: r).length
    · rw [if_pos h9] at ht ⊢
      exact split_bad hp (by rw [ht])
    · rw [if_neg h9] at ht ⊢
      rw [split_tok hp (by rw [ht]; simp), ht, ← List.cons_append, List.drop_left]
      rw [split_tok ⟨by decide, by decide, by decide, by decide, by decide⟩ (by decide)]
      rw [show tokP [120] = (1, 1, [120]) by decide]
      simp only [List.drop_succ_cons, List.drop_zero, splitS, Option.map_some]
      simp
      omega

/-- A text of digits, as the walk holds it. -/
def Digs (D : List UInt8) : Prop := D.all digB = true
theorem Digs.cons {D : List UInt8} (h : Digs D) (m : Nat) (hm : m ≤ 9) : Digs (UInt8.ofNat (48 + m) :: D) := by
  unfold Digs at *
  rw [List.all_cons, h, Bool.and_true]
  have : (UInt8.ofNat (48 + m)).toNat = 48 + m := by rw [UInt8.toNat_ofNat']; omega
  simp [digB, digN, this]
  omega
theorem digs_bound {m n j : Nat} (h : 10 ^ j * m ≤ n) (hn : n < 4294967296) (hm : 0 < m) : j ≤ 9 := by
  apply Classical.byContradiction
  intro hj
  have h1 : 10 ^ 10 ≤ 10 ^ j := Nat.pow_le_pow_right (by decide) (by omega)
  have h2 : 10 ^ j * 1 ≤ 10 ^ j * m := Nat.mul_le_mul_left _ hm
  have h3 : (10 : Nat) ^ 10 = 10000000000 := by decide
  omega
theorem digs_step {m n j : Nat} (h : 10 ^ j * m ≤ n) : 10 ^ (j + 1) * (m / 10) ≤ n := by
  refine Nat.le_trans ?_ h
  rw [Nat.pow_succ, Nat.mul_assoc]
  exact Nat.mul_le_mul_left _ (by omega)
def noText : Value → Nat
  | .string t => if t.size = 0 then 1 else 0
  | _ => 0
theorem noText_cons (c : UInt8) (D : List UInt8) : noText (.string ⟨(c :: D).toArray⟩) = 0 := by
  simp [noText, ByteArray.size]
theorem data_list (l : List UInt8) : (ByteArray.mk l.toArray).data.toList = l := by simp
theorem num_split (D : List UInt8) (hD : Digs D) (h0 : D ≠ []) (hl : D.length ≤ 100) (W : World) : Calls Try.prog 10 #[.string ⟨(D ++ [120]).toArray⟩] W fun e w' =>
    (if 9 < D.length then e = .returned (.tuple #[.slice none 0 0, .iface 37 (.int .i64 2)])
      else ∃ g c, e = .returned (.tuple #[.slice (some ⟨g, 0, none⟩) 3 c, .nilIface]) ∧ TokAt w' g 0 ⟨2, D, 1, 1⟩ ∧ TokAt w' g 4 ⟨1, [120], 1, (D.length : Int) + 1⟩ ∧ TokAt w' g 8 ⟨5, [], 1, (D.length : Int) + 2⟩) ∧ Below W.heap.size W w' := by
  refine (split_any _ W (by rw [mk_size]; simp; omega)).mono ?_
  rintro e w' ⟨h, hb⟩
  rw [data_list, split_num D hD h0] at h
  refine ⟨?_, hb⟩
  by_cases h9 : 9 < D.length
  · rw [if_pos h9] at h ⊢
    exact h
  · rw [if_neg h9] at h ⊢
    obtain ⟨v, rfl, ho⟩ := h
    rcases ho.isK with ⟨h, _⟩ | ⟨_, g, c, rfl, hc⟩
    · cases h
    · exact ⟨g, c, rfl, hc 0 _ rfl, hc 1 _ rfl, hc 2 _ rfl⟩
set_option maxRecDepth 20000 in
set_option maxHeartbeats 4000000 in
theorem numbers_walk (n z : Nat) (hn : n < 4294967296) (hz : z < 256) (w : World) : Calls Try.prog 4 #[.int .u32 n, .int .u8 z] w fun e w' => e = .returned (.bool true) ∧ Below w.heap.size w w' := by
  go_enter Try.func4, Try.ntmps4
  go_wp2_with (go_at_call 9; refine (awake_any _).mono ?_; rintro e w1 ⟨rfl, hb1⟩; have HB1 := Lib.hid hb1; clear hb1)
  go_loopw [5, 6] (fun u i wr => ∃ (m : Nat) (D : List UInt8), i = .int .u32 m ∧ u = .string ⟨D.toArray⟩ ∧ Digs D ∧ 10 ^ D.length * m ≤ n ∧ D.length ≤ 10 ∧ Below w.heap.size w wr) (fun u i _ => (intOf i).toNat + noText u)
  case atStart => exact ⟨n, [], rfl, rfl, rfl, by simp, by simp, HB1.out⟩
  case round =>
    obtain ⟨m, D, rfl, rfl, hD, hle, hlen, hb⟩ := hrel
    have HB := Lib.hid hb
    have HD := Lib.hid hD
    have HLE := Lib.hid hle
    clear hb hD hle
    have hmn : m < 4294967296 := by
      have h1 : 1 * m ≤ 10 ^ D.length * m := Nat.mul_le_mul_right _ (Nat.one_le_pow _ _ (by decide))
      have := HLE.out
      omega
    have hlen8 : D.length ≤ 8388608 := by omega
    by_cases hm : 0 < m
    · have hmi : (0 : Int) < (m : Int) := by omega
      have hmi2 : (m : Int) < 4294967296 := by omega
      have HJ := Lib.hid (digs_bound HLE.out hn hm)
      have hc : (48 : Int) + (m : Int) % 10 = ((UInt8.ofNat (48 + m % 10)).toNat : Int) := by rw [UInt8.toNat_ofNat']; omega
      have hst := run_str (wr.alloc (.cells #[.int .u8 (48 + (m : Int) % 10)] 5)) _ [UInt8.ofNat (48 + m % 10)] (IsB.one wr _ _ hc)
      have hcat := run_cat [UInt8.ofNat (48 + m % 10)] D (by simp) hlen8
      have HD2 := Lib.hid (HD.out.cons (m % 10) (by omega))
      have HLE2 := Lib.hid (digs_step HLE.out)
      generalize UInt8.ofNat (48 + m % 10) = c at hst hcat HD2
      clear hc hlen8 hlen
      go_wp2_with fail
      go_roundw
      case rel => exact ⟨m / 10, c :: D, by go_num, rfl, HD2.out, HLE2.out, by have := HJ.out; simp only [List.length_cons]; omega, HB.out.trans ((bel_new wr _).mono HB.out.size)⟩
      case measure => rw [show (c :: D) = [c] ++ D from rfl] at *; simp [intOf, noText, ByteArray.size]; omega
    · have hmi : ¬ (0 : Int) < (m : Int) := by omega
      obtain rfl : m = 0 := by omega
      match D, HD, HLE, hlen, hlen8 with
      | [], HD, HLE, hlen, hlen8 =>
        have hst := run_str (wr.alloc (.cells #[.int .u8 48] 5)) _ [48] (IsB.one wr _ _ rfl)
        have hcat := run_cat [48] [] (by simp) (by simp)
        have HD2 := Lib.hid (show Digs [48] from rfl)
        clear hlen8 hlen
        go_wp2_with fail
        go_roundw
        case rel => exact ⟨0, [48], by go_num, rfl, HD2.out, by simp, by simp, HB.out.trans ((bel_new wr _).mono HB.out.size)⟩
        case measure => simp [intOf, noText, ByteArray.size]
      | c :: r, HD, HLE, hlen, hlen8 =>
        have HD0 := Lib.hid (show (c :: r) ≠ [] by simp)
        have HLEN := Lib.hid hlen
        have hzi : (0 : Int) ≤ (z : Int) ∧ (z : Int) < 256 := by omega
        have hemp : ((ByteArray.mk (c :: r).toArray).toList == (ByteArray.mk #[]).toList) = false := by rw [ByteArray.toList_eq, ByteArray.toList_eq]; simp
        clear hlen hlen8
        go_wp2_with fail
        generalize c :: r = E at HD HD0 HLEN
        clear hemp HLE hmi hmn hm
        go_loopw [5, 30] (fun u i wr => ∃ (j : Nat) (D : List UInt8), i = .int .u8 j ∧ u = .string ⟨D.toArray⟩ ∧ Digs D ∧ D ≠ [] ∧ D.length ≤ 10 + j ∧ j ≤ z % 12 ∧ Below w.heap.size w wr) (fun _ i _ => z - (intOf i).toNat)
        case atStart => exact ⟨0, E, rfl, rfl, HD.out, HD0.out, by have := HLEN.out; omega, by omega, HB.out⟩
        case round =>
          obtain ⟨j, D, rfl, rfl, hD, hD0, hlen, hj, hb⟩ := hrel
          have HB3 := Lib.hid hb
          have HD3 := Lib.hid hD
          have HD4 := Lib.hid hD0
          have hlen8 : D.length ≤ 8388608 := by omega
          have hlen100 : D.length ≤ 100 := by omega
          have hji : (j : Int) ≤ 11 := by omega
          clear hb hD hD0
          by_cases hlt : j < z % 12
          · have hlti : (j : Int) < (z : Int) % 12 := by omega
            have hcat := run_cat [48] D (by simp) hlen8
            have HD5 := Lib.hid (show Digs (48 :: D) by have := HD3.out; unfold Digs at *; rw [List.all_cons, this]; rfl)
            clear hlen8 hlen100
            go_wp2_with fail
            go_roundw
            case rel => exact ⟨j + 1, 48 :: D, by go_num, rfl, HD5.out, by simp, by simp only [List.length_cons]; omega, by omega, HB3.out⟩
            case measure => simp [intOf]; omega
          · have hlti : ¬ (j : Int) < (z : Int) % 12 := by omega
            have hcat := run_cat D [120] hlen8 (by simp)
            have HS := Lib.hid (fun W => num_split D HD3.out HD4.out hlen100 W)
            have hsz := mk_size D
            have hdl : (D.length : Int) ≤ 100 := by omega
            have htl : ∀ x : List UInt8, (ByteArray.mk x.toArray).toList = x := fun x => by rw [ByteArray.toList_eq]
            clear hlen8 hlen100 hlen hlt
            by_cases h9 : 9 < D.length
            · have h9i : (9 : Int) < (D.length : Int) := by omega
              simp only [h9, if_true] at HS
              clear h9
              go_wp2_with (first | (go_at_call 10; refine (HS.out _).mono ?_; rintro e w4 ⟨rfl, hb4⟩; have HB4 := Lib.hid hb4; clear hb4) | (go_at_call 14; refine (is_yes _ (by decide) _).mono ?_; rintro e w5 ⟨rfl, rfl⟩))
              go_ret
              exact ⟨rfl, bel_step HB3.out HB4.out⟩
            · have h9i : ¬ (9 : Int) < (D.length : Int) := by omega
              simp only [h9, if_false] at HS
              clear h9
              go_wp2_with (first | (go_at_call 10; refine (HS.out _).mono ?_; rintro e w4 ⟨⟨g, cp, rfl, ⟨a0, a1, a2, a3⟩, ⟨b0, b1, b2, b3⟩, ⟨c0, c1, c2, c3⟩⟩, hb4⟩; have HB4 := Lib.hid hb4; clear hb4))
              go_ret
              exact ⟨rfl, bel_step HB3.out HB4.out⟩
end Go.Proofs.Ytobndhpfdaddaaa
