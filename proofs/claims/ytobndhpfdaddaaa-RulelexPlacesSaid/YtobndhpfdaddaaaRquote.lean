/- The walk of the reference's Quote. No condition beyond a text's length. -/
import Derived.Test.YtobndhpfdaddaaaQuote
namespace Go.Proofs.Ytobndhpfdaddaaa
open Go.RowKit
set_option linter.unusedVariables false
set_option linter.unusedSimpArgs false

theorem mk_size (a : List UInt8) : (ByteArray.mk a.toArray).size = a.length := by simp [ByteArray.size]
theorem run_cat (a b : List UInt8) (ha : a.length ≤ 8388608) (hb : b.length ≤ 8388608) (W : World) :
    (Op.stringOp .add (⟨a.toArray⟩ : ByteArray) ⟨b.toArray⟩).run Try.prog W = .ok (.string ⟨(a ++ b).toArray⟩) W := by
  have h1 : ((ByteArray.mk a.toArray).size : Int) ≤ 8388608 := by rw [mk_size]; omega
  have h2 : ((ByteArray.mk b.toArray).size : Int) ≤ 8388608 := by rw [mk_size]; omega
  rw [run_string_add W _ _ h1 h2, ByteArray.mk_append_mk]
set_option maxRecDepth 20000 in
set_option maxHeartbeats 2000000 in
theorem rquote_any (s : ByteArray) (w : World) (hs : s.size ≤ 100000) :
    Calls Try.prog 17 #[.string s] w fun e w' => e = .returned (rquoV s.data.toList) ∧ Below w.heap.size w w' := by
  have hsi : (s.size : Int) ≤ 100000 := by omega
  obtain ⟨R, hR⟩ : ∃ R, rquoV s.data.toList = R := ⟨_, rfl⟩
  rw [hR]
  have HR := Lib.hid hR
  clear hR
  go_enter Try.func17, Try.ntmps17
  go_wp2_with fail
  go_loopw [4, 8] (fun u i wr => ∃ k : Nat, i = .int .i64 k ∧ k ≤ s.size ∧ u = .string ⟨(34 :: (s.data.toList.take k).flatMap escB).toArray⟩ ∧ (s.data.toList.take k).all okB = true ∧ Below w.heap.size w wr) (fun _ i _ => s.size - (intOf i).toNat)
  case atStart => exact ⟨0, rfl, by omega, by simp, rfl, Below.refl _ _⟩
  case round =>
    obtain ⟨k, rfl, hk, rfl, hall, hb⟩ := hrel
    have HB := Lib.hid hb
    have HA := Lib.hid hall
    have hlen : (34 :: (s.data.toList.take k).flatMap escB).length ≤ 200001 := by
      have := esc_len (s.data.toList.take k)
      rw [List.length_take] at this
      simp only [List.length_cons]; omega
    clear hb hall
    by_cases hlt : k < s.size
    · have hcb := s[k].toNat_lt
      have hk0 : (0 : Int) ≤ (k : Int) := by omega
      have hki : (k : Int) < (s.size : Int) := by omega
      cases hok : okB s[k] with
      | false =>
        have HQ := Lib.hid (all_bad s k hlt hok)
        have hbi : (s[k].toNat : Int) < 32 ∨ (¬ (s[k].toNat : Int) < 32 ∧ 126 < (s[k].toNat : Int)) := by
          simp only [okB, decide_eq_false_iff_not] at hok
          omega
        clear hok hcb hlen
        rcases hbi with g1 | ⟨g1, g2⟩
        all_goals
          go_wp2_with fail
          go_ret2
          exact ⟨by rw [← HR.out, rquoV, HQ.out]; rfl, HB.out⟩
      | true =>
        have HA2 := Lib.hid (show (s.data.toList.take (k + 1)).all okB = true by rw [take_one s k hlt, List.all_append, HA.out]; simp [hok])
        have HE := Lib.hid (esc_step s k hlt)
        have g1 : ¬ (s[k].toNat : Int) < 32 := by simp only [okB, decide_eq_true_iff] at hok; omega
        have g2 : ¬ 126 < (s[k].toNat : Int) := by simp only [okB, decide_eq_true_iff] at hok; omega
        by_cases hq : s[k].toNat = 34 ∨ s[k].toNat = 92
        · have HE2 := Lib.hid (show escB s[k] = [92, s[k]] by rw [escB, if_pos hq])
          have hq3 : (((s[k].toNat : Int) == 34) = true) ∨ (((s[k].toNat : Int) == 34) = false ∧ ((s[k].toNat : Int) == 92) = true) := by
            rcases hq with h | h <;> simp [h]
          generalize hx : 34 :: (s.data.toList.take k).flatMap escB = out at hlen ⊢
          have HX := Lib.hid hx
          have hcat1 := run_cat out [92] (by omega) (by simp)
          have hcat2 := run_cat_one s k hlt (out ++ [92]) (by simp; omega)
          have hst := run_str (wr.alloc (.cells #[.int .u8 92] 5)) _ [92] (IsB.one wr 92 92 rfl)
          clear hok hcb hq hlen hx
          rcases hq3 with f1 | ⟨f1, f2⟩
          all_goals
            go_wp2_with fail
            go_roundw
            case rel => exact ⟨k + 1, by go_num, by omega, by rw [HE.out, HE2.out, ← HX.out]; simp, HA2.out, HB.out.trans ((bel_new wr _).mono HB.out.size)⟩
            case measure => simp [intOf]; omega
        · have HE2 := Lib.hid (show escB s[k] = [s[k]] by rw [escB, if_neg hq])
          have f1 : ((s[k].toNat : Int) == 34) = false := beq_eq_false_iff_ne.2 (by omega)
          have f2 : ((s[k].toNat : Int) == 92) = false := beq_eq_false_iff_ne.2 (by omega)
          generalize hx : 34 :: (s.data.toList.take k).flatMap escB = out at hlen ⊢
          have HX := Lib.hid hx
          have hcat2 := run_cat_one s k hlt out (by omega)
          clear hok hcb hq hlen hx
          go_wp2_with fail
          go_roundw
          case rel => exact ⟨k + 1, by go_num, by omega, by rw [HE.out, HE2.out, ← HX.out]; simp, HA2.out, HB.out⟩
          case measure => simp [intOf]; omega
    · obtain rfl : k = s.size := by omega
      rw [List.take_of_length_le (by rw [size_list]; omega)] at HA hlen ⊢
      have HR2 := Lib.hid (show Value.tuple #[.string ⟨(34 :: s.data.toList.flatMap escB ++ [34]).toArray⟩, .bool true] = R by rw [← HR.out, rquoV, HA.out]; rfl)
      generalize 34 :: s.data.toList.flatMap escB = out at hlen HR2 ⊢
      have hcat1 := run_cat out [34] (by omega) (by simp)
      clear hlen
      go_wp2_with fail
      go_ret2
      exact ⟨by rw [← HR2.out]; rfl, HB.out⟩
end Go.Proofs.Ytobndhpfdaddaaa
