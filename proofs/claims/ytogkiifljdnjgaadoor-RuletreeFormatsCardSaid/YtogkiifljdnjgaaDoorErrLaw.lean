/- The walk of the law RuletreeErrors. No condition beyond the keywords' variable. -/
import Derived.Test.YtogkiifljdnjgaaDoorNone
namespace Go.Proofs.YtogkiifljdnjgaaDoor
open Go.RowKit
set_option linter.unusedVariables false
set_option linter.unusedSimpArgs false

theorem nls_take (s : ByteArray) (k : Nat) (h : k < s.size) : nls (s.data.toList.take (k + 1)) = nls (s.data.toList.take k) + if nlB s[k] = true then 1 else 0 := by
  rw [take_one s k h]
  unfold nls
  rw [List.countP_append, List.countP_cons, List.countP_nil, Nat.zero_add]
theorem nls_le (l : List UInt8) : nls l ≤ l.length := List.countP_le_length
theorem same_zero : sameT default default = true := by decide
theorem postP_open {w w' : World} {T : Tree} {L : Int} {C : Nat} {e : Ending} (h : PostP w w' (T, L, C) e) : ∃ (k : Int) (x : List UInt8) (a : Option Addr) (m c : Nat) (l : Int), e = .returned (.tuple #[.agg #[.int .i64 k, .string ⟨x.toArray⟩, .slice a m c, .int .i64 l], .int .i64 L, errV C]) ∧ IsT w' (New w' w.heap.size) T (.agg #[.int .i64 k, .string ⟨x.toArray⟩, .slice a m c, .int .i64 l]) ∧ Below w.heap.size w w' := by
  obtain ⟨⟨v, he, ht⟩, hb⟩ := h
  obtain ⟨k, x, a, m, c, l, rfl⟩ := isT_shape ht
  exact ⟨k, x, a, m, c, l, he, ht, hb⟩
theorem valid_size {t : Tree} (h : validP t = true) : sizeT t ≤ 512 := by
  obtain ⟨k, tx, ks, l⟩ := t
  rw [validP_node] at h
  simp only [Bool.and_eq_true, decide_eq_true_eq] at h
  exact h.1.2.2.1
theorem fmt_valid {t : Tree} (h : validP t = true) : (∃ x, fmtP t = (x, 0)) ∨ fmtP t = ([], 5) := by
  unfold fmtP
  rw [if_pos h]
  split
  · exact .inl ⟨_, rfl⟩
  · exact .inr rfl
set_option maxRecDepth 20000 in
set_option maxHeartbeats 2000000 in
theorem errors_walk (s : ByteArray) (w : World) (hk : KW w) : Calls Tryd.prog 7 #[.string s] w fun e w' => e = .returned (.bool true) ∧ Below w.heap.size w w' := by
  have HK := Lib.hid hk
  clear hk
  have HAW := Lib.hid (fun W hW => awake_any W hW)
  by_cases hl : s.size ≤ 5000
  rotate_left
  · have hli : (5000 : Int) < (s.size : Int) := by omega
    have hln : 5000 < s.size := by omega
    go_enter Tryd.func7, Tryd.ntmps7
    go_wp2_with (first | (go_at_call 8; (with_reducible refine (HAW.out _ HK.out).mono ?_); rintro e1 w1 ⟨rfl, hb⟩; have HB1 := Lib.hid hb; clear hb) | (go_at_call 8; (with_reducible refine (HAW.out _ (HK.out.step HB1.out)).mono ?_); rintro e1 w2 ⟨rfl, hb⟩; have HB2 := Lib.hid (HB1.out.trans (hb.mono HB1.out.size)); clear hb))
    go_ret
    exact ⟨rfl, HB2.out⟩
  have hli : ¬ (5000 : Int) < (s.size : Int) := by omega
  have hln : ¬ 5000 < s.size := by omega
  have hz : s.data.toList.length = s.size := size_list s
  have HZ := Lib.hid hz
  clear hz
  go_enter Tryd.func7, Tryd.ntmps7
  go_wp2_with (first | (go_at_call 8; (with_reducible refine (HAW.out _ HK.out).mono ?_); rintro e1 w1 ⟨rfl, hb⟩; have HB1 := Lib.hid hb; clear hb))
  go_loop [3, 20] (fun x i => ∃ k : Nat, i = .int .i64 k ∧ k ≤ s.size ∧ x = .int .i64 ((1 + nls (s.data.toList.take k) : Nat) : Int)) (fun _ i => s.size - (intOf i).toNat)
  case atStart => exact ⟨0, rfl, by omega, rfl⟩
  case round =>
    obtain ⟨k, rfl, hk, rfl⟩ := hrel
    have hle := nls_le (s.data.toList.take k)
    rw [List.length_take] at hle
    by_cases hlt : k < s.size
    · have hcb := s[k].toNat_lt
      have hk0 : (0 : Int) ≤ (k : Int) := by omega
      have hki : (k : Int) < (s.size : Int) := by omega
      have HT := Lib.hid (nls_take s k hlt)
      have hx1 : ((1 + nls (s.data.toList.take k) : Nat) : Int) ≤ 6000 := by omega
      have hx0 : (0 : Int) ≤ ((1 + nls (s.data.toList.take k) : Nat) : Int) := by omega
      clear hle
      by_cases h10 : s[k].toNat = 10
      · have HN := Lib.hid (show 1 + nls (s.data.toList.take (k + 1)) = 1 + nls (s.data.toList.take k) + 1 by rw [HT.out, if_pos (by unfold nlB; simpa using h10)]; omega)
        have f1 : ((s[k].toNat : Int) == 10) = true := by rw [h10]; rfl
        clear h10 hcb HT
        go_wp2_with fail
        go_round
        case rel => exact ⟨k + 1, by go_num, by omega, by rw [HN.out]; go_num⟩
        case measure => simp [intOf]; omega
      · have HN := Lib.hid (show 1 + nls (s.data.toList.take (k + 1)) = 1 + nls (s.data.toList.take k) by rw [HT.out, if_neg (by unfold nlB; simpa using h10)]; omega)
        have f1 : ((s[k].toNat : Int) == 10) = false := beq_eq_false_iff_ne.2 (by omega)
        clear h10 hcb HT
        go_wp2_with fail
        go_round
        case rel => exact ⟨k + 1, by go_num, by omega, by rw [HN.out]⟩
        case measure => simp [intOf]; omega
    · obtain rfl : k = s.size := by omega
      rw [List.take_of_length_le (by rw [size_list]; omega)] at hle ⊢
      have HP := Lib.hid (fun W hW => parse_any s W hW)
      obtain ⟨T, L, C, hp⟩ : ∃ T L C, parseF s.data.toList = (T, L, C) := ⟨_, _, _, rfl⟩
      rw [hp] at HP
      by_cases hC : C = 0
      · subst hC
        obtain ⟨hv, hsh, rfl⟩ := parse_valid hp
        have hsz := valid_size hv
        have HVF := Lib.hid (fun W F v (ht : IsT W F T v) hW => valid_any T F W v ht hW (by omega) hsh)
        have HFF := Lib.hid (fun W F v (ht : IsT W F T v) hW => format_any T F W v ht hW (by omega) hsh)
        rw [hv] at HVF
        have hfv := fmt_valid hv
        have ARM := True.intro
        rcases hfv with ⟨x, hx⟩ | hx
        all_goals
          rw [hx] at HFF
          clear hp hv hsh hsz hx hle
          go_wp2_with (first | (go_at_call 18; (with_reducible refine (HP.out _ (HK.out.step HB1.out)).mono ?_); intro e1 w2 hps; obtain ⟨k, y, a, m, c, l, rfl, ht, hb⟩ := postP_open hps; have HT := Lib.hid ht; have HB2 := Lib.hid (HB1.out.trans (hb.mono HB1.out.size)); have HX2 := Lib.hid (heap_alloc_new w2 (.cells #[.int .i64 k, .string ⟨y.toArray⟩, .slice a m c, .int .i64 l] 32)); have HB3 := Lib.hid (HB2.out.trans ((bel_new w2 (.cells #[.int .i64 k, .string ⟨y.toArray⟩, .slice a m c, .int .i64 l] 32)).mono HB2.out.size)); obtain ⟨r0, r1, r2, r3, q0, q1, q2, q3⟩ := box4 HX2.out; rw [errV0]; clear hps ht hb) | (go_at_call 19; (with_reducible refine (HFF.out _ _ _ (HT.out.step (bel_new _ _)) (HK.out.step HB3.out)).mono ?_); rintro e1 w3 ⟨rfl, hb⟩; have HB4 := Lib.hid (HB3.out.trans (hb.mono HB3.out.size)); have HX4 := Lib.hid (keep_blk hb HX2.out); have HT4 := Lib.hid ((HT.out.step (bel_new _ _)).step hb); obtain ⟨s0, s1, s2, s3, z0, z1, z2, z3⟩ := box4 HX4.out; first | rw [errV0] | rw [errV5]; clear hb) | (go_at_call 16; (with_reducible refine (HVF.out _ _ _ HT4.out (HK.out.step HB4.out)).mono ?_); rintro e1 w4 ⟨rfl, hb⟩; have HB5 := Lib.hid (HB4.out.trans (hb.mono HB4.out.size)); clear hb) | (go_at_call 22; (with_reducible refine (isn_yes 5 (by decide) _).mono ?_); rintro e1 w5 ⟨rfl, rfl⟩))
          go_ret
          exact ⟨rfl, HB5.out⟩
      · obtain ⟨rfl, hL0, hL1, hcc⟩ := parse_err hp hC
        have hL2 : L ≤ ((1 + nls s.data.toList : Nat) : Int) := by omega
        have HSM := Lib.hid (fun W F v (ht : IsT W F default v) => (show Calls Tryd.prog 12 #[v, .agg #[.int .i64 0, .string ⟨#[]⟩, .slice none 0 0, .int .i64 0]] W fun e w' => e = .returned (.bool true) ∧ Below W.heap.size W w' by
          have h1 := same_any default default F F W v _ ht (isT_zero W F) (by decide)
          rw [same_zero] at h1
          exact h1))
        have HN5 := Lib.hid (fun W => (show Calls Tryd.prog 22 #[.iface 52 (.int .i64 5), .int .i64 2] W fun e w' => e = .returned (.bool false) ∧ W = w' from is_err 5 2 W))
        rcases hcc with rfl | ⟨rfl, rfl⟩
        all_goals
          clear hp hL1 hle hC
          go_wp2_with (first | (go_at_call 18; (with_reducible refine (HP.out _ (HK.out.step HB1.out)).mono ?_); intro e1 w2 hps; obtain ⟨k, y, a, m, c, l, rfl, ht, hb⟩ := postP_open hps; have HT := Lib.hid ht; have HB2 := Lib.hid (HB1.out.trans (hb.mono HB1.out.size)); have HX2 := Lib.hid (heap_alloc_new w2 (.cells #[.int .i64 k, .string ⟨y.toArray⟩, .slice a m c, .int .i64 l] 32)); have HB3 := Lib.hid (HB2.out.trans ((bel_new w2 (.cells #[.int .i64 k, .string ⟨y.toArray⟩, .slice a m c, .int .i64 l] 32)).mono HB2.out.size)); obtain ⟨r0, r1, r2, r3, q0, q1, q2, q3⟩ := box4 HX2.out; first | rw [errV2] | rw [errV5]; clear hps ht hb) | (go_at_call 12; (with_reducible refine (HSM.out _ _ _ (HT.out.step (bel_new _ _))).mono ?_); rintro e1 w3 ⟨rfl, hb⟩; have HB4 := Lib.hid (HB3.out.trans (hb.mono HB3.out.size)); clear hb) | (go_at_call 22; (with_reducible refine (isn_yes 2 (by decide) _).mono ?_); rintro e1 w5 ⟨rfl, rfl⟩) | (go_at_call 22; (with_reducible refine (HN5.out _).mono ?_); rintro e1 w5 ⟨rfl, rfl⟩) | (go_at_call 22; (with_reducible refine (isn_yes 5 (by decide) _).mono ?_); rintro e1 w6 ⟨rfl, rfl⟩))
          go_ret
          exact ⟨rfl, HB4.out⟩
end Go.Proofs.YtogkiifljdnjgaaDoor
