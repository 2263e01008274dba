/- The walk of the reference's padded message. No condition beyond the sizes. -/
import Derived.Test.YtjghmhcljhjmmaaDoorSum
namespace Go.Proofs.YtjghmhcljhjmmaaDoor
open Go.RowKit
set_option linter.unusedVariables false
set_option linter.unusedSimpArgs false

set_option maxRecDepth 20000 in
set_option maxHeartbeats 4000000 in
theorem padded_any (v : Value) (l : List UInt8) (w : World) (hv : IsB w v l) (hl : l.length ≤ 1099511627776) : Calls Tryd.prog 26 #[v] w (OwnR w (l ++ tailP l.length)) := by
  have HV := Lib.hid hv
  obtain ⟨va, vc, hva, hvc, hvm, _⟩ := hv.shape
  have HVA := Lib.hid hva
  have hlb : l.length + 1 ≤ 140737488355328 := by omega
  have hlb0 : 0 + l.length ≤ 140737488355328 := by omega
  obtain ⟨R, hR⟩ : ∃ R, R = l ++ tailP l.length := ⟨_, rfl⟩
  rw [← hR]
  have HR := Lib.hid hR
  have HO0 := Lib.hid (OwnB.made w w.heap.size (Nat.le_refl _))
  have HB0 := Lib.hid (bel_new w (.cells #[] 5))
  have HV1 := Lib.hid (HV.out.step HB0.out)
  have hbs : w.heap.size ≤ (w.alloc (.cells #[] 5)).heap.size := by simp [go_sem]
  clear hR hv hva hvc hvm
  go_enter Tryd.func26, Tryd.ntmps26
  go_wp2_with (first | (at_builtin; refine wpList_app rfl (.tmp 6) (.tmp 7) rfl w.heap.size _ [] rfl HO0.out _ l rfl HV1.out hlb0 hbs ?_; intro v1 w1 hO1 hB1 hs1 hn1; have HO1 := Lib.hid hO1; have HB1 := Lib.hid (HB0.out.trans hB1); clear hO1 hB1 hs1 hn1) | (at_builtin; refine wpList_app rfl (.tmp 8) (.tmp 9) rfl w.heap.size _ l rfl (HO1.out.step (bel_new _ _)) _ [128] rfl (IsB.one _ _ _ rfl) hlb (by have := HB1.out.size; simp; omega) ?_; intro v2 w2 hO2 hB2 hs2 hn2; have HO2 := Lib.hid hO2; have HB2 := Lib.hid ((bel_step HB1.out (bel_new _ _)).trans hB2); clear hO2 hB2 hs2 hn2))
  obtain ⟨m, hm⟩ : ∃ m, m = l.length := ⟨_, rfl⟩
  rw [← hm] at hl hlb
  have HM := Lib.hid hm
  clear hm
  obtain ⟨Z, hZ⟩ : ∃ Z, Z = zerosN m := ⟨_, rfl⟩
  have hz1 : Z < 64 := by rw [hZ]; exact zeros_le m
  have HZ := Lib.hid hZ
  clear hZ
  go_loopg [3] Z (fun g u wr => ∃ j, g + j = Z ∧ OwnB wr w.heap.size u (l ++ 128 :: List.replicate j 0) ∧ Below w.heap.size w wr)
  case atStart => exact ⟨0, by omega, HO2.out, HB2.out⟩
  case round =>
    obtain ⟨j, hg, ho, hbl⟩ := hrel
    have hlen : (l ++ 128 :: List.replicate j 0).length = m + 1 + j := by rw [HM.out]; simp; omega
    obtain ⟨a, cap, hu, hc1, hc2, _⟩ := ho.isB.shape
    rw [hlen] at hu
    have HO := Lib.hid ho
    have HBL := Lib.hid hbl
    have HL := Lib.hid hlen
    have hG := Lib.hid hg
    clear ho hbl hlen hc1 hc2 hg
    subst hu
    obtain ⟨N, hN⟩ : ∃ N, N = m + 1 + j := ⟨_, rfl⟩
    rw [← hN] at HO
    have hNi : (N : Int) ≤ 1099511627776 + 65 := by have := hG.out; omega
    by_cases hlt : j < Z
    · have hq := zeros_lt m j (by rw [← HZ.out]; exact hlt)
      rw [← hN] at hq ⊢
      have HN := Lib.hid hN
      have hqi : ((N : Int) % 64 == 56) = false := by simp; omega
      have hqj : ((N : Int) % 64 != 56) = true := by simp; omega
      have hjZ : j < Z := hlt
      clear hN hq hlt
      go_upto_region 3 with fail
      generalize Value.slice a N cap = u at *
      have HT := Lib.hid (show (l ++ 128 :: List.replicate j 0) ++ [0] = l ++ 128 :: List.replicate (j + 1) 0 by rw [rep_snoc]; simp)
      have hlb2 : (l ++ 128 :: List.replicate j (0 : UInt8)).length + [0].length ≤ 140737488355328 := by rw [HL.out]; simp only [List.length_cons, List.length_nil]; omega
      clear hqi hqj
      go_wp2_with (at_builtin; refine wpList_app rfl (.tmp 15) (.tmp 16) rfl w.heap.size _ _ rfl (HO.out.step (bel_new _ _)) _ [0] rfl (IsB.one _ _ _ rfl) hlb2 (by have := HBL.out.size; simp; omega) ?_; intro v3 w3 hO3 hB3 hs3 hn3; have HO3 := Lib.hid hO3; have HB3 := Lib.hid ((HBL.out.trans ((bel_new wr _).mono HBL.out.size)).trans hB3); clear hO3 hB3 hs3 hn3)
      go_roundg (gk - 1)
      case rel => exact ⟨j + 1, by have := hG.out; omega, by rw [← HT.out]; exact HO3.out, HB3.out⟩
      case measure => have := hG.out; omega
    · obtain rfl : j = Z := by have := hG.out; omega
      have hq := zeros_at m
      rw [← HZ.out, ← hN] at hq
      have HN56 := Lib.hid hq
      have hqi : ((N : Int) % 64 == 56) = true := by simp; omega
      have hqj : ((N : Int) % 64 != 56) = false := by simp; omega
      have HL1 := Lib.hid (show (l ++ 128 :: List.replicate j (0 : UInt8)).length = N by rw [HL.out, hN])
      have HN := Lib.hid hN
      rw [← hN]
      have hN65 : N ≤ m + 64 := by omega
      have HT := Lib.hid (show R = (l ++ 128 :: List.replicate j (0 : UInt8)) ++ lenB m by
        rw [HR.out, ← HM.out]
        unfold tailP
        rw [← HZ.out]
        simp)
      generalize l ++ 128 :: List.replicate j (0 : UInt8) = L1 at *
      clear hN hq hlt HO2 HB2 HL
      have hva := HVA.out
      subst hva
      rw [← HM.out]
      have hm0 : (m : Int) ≤ 1099511627776 := by omega
      go_wp2_with fail
      generalize Value.slice a N cap = u at *
      go_loopw [3, 22] (fun u i wr => ∃ k : Nat, i = .int .i64 k ∧ k ≤ 8 ∧ OwnB wr w.heap.size u (L1 ++ (lenB m).take k) ∧ Below w.heap.size w wr) (fun _ i _ => 8 - (intOf i).toNat)
      case atStart => exact ⟨0, rfl, by omega, by rw [List.take_zero, List.append_nil]; exact HO.out, HBL.out⟩
      case round =>
        obtain ⟨k, rfl, hk, ho, hbl⟩ := hrel
        have HO1 := Lib.hid ho
        have HB1 := Lib.hid hbl
        clear ho hbl
        by_cases hlt : k < 8
        · have h1 : (0 : Int) ≤ 56 - 8 * (k : Int) := by omega
          have HE := Lib.hid (show (m : Int) * 8 / 2 ^ (56 - 8 * k) % 256 = (((lenB m).getD k 0).toNat : Int) by
            have := lenB_at m k hlt
            rw [Int.natCast_mul, Int.natCast_pow, show 8 * (7 - k) = 56 - 8 * k by omega, Int.mul_comm] at this
            exact this)
          have HTK := Lib.hid (show L1 ++ (lenB m).take k ++ [(lenB m).getD k 0] = L1 ++ (lenB m).take (k + 1) by rw [lenB_take m k hlt, List.append_assoc])
          have hlb2 : (L1 ++ (lenB m).take k).length + [(lenB m).getD k 0].length ≤ 140737488355328 := by
            rw [List.length_append, HL1.out, List.length_take, lenB_len]
            simp only [List.length_cons, List.length_nil]
            omega
          generalize (lenB m).getD k 0 = c at *
          go_wp2_with (at_builtin; refine wpList_app rfl (.tmp 25) (.tmp 32) rfl w.heap.size _ _ rfl (HO1.out.step (bel_new _ _)) _ [c] rfl (IsB.one _ _ _ HE.out) hlb2 (by have := HB1.out.size; simp; omega) ?_; intro v3 w3 hO3 hB3 hs3 hn3; have HO3 := Lib.hid hO3; have HB3 := Lib.hid ((HB1.out.trans ((bel_new wr _).mono HB1.out.size)).trans hB3); clear hO3 hB3 hs3 hn3)
          go_roundw
          case rel => exact ⟨k + 1, by go_num, by omega, by rw [← HTK.out]; exact HO3.out, HB3.out⟩
          case measure => simp [intOf]; omega
        · obtain rfl : k = 8 := by omega
          have hO := HO1.out
          rw [List.take_of_length_le (by rw [lenB_len]; omega), ← HT.out] at hO
          have HO2 := Lib.hid hO
          clear hO HO1
          go_wp2_with fail
          go_ret
          exact ⟨_, rfl, HO2.out, HB1.out⟩
end Go.Proofs.YtjghmhcljhjmmaaDoor
