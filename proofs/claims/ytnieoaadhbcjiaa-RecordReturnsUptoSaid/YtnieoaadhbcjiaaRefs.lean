/- The walks of the reference's Sum, Uint, Text and Texts; Sum of any slice. No condition beyond lengths that memory allows. -/
import Derived.Test.YtnieoaadhbcjiaaEncode
namespace Go.Proofs.Ytnieoaadhbcjiaa
open Go.RowKit
set_option linter.unusedVariables false
set_option linter.unusedSimpArgs false

theorem sum_nil (a : Option Addr) (cap : Nat) (w : World) : Calls Try.prog 18 #[.slice a 0 cap] w fun e w' => e = .returned (.int .u32 (sumP [])) ∧ w = w' := by
  go_enter Try.func18, Try.ntmps18
  go_wp2
  go_loop [3, 8] (fun x i => i = .int .i64 0 ∧ x = .int .u32 (full : Nat)) (fun _ i => 0)
  case atStart => exact ⟨rfl, rfl⟩
  case round =>
    obtain ⟨rfl, rfl⟩ := hrel
    go_wp2
    go_ret
    exact ⟨ret_int (full_xor full word_full), rfl⟩
theorem sum_any (v : Value) (l : List UInt8) (w : World) (h : IsB w v l) : Calls Try.prog 18 #[v] w fun e w' => e = .returned (.int .u32 (sumP l)) ∧ w = w' := by
  have hm := h.len
  rcases h with ⟨rfl, a, cap, rfl, _⟩ | ⟨h0, b, off, cap, rfl, h1, h2, h3⟩
  · exact sum_nil a cap w
  · exact sum_some b off cap l w (by unfold maxLen at hm; omega) h3

theorem rsum_nil (a : Option Addr) (cap : Nat) (w : World) : Calls Try.prog 19 #[.slice a 0 cap] w fun e w' => e = .returned (.int .u32 (sumP [])) ∧ w = w' := by
  go_enter Try.func19, Try.ntmps19
  go_wp2
  go_loop [3, 4] (fun x i => i = .int .i64 0 ∧ x = .int .u32 (full : Nat)) (fun _ i => 0)
  case atStart => exact ⟨rfl, rfl⟩
  case round =>
    obtain ⟨rfl, rfl⟩ := hrel
    go_wp2
    go_ret
    exact ⟨ret_int (full_xor full word_full), rfl⟩

set_option maxRecDepth 20000 in
set_option maxHeartbeats 1000000 in
theorem rsum_some (b off cap : Nat) (l : List UInt8) (w : World) (hm : l.length ≤ 9223372036854775807)
    (hc : ∀ i c, l[i]? = some c → w.cell? ⟨b, off + i, none⟩ = some (.int .u8 (c.toNat : Int))) :
    Calls Try.prog 19 #[.slice (some ⟨b, off, none⟩) l.length cap] w fun e w' => e = .returned (.int .u32 (sumP l)) ∧ w = w' := by
  have HC := Lib.hid hc
  clear hc
  go_enter Try.func19, Try.ntmps19
  go_wp2
  go_loop [3, 4] (fun x i => ∃ (k y : Nat), i = .int .i64 k ∧ x = .int .u32 y ∧ k ≤ l.length ∧ Word y ∧ y = sumS full (l.take k)) (fun _ i => l.length - (intOf i).toNat)
  case atStart => exact ⟨0, full, rfl, rfl, by omega, word_full, rfl⟩
  case round =>
    obtain ⟨k, y, rfl, rfl, hk, hw, hy⟩ := hrel
    have HW := Lib.hid hw
    have HY := Lib.hid hy
    clear hw hy
    by_cases hlt : k < l.length
    · obtain ⟨c, hlc⟩ : ∃ c, l[k]? = some c := ⟨_, List.getElem?_eq_getElem hlt⟩
      have hcell := HC.out k c hlc
      have hcb := c.toNat_lt
      have hsn := sumS_snoc full l k c hlc
      rw [← HY.out] at hsn
      have HS := Lib.hid hsn
      clear hlc hsn
      have hx := xor_u32 y c.toNat HW.out (word_byte c)
      have HX := Lib.hid hx
      clear hx
      go_wp2
      go_loop [3, 5] (fun x j => ∃ (i z : Nat), j = .int .i64 i ∧ x = .int .u32 z ∧ i ≤ 8 ∧ Word z ∧ itS (8 - i) z = byteS y c) (fun _ j => 8 - (intOf j).toNat)
      case atStart => exact ⟨0, y ^^^ c.toNat, rfl, congrArg _ HX.out, by omega, HW.out.xor (word_byte c), rfl⟩
      case round =>
        obtain ⟨i, z, rfl, rfl, hi, hz, hit⟩ := hrel
        have HZ := Lib.hid hz
        have HIT := Lib.hid hit
        clear hz hit
        by_cases hi8 : i < 8
        · have hst : itS (8 - (i + 1)) (bitS z) = byteS y c := by
            rw [← HIT.out, show 8 - i = (8 - (i + 1)) + 1 from by omega, itS]
          have HST := Lib.hid hst
          clear hst
          by_cases ho : z % 2 = 1
          · have hb := bit_one z HZ.out ho
            have HB := Lib.hid hb
            clear hb
            go_wp2
            go_round
            case rel => exact ⟨i + 1, bitS z, by go_num, congrArg _ HB.out, by omega, HZ.out.bit, HST.out⟩
            case measure => simp [intOf]; omega
          · have hb := bit_zero z ho
            have HB := Lib.hid hb
            clear hb
            go_wp2
            go_round
            case rel => exact ⟨i + 1, bitS z, by go_num, congrArg _ HB.out, by omega, HZ.out.bit, HST.out⟩
            case measure => simp [intOf]; omega
        · obtain rfl : i = 8 := by omega
          have hz' : z = sumS full (l.take (k + 1)) := by rw [HS.out, ← HIT.out]; rfl
          have HZZ := Lib.hid hz'
          clear hz' hi hi8
          go_wp2
          go_round
          case rel => exact ⟨k + 1, z, by go_num, rfl, by omega, HZ.out, HZZ.out⟩
          case measure => simp [intOf]; omega
    · go_wp2
      go_ret
      refine ⟨ret_int ?_, rfl⟩
      rw [full_xor y HW.out, HY.out, List.take_of_length_le (by omega)]
      rfl
theorem rsum_any (v : Value) (l : List UInt8) (w : World) (h : IsB w v l) : Calls Try.prog 19 #[v] w fun e w' => e = .returned (.int .u32 (sumP l)) ∧ w = w' := by
  have hm := h.len
  rcases h with ⟨rfl, a, cap, rfl, _⟩ | ⟨h0, b, off, cap, rfl, h1, h2, h3⟩
  · exact rsum_nil a cap w
  · exact rsum_some b off cap l w (by unfold maxLen at hm; omega) h3
end Go.Proofs.Ytnieoaadhbcjiaa
