/- The walks of the checksum, the program's and the reference's. No condition. -/
import Derived.Test.YthhooocckfljaaaNone
namespace Go.Proofs.Ythhooocckfljaaa
open Go.RowKit
set_option linter.unusedVariables false
set_option linter.unusedSimpArgs false

def poly : Nat := 2197175160
def bitS (x : Nat) : Nat := if x % 2 = 1 then (x / 2) ^^^ poly else x / 2
def itS : Nat → Nat → Nat
  | 0, x => x
  | k + 1, x => itS k (bitS x)
def byteS (x : Nat) (c : UInt8) : Nat := itS 8 (x ^^^ c.toNat)
def sumS (x : Nat) (l : List UInt8) : Nat := l.foldl byteS x
def full : Nat := 4294967295
def sumP (l : List UInt8) : Nat := full ^^^ sumS full l
def Word (x : Nat) : Prop := x < 4294967296

theorem Word.xor {x y : Nat} (h : Word x) (g : Word y) : Word (x ^^^ y) := Nat.xor_lt_two_pow (n := 32) h g
theorem Word.half {x : Nat} (h : Word x) : Word (x / 2) := by unfold Word at *; omega
theorem word_poly : Word poly := by unfold Word poly; omega
theorem word_full : Word full := by unfold Word full; omega
theorem word_byte (c : UInt8) : Word c.toNat := by have := c.toNat_lt; unfold Word; omega
theorem Word.bit {x : Nat} (h : Word x) : Word (bitS x) := by
  unfold bitS
  split
  · exact h.half.xor word_poly
  · exact h.half
theorem Word.it : ∀ (k : Nat) {x : Nat}, Word x → Word (itS k x)
  | 0, _, h => h
  | k + 1, _, h => Word.it k h.bit
theorem Word.byte {x : Nat} (h : Word x) (c : UInt8) : Word (byteS x c) := Word.it 8 (h.xor (word_byte c))
theorem sumS_snoc (x : Nat) (l : List UInt8) (k : Nat) (c : UInt8) (h : l[k]? = some c) : sumS x (l.take (k + 1)) = byteS (sumS x (l.take k)) c := by
  obtain ⟨hk, rfl⟩ := List.getElem?_eq_some_iff.1 h
  rw [List.take_succ_eq_append_getElem hk]
  unfold sumS
  rw [List.foldl_append]
  rfl
theorem Word.sum {x : Nat} (h : Word x) (l : List UInt8) : Word (sumS x l) := by
  unfold sumS
  induction l generalizing x with
  | nil => exact h
  | cons c r ih => exact ih (h.byte c)
theorem xor_u32 (x y : Nat) (h : Word x) (g : Word y) : bits .xor .u32 (x : Int) (y : Int) = ((x ^^^ y : Nat) : Int) := u32_xor_nat x y h g
theorem and1_u32 (x : Nat) (h : Word x) : bits .and .u32 (x : Int) 1 = ((x % 2 : Nat) : Int) := by
  have := u32_and_nat x 1 h (by omega)
  rw [show ((1 : Nat) : Int) = 1 from rfl] at this
  rw [this, show x &&& 1 = x % 2 from Nat.and_two_pow_sub_one_eq_mod x 1]

theorem bit_one (z : Nat) (h : Word z) (ho : z % 2 = 1) : bits .xor .u32 ((z : Int) / 2) 2197175160 = ((bitS z : Nat) : Int) := by
  have := xor_u32 (z / 2) poly h.half word_poly
  rw [bitS, if_pos ho, ← this]
  rfl
theorem bit_zero (z : Nat) (ho : ¬ z % 2 = 1) : (z : Int) / 2 = ((bitS z : Nat) : Int) := by
  rw [bitS, if_neg ho]
  rfl
theorem full_xor (y : Nat) (h : Word y) : bits .xor .u32 IntKind.u32.max (y : Int) = ((full ^^^ y : Nat) : Int) := by
  have := xor_u32 full y word_full h
  rw [← this]
  rfl

set_option maxRecDepth 20000 in
set_option maxHeartbeats 1000000 in
theorem sum_some (b off cap : Nat) (l : List UInt8) (w : World) (hm : l.length ≤ 9223372036854775807)
    (hc : ∀ i c, l[i]? = some c → w.cell? ⟨b, off + i, none⟩ = some (.int .u8 (c.toNat : Int))) :
    Calls Try.prog 36 #[.slice (some ⟨b, off, none⟩) l.length cap] w fun e w' => e = .returned (.int .u32 (sumP l)) ∧ w = w' := by
  have HC := Lib.hid hc
  clear hc
  go_enter Try.func36, Try.ntmps36
  go_wp2
  go_loop [3, 8] (fun x i => ∃ (k y : Nat), i = .int .i64 k ∧ x = .int .u32 y ∧ k ≤ l.length ∧ Word y ∧ y = sumS full (l.take k)) (fun _ i => l.length - (intOf i).toNat)
  case atStart => exact ⟨0, full, rfl, rfl, by omega, word_full, rfl⟩
  case round =>
    obtain ⟨k, y, rfl, rfl, hk, hw, hy⟩ := hrel
    have HW := Lib.hid hw
    have HY := Lib.hid hy
    clear hw hy
    by_cases hlt : k < l.length
    · obtain ⟨c, hlc⟩ : ∃ c, l[k]? = some c := ⟨_, List.getElem?_eq_getElem hlt⟩
      have hcell := HC.out k c hlc
      have hcb := c.toNat_lt
      have hsn := sumS_snoc full l k c hlc
      rw [← HY.out] at hsn
      have HS := Lib.hid hsn
      clear hlc hsn
      have hx := xor_u32 y c.toNat HW.out (word_byte c)
      have HX := Lib.hid hx
      clear hx
      go_wp2
      go_loop [3, 16] (fun x j => ∃ (i z : Nat), j = .int .i64 i ∧ x = .int .u32 z ∧ i ≤ 8 ∧ Word z ∧ itS (8 - i) z = byteS y c) (fun _ j => 8 - (intOf j).toNat)
      case atStart => exact ⟨0, y ^^^ c.toNat, rfl, congrArg _ HX.out, by omega, HW.out.xor (word_byte c), rfl⟩
      case round =>
        obtain ⟨i, z, rfl, rfl, hi, hz, hit⟩ := hrel
        have HZ := Lib.hid hz
        have HIT := Lib.hid hit
        clear hz hit
        by_cases hi8 : i < 8
        · have hst : itS (8 - (i + 1)) (bitS z) = byteS y c := by
            rw [← HIT.out, show 8 - i = (8 - (i + 1)) + 1 from by omega, itS]
          have HST := Lib.hid hst
          clear hst
          by_cases ho : z % 2 = 1
          · have ha : (bits .and .u32 (z : Int) 1 == 1) = true := by rw [and1_u32 z HZ.out]; simp; omega
            have hb := bit_one z HZ.out ho
            have HB := Lib.hid hb
            clear hb ho
            go_wp2
            go_round
            case rel => exact ⟨i + 1, bitS z, by go_num, congrArg _ HB.out, by omega, HZ.out.bit, HST.out⟩
            case measure => simp [intOf]; omega
          · have ha : (bits .and .u32 (z : Int) 1 == 1) = false := by rw [and1_u32 z HZ.out]; simp; omega
            have hb := bit_zero z ho
            have HB := Lib.hid hb
            clear hb ho
            go_wp2
            go_round
            case rel => exact ⟨i + 1, bitS z, by go_num, congrArg _ HB.out, by omega, HZ.out.bit, HST.out⟩
            case measure => simp [intOf]; omega
        · obtain rfl : i = 8 := by omega
          have hz' : z = sumS full (l.take (k + 1)) := by rw [HS.out, ← HIT.out]; rfl
          have HZZ := Lib.hid hz'
          clear hz' hi hi8
          go_wp2
          go_round
          case rel => exact ⟨k + 1, z, by go_num, rfl, by omega, HZ.out, HZZ.out⟩
          case measure => simp [intOf]; omega
    · go_wp2
      go_ret
      refine ⟨ret_int ?_, rfl⟩
      rw [full_xor y HW.out, HY.out, List.take_of_length_le (by omega)]
      rfl
end Go.Proofs.Ythhooocckfljaaa
