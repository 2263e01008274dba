/- The sum of the exclusive or of two lists of bytes of one length. No program in sight. -/
import Derived.Test.YtbfpjldincnihaaSum
namespace Go.Proofs.Ytbfpjldincnihaa
set_option linter.unusedVariables false
set_option linter.unusedSimpArgs false

theorem xor_half (x y : Nat) : (x ^^^ y) / 2 = x / 2 ^^^ y / 2 := by
  have := Nat.shiftRight_xor_distrib (a := x) (b := y) (i := 1)
  simpa [Nat.shiftRight_succ] using this
theorem xor_odd (x y : Nat) : (x ^^^ y) % 2 = (x % 2 + y % 2) % 2 := by
  have := Nat.xor_mod_two_pow (a := x) (b := y) (n := 1)
  simp only [Nat.pow_one] at this
  rw [this]
  rcases Nat.mod_two_eq_zero_or_one x with h | h <;> rcases Nat.mod_two_eq_zero_or_one y with g | g <;> rw [h, g] <;> rfl
theorem bitS_xor (x y : Nat) : bitS (x ^^^ y) = bitS x ^^^ bitS y := by
  unfold bitS
  rw [xor_odd, xor_half]
  rcases Nat.mod_two_eq_zero_or_one x with h | h <;> rcases Nat.mod_two_eq_zero_or_one y with g | g <;> rw [h, g] <;> simp
  · rw [Nat.xor_assoc]
  · rw [Nat.xor_assoc, Nat.xor_comm (y / 2) poly, ← Nat.xor_assoc]
  · rw [Nat.xor_assoc (x / 2) poly, Nat.xor_comm (y / 2) poly, ← Nat.xor_assoc poly poly, Nat.xor_self, Nat.zero_xor]
theorem itS_xor : ∀ (k x y : Nat), itS k (x ^^^ y) = itS k x ^^^ itS k y
  | 0, x, y => rfl
  | k + 1, x, y => by
    simp only [itS]
    rw [bitS_xor, itS_xor k]
theorem xor_swap (a b c d : Nat) : (a ^^^ b) ^^^ (c ^^^ d) = (a ^^^ c) ^^^ (b ^^^ d) := by
  rw [Nat.xor_assoc, Nat.xor_assoc, ← Nat.xor_assoc b c d, Nat.xor_comm b c, Nat.xor_assoc c b d]
theorem byteS_xor (x y : Nat) (c d : UInt8) : byteS (x ^^^ y) (c ^^^ d) = byteS x c ^^^ byteS y d := by
  unfold byteS
  rw [UInt8.toNat_xor, xor_swap, itS_xor]
theorem sumS_xor : ∀ (a b : List UInt8) (x y : Nat), a.length = b.length → sumS (x ^^^ y) (List.zipWith (· ^^^ ·) a b) = sumS x a ^^^ sumS y b
  | [], [], x, y, _ => rfl
  | c :: a, d :: b, x, y, h => by
    show sumS (byteS (x ^^^ y) (c ^^^ d)) (List.zipWith (· ^^^ ·) a b) = sumS (byteS x c) a ^^^ sumS (byteS y d) b
    rw [byteS_xor]
    exact sumS_xor a b _ _ (by simpa using h)
theorem zip_zero : ∀ (a : List UInt8), List.zipWith (· ^^^ ·) a (List.replicate a.length 0) = a
  | [] => rfl
  | c :: a => by
    simp only [List.length_cons, List.replicate_succ, List.zipWith_cons_cons, zip_zero a]
    simp
theorem sum_law (a b : List UInt8) (h : a.length = b.length) : sumP (List.zipWith (· ^^^ ·) a b) = (sumP a ^^^ sumP b) ^^^ sumP (List.replicate a.length 0) := by
  have hf : full = (full ^^^ full) ^^^ full := by rw [Nat.xor_self, Nat.zero_xor]
  have hl : (List.zipWith (· ^^^ ·) a b).length = a.length := by simp; omega
  have e : sumS full (List.zipWith (· ^^^ ·) a b) = (sumS full a ^^^ sumS full b) ^^^ sumS full (List.replicate a.length 0) := by
    conv => lhs; rw [← zip_zero (List.zipWith (· ^^^ ·) a b), hl, hf]
    rw [sumS_xor _ _ _ _ (by rw [hl]; simp), sumS_xor a b _ _ h]
  unfold sumP
  rw [e]
  conv => lhs; arg 1; rw [hf]
  rw [xor_swap full, xor_swap (full ^^^ full)]
end Go.Proofs.Ytbfpjldincnihaa
