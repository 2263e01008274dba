/- The hexadecimal digits, in plain Lean. No condition. -/
import Derived.Test.YtjghmhcljhjmmaaDoorSha
namespace Go.Proofs.YtjghmhcljhjmmaaDoor
set_option linter.unusedVariables false
set_option linter.unusedSimpArgs false

/-- The digits' text. -/
def digL : List UInt8 := [48, 49, 50, 51, 52, 53, 54, 55, 56, 57, 97, 98, 99, 100, 101, 102]
theorem dig_at : ∀ q, q < 16 → digL[q]? = some (hexD q) := by decide
theorem dig_cut : ∀ q, q < 16 → (digL.drop q).take 1 = [hexD q] := by decide
theorem hex_snoc (l : List UInt8) (c : UInt8) : hexP (l ++ [c]) = hexP l ++ [hexD (c.toNat / 16), hexD (c.toNat % 16)] := by
  simp [hexP]
theorem hex_len (l : List UInt8) : (hexP l).length = 2 * l.length := by
  induction l with
  | nil => rfl
  | cons c l ih =>
    have : hexP (c :: l) = hexD (c.toNat / 16) :: hexD (c.toNat % 16) :: hexP l := rfl
    rw [this, List.length_cons, List.length_cons, ih, List.length_cons]
    omega
theorem byte_hi (c : UInt8) : c.toNat / 16 < 16 := by have := c.toNat_lt; omega
theorem byte_lo (c : UInt8) : c.toNat % 16 < 16 := by omega
/-- The place of a digit among the digits (of IndexByte): -1 for what is none. -/
def digN (c : UInt8) : Option Nat := digL.findIdx? (· == c)
theorem digN_hex : ∀ q, q < 16 → digN (hexD q) = some q := by decide
theorem digN_lt {c : UInt8} {q : Nat} (h : digN c = some q) : q < 16 := by
  have := List.findIdx?_eq_some_iff_getElem.1 h
  obtain ⟨h1, _⟩ := this
  exact h1
theorem digN_digit {c : UInt8} {q : Nat} (h : digN c = some q) : c = hexD q := by
  obtain ⟨h1, h2, _⟩ := List.findIdx?_eq_some_iff_getElem.1 h
  have h3 := dig_at q h1
  rw [List.getElem?_eq_getElem h1] at h3
  have h4 : digL[q] = c := by simpa using h2
  rw [← h4]
  exact Option.some.inj h3
/-- What Unhex answers. -/
def unhexP : List UInt8 → Option (List UInt8)
  | [] => some []
  | [_] => none
  | a :: b :: r => match digN a, digN b, unhexP r with
    | some p, some q, some t => some (UInt8.ofNat (16 * p + q) :: t)
    | _, _, _ => none
theorem unhex_hex (l : List UInt8) : unhexP (hexP l) = some l := by
  induction l with
  | nil => rfl
  | cons c l ih =>
    have : hexP (c :: l) = hexD (c.toNat / 16) :: hexD (c.toNat % 16) :: hexP l := rfl
    rw [this, unhexP, digN_hex _ (byte_hi c), digN_hex _ (byte_lo c), ih]
    have h2 : UInt8.ofNat (16 * (c.toNat / 16) + c.toNat % 16) = c := by
      rw [Nat.div_add_mod]; simp
    simp only [h2]
end Go.Proofs.YtjghmhcljhjmmaaDoor
