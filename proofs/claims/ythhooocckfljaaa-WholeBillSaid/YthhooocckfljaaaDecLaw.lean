/- The plain law: what was encoded is decoded again, and a proper prefix is an end. No condition beyond the record's limits. -/
import Derived.Test.YthhooocckfljaaaDecode
namespace Go.Proofs.Ythhooocckfljaaa
open Go.RowKit
set_option linter.unusedVariables false
set_option linter.unusedSimpArgs false

theorem numF_pos (f n : Nat) (hf : 1 ≤ f) : 1 ≤ (numF f n).length := by
  obtain ⟨f, rfl⟩ : ∃ g, f = g + 1 := ⟨f - 1, by omega⟩
  by_cases h : n < 128
  · rw [numF_small f n h]; simp
  · rw [numF_big f n h]; simp
theorem numF_le : ∀ (g f n : Nat), n < 128 ^ g → 1 ≤ g → g ≤ f → (numF f n).length ≤ g
  | 0, _, _, _, h, _ => absurd h (by omega)
  | g + 1, f, n, hn, _, hf => by
    obtain ⟨f, rfl⟩ : ∃ e, f = e + 1 := ⟨f - 1, by omega⟩
    by_cases h : n < 128
    · rw [numF_small f n h]; simp
    · rw [numF_big f n h]
      have hg : 1 ≤ g := by
        cases g with
        | zero => simp at hn; omega
        | succ g => omega
      have := numF_le g f (n / 128) (by rw [Nat.pow_succ] at hn; omega) hg (by omega)
      simp only [List.length_cons]
      omega
theorem ofNat_small (n : Nat) (h : n < 256) : (UInt8.ofNat n).toNat = n := by rw [UInt8.toNat_ofNat']; omega
theorem takeF_num (bytes : Nat) : ∀ (f n i acc : Nat) (t : List UInt8), n < 128 ^ f → 1 ≤ f → (0 < i → n ≠ 0) → i + (numF f n).length ≤ bytes →
    takeF bytes i acc (numF f n ++ t) = (((acc + n * 128 ^ i : Nat) : Int), (i : Int) + ((numF f n).length : Int))
  | 0, _, _, _, _, _, h, _, _ => absurd h (by omega)
  | f + 1, n, i, acc, t, hn, _, h0, hb => by
    by_cases h : n < 128
    · rw [numF_small f n h, List.singleton_append, takeF, ofNat_small n (by omega), if_pos h, if_neg (by omega)]
      simp
    · have hf : 1 ≤ f := by
        cases f with
        | zero => simp at hn; omega
        | succ g => omega
      have hp := numF_pos f (n / 128) hf
      rw [numF_big f n h] at hb ⊢
      simp only [List.length_cons] at hb
      rw [List.cons_append, takeF, ofNat_small _ (by omega), if_neg (by omega), if_neg (by omega), takeF_num bytes f (n / 128) (i + 1) _ t (by rw [Nat.pow_succ] at hn; omega) hf (by omega) (by omega)]
      have e : acc + (n % 128 + 128 - 128) * 128 ^ i + n / 128 * 128 ^ (i + 1) = acc + n * 128 ^ i := by
        rw [Nat.pow_succ, Nat.add_sub_cancel, Nat.mul_comm (128 ^ i) 128, ← Nat.mul_assoc, Nat.add_assoc, ← Nat.add_mul]
        congr 2
        omega
      rw [e]
      simp only [List.length_cons, Prod.mk.injEq, true_and]
      push_cast
      omega
theorem takeF_pre (bytes : Nat) : ∀ (f n i acc j : Nat), 1 ≤ f → n < 128 ^ f → i + (numF f n).length ≤ bytes → j < (numF f n).length → takeF bytes i acc ((numF f n).take j) = (0, 0)
  | 0, _, _, _, _, h, _, _, _ => absurd h (by omega)
  | f + 1, n, i, acc, 0, _, _, hb, hj => by simp [takeF]
  | f + 1, n, i, acc, j + 1, _, hn, hb, hj => by
    by_cases h : n < 128
    · rw [numF_small f n h] at hj; simp at hj
    · have hf : 1 ≤ f := by
        cases f with
        | zero => simp at hn; omega
        | succ g => omega
      have hp := numF_pos f (n / 128) hf
      rw [numF_big f n h] at hb hj ⊢
      simp only [List.length_cons] at hb hj
      rw [List.take_succ_cons, takeF, ofNat_small _ (by omega), if_neg (by omega), if_neg (by omega), takeF_pre bytes f (n / 128) (i + 1) _ j hf (by rw [Nat.pow_succ] at hn; omega) (by omega) (by omega)]
theorem partP_num (bytes most n : Nat) (t : List UInt8) (hn : n < 128 ^ bytes) (hb : 1 ≤ bytes ∧ bytes ≤ 9) (hm : n ≤ most) : partP bytes most (numB n ++ t) = .inr (n, (numB n).length) := by
  have h10 : n < 128 ^ 10 := Nat.lt_of_lt_of_le hn (Nat.pow_le_pow_right (by omega) (by omega))
  have hl := numF_le bytes 10 n hn hb.1 (by omega)
  have hp := numF_pos 10 n (by omega)
  have := takeF_num bytes 10 n 0 0 t h10 (by omega) (by omega) (by omega)
  refine partP_ok ?_ hp hm
  unfold takeP numB
  rw [this]
  simp
theorem partP_pre (bytes most n j : Nat) (hn : n < 128 ^ bytes) (hb : 1 ≤ bytes ∧ bytes ≤ 9) (hj : j < (numB n).length) : partP bytes most ((numB n).take j) = .inl 21 := by
  have h10 : n < 128 ^ 10 := Nat.lt_of_lt_of_le hn (Nat.pow_le_pow_right (by omega) (by omega))
  have hl := numF_le bytes 10 n hn hb.1 (by omega)
  refine partP_end ?_
  unfold takeP numB
  rw [takeF_pre bytes 10 n 0 0 j (by omega) h10 (by omega) hj]

theorem be4_four (s : Nat) (h : s < 4294967296) : be4 (four s) = s := by
  simp only [four, be4, UInt8.toNat_ofNat']
  omega
theorem headP_len (k n : Nat) (l : List UInt8) : (headP k n l).length = 1 + (numB n).length + (numB l.length).length + l.length := by
  simp [headP]; omega
theorem encP_len (k n : Nat) (l : List UInt8) : (encP k n l).length = 1 + (numB n).length + (numB l.length).length + l.length + 4 := by
  simp only [encP, List.length_append, headP_len]
  rfl

/-- The bytes of a head, a payload and four bytes more are decoded so. -/
theorem dec_parts (k n : Nat) (l q t : List UInt8) (hk : 1 ≤ k ∧ k ≤ 127) (hn : n ≤ 1099511627776) (hl : l.length ≤ 131072) (hq : q.length = 4) :
    decP (headP k n l ++ q ++ t) = if be4 q = sumP (headP k n l) then .inr (k, n, l, (headP k n l).length + 4) else .inl 12 := by
  have hh := headP_len k n l
  have e : headP k n l ++ q ++ t = UInt8.ofNat k :: (numB n ++ (numB l.length ++ (l ++ (q ++ t)))) := by simp [headP]
  have h1 : (headP k n l ++ q ++ t)[0]? = some (UInt8.ofNat k) := by rw [e]; rfl
  have hkk := ofNat_small k (by omega)
  rw [decP_cons _ _ h1 (by rw [hkk]; exact hk)]
  have d1 : (headP k n l ++ q ++ t).drop 1 = numB n ++ (numB l.length ++ (l ++ (q ++ t))) := by rw [e]; rfl
  have d2 : (headP k n l ++ q ++ t).drop (1 + (numB n).length) = numB l.length ++ (l ++ (q ++ t)) := by
    rw [← List.drop_drop, d1, List.drop_left]
  have d3 : (headP k n l ++ q ++ t).drop (1 + (numB n).length + (numB l.length).length) = l ++ (q ++ t) := by
    rw [← List.drop_drop, d2, List.drop_left]
  have d4 : (headP k n l ++ q ++ t).drop (1 + (numB n).length + (numB l.length).length + l.length) = q ++ t := by
    rw [← List.drop_drop, d3, List.drop_left]
  rw [d1, partP_num 6 _ n _ (by omega) (by omega) hn]
  simp only []
  rw [d2, partP_num 3 _ l.length _ (by omega) (by omega) hl]
  simp only []
  unfold endP
  rw [if_neg (by simp only [List.length_append]; omega), d4, ← hq, List.take_left, ← hh, List.append_assoc, List.take_left, hkk]
  rw [← List.append_assoc, d3, List.take_left, hq]
  by_cases hs : be4 q = sumP (headP k n l)
  · rw [if_neg (by simpa using hs), if_pos hs, hh]
  · rw [if_pos hs, if_neg hs]
theorem dec_enc (k n : Nat) (l t : List UInt8) (hk : 1 ≤ k ∧ k ≤ 127) (hn : n ≤ 1099511627776) (hl : l.length ≤ 131072) : decP (encP k n l ++ t) = .inr (k, n, l, (encP k n l).length) := by
  unfold encP
  rw [dec_parts k n l (four (sumP (headP k n l))) t hk hn hl rfl, if_pos (be4_four _ (word_sumP _))]
  simp [four]
theorem dec_pre (k n : Nat) (l : List UInt8) (i : Nat) (hk : 1 ≤ k ∧ k ≤ 127) (hn : n ≤ 1099511627776) (hl : l.length ≤ 131072) (hi : i < (encP k n l).length) : decP ((encP k n l).take i) = .inl 21 := by
  cases i with
  | zero => rfl
  | succ i =>
    have hlen := encP_len k n l
    obtain ⟨q, hq⟩ : ∃ q, q = four (sumP (headP k n l)) := ⟨_, rfl⟩
    have e : encP k n l = UInt8.ofNat k :: (numB n ++ (numB l.length ++ (l ++ q))) := by simp [encP, headP, hq]
    have hq4 : q.length = 4 := by rw [hq]; rfl
    rw [e, List.take_succ_cons]
    have hkk := ofNat_small k (by omega)
    simp only [decP]
    rw [hkk, if_neg (by omega)]
    by_cases h1 : i < (numB n).length
    · rw [List.take_append_of_le_length (by omega), partP_pre 6 _ n i (by omega) (by omega) h1]
    · rw [List.take_append, List.take_of_length_le (by omega), partP_num 6 _ n _ (by omega) (by omega) hn]
      simp only []
      rw [List.drop_left]
      by_cases h2 : i - (numB n).length < (numB l.length).length
      · rw [List.take_append_of_le_length (by omega), partP_pre 3 _ l.length _ (by omega) (by omega) h2]
      · rw [List.take_append (l₁ := numB l.length), List.take_of_length_le (by omega), partP_num 3 _ l.length _ (by omega) (by omega) hl]
        simp only []
        unfold endP
        rw [if_pos (by simp only [List.length_cons, List.length_append, List.length_take]; omega)]
end Go.Proofs.Ythhooocckfljaaa
