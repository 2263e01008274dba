/- The walks of record.number and record.joined. No condition beyond lengths that memory allows. -/
import Derived.Test.YthhooocckfljaaaBytes
namespace Go.Proofs.Ythhooocckfljaaa
open Go.RowKit
set_option linter.unusedVariables false
set_option linter.unusedSimpArgs false

/-- The form of a number. -/
def numF : Nat → Nat → List UInt8
  | 0, _ => []
  | f + 1, n => if n < 128 then [UInt8.ofNat n] else UInt8.ofNat (n % 128 + 128) :: numF f (n / 128)
def numB (n : Nat) : List UInt8 := numF 10 n
def clampN (n : Int) : Nat := (max 0 (min n 4611686018427387904)).toNat

def topN : Nat := 4611686018427387904

theorem ofInt64 (a : Nat) (ha : a < 18446744073709551616) : (BitVec.ofInt 64 (a : Int)).toNat = a := by
  rw [BitVec.ofInt_natCast, BitVec.toNat_ofNat]
  exact Nat.mod_eq_of_lt ha
theorem and_i64 (a b : Nat) (ha : a < 9223372036854775808) (hb : b < 9223372036854775808) : bits .and .i64 (a : Int) (b : Int) = ((a &&& b : Nat) : Int) := by
  have hx : a &&& b < 2 ^ 63 := Nat.and_lt_two_pow _ (by omega)
  show IntKind.i64.wrap ((BitVec.ofInt 64 (a : Int) &&& BitVec.ofInt 64 (b : Int)).toNat : Int) = _
  rw [BitVec.toNat_and, ofInt64 a (by omega), ofInt64 b (by omega), IntKind.wrap_i64]
  omega
theorem or_i64 (a b : Nat) (ha : a < 9223372036854775808) (hb : b < 9223372036854775808) : bits .or .i64 (a : Int) (b : Int) = ((a ||| b : Nat) : Int) := by
  have hx : a ||| b < 2 ^ 63 := Nat.or_lt_two_pow (by omega) (by omega)
  show IntKind.i64.wrap ((BitVec.ofInt 64 (a : Int) ||| BitVec.ofInt 64 (b : Int)).toNat : Int) = _
  rw [BitVec.toNat_or, ofInt64 a (by omega), ofInt64 b (by omega), IntKind.wrap_i64]
  omega
theorem seven_bits (m : Nat) (hm : m ≤ topN) : bits .or .i64 (bits .and .i64 (m : Int) 127) 128 % 256 = (((UInt8.ofNat (m % 128 + 128)).toNat : Nat) : Int) := by
  unfold topN at hm
  have e1 : bits .and .i64 (m : Int) 127 = ((m % 128 : Nat) : Int) := by
    have := and_i64 m 127 (by omega) (by omega)
    rw [show ((127 : Nat) : Int) = 127 from rfl] at this
    rw [this]
    have h : m &&& 127 = m % 128 := Nat.and_two_pow_sub_one_eq_mod m 7
    rw [h]
  have e2 : bits .or .i64 (((m % 128 : Nat)) : Int) 128 = ((m % 128 + 128 : Nat) : Int) := by
    have := or_i64 (m % 128) 128 (by omega) (by omega)
    rw [show ((128 : Nat) : Int) = 128 from rfl] at this
    rw [this, Nat.or_comm, nat_join 7 128 (m % 128) (by omega) (by omega)]
    omega
  rw [e1, e2, UInt8.toNat_ofNat']
  omega

theorem numF_small (f n : Nat) (h : n < 128) : numF (f + 1) n = [UInt8.ofNat n] := by rw [numF, if_pos h]
theorem numF_big (f n : Nat) (h : ¬ n < 128) : numF (f + 1) n = UInt8.ofNat (n % 128 + 128) :: numF f (n / 128) := by rw [numF, if_neg h]
theorem numF_len : ∀ f n, (numF f n).length ≤ f
  | 0, _ => by simp [numF]
  | f + 1, n => by
    by_cases h : n < 128
    · rw [numF_small f n h]; simp
    · rw [numF_big f n h]; have := numF_len f (n / 128); simp; omega

set_option maxHeartbeats 1000000 in
theorem numF_step (m f : Nat) (l N : List UInt8) (h : ¬ m < 128) (hf : 1 ≤ f) (hm : m < 128 ^ f) (hl : l.length + f = 10) (he : l ++ numF f m = N) :
    1 ≤ f - 1 ∧ m / 128 < 128 ^ (f - 1) ∧ (l ++ [UInt8.ofNat (m % 128 + 128)]).length + (f - 1) = 10 ∧ (l ++ [UInt8.ofNat (m % 128 + 128)]) ++ numF (f - 1) (m / 128) = N := by
  cases f with
  | zero => omega
  | succ f =>
    refine ⟨?_, ?_, by simp; omega, ?_⟩
    · cases f with
      | zero => simp at hm; omega
      | succ f => omega
    · show m / 128 < 128 ^ f
      refine Nat.div_lt_of_lt_mul ?_
      rw [Nat.pow_succ] at hm
      omega
    · rw [← he, numF_big f m h]
      simp

set_option maxRecDepth 20000 in
theorem number_any (n : Int) (w : World) : Calls Try.prog 35 #[.int .i64 n] w fun e w' => ∃ v, e = .returned v ∧ OwnB w' w.heap.size v (numB (clampN n)) ∧ (∃ ad cap, v = .slice (some ad) (numB (clampN n)).length cap) ∧ Below w.heap.size w w' := by
  have hc : (4611686018427387904 < n ∧ clampN n = 4611686018427387904) ∨ (¬ 4611686018427387904 < n ∧ 0 < n ∧ (clampN n : Int) = n) ∨ (¬ 4611686018427387904 < n ∧ ¬ 0 < n ∧ clampN n = 0) := by unfold clampN; omega
  have hcm : clampN n < 128 ^ 10 := by unfold clampN; omega
  have HCM := Lib.hid hcm
  clear hcm
  rcases hc with ⟨h1, h2⟩ | ⟨h1, h3, h2⟩ | ⟨h1, h3, h2⟩
  all_goals
    have H2 := Lib.hid h2
    clear h2
    go_enter Try.func35, Try.ntmps35
    go_wp2
    go_loopw [0, 3] (fun i v wr => ∃ (m f : Nat) (l : List UInt8), i = .int .i64 m ∧ m ≤ topN ∧ 1 ≤ f ∧ f ≤ 10 ∧ m < 128 ^ f ∧ l.length + f = 10 ∧ l ++ numF f m = numB (clampN n) ∧ OwnB wr w.heap.size v l ∧ Below w.heap.size w wr) (fun i _ _ => (intOf i).toNat)
    case atStart => exact ⟨clampN n, 10, [], congrArg _ (by have := H2.out; omega), by unfold clampN topN; omega, by omega, by omega, HCM.out, rfl, rfl, OwnB.nil _ _, Below.refl _ _⟩
    clear H2 h1
    try clear h3
    case round =>
      obtain ⟨m, f, l, rfl, hmt, hf1, hf2, hmf, hl, hlist, hown, hB⟩ := hrel
      have HL := Lib.hid hlist
      have HM := Lib.hid hmf
      have HO := Lib.hid hown
      have HLL := Lib.hid hl
      have hlen : l.length ≤ 9 := by omega
      clear hlist hmf hown hl
      have hz : w.heap.size ≤ wr.heap.size := hB.size
      by_cases hlt : m < 128
      · go_wp2_with (at_builtin; refine wpList_app rfl (.tmp 18) (.tmp 21) rfl w.heap.size _ l rfl (HO.out.step (bel_new _ _)) _ [UInt8.ofNat m] rfl (IsB.one _ _ _ (by rw [UInt8.toNat_ofNat']; omega)) (by simp; omega) (by simp; omega) ?_; intro v' w1 hown' hb' hz' hne)
        go_ret
        have e : l ++ [UInt8.ofNat m] = numB (clampN n) := by
          rw [← HL.out]
          cases f with
          | zero => omega
          | succ f => rw [numF_small f m hlt]
        rw [e] at hown' hne
        exact ⟨v', rfl, hown', hne (by rw [← e]; simp), (hB.trans (bel_new wr _ |>.mono hz)).trans hb'⟩
      · go_wp2_with (at_builtin; refine wpList_app rfl (.tmp 9) (.tmp 14) rfl w.heap.size _ l rfl (HO.out.step (bel_new _ _)) _ [UInt8.ofNat (m % 128 + 128)] rfl (IsB.one _ _ _ (seven_bits m hmt)) (by simp; omega) (by simp; omega) ?_; intro v' w1 hown' hb' hz' hne)
        have hS := numF_step m f l _ hlt hf1 HM.out HLL.out HL.out
        go_roundw
        case rel => exact ⟨m / 128, f - 1, l ++ [UInt8.ofNat (m % 128 + 128)], by go_num, by omega, hS.1, by omega, hS.2.1, hS.2.2.1, hS.2.2.2, hown', (hB.trans ((bel_new wr _).mono hz)).trans hb'⟩
        case measure => simp [intOf]; omega

theorem numB_len (n : Nat) : (numB n).length ≤ 10 := numF_len 10 n
theorem numB_ne (n : Nat) : numB n ≠ [] := by
  unfold numB
  by_cases h : n < 128
  · rw [numF_small 9 n h]; simp
  · rw [numF_big 9 n h]; simp

/-- New memory with the bytes of both. -/
theorem joined_any (a b : Value) (la lb : List UInt8) (w : World) (ha : IsB w a la) (hb : IsB w b lb) (hlen : la.length + lb.length ≤ 140737488355328) :
    Calls Try.prog 34 #[a, b] w fun e w' => ∃ v, e = .returned v ∧ OwnB w' w.heap.size v (la ++ lb) ∧ Below w.heap.size w w' := by
  obtain ⟨aa, ca, rfl, ha1, ha2, ha3⟩ := ha.shape
  obtain ⟨ab, cb, rfl, hb1, hb2, hb3⟩ := hb.shape
  have HA := Lib.hid ha
  have HB := Lib.hid hb
  obtain ⟨i0, hi, hz0, hz1, hz2⟩ := info_parts info5
  unfold maxLen at ha2 hb2
  clear ha hb ha3 hb3
  go_enter Try.func34, Try.ntmps34
  go_wp2_with (first | (at_make; refine wpList_make_own _ rfl _ _ 40 rfl w.heap.size 5 i0 (.int .u8 0) 1 Try.underlying40 hi hz0 hz1 .i64 .i64 _ (la.length + lb.length) rfl rfl (by omega) (by rw [hz2]; omega) (by unfold maxLen; omega) (Nat.le_refl _) ?_; intro w1 hown hgrow; have hB1 : Below w.heap.size w w1 := (Below.refl _ _).grown hgrow (Nat.le_refl _) (fun k hk => by cases hk); have H1 := Lib.hid (show OwnB w1 w.heap.size _ [] from hown); clear hown hgrow) | (at_builtin; refine wpList_app rfl (.tmp 12) (.tmp 13) rfl w.heap.size _ [] rfl H1.out _ la rfl (HA.out.step hB1) (by simp; omega) hB1.size ?_; intro v2 w2 ho2 hb2 hz2' hn2; rw [List.nil_append] at ho2; have H2 := Lib.hid ho2; have hB2 := hB1.trans hb2; clear ho2 hb2 hn2) | (at_builtin; refine wpList_app rfl (.tmp 14) (.tmp 15) rfl w.heap.size _ la rfl H2.out _ lb rfl (HB.out.step hB2) (by omega) hB2.size ?_; intro v3 w3 ho3 hb3 hz3 hn3))
  go_ret
  exact ⟨v3, rfl, ho3, hB2.trans hb3⟩
end Go.Proofs.Ythhooocckfljaaa
