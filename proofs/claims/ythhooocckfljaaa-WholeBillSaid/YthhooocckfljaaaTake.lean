/- The walk of record.take. No condition beyond a number of bytes from 1 to 9. -/
import Derived.Test.YthhooocckfljaaaNumber
namespace Go.Proofs.Ythhooocckfljaaa
open Go.RowKit
set_option linter.unusedVariables false
set_option linter.unusedSimpArgs false

/-- The number at the beginning of bytes, from the i-th one on, and its length: 0 if they end, -1 for a fault. -/
def takeF (bytes : Nat) : Nat → Nat → List UInt8 → Int × Int
  | _, _, [] => (0, 0)
  | i, acc, c :: r =>
    if c.toNat < 128 then (if c.toNat = 0 ∧ 0 < i then (0, -1) else (((acc + c.toNat * 128 ^ i : Nat) : Int), (i : Int) + 1))
    else if i + 1 = bytes then (0, -1) else takeF bytes (i + 1) (acc + (c.toNat - 128) * 128 ^ i) r
def takeP (bytes : Nat) (l : List UInt8) : Int × Int := takeF bytes 0 0 l

theorem pow7 (k : Nat) : 2 ^ (7 * k) = 128 ^ k := by rw [Nat.pow_mul]
theorem pow_le9 (k : Nat) (h : k ≤ 9) : 128 ^ k ≤ 9223372036854775808 := by
  have := Nat.pow_le_pow_right (n := 128) (by omega) h
  omega
theorem group_lt (acc k c : Nat) (ha : acc < 128 ^ k) (hc : c < 128) : acc + c * 128 ^ k < 128 ^ (k + 1) := by
  have : c * 128 ^ k ≤ 127 * 128 ^ k := Nat.mul_le_mul_right _ (by omega)
  rw [Nat.pow_succ]
  omega
theorem group_or (acc k : Nat) (c : UInt8) (hk : k ≤ 8) (ha : acc < 128 ^ k) :
    bits .or .u64 (acc : Int) (IntKind.u64.wrap (IntKind.u64.wrap (bits .and .u8 (c.toNat : Int) 127) * 2 ^ (7 * k))) = ((acc + c.toNat % 128 * 128 ^ k : Nat) : Int) := by
  have hcb := c.toNat_lt
  have h1 : bits .and .u8 (c.toNat : Int) 127 = ((c.toNat % 128 : Nat) : Int) := by
    have := u8_and_nat c.toNat 127 (by omega) (by omega)
    rw [show ((127 : Nat) : Int) = 127 from rfl] at this
    rw [this, show c.toNat &&& 127 = c.toNat % 128 from Nat.and_two_pow_sub_one_eq_mod c.toNat 7]
  have hp := pow_le9 (k + 1) (by omega)
  have hg := group_lt acc k (c.toNat % 128) ha (by omega)
  have h2 : IntKind.u64.wrap ((c.toNat % 128 : Nat) : Int) = ((c.toNat % 128 : Nat) : Int) := by rw [IntKind.wrap_u64]; omega
  have h3 : (((c.toNat % 128 : Nat) : Int)) * 2 ^ (7 * k) = ((c.toNat % 128 * 128 ^ k : Nat) : Int) := by
    rw [← pow7, Int.natCast_mul, Int.natCast_pow]; rfl
  have h4 : IntKind.u64.wrap ((c.toNat % 128 * 128 ^ k : Nat) : Int) = ((c.toNat % 128 * 128 ^ k : Nat) : Int) := by rw [IntKind.wrap_u64]; omega
  rw [h1, h2, h3, h4, u64_or_nat _ _ (by omega) (by omega), Nat.or_comm, nat_join (7 * k) (c.toNat % 128 * 128 ^ k) acc (by rw [pow7]; exact Nat.mul_mod_left _ _) (by rw [pow7]; exact ha)]
  omega
theorem takeF_step (bytes k acc : Nat) (l : List UInt8) (c : UInt8) (h : l[k]? = some c) : takeF bytes k acc (l.drop k) =
    if c.toNat < 128 then (if c.toNat = 0 ∧ 0 < k then (0, -1) else (((acc + c.toNat * 128 ^ k : Nat) : Int), (k : Int) + 1))
    else if k + 1 = bytes then (0, -1) else takeF bytes (k + 1) (acc + (c.toNat - 128) * 128 ^ k) (l.drop (k + 1)) := by
  obtain ⟨hk, rfl⟩ := List.getElem?_eq_some_iff.1 h
  rw [List.drop_eq_getElem_cons hk, takeF]

set_option maxHeartbeats 1000000 in
theorem take_nil (bytes : Int) (a : Option Addr) (cap : Nat) (w : World) : Calls Try.prog 37 #[.slice a 0 cap, .int .i64 bytes] w fun e w' => e = .returned (.tuple #[.int .i64 0, .int .i64 0]) ∧ w = w' := by
  go_enter Try.func37, Try.ntmps37
  go_wp2
  refine wp_loop_rounds 1 ?_
  rw [rounds_succ]
  go_wp2
  go_ret2
  exact ⟨rfl, rfl⟩

set_option maxRecDepth 20000 in
set_option maxHeartbeats 1000000 in
theorem take_some (bytes : Nat) (b off cap : Nat) (l : List UInt8) (w : World) (hby : 1 ≤ bytes ∧ bytes ≤ 9) (hm : l.length ≤ 9223372036854775807)
    (hc : ∀ i c, l[i]? = some c → w.cell? ⟨b, off + i, none⟩ = some (.int .u8 (c.toNat : Int))) :
    Calls Try.prog 37 #[.slice (some ⟨b, off, none⟩) l.length cap, .int .i64 bytes] w fun e w' => e = .returned (.tuple #[.int .i64 (takeP bytes l).1, .int .i64 (takeP bytes l).2]) ∧ w = w' := by
  have HC := Lib.hid hc
  clear hc
  go_enter Try.func37, Try.ntmps37
  go_wp2
  go_loop [6, 11] (fun n i => ∃ (k acc : Nat), i = .int .i64 k ∧ n = .int .u64 acc ∧ k ≤ l.length ∧ k < bytes ∧ acc < 128 ^ k ∧ takeF bytes k acc (l.drop k) = takeP bytes l) (fun _ i => l.length - (intOf i).toNat)
  case atStart => exact ⟨0, 0, rfl, rfl, by omega, by omega, by omega, by simp [takeP]⟩
  case round =>
    obtain ⟨k, acc, rfl, rfl, hk, hkb, hacc, ht⟩ := hrel
    have HA := Lib.hid hacc
    have HT := Lib.hid ht
    clear hacc ht
    by_cases hlt : k < l.length
    · obtain ⟨c, hlc⟩ : ∃ c, l[k]? = some c := ⟨_, List.getElem?_eq_getElem hlt⟩
      have hcell := HC.out k c hlc
      have hcb := c.toNat_lt
      have hst := takeF_step bytes k acc l c hlc
      rw [HT.out] at hst
      have hgo := group_or acc k c (by omega) HA.out
      have hp := pow_le9 (k + 1) (by omega)
      have HP := Lib.hid hp
      clear hlc hp
      by_cases h128 : c.toNat < 128
      · rw [if_pos h128] at hst
        have hmod : c.toNat % 128 = c.toNat := by omega
        rw [hmod] at hgo
        by_cases h0 : c.toNat = 0 ∧ 0 < k
        · rw [if_pos h0] at hst
          obtain ⟨h0a, h0b⟩ := h0
          have HST := Lib.hid hst
          have hb0 : ((c.toNat : Int) == 0) = true := by simp; omega
          clear hst hgo hmod h0a
          go_wp2
          go_ret2
          rw [HST.out]
          exact ⟨rfl, rfl⟩
        · rw [if_neg h0] at hst
          have HST := Lib.hid hst
          have HGO := Lib.hid hgo
          have hgl := group_lt acc k c.toNat HA.out h128
          have HGL := Lib.hid hgl
          clear hst hgo hmod hgl
          by_cases h0a : c.toNat = 0
          · have hb0 : ((c.toNat : Int) == 0) = true := by simp; omega
            have h0b : ¬ 0 < k := by omega
            clear h0 h0a
            go_wp2
            go_ret2
            rw [HST.out]
            exact ⟨ret_int2 (by rw [HGO.out]; exact IntWalk.wrap64_in _ ⟨by omega, by have := HGL.out; have := HP.out; omega⟩) rfl, rfl⟩
          · have hb0 : ((c.toNat : Int) == 0) = false := by simp; omega
            clear h0 h0a
            go_wp2
            go_ret2
            rw [HST.out]
            exact ⟨ret_int2 (by rw [HGO.out]; exact IntWalk.wrap64_in _ ⟨by omega, by have := HGL.out; have := HP.out; omega⟩) rfl, rfl⟩
      · rw [if_neg h128] at hst
        have hmod : c.toNat % 128 = c.toNat - 128 := by omega
        rw [hmod] at hgo
        by_cases hbz : k + 1 = bytes
        · rw [if_pos hbz] at hst
          have HST := Lib.hid hst
          have hb1 : ((k : Int) == (bytes : Int) - 1) = true := by simp; omega
          clear hst hgo hmod hbz
          go_wp2
          go_ret2
          rw [HST.out]
          exact ⟨rfl, rfl⟩
        · rw [if_neg hbz] at hst
          have HST := Lib.hid hst
          have HGO := Lib.hid hgo
          have hgl := group_lt acc k (c.toNat - 128) HA.out (by omega)
          have HGL := Lib.hid hgl
          have hb1 : ((k : Int) == (bytes : Int) - 1) = false := by simp; omega
          have hkb2 : k + 1 < bytes := by omega
          clear hst hgo hmod hgl hbz
          go_wp2
          go_round
          case rel => exact ⟨k + 1, acc + (c.toNat - 128) * 128 ^ k, by go_num, congrArg _ HGO.out, by omega, hkb2, HGL.out, HST.out.symm⟩
          case measure => simp [intOf]; omega
    · go_wp2
      go_ret2
      have e : takeP bytes l = (0, 0) := by
        rw [← HT.out, List.drop_eq_nil_of_le (by omega), takeF]
      rw [e]
      exact ⟨rfl, rfl⟩

theorem take_any (bytes : Nat) (v : Value) (l : List UInt8) (w : World) (hby : 1 ≤ bytes ∧ bytes ≤ 9) (h : IsB w v l) :
    Calls Try.prog 37 #[v, .int .i64 bytes] w fun e w' => e = .returned (.tuple #[.int .i64 (takeP bytes l).1, .int .i64 (takeP bytes l).2]) ∧ w = w' := by
  have hl := h.len
  unfold maxLen at hl
  rcases h with ⟨rfl, a, cap, rfl, _⟩ | ⟨_, b, off, cap, rfl, _, _, hc⟩
  · exact take_nil bytes a cap w
  · exact take_some bytes b off cap l w hby hl hc
end Go.Proofs.Ythhooocckfljaaa
