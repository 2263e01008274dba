/- The walk of the reference's TakeUint. No condition beyond a length that memory allows. -/
import Derived.Test.YtnieoaadhbcjiaaScan
namespace Go.Proofs.Ytnieoaadhbcjiaa
open Go.RowKit
set_option linter.unusedVariables false
set_option linter.unusedSimpArgs false

def rtF : Nat → Nat → List UInt8 → Int × Int
  | _, _, [] => (0, 0)
  | k, acc, c :: r =>
    if (k = 8 ∧ 64 < c.toNat % 128) ∨ 8 < k then (0, -1)
    else if c.toNat < 128 then (if (0 < k ∧ c.toNat % 128 = 0) ∨ 4611686018427387904 < acc + c.toNat % 128 * 128 ^ k then (0, -1) else (((acc + c.toNat % 128 * 128 ^ k : Nat) : Int), (k : Int) + 1))
    else rtF (k + 1) (acc + c.toNat % 128 * 128 ^ k) r
def rtP (l : List UInt8) : Int × Int := rtF 0 0 l
theorem rtF_step (k acc : Nat) (l : List UInt8) (c : UInt8) (h : l[k]? = some c) : rtF k acc (l.drop k) =
    if (k = 8 ∧ 64 < c.toNat % 128) ∨ 8 < k then (0, -1)
    else if c.toNat < 128 then (if (0 < k ∧ c.toNat % 128 = 0) ∨ 4611686018427387904 < acc + c.toNat % 128 * 128 ^ k then (0, -1) else (((acc + c.toNat % 128 * 128 ^ k : Nat) : Int), (k : Int) + 1))
    else rtF (k + 1) (acc + c.toNat % 128 * 128 ^ k) (l.drop (k + 1)) := by
  obtain ⟨hk, rfl⟩ := List.getElem?_eq_some_iff.1 h
  rw [List.drop_eq_getElem_cons hk, rtF]

theorem wrapM {g P M : Nat} (h : g * P = M) (hM : M < 9223372036854775807) : wrap64 ((g : Int) * (P : Int)) = (M : Int) := by
  have e : (g : Int) * (P : Int) = (M : Int) := by rw [← h]; exact (Int.natCast_mul g P).symm
  rw [e]
  exact IntWalk.wrap64_in _ ⟨by omega, by omega⟩
theorem wrapA {acc M : Nat} (hM : acc + M < 9223372036854775807) : wrap64 ((acc : Int) + (M : Int)) = (acc : Int) + (M : Int) := IntWalk.wrap64_in _ ⟨by omega, by omega⟩
theorem pow_step {k acc M g P : Nat} (hP : P = 128 ^ k) (hacc : acc < 128 ^ k) (hgb : g < 128) (hM : g * P = M) (h7 : k < 8) : P * 128 = 128 ^ (k + 1) ∧ acc + M < 128 ^ (k + 1) ∧ P * 128 < 9223372036854775807 := by
  have h6 : acc + g * 128 ^ k < 128 ^ (k + 1) := group_lt acc k g hacc hgb
  have h5 : 128 ^ (k + 1) ≤ 72057594037927936 := by
    have := Nat.pow_le_pow_right (n := 128) (by omega) (show k + 1 ≤ 8 by omega)
    exact Nat.le_trans this (by decide)
  rw [← hP, hM] at h6
  have h4 : P * 128 = 128 ^ (k + 1) := by rw [hP, Nat.pow_succ]
  exact ⟨h4, h6, by omega⟩
theorem wrapP {P : Nat} (h : P * 128 < 9223372036854775807) : wrap64 ((P : Int) * 128) = ((P * 128 : Nat) : Int) := by
  rw [Int.natCast_mul]
  exact IntWalk.wrap64_in _ ⟨by omega, by omega⟩
theorem sum_top {k acc g P M : Nat} (hP : P = 128 ^ k) (hacc : acc < 128 ^ k) (hgb : g < 128) (hM : g * P = M) (hk8 : k ≤ 8) (hg64 : k = 8 → g ≤ 64) : acc + M < 9223372036854775807 := by
  have h7 : k < 8 ∨ k = 8 := by omega
  rcases h7 with h7 | h7
  · obtain ⟨h1, h2, h3⟩ := pow_step hP hacc hgb hM h7
    omega
  · have hg := hg64 h7
    have e : (128 : Nat) ^ 8 = 72057594037927936 := by decide
    rw [h7, e] at hP hacc
    rw [hP] at hM
    omega

set_option maxRecDepth 20000 in
set_option maxHeartbeats 2000000 in
theorem rtake_some (b off cap : Nat) (l : List UInt8) (w : World) (hm : l.length ≤ 140737488355328)
    (hc : ∀ i c, l[i]? = some c → w.cell? ⟨b, off + i, none⟩ = some (.int .u8 (c.toNat : Int))) :
    Calls Try.prog 51 #[.slice (some ⟨b, off, none⟩) l.length cap] w fun e w' => e = .returned (.tuple #[.int .i64 (rtP l).1, .int .i64 (rtP l).2]) ∧ w = w' := by
  have HC := Lib.hid hc
  clear hc
  go_enter Try.func51, Try.ntmps51
  go_wp2
  go_loop [4, 5, 6] (fun n wt i => ∃ (k acc P : Nat), i = .int .i64 k ∧ n = .int .i64 acc ∧ wt = .int .i64 P ∧ k ≤ l.length ∧ k ≤ 9 ∧ (k ≤ 8 → P = 128 ^ k ∧ acc < 128 ^ k) ∧ rtF k acc (l.drop k) = rtP l) (fun _ _ i => l.length - (intOf i).toNat)
  case atStart => exact ⟨0, 0, 1, rfl, rfl, rfl, by omega, by omega, by simp, by simp [rtP]⟩
  case round =>
    obtain ⟨k, acc, P, rfl, rfl, rfl, hk, hk9, hP, ht⟩ := hrel
    have HPP := Lib.hid hP
    have HT := Lib.hid ht
    clear hP ht
    by_cases hlt : k < l.length
    · obtain ⟨c, hlc⟩ : ∃ c, l[k]? = some c := ⟨_, List.getElem?_eq_getElem hlt⟩
      have hcell := HC.out k c hlc
      have hcb := c.toNat_lt
      have hst := rtF_step k acc l c hlc
      rw [HT.out] at hst
      clear hlc
      by_cases h8 : (k = 8 ∧ 64 < c.toNat % 128) ∨ 8 < k
      · rw [if_pos h8] at hst
        have HST := Lib.hid hst
        clear hst
        have h8' : (k = 8 ∧ (64 : Int) < (c.toNat : Int) % 128) ∨ k = 9 := by omega
        clear h8
        rcases h8' with ⟨rfl, h9⟩ | rfl
        all_goals
          go_wp2
          go_ret2
          rw [HST.out]
          exact ⟨rfl, rfl⟩
      · rw [if_neg h8] at hst
        have hk8 : k ≤ 8 := by omega
        obtain ⟨hP, hacc⟩ := HPP.out hk8
        obtain ⟨g, hg⟩ : ∃ g, c.toNat % 128 = g := ⟨_, rfl⟩
        have hgb : g < 128 := by omega
        have hg64 : k = 8 → g ≤ 64 := by omega
        obtain ⟨M, hM⟩ : ∃ M, g * P = M := ⟨_, rfl⟩
        have hMb := sum_top hP hacc hgb hM hk8 hg64
        have hgi : (c.toNat : Int) % 128 = (g : Int) := by omega
        have hw1 := wrapM hM (by omega)
        have hw2 := wrapA hMb
        have hP128 : k < 8 → P * 128 = 128 ^ (k + 1) ∧ acc + M < 128 ^ (k + 1) ∧ P * 128 < 9223372036854775807 := pow_step hP hacc hgb hM
        have hw3 : k < 8 → wrap64 ((P : Int) * 128) = ((P * 128 : Nat) : Int) := fun h7 => wrapP (hP128 h7).2.2
        rw [← hP, hg, hM] at hst
        have HM := Lib.hid hMb
        have HP128 := Lib.hid hP128
        have HW3 := Lib.hid hw3
        have HG64 := Lib.hid hg64
        clear hM hMb hP128 hw3 hP hacc hg64 HPP
        have h7 : k < 8 ∨ k = 8 := by omega
        by_cases h128 : c.toNat < 128
        · have hgc : g = c.toNat := by omega
          have h128' : (c.toNat : Int) < 128 := by omega
          rw [if_pos h128] at hst
          by_cases hbad : (0 < k ∧ g = 0) ∨ 4611686018427387904 < acc + M
          · rw [if_pos hbad] at hst
            have HST := Lib.hid hst
            have hbad' : (0 < k ∧ g = 0) ∨ (¬ (0 < k ∧ g = 0) ∧ (4611686018427387904 : Int) < (acc : Int) + (M : Int)) := by omega
            clear hst hg hgc hbad h128 hcb
            rcases h7 with h7 | rfl
            · have h70 : ((k : Int) == 8) = false := by simp; omega
              have h71 : (k : Int) ≤ 8 := by omega
              clear h8
              rcases hbad' with ⟨h0, rfl⟩ | ⟨hn, hbig⟩
              · have h0' : (0 : Int) < (k : Int) := by omega
                go_wp2
                go_ret2
                rw [HST.out]
                exact ⟨rfl, rfl⟩
              · by_cases hk0 : k = 0
                · subst hk0; simp only [Nat.add_zero] at hcell
                  go_wp2
                  go_ret2
                  rw [HST.out]
                  exact ⟨rfl, rfl⟩
                · have h0' : (0 : Int) < (k : Int) := by omega
                  have hg0 : ((g : Int) == 0) = false := by simp; omega
                  clear hn
                  go_wp2
                  go_ret2
                  rw [HST.out]
                  exact ⟨rfl, rfl⟩
            · have hg8 : (g : Int) ≤ 64 := by have := HG64.out rfl; omega
              clear h8
              rcases hbad' with ⟨h0, rfl⟩ | ⟨hn, hbig⟩
              · go_wp2
                go_ret2
                rw [HST.out]
                exact ⟨rfl, rfl⟩
              · have hg0 : ((g : Int) == 0) = false := by simp; omega
                clear hn
                go_wp2
                go_ret2
                rw [HST.out]
                exact ⟨rfl, rfl⟩
          · rw [if_neg hbad] at hst
            have HST := Lib.hid hst
            have hsm : (acc : Int) + (M : Int) ≤ 4611686018427387904 := by omega
            have hn : ¬ (0 < k ∧ g = 0) := by omega
            clear hst hg hgc hbad h128 hcb
            rcases h7 with h7 | rfl
            · have h70 : ((k : Int) == 8) = false := by simp; omega
              have h71 : (k : Int) ≤ 8 := by omega
              clear h8
              by_cases hk0 : k = 0
              · subst hk0; simp only [Nat.add_zero] at hcell
                go_wp2
                go_ret2
                rw [HST.out]
                exact ⟨ret_int2 (by push_cast; rfl) rfl, rfl⟩
              · have h0' : (0 : Int) < (k : Int) := by omega
                have hg0 : ((g : Int) == 0) = false := by simp; omega
                clear hn
                go_wp2
                go_ret2
                rw [HST.out]
                exact ⟨ret_int2 (by push_cast; rfl) rfl, rfl⟩
            · have hg8 : (g : Int) ≤ 64 := by have := HG64.out rfl; omega
              have hg0 : ((g : Int) == 0) = false := by simp; omega
              clear h8 hn
              go_wp2
              go_ret2
              rw [HST.out]
              exact ⟨ret_int2 (by push_cast; rfl) rfl, rfl⟩
        · have h128' : (128 : Int) ≤ (c.toNat : Int) := by omega
          rw [if_neg h128] at hst
          have HST := Lib.hid hst
          clear hst hg h128 hcb
          rcases h7 with h7 | rfl
          · have h70 : ((k : Int) == 8) = false := by simp; omega
            have h71 : (k : Int) < 8 := by omega
            obtain ⟨p1, p2, p3⟩ := HP128.out h7
            have hw4 := HW3.out h7
            obtain ⟨P2, hP2⟩ : ∃ P2, P * 128 = P2 := ⟨_, rfl⟩
            rw [hP2] at p1 p3 hw4
            have HPA := Lib.hid (And.intro p1 p2)
            clear h8 hP2 p1 p2 HP128 HW3
            go_wp2
            have hw2' := congrArg (Value.int .i64) hw2
            have hw4' := congrArg (Value.int .i64) hw4
            refine ⟨⟨k + 1, acc + M, P2, by simp, by rw [Int.natCast_add]; first | exact hw2' | rfl, by first | rfl | exact hw4', by omega, by omega, fun _ => HPA.out, HST.out.symm⟩, ?_⟩
            show l.length - ((k : Int) + 1).toNat < l.length - ((k : Int)).toNat
            omega
          · have hg8 : (g : Int) ≤ 64 := by have := HG64.out rfl; omega
            clear h8
            go_wp2
            have hw2' := congrArg (Value.int .i64) hw2
            refine ⟨⟨9, acc + M, P, by simp, by rw [Int.natCast_add]; first | exact hw2' | rfl, rfl, by omega, by omega, fun h => absurd h (by omega), HST.out.symm⟩, ?_⟩
            show l.length - ((8 : Int) + 1).toNat < l.length - ((8 : Int)).toNat
            omega
    · go_wp2
      go_ret2
      have hd : l.drop k = [] := List.drop_eq_nil_of_le (by omega)
      have h9 := HT.out
      rw [hd, rtF] at h9
      rw [← h9]
      exact ⟨rfl, rfl⟩
end Go.Proofs.Ytnieoaadhbcjiaa
