/- The walk of the law RulelexLimits: it returns true. No condition. -/
import Derived.Test.YtobndhpfdaddaaaNumbers
import Derived.Deep.OwnRows
namespace Go.Proofs.Ytobndhpfdaddaaa
open Go.RowKit
set_option linter.unusedVariables false
set_option linter.unusedSimpArgs false

theorem makeN (n : Nat) (h : n ≤ 200000) (w : World) : (Instr.makeSlice 35 (.int .i64 (n : Int)) (.int .i64 (n : Int))).run Try.prog w = .ok (.slice (some ⟨w.heap.size, 0, none⟩) n n) (w.alloc (.cells (madeCells #[.int .u8 0] n) 5)) :=
  run_make_row' 35 5 (.int .u8 0) 1 Try.underlying35 info5 rfl .i64 .i64 n (by omega) (by omega) w
theorem rowB {w : World} {g : Nat} {f : Nat → Value} {l : List UInt8} (hr : w.rowIs g 5 l.length f) (hf : ∀ i c, l[i]? = some c → f i = .int .u8 (c.toNat : Int)) (hm : l.length ≤ maxLen) :
    IsB w (.slice (some ⟨g, 0, none⟩) l.length l.length) l := by
  by_cases h0 : l = []
  · subst h0
    exact IsB.empty w _ _ (Nat.zero_le _) (fun h => by cases h)
  · refine .inr ⟨h0, g, 0, l.length, rfl, Nat.le_refl _, hm, fun i c hi => ?_⟩
    have hil : i < l.length := (List.getElem?_eq_some_iff.1 hi).1
    rw [Nat.zero_add, hr.cell hil, hf i c hi]
theorem split_blanks : ∀ (n : Nat) (c : Int), splitS (List.replicate n 32) 0 1 c = some [⟨5, [], 1, c + n⟩]
  | 0, c => by simp [splitS]
  | n + 1, c => by
    rw [List.replicate_succ, split_blank (.inl (by decide)), split_blanks n (c + 1), show c + 1 + (n : Int) = c + ((n + 1 : Nat) : Int) by omega]
theorem blanks_split (n : Nat) (hn : n ≤ 4096) (W : World) : Calls Try.prog 10 #[.string ⟨(List.replicate n 32).toArray⟩] W fun e w' =>
    (∃ g c, e = .returned (.tuple #[.slice (some ⟨g, 0, none⟩) 1 c, .nilIface]) ∧ TokAt w' g 0 ⟨5, [], 1, (n : Int) + 1⟩) ∧ Below W.heap.size W w' := by
  refine (split_any _ W (by rw [mk_size]; simpa using hn)).mono ?_
  rintro e w' ⟨h, hb⟩
  rw [data_list, splitT, split_blanks n 1, Int.add_comm] at h
  refine ⟨?_, hb⟩
  obtain ⟨v, rfl, ho⟩ := h
  rcases ho.isK with ⟨h, _⟩ | ⟨_, g, c, rfl, hc⟩
  · cases h
  · exact ⟨g, c, rfl, hc 0 _ rfl⟩
def fillF (k : Nat) (j : Nat) : Value := .int .u8 (if j < k then 32 else 0)
set_option maxRecDepth 20000 in
set_option maxHeartbeats 4000000 in
theorem limits_walk (n : Nat) (hn : n < 65536) (w : World) : Calls Try.prog 5 #[.int .u16 n] w fun e w' => e = .returned (.bool true) ∧ Below w.heap.size w w' := by
  obtain ⟨N, hN⟩ : ∃ N, n % 6000 = N := ⟨_, rfl⟩
  have hN1 : N < 6000 := by omega
  have hNi : (n : Int) % 6000 = (N : Int) := by omega
  have hmk := makeN N (by omega)
  have HROW := Lib.hid (fun W => World.rowIs_made W (.int .u8 0) N 5)
  have HSZ := Lib.hid hN1
  clear hN
  go_enter Try.func5, Try.ntmps5
  go_wp2_with (go_at_call 9; refine (awake_any _).mono ?_; rintro e w1 ⟨rfl, hb1⟩; have HB1 := Lib.hid hb1; clear hb1)
  go_loopw [15] (fun i wr => ∃ k : Nat, i = .int .i64 k ∧ k ≤ N ∧ wr.rowIs w1.heap.size 5 N (fillF k) ∧ Below w1.heap.size w1 wr) (fun i _ => N - (intOf i).toNat)
  case atStart => exact ⟨0, rfl, by omega, HROW.out _, bel_new _ _⟩
  case round =>
    obtain ⟨k, rfl, hk, hrow, hb⟩ := hrel
    have HB := Lib.hid hb
    have HR := Lib.hid hrow
    by_cases hlt : k < N
    · have hcell := hrow.cell hlt
      have hfz := hrow.frozen k
      have hk0 : (0 : Int) ≤ (k : Int) := by omega
      have hki : (k : Int) < (N : Int) := by omega
      have HR2 := Lib.hid (show (wr.setCell ⟨w1.heap.size, k, none⟩ (.int .u8 32)).rowIs w1.heap.size 5 N (fillF (k + 1)) by
        refine (hrow.set k (.int .u8 32)).congr fun i hi => ?_
        unfold fillF
        by_cases h1 : i = k
        · rw [if_pos h1, if_pos (by omega)]
        · rw [if_neg h1]
          by_cases h2 : i < k
          · rw [if_pos h2, if_pos (by omega)]
          · rw [if_neg h2, if_neg (by omega)])
      have HB2 := Lib.hid (hb.setCell (p := ⟨w1.heap.size, k, none⟩) (Nat.le_refl _) (.int .u8 32))
      unfold fillF at hcell
      clear hb hrow
      go_wp2_with fail
      go_roundw
      case rel => exact ⟨k + 1, by go_num, by omega, HR2.out, HB2.out⟩
      case measure => simp [intOf]; omega
    · obtain rfl : k = N := by omega
      have hlr : (List.replicate k (32 : UInt8)).length = k := List.length_replicate
      have hib : IsB wr (.slice (some ⟨w1.heap.size, 0, none⟩) k k) (List.replicate k 32) := by
        have := rowB (l := List.replicate k (32 : UInt8)) (by rw [hlr]; exact hrow) (fun i c hi => by
          obtain ⟨hi', rfl⟩ := List.getElem?_eq_some_iff.1 hi
          rw [hlr] at hi'
          simp [fillF, hi']) (by rw [hlr]; unfold maxLen; omega)
        rwa [hlr] at this
      have hst := run_str wr _ _ hib
      have hk9 : (k : Int) < 6000 := by omega
      clear hb hrow hlr hib
      by_cases h4 : k ≤ 4096
      · have h4i : ¬ (4096 : Int) < (k : Int) := by omega
        have HS := Lib.hid (fun W => blanks_split k h4 W)
        clear h4 hk9 hN1 hk hlt
        go_wp2_with (first | (go_at_call 10; refine (HS.out _).mono ?_; rintro e w4 ⟨⟨g, cp, rfl, ⟨a0, a1, a2, a3⟩⟩, hb4⟩; have HB4 := Lib.hid hb4; clear hb4))
        go_ret
        exact ⟨rfl, bel_step (bel_step HB1.out HB.out) HB4.out⟩
      · have h4i : (4096 : Int) < (k : Int) := by omega
        have HS := Lib.hid (fun W => split_large ⟨(List.replicate k 32).toArray⟩ W (by rw [mk_size]; simpa using h4))
        clear h4
        go_wp2_with (first | (go_at_call 10; refine (HS.out _).mono ?_; rintro e w4 ⟨rfl, hb4⟩; have HB4 := Lib.hid hb4; clear hb4) | (go_at_call 14; refine (is_yes _ (by decide) _).mono ?_; rintro e w5 ⟨rfl, rfl⟩))
        go_ret
        exact ⟨rfl, bel_step (bel_step HB1.out HB.out) HB4.out⟩
end Go.Proofs.Ytobndhpfdaddaaa
