/- The walk of the reference's part, and that it is the program's. No condition beyond a length that memory allows. -/
import Derived.Test.YtnieoaadhbcjiaaRefTake
namespace Go.Proofs.Ytnieoaadhbcjiaa
open Go.RowKit
set_option linter.unusedVariables false
set_option linter.unusedSimpArgs false

theorem rtake_nil (a : Option Addr) (cap : Nat) (w : World) : Calls Try.prog 51 #[.slice a 0 cap] w fun e w' => e = .returned (.tuple #[.int .i64 0, .int .i64 0]) ∧ w = w' := by
  go_enter Try.func51, Try.ntmps51
  go_wp2
  refine wp_loop_rounds 1 ?_
  rw [rounds_succ]
  go_wp2
  go_ret2
  exact ⟨rfl, rfl⟩
theorem rtake_any (v : Value) (l : List UInt8) (w : World) (hl : l.length ≤ 140737488355328) (h : IsB w v l) :
    Calls Try.prog 51 #[v] w fun e w' => e = .returned (.tuple #[.int .i64 (rtP l).1, .int .i64 (rtP l).2]) ∧ w = w' := by
  rcases h with ⟨rfl, a, cap, rfl, _⟩ | ⟨_, b, off, cap, rfl, _, _, hc⟩
  · exact rtake_nil a cap w
  · exact rtake_some b off cap l w hl hc

theorem rtF_bd : ∀ (l : List UInt8) (k acc : Nat), (rtF k acc l).2 = -1 ∨ (rtF k acc l).2 = 0 ∨ (k : Int) < (rtF k acc l).2
  | [], _, _ => .inr (.inl rfl)
  | c :: r, k, acc => by
    have ih := rtF_bd r (k + 1) (acc + c.toNat % 128 * 128 ^ k)
    rw [rtF]
    split
    · exact .inl rfl
    · split
      · split
        · exact .inl rfl
        · exact .inr (.inr (by simp only []; omega))
      · rcases ih with h | h | h
        · exact .inl h
        · exact .inr (.inl h)
        · exact .inr (.inr (by omega))
theorem rtF_pos : ∀ (l : List UInt8) (k acc : Nat), 0 ≤ (rtF k acc l).1
  | [], _, _ => by simp [rtF]
  | c :: r, k, acc => by
    have ih := rtF_pos r (k + 1) (acc + c.toNat % 128 * 128 ^ k)
    rw [rtF]
    split
    · simp
    · split
      · split
        · simp
        · exact Int.natCast_nonneg _
      · exact ih
/-- What the program's take and the reference's have to do with each other. -/
theorem rt_rel (bytes : Nat) (hb : bytes ≤ 8) : ∀ (l : List UInt8) (k acc : Nat), k < bytes → acc < 128 ^ k →
    (0 < (takeF bytes k acc l).2 ∧ rtF k acc l = takeF bytes k acc l ∧ (takeF bytes k acc l).2 ≤ (bytes : Int)) ∨
    ((takeF bytes k acc l) = (0, 0) ∧ (rtF k acc l).2 = 0 ∧ k + l.length < bytes) ∨
    ((takeF bytes k acc l).2 = -1 ∧ ((rtF k acc l).2 = -1 ∨ (bytes : Int) < (rtF k acc l).2 ∨ ((rtF k acc l).2 = 0 ∧ bytes ≤ k + l.length)))
  | [], k, acc, hk, _ => .inr (.inl ⟨rfl, rfl, by simpa using hk⟩)
  | c :: r, k, acc, hk, hacc => by
    have hcb : c.toNat < 256 := c.toNat_lt
    have h8 : ¬ ((k = 8 ∧ 64 < c.toNat % 128) ∨ 8 < k) := by omega
    by_cases h128 : c.toNat < 128
    · have eT : takeF bytes k acc (c :: r) = if c.toNat = 0 ∧ 0 < k then (0, -1) else (((acc + c.toNat * 128 ^ k : Nat) : Int), (k : Int) + 1) := by rw [takeF, if_pos h128]
      have eR : rtF k acc (c :: r) = if (0 < k ∧ c.toNat = 0) ∨ 4611686018427387904 < acc + c.toNat * 128 ^ k then (0, -1) else (((acc + c.toNat * 128 ^ k : Nat) : Int), (k : Int) + 1) := by
        rw [rtF, if_neg h8, if_pos h128, Nat.mod_eq_of_lt h128]
      by_cases h0 : c.toNat = 0 ∧ 0 < k
      · rw [if_pos h0] at eT
        rw [if_pos (.inl ⟨h0.2, h0.1⟩)] at eR
        rw [eT, eR]
        exact .inr (.inr ⟨rfl, .inl rfl⟩)
      · have hg := group_lt acc k c.toNat hacc h128
        have hp : 128 ^ (k + 1) ≤ 128 ^ 8 := Nat.pow_le_pow_right (by omega) (by omega)
        have e8 : (128 : Nat) ^ 8 = 72057594037927936 := by decide
        rw [e8] at hp
        rw [if_neg h0] at eT
        rw [if_neg (by omega)] at eR
        rw [eT, eR]
        exact .inl ⟨by simp only []; omega, rfl, by simp only []; omega⟩
    · have hm : c.toNat % 128 = c.toNat - 128 := by omega
      have eR : rtF k acc (c :: r) = rtF (k + 1) (acc + (c.toNat - 128) * 128 ^ k) r := by rw [rtF, if_neg h8, if_neg h128, hm]
      by_cases hb1 : k + 1 = bytes
      · have eT : takeF bytes k acc (c :: r) = (0, -1) := by rw [takeF, if_neg h128, if_pos hb1]
        rw [eT, eR]
        refine .inr (.inr ⟨rfl, ?_⟩)
        rcases rtF_bd r (k + 1) (acc + (c.toNat - 128) * 128 ^ k) with h | h | h
        · exact .inl h
        · exact .inr (.inr ⟨h, by simp; omega⟩)
        · exact .inr (.inl (by omega))
      · have eT : takeF bytes k acc (c :: r) = takeF bytes (k + 1) (acc + (c.toNat - 128) * 128 ^ k) r := by rw [takeF, if_neg h128, if_neg hb1]
        rw [eT, eR]
        rcases rt_rel bytes hb r (k + 1) (acc + (c.toNat - 128) * 128 ^ k) (by omega) (group_lt acc k _ hacc (by omega)) with h | h | h
        · exact .inl h
        · exact .inr (.inl ⟨h.1, h.2.1, by simp; omega⟩)
        · refine .inr (.inr ⟨h.1, ?_⟩)
          rcases h.2 with h | h | h
          · exact .inl h
          · exact .inr (.inl h)
          · exact .inr (.inr ⟨h.1, by simp; omega⟩)
theorem part_cases (bytes most : Nat) (l : List UInt8) (hb : 1 ≤ bytes ∧ bytes ≤ 8) :
    (partP bytes most l = .inl 21 ∧ (rtP l).2 = 0 ∧ (l.length : Int) < (bytes : Int)) ∨
    (partP bytes most l = .inl 12 ∧ ¬ ((rtP l).2 = 0 ∧ (l.length : Int) < (bytes : Int)) ∧ ((rtP l).2 < 1 ∨ (bytes : Int) < (rtP l).2 ∨ (most : Int) < (rtP l).1)) ∨
    (∃ n k : Nat, partP bytes most l = .inr (n, k) ∧ rtP l = ((n : Int), (k : Int)) ∧ 1 ≤ k ∧ k ≤ bytes ∧ n ≤ most) := by
  have hr := rt_rel bytes hb.2 l 0 0 (by omega) (by omega)
  have hb1 := takeP_bd bytes l
  change (0 < (takeP bytes l).2 ∧ rtP l = takeP bytes l ∧ (takeP bytes l).2 ≤ (bytes : Int)) ∨ (takeP bytes l = (0, 0) ∧ (rtP l).2 = 0 ∧ 0 + l.length < bytes) ∨ ((takeP bytes l).2 = -1 ∧ ((rtP l).2 = -1 ∨ (bytes : Int) < (rtP l).2 ∨ ((rtP l).2 = 0 ∧ bytes ≤ 0 + l.length))) at hr
  rcases hr with ⟨h1, h2, h3⟩ | ⟨h1, h2, h3⟩ | ⟨h1, h2⟩
  · by_cases hm : (most : Int) < (takeP bytes l).1
    · exact .inr (.inl ⟨partP_bad (by omega) (.inr hm), by rw [h2]; omega, by rw [h2]; exact .inr (.inr hm)⟩)
    · refine .inr (.inr ⟨(takeP bytes l).1.toNat, (takeP bytes l).2.toNat, ?_, ?_, by omega, by omega, by omega⟩)
      · refine partP_ok ?_ (by omega) (by omega)
        exact Prod.ext (by simp only []; omega) (by simp only []; omega)
      · rw [h2]
        exact Prod.ext (by simp only []; omega) (by simp only []; omega)
  · exact .inl ⟨partP_end (by rw [h1]), h2, by omega⟩
  · refine .inr (.inl ⟨partP_bad (by omega) (.inl (by omega)), ?_, ?_⟩)
    · rcases h2 with h | h | h <;> omega
    · rcases h2 with h | h | h
      · exact .inl (by omega)
      · exact .inr (.inl h)
      · exact .inl (by omega)

/-- What part returns. -/
def partV : Nat ⊕ (Nat × Nat) → Value
  | .inl e => .tuple #[.int .i64 0, .int .i64 0, .int .i64 (e : Int)]
  | .inr (n, k) => .tuple #[.int .i64 (n : Int), .int .i64 (k : Int), .int .i64 0]
set_option maxHeartbeats 1000000 in
theorem part_any (bytes most : Nat) (v : Value) (l : List UInt8) (w : World) (hb : 1 ≤ bytes ∧ bytes ≤ 8) (hl : l.length ≤ 140737488355328) (h : IsB w v l) :
    Calls Try.prog 49 #[v, .int .i64 (bytes : Int), .int .i64 (most : Int)] w fun e w' => e = .returned (partV (partP bytes most l)) ∧ w = w' := by
  have hT := rtake_any v l w hl h
  obtain ⟨a, cap, rfl, _⟩ := h.shape
  have hc := part_cases bytes most l hb
  obtain ⟨n1, k1, hnk⟩ : ∃ n k, rtP l = (n, k) := ⟨_, _, rfl⟩
  rw [hnk] at hT hc
  have HT := Lib.hid hT
  clear hT hnk h hb
  rcases hc with ⟨h1, h2, h3⟩ | ⟨h1, h2, h3⟩ | ⟨n, k, h1, h2, h3, h4, h5⟩
  · have H1 := Lib.hid h1
    simp only [] at h2
    subst h2
    clear h1
    go_enter Try.func49, Try.ntmps49
    go_wp2_with (go_at_call 51; refine HT.out.mono ?_; rintro e w' ⟨rfl, rfl⟩)
    refine bodyPost_ret (v := .tuple #[.int .i64 0, .int .i64 0, .int .i64 21]) (by simp [results, Try.results49, go_sem]) rfl ?_
    rw [H1.out]
    exact ⟨rfl, rfl⟩
  · have H1 := Lib.hid h1
    clear h1
    simp only [] at h2 h3
    by_cases hk0 : k1 = 0
    · subst hk0
      have h2' : (bytes : Int) ≤ (l.length : Int) := by omega
      clear h2 h3
      go_enter Try.func49, Try.ntmps49
      go_wp2_with (go_at_call 51; refine HT.out.mono ?_; rintro e w' ⟨rfl, rfl⟩)
      refine bodyPost_ret (v := .tuple #[.int .i64 0, .int .i64 0, .int .i64 12]) (by simp [results, Try.results49, go_sem]) rfl ?_
      rw [H1.out]
      exact ⟨rfl, rfl⟩
    · have hk0' : (k1 == 0) = false := by simpa using hk0
      have h3' : k1 < 1 ∨ (1 ≤ k1 ∧ (bytes : Int) < k1) ∨ (1 ≤ k1 ∧ k1 ≤ (bytes : Int) ∧ (most : Int) < n1) := by omega
      clear h2 h3 hk0
      rcases h3' with h3 | ⟨h3, h4⟩ | ⟨h3, h4, h5⟩
      all_goals
        go_enter Try.func49, Try.ntmps49
        go_wp2_with (go_at_call 51; refine HT.out.mono ?_; rintro e w' ⟨rfl, rfl⟩)
        refine bodyPost_ret (v := .tuple #[.int .i64 0, .int .i64 0, .int .i64 12]) (by simp [results, Try.results49, go_sem]) rfl ?_
        rw [H1.out]
        exact ⟨rfl, rfl⟩
  · have H1 := Lib.hid h1
    simp only [Prod.mk.injEq] at h2
    obtain ⟨rfl, rfl⟩ := h2
    have hk0 : ((k : Int) == 0) = false := by simp; omega
    have h3' : (1 : Int) ≤ (k : Int) := by omega
    have h4' : (k : Int) ≤ (bytes : Int) := by omega
    have h5' : (n : Int) ≤ (most : Int) := by omega
    clear h1 h3 h4 h5
    go_enter Try.func49, Try.ntmps49
    go_wp2_with (go_at_call 51; refine HT.out.mono ?_; rintro e w' ⟨rfl, rfl⟩)
    refine bodyPost_ret (v := .tuple #[.int .i64 n, .int .i64 k, .int .i64 0]) (by simp [results, Try.results49, go_sem]) rfl ?_
    rw [H1.out]
    exact ⟨rfl, rfl⟩
end Go.Proofs.Ytnieoaadhbcjiaa
