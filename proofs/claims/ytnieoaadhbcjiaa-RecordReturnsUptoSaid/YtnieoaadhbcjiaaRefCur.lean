/- The reference's cursor: Number; that it takes what the program's cursor takes. No condition beyond a length that memory allows. -/
import Derived.Test.YtnieoaadhbcjiaaRefPart
namespace Go.Proofs.Ytnieoaadhbcjiaa
open Go.RowKit
set_option linter.unusedVariables false
set_option linter.unusedSimpArgs false

theorem num_relF : ∀ (l : List UInt8) (k acc : Nat), k ≤ 8 → acc < 128 ^ k →
    (1 ≤ (takeF 9 k acc l).2 ∧ (takeF 9 k acc l).1 ≤ 4611686018427387904 ∧ rtF k acc l = takeF 9 k acc l) ∨
    (((takeF 9 k acc l).2 < 1 ∨ 4611686018427387904 < (takeF 9 k acc l).1) ∧ (rtF k acc l).2 < 1)
  | [], k, acc, _, _ => .inr ⟨.inl (by simp [takeF]), by simp [rtF]⟩
  | c :: r, k, acc, hk, hacc => by
    have hcb : c.toNat < 256 := c.toNat_lt
    have e8 : (128 : Nat) ^ 8 = 72057594037927936 := by decide
    by_cases h128 : c.toNat < 128
    · have eT : takeF 9 k acc (c :: r) = if c.toNat = 0 ∧ 0 < k then (0, -1) else (((acc + c.toNat * 128 ^ k : Nat) : Int), (k : Int) + 1) := by rw [takeF, if_pos h128]
      have eR : rtF k acc (c :: r) = if (k = 8 ∧ 64 < c.toNat) ∨ 8 < k then (0, -1) else if (0 < k ∧ c.toNat = 0) ∨ 4611686018427387904 < acc + c.toNat * 128 ^ k then (0, -1) else (((acc + c.toNat * 128 ^ k : Nat) : Int), (k : Int) + 1) := by
        rw [rtF, if_pos h128, Nat.mod_eq_of_lt h128]
      by_cases h0 : c.toNat = 0 ∧ 0 < k
      · rw [if_pos h0] at eT
        rw [if_neg (by omega), if_pos (.inl ⟨h0.2, h0.1⟩)] at eR
        rw [eT, eR]
        exact .inr ⟨.inl (by simp), by simp⟩
      · rw [if_neg h0] at eT
        by_cases hbig : 4611686018427387904 < acc + c.toNat * 128 ^ k
        · refine .inr ⟨.inr (by rw [eT]; simp only []; omega), ?_⟩
          rw [eR]
          split
          · simp
          · rw [if_pos (.inr hbig)]; simp
        · have h8 : ¬ ((k = 8 ∧ 64 < c.toNat) ∨ 8 < k) := by
            rintro (⟨rfl, h9⟩ | h9)
            · rw [e8] at hbig; omega
            · omega
          rw [if_neg h8, if_neg (by omega)] at eR
          rw [eT, eR]
          exact .inl ⟨by simp only []; omega, by simp only []; omega, rfl⟩
    · by_cases hk8 : k = 8
      · subst hk8
        have eT : takeF 9 8 acc (c :: r) = (0, -1) := by rw [takeF, if_neg h128, if_pos rfl]
        refine .inr ⟨.inl (by rw [eT]; simp), ?_⟩
        by_cases h64 : 64 < c.toNat % 128
        · rw [rtF, if_pos (.inl ⟨rfl, h64⟩)]; simp
        · rw [rtF, if_neg (by omega), if_neg h128]
          cases r with
          | nil => simp [rtF]
          | cons d r => rw [rtF, if_pos (.inr (by omega))]; simp
      · have hm : c.toNat % 128 = c.toNat - 128 := by omega
        have eT : takeF 9 k acc (c :: r) = takeF 9 (k + 1) (acc + (c.toNat - 128) * 128 ^ k) r := by rw [takeF, if_neg h128, if_neg (by omega)]
        have eR : rtF k acc (c :: r) = rtF (k + 1) (acc + (c.toNat - 128) * 128 ^ k) r := by rw [rtF, if_neg (by omega), if_neg h128, hm]
        rw [eT, eR]
        exact num_relF r (k + 1) _ (by omega) (group_lt acc k _ hacc (by omega))
/-- A number taken: it and what is left, or nothing. -/
def numR (l : List UInt8) : Option (Nat × List UInt8) :=
  if (rtP l).2 < 1 then none else some ((rtP l).1.toNat, l.drop (rtP l).2.toNat)
theorem numR_ok {l : List UInt8} {n k : Nat} (h : rtP l = ((n : Int), (k : Int))) (hk : 1 ≤ k) : numR l = some (n, l.drop k) := by
  unfold numR
  rw [h, if_neg (by simp only []; omega)]
  simp
theorem num_cases (l : List UInt8) :
    (∃ n k : Nat, takeP 9 l = ((n : Int), (k : Int)) ∧ rtP l = ((n : Int), (k : Int)) ∧ 1 ≤ k ∧ k ≤ l.length ∧ n ≤ 4611686018427387904 ∧ numR l = some (n, l.drop k)) ∨
    (((takeP 9 l).2 < 1 ∨ 4611686018427387904 < (takeP 9 l).1) ∧ (rtP l).2 < 1 ∧ numR l = none) := by
  have h := num_relF l 0 0 (by omega) (by omega)
  change (1 ≤ (takeP 9 l).2 ∧ (takeP 9 l).1 ≤ 4611686018427387904 ∧ rtP l = takeP 9 l) ∨ (((takeP 9 l).2 < 1 ∨ 4611686018427387904 < (takeP 9 l).1) ∧ (rtP l).2 < 1) at h
  have hb := takeP_bd 9 l
  rcases h with ⟨h1, h2, h3⟩ | ⟨h1, h2⟩
  · have e : takeP 9 l = (((takeP 9 l).1.toNat : Int), ((takeP 9 l).2.toNat : Int)) := Prod.ext (by simp only []; omega) (by simp only []; omega)
    exact .inl ⟨_, _, e, h3.trans e, by omega, by omega, by omega, numR_ok (h3.trans e) (by omega)⟩
  · exact .inr ⟨h1, h2, by unfold numR; rw [if_pos h2]⟩

/-- The reference's cursor. -/
def RCur (w : World) (v : Value) (l : List UInt8) : Prop := ∃ u, v = .agg #[u, .bool false] ∧ IsB w u l
/-- The bytes lie below block B. -/
def Low (B : Nat) (a : Option Addr) (l : List UInt8) : Prop := l ≠ [] → ∃ b off, a = some ⟨b, off, none⟩ ∧ b < B
theorem Low.cut {B : Nat} {a : Option Addr} {l : List UInt8} (h : Low B a l) (k cap : Nat) : Low B (if cap = k then a else Option.map (fun x => x.add k) a) (l.drop k) := by
  intro hd
  have hl : l ≠ [] := by rintro rfl; simp at hd
  obtain ⟨b, off, rfl, hb⟩ := h hl
  by_cases hc : cap = k
  · rw [if_pos hc]; exact ⟨b, off, rfl, hb⟩
  · rw [if_neg hc]
    refine ⟨b, off + k, ?_, hb⟩
    simp only [Option.map_some, Addr.add, Option.some.injEq]
    split
    · subst_vars; rfl
    · rfl
theorem IsB.low {w : World} {a : Option Addr} {n c : Nat} {l : List UInt8} (h : IsB w (.slice a n c) l) : Low w.heap.size a l := by
  intro hl
  rcases h with ⟨rfl, _⟩ | ⟨_, b, off, cap, hv, _, _, hc⟩
  · exact absurd rfl hl
  · simp only [Value.slice.injEq] at hv
    obtain ⟨rfl, _, _⟩ := hv
    cases l with
    | nil => exact absurd rfl hl
    | cons c r => exact ⟨b, off, rfl, World.block_lt_of_cell? _ _ (hc 0 c rfl)⟩
theorem IsB.bel {w w' : World} {B : Nat} {a : Option Addr} {n c : Nat} {l : List UInt8} (h : IsB w (.slice a n c) l) (hl : Low B a l) (hb : Below B w w') : IsB w' (.slice a n c) l := by
  rcases h with h | ⟨h0, b, off, cap, hv, h1, h2, h3⟩
  · exact .inl h
  · refine .inr ⟨h0, b, off, cap, hv, h1, h2, fun i x hi => ?_⟩
    simp only [Value.slice.injEq] at hv
    obtain ⟨rfl, _, _⟩ := hv
    obtain ⟨b', off', he, hlt⟩ := hl h0
    simp only [Option.some.injEq, Addr.mk.injEq] at he
    obtain ⟨rfl, _, _⟩ := he
    exact (World.cell?_of_block (hb.block b hlt)).trans (h3 i x hi)

set_option maxHeartbeats 1000000 in
theorem rnum_ok (a : Option Addr) (cap : Nat) (l : List UInt8) (w : World) (h : IsB w (.slice a l.length cap) l) (hl : l.length ≤ 140737488355328) (n k : Nat) (hr : rtP l = ((n : Int), (k : Int))) (hk : 1 ≤ k) (hkl : k ≤ l.length) :
    Calls Try.prog 44 #[.agg #[.slice a l.length cap, .bool false]] w fun e w' => ∃ a' c', e = .returned (.tuple #[.agg #[.slice a' (l.drop k).length c', .bool false], .int .i64 n]) ∧ IsB w' (.slice a' (l.drop k).length c') (l.drop k) ∧ (∀ B, Low B a l → Low B a' (l.drop k)) ∧ Below w.heap.size w w' := by
  have hT := rtake_any (.slice a l.length cap) l
  obtain ⟨_, _, hv, hc1, hc2, hc3⟩ := h.shape
  simp only [Value.slice.injEq] at hv
  obtain ⟨rfl, _, rfl⟩ := hv
  have hT2 : ∀ W, IsB W (.slice a l.length cap) l → Calls Try.prog 51 #[.slice a l.length cap] W fun e w' => e = .returned (.tuple #[.int .i64 n, .int .i64 k]) ∧ W = w' := fun W h9 => by
    have := hT W hl h9
    rw [hr] at this
    exact this
  have HT := Lib.hid hT2
  have HI := Lib.hid h
  clear hT hT2 h hr hc2
  have hki : (1 : Int) ≤ (k : Int) := by omega
  have hkl2 : (k : Int) ≤ (l.length : Int) := by omega
  by_cases hcap : cap = k
  · subst hcap
    have hb2 := HI.out.back cap hkl rfl
    rw [show l.length - cap = 0 by omega] at hb2
    have HB2 := Lib.hid hb2
    clear hb2
    have hB := bel_alloc (x := .cells #[.slice none 0 0, .bool false] 49) (bel_new w (.cells #[.slice a l.length cap, .bool false] 49))
    have HB := Lib.hid hB
    clear hB
    go_enter Try.func44, Try.ntmps44
    go_wp2_with (go_at_call 51; with_reducible refine (HT.out _ (HI.out.step HB.out)).mono ?_; rintro e w' ⟨rfl, rfl⟩)
    refine bodyPost_ret (v := .tuple #[.agg #[(.slice a 0 0), .bool false], .int .i64 n]) (by simp [results, Try.results44, go_sem]) rfl ⟨a, 0, by rw [List.length_drop, show l.length - cap = 0 by omega], by rw [List.length_drop, show l.length - cap = 0 by omega]; exact HB2.out.step (bel_alloc (bel_new _ _)), fun B hL => by have := hL.cut cap cap; rwa [if_pos rfl] at this, bel_alloc (bel_new _ _)⟩
  · have hb2 := HI.out.cut1 k hkl
    have HB2 := Lib.hid hb2
    clear hb2
    have hB := bel_alloc (x := .cells #[.slice none 0 0, .bool false] 49) (bel_new w (.cells #[.slice a l.length cap, .bool false] 49))
    have HB := Lib.hid hB
    clear hB
    go_enter Try.func44, Try.ntmps44
    go_wp2_with (go_at_call 51; with_reducible refine (HT.out _ (HI.out.step HB.out)).mono ?_; rintro e w' ⟨rfl, rfl⟩)
    refine bodyPost_ret (v := .tuple #[.agg #[(.slice (Option.map (fun x => x.add k) a) (l.length - k) (cap - k)), .bool false], .int .i64 n]) (by simp [results, Try.results44, go_sem]) rfl ⟨Option.map (fun x => x.add k) a, cap - k, by rw [List.length_drop], by rw [List.length_drop]; exact HB2.out.step (bel_alloc (bel_new _ _)), fun B hL => by have := hL.cut k cap; rwa [if_neg hcap] at this, bel_alloc (bel_new _ _)⟩
theorem rbad_any (W : World) : Calls Try.prog 52 #[] W fun e w' => e = .returned (.agg #[.slice none 0 0, .bool true]) ∧ Below W.heap.size W w' := by
  go_enter Try.func52, Try.ntmps52
  go_wp2
  refine bodyPost_ret (v := .agg #[.slice none 0 0, .bool true]) (by simp [results, Try.results52, go_sem]) rfl ⟨rfl, ?_⟩
  first | exact Below.refl _ _ | exact bel_new _ _
theorem rnum_bad (u : Value) (l : List UInt8) (w : World) (h : IsB w u l) (hl : l.length ≤ 140737488355328) (hr : (rtP l).2 < 1) :
    Calls Try.prog 44 #[.agg #[u, .bool false]] w fun e w' => e = .returned (.tuple #[.agg #[.slice none 0 0, .bool true], .int .i64 0]) ∧ Below w.heap.size w w' := by
  have hT := rtake_any u l
  obtain ⟨a, cap, rfl, hc1, hc2, hc3⟩ := h.shape
  obtain ⟨n, k, hnk⟩ : ∃ n k, rtP l = (n, k) := ⟨_, _, rfl⟩
  have hT2 : ∀ W, IsB W (.slice a l.length cap) l → Calls Try.prog 51 #[.slice a l.length cap] W fun e w' => e = .returned (.tuple #[.int .i64 n, .int .i64 k]) ∧ W = w' := fun W h9 => by
    have := hT W hl h9
    rw [hnk] at this
    exact this
  have hk : k < 1 := by rw [hnk] at hr; exact hr
  have HT := Lib.hid hT2
  have HI := Lib.hid h
  have hB := bel_alloc (x := .cells #[.slice none 0 0, .bool false] 49) (bel_new w (.cells #[.slice a l.length cap, .bool false] 49))
  have HB := Lib.hid hB
  clear hT hT2 h hr hnk hc2 hB
  have hb52 := rbad_any
  have HB52 := Lib.hid hb52
  clear hb52
  go_enter Try.func44, Try.ntmps44
  go_wp2_with (first | (go_at_call 51; with_reducible refine (HT.out _ (HI.out.step HB.out)).mono ?_; rintro e w' ⟨rfl, rfl⟩) | (go_at_call 52; refine (HB52.out _).mono ?_; rintro e w5 ⟨rfl, hb5⟩; have d0 := keep_at hb5 (show World.cell? _ ⟨w.heap.size + 1, 0, none⟩ = some (.slice none 0 0) by simp [go_sem]); have d1 := keep_at hb5 (show World.cell? _ ⟨w.heap.size + 1, 1, none⟩ = some (.bool false) by simp [go_sem]); have f0 := frozen_lt hb5 (show w.heap.size + 1 < _ by simp [go_sem]) (show World.frozen? _ ⟨w.heap.size + 1, 0, none⟩ = false by simp [go_sem]); have f1 := frozen_lt hb5 (show w.heap.size + 1 < _ by simp [go_sem]) (show World.frozen? _ ⟨w.heap.size + 1, 1, none⟩ = false by simp [go_sem])))
  refine bodyPost_ret (v := .tuple #[.agg #[.slice none 0 0, .bool true], .int .i64 0]) (by simp [results, Try.results44, go_sem, d0, d1]) rfl ⟨rfl, ?_⟩
  exact ((HB.out.trans (hb5.mono HB.out.size)).setCell (p := ⟨w.heap.size + 1, 0, none⟩) (by show w.heap.size ≤ w.heap.size + 1; omega) _).setCell (p := ⟨w.heap.size + 1, 1, none⟩) (by show w.heap.size ≤ w.heap.size + 1; omega) _
theorem rnum_badc (w : World) : Calls Try.prog 44 #[.agg #[.slice none 0 0, .bool true]] w fun e w' => e = .returned (.tuple #[.agg #[.slice none 0 0, .bool true], .int .i64 0]) ∧ Below w.heap.size w w' := by
  have HT := Lib.hid (rtake_nil none 0)
  have hB := bel_alloc (x := .cells #[.slice none 0 0, .bool false] 49) (bel_new w (.cells #[.slice none 0 0, .bool true] 49))
  have HB := Lib.hid hB
  clear hB
  have HB52 := Lib.hid rbad_any
  go_enter Try.func44, Try.ntmps44
  go_wp2_with (first | (go_at_call 51; with_reducible refine (HT.out _).mono ?_; rintro e w' ⟨rfl, rfl⟩) | (go_at_call 52; refine (HB52.out _).mono ?_; rintro e w5 ⟨rfl, hb5⟩; have d0 := keep_at hb5 (show World.cell? _ ⟨w.heap.size + 1, 0, none⟩ = some (.slice none 0 0) by simp [go_sem]); have d1 := keep_at hb5 (show World.cell? _ ⟨w.heap.size + 1, 1, none⟩ = some (.bool false) by simp [go_sem]); have f0 := frozen_lt hb5 (show w.heap.size + 1 < _ by simp [go_sem]) (show World.frozen? _ ⟨w.heap.size + 1, 0, none⟩ = false by simp [go_sem]); have f1 := frozen_lt hb5 (show w.heap.size + 1 < _ by simp [go_sem]) (show World.frozen? _ ⟨w.heap.size + 1, 1, none⟩ = false by simp [go_sem])))
  refine bodyPost_ret (v := .tuple #[.agg #[.slice none 0 0, .bool true], .int .i64 0]) (by simp [results, Try.results44, go_sem, d0, d1]) rfl ⟨rfl, ?_⟩
  exact ((HB.out.trans (hb5.mono HB.out.size)).setCell (p := ⟨w.heap.size + 1, 0, none⟩) (by show w.heap.size ≤ w.heap.size + 1; omega) _).setCell (p := ⟨w.heap.size + 1, 1, none⟩) (by show w.heap.size ≤ w.heap.size + 1; omega) _
end Go.Proofs.Ytnieoaadhbcjiaa
