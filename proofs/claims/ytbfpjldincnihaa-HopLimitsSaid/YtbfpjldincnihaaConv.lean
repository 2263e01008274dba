/- A text turned into bytes; how short what a cursor leaves is. No condition beyond lengths that memory allows. -/
import Derived.Test.YtbfpjldincnihaaHopDecW
import Derived.Laws.IdiomStrings
import Derived.Laws.AppendOwn
namespace Go.Proofs.Ytbfpjldincnihaa
open Go.RowKit
set_option linter.unusedVariables false
set_option linter.unusedSimpArgs false

theorem conv_run (s : List UInt8) (w : World) (hs : s.length ≤ 1000000) :
    ∃ c w', (convert 9 23 (.string ⟨s.toArray⟩)).run Try.prog w = .ok (.slice (some ⟨w.heap.size, 0, none⟩) s.length c) w' ∧ IsB w' (.slice (some ⟨w.heap.size, 0, none⟩) s.length c) s ∧ Below w.heap.size w w' ∧ w.heap.size < w'.heap.size := by
  have hsz : (ByteArray.mk s.toArray).size = s.length := by simp [ByteArray.size]
  have hr := run_bytes_of_string (P := Try.prog) w 9 23 5 ⟨s.toArray⟩ Try.underlying9 Try.underlying23 Try.underlying5
  rw [hsz] at hr
  have hge := grownCap_ge w s.length 0 5
  have hle := grownCap_le_maxLen w s.length 0 5 (by unfold maxLen; omega)
  generalize grownCap w s.length 0 5 = c at *
  refine ⟨c, _, hr, ?_, ((Below.refl w.heap.size w).drew).alloc (Nat.le_refl _) _, by simp [go_sem]⟩
  by_cases h0 : s = []
  · subst h0
    exact .inl ⟨rfl, _, c, rfl, hle, fun h => by cases h⟩
  · refine .inr ⟨h0, w.heap.size, 0, c, rfl, hge, hle, fun i x hi => ?_⟩
    have hb : (w.drew.alloc (.cells (bytesRow ⟨s.toArray⟩ c) 5 ((bytesRow ⟨s.toArray⟩ c).size, (bytesRow ⟨s.toArray⟩ c).size + 1))).heap[w.heap.size]? = some (.cells (bytesRow ⟨s.toArray⟩ c) 5 ((bytesRow ⟨s.toArray⟩ c).size, (bytesRow ⟨s.toArray⟩ c).size + 1)) := heap_alloc_new w.drew _
    have hil := (List.getElem?_eq_some_iff.1 hi).1
    rw [Nat.zero_add, cell_of_row _ _ _ _ _ _ hb]
    unfold bytesRow
    rw [Array.getElem?_append_left (by simpa using hil)]
    simp [hi]

theorem shortO.num {o : Option (List UInt8)} (h : shortO o) : shortO (numO o) := by
  cases o with
  | none => exact fun l h => by cases h
  | some ll =>
    have h9 := h ll rfl
    cases hw : numR ll with
    | none => simp only [numO, Option.bind_some, hw, Option.map_none]; exact fun l h => by cases h
    | some x =>
      obtain ⟨s, r⟩ := x
      have hb := numR_bd hw
      simp only [numO, Option.bind_some, hw, Option.map_some]
      intro l hl
      simp only [Option.some.injEq] at hl
      subst hl
      omega
theorem wordsF_bd : ∀ (n : Nat) (l r : List UInt8) (ts : List (List UInt8)), wordsF n l = some (ts, r) → r.length ≤ l.length
  | 0, l, r, ts, h => by
    simp only [wordsF, Option.some.injEq, Prod.mk.injEq] at h
    rw [h.2]
    exact Nat.le_refl _
  | n + 1, l, r, ts, h => by
    simp only [wordsF] at h
    cases hw : wordR l with
    | none => rw [hw] at h; simp at h
    | some x =>
      obtain ⟨s, q⟩ := x
      have hb := wordR_bd hw
      rw [hw] at h
      simp only [] at h
      cases hq : wordsF n q with
      | none => rw [hq] at h; simp at h
      | some y =>
        obtain ⟨ts', q'⟩ := y
        have ih := wordsF_bd n q q' ts' hq
        rw [hq] at h
        simp at h
        obtain ⟨_, rfl⟩ := h
        omega
theorem shortO.words {o : Option (List UInt8)} (h : shortO o) : shortO (wordsO o) := by
  cases o with
  | none => exact fun l h => by cases h
  | some ll =>
    have h9 := h ll rfl
    cases hw : wordsR ll with
    | none => simp only [wordsO, Option.bind_some, hw, Option.map_none]; exact fun l h => by cases h
    | some x =>
      obtain ⟨s, r⟩ := x
      simp only [wordsO, Option.bind_some, hw, Option.map_some]
      intro l hl
      simp only [Option.some.injEq] at hl
      subst hl
      unfold wordsR at hw
      split at hw
      · cases hw
      · rename_i n q hn
        split at hw
        · have h1 := wordsF_bd _ _ _ _ hw
          have h2 := numR_bd hn
          omega
        · cases hw
end Go.Proofs.Ytbfpjldincnihaa
