/- In plain Lean: a grown tree has short texts. No condition. -/
import Derived.Test.YtogkiifljdnjgaaDoorTokF
import Derived.Test.YtogkiifljdnjgaaDoorGrow
namespace Go.Proofs.YtogkiifljdnjgaaDoor
open Go.RowKit
set_option linter.unusedVariables false
set_option linter.unusedSimpArgs false

/-! ### Grown trees have short texts -/
theorem getD_short {L : List (List UInt8)} (h : ∀ x ∈ L, x.length ≤ 100) (n : Nat) : (L.getD n []).length ≤ 100 := by
  rw [List.getD_eq_getElem?_getD]
  cases hx : L[n]? with
  | none => simp
  | some x => simpa using h x (List.mem_of_getElem? hx)
theorem wordP_short (n : Nat) : (wordP n).length ≤ 100 := getD_short (by decide) _
theorem textE_short (K : Int) (n : Nat) : (textE K n).length ≤ 100 := by
  unfold textE
  split
  · exact getD_short (by decide) _
  split
  · exact getD_short (by decide) _
  split
  · exact getD_short (by decide) _
  split
  · exact wordP_short _
  split
  · simp
  split
  · exact getD_short (by decide) _
  split
  · exact wordP_short _
  · simp
theorem textS_short (K : Int) (n : Nat) : (textS K n).length ≤ 100 := by
  unfold textS
  split
  · exact wordP_short _
  split
  · exact getD_short (by decide) _
  split
  · exact getD_short (by decide) _
  · simp
theorem node_short {k : Int} {tx : List UInt8} {ks : List Tree} {l : Int} (h : tx.length ≤ 100) (hk : shortL ks) : shortT (.node k tx ks l) := by
  rw [shortT_node]
  exact ⟨by omega, hk⟩
theorem kidsP_short {f : List SeedP → Tree × List SeedP} (H : ∀ l, shortT (f l).1) : ∀ (q : Nat) (l : List SeedP), shortL (kidsP f q l).1
  | 0, l => sl_nil
  | q + 1, l => by rw [kidsP]; exact sl_append (kidsP_short H q l) (sl_one (H _))
theorem listP_short {f : List SeedP → Tree × List SeedP} (H : ∀ l, shortT (f l).1) : ∀ (q : Nat) (l : List SeedP), shortL (listP f q l).1
  | 0, l => sl_nil
  | q + 1, l => by
    rw [listP]
    split
    · exact listP_short H q l
    · exact sl_append (listP_short H q l) (sl_one (H _))
theorem exprP_short : ∀ (d : Nat) (l : List SeedP), shortT (exprP d l).1
  | 0, l => by rw [exprP]; exact node_short (wordP_short _) sl_nil
  | d + 1, l => by rw [exprP]; exact node_short (textE_short _ _) (kidsP_short (exprP_short d) _ _)
theorem simpleP_short (K : Int) (n : Nat) (r : List SeedP) : shortT (simpleP K n r).1 := by
  unfold simpleP
  split
  · exact node_short (textS_short _ _) (sl_one (exprP_short 4 r))
  · exact node_short (textS_short _ _) sl_nil
theorem sl_cons {t : Tree} {ts : List Tree} (h : shortT t) (g : shortL ts) : shortL (t :: ts) := by rw [shortL_cons]; exact ⟨h, g⟩
theorem ifP_short {f : List SeedP → Tree × List SeedP} (H : ∀ l, shortT (f l).1) (n : Nat) (r : List SeedP) : shortT (ifP f n r).1 := by
  have hb : ∀ q l, shortT (blkT (listP f q l).1) := fun q l => node_short (by simp) (listP_short H q l)
  unfold ifP
  dsimp only
  split
  · exact node_short (by simp) (sl_cons (exprP_short 3 r) (sl_cons (hb _ _) (sl_one (hb _ _))))
  split
  · split
    · exact node_short (by simp) (sl_cons (exprP_short 3 r) (sl_cons (hb _ _) (sl_one (H _))))
    · exact node_short (by simp) (sl_cons (exprP_short 3 r) (sl_one (hb _ _)))
  · exact node_short (by simp) (sl_cons (exprP_short 3 r) (sl_one (hb _ _)))
theorem stmtP_short : ∀ (d : Nat) (l : List SeedP), shortT (stmtP d l).1
  | 0, l => by
    rw [stmtP]
    split
    · exact node_short (by simp) sl_nil
    · exact simpleP_short _ _ _
  | d + 1, l => by
    rw [stmtP]
    split
    · exact ifP_short (stmtP_short d) _ _
    · exact simpleP_short _ _ _
theorem growP_short (l : List SeedP) : shortT (growP l) := by
  unfold growP
  exact node_short (by simp) (listP_short (stmtP_short 3) _ _)
theorem vsize {t : Tree} (h : validP t = true) : sizeT t ≤ 512 := by
  obtain ⟨k, tx, ks, l⟩ := t
  rw [validP_node] at h
  simp only [Bool.and_eq_true, decide_eq_true_eq] at h
  exact h.1.2.2.1
theorem postP_parts {w w' : World} {T : Tree} {L : Int} {C : Nat} {e : Ending} (h : PostP w w' (T, L, C) e) : ∃ (k : Int) (x : List UInt8) (a : Option Addr) (m c : Nat) (l : Int), e = .returned (.tuple #[.agg #[.int .i64 k, .string ⟨x.toArray⟩, .slice a m c, .int .i64 l], .int .i64 L, errV C]) ∧ IsT w' (New w' w.heap.size) T (.agg #[.int .i64 k, .string ⟨x.toArray⟩, .slice a m c, .int .i64 l]) ∧ Below w.heap.size w w' := by
  obtain ⟨⟨v, he, ht⟩, hb⟩ := h
  obtain ⟨k, x, a, m, c, l, rfl⟩ := isT_shape ht
  exact ⟨k, x, a, m, c, l, he, ht, hb⟩
end Go.Proofs.YtogkiifljdnjgaaDoor
