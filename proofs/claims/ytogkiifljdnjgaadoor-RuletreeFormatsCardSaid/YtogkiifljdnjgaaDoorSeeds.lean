/- Seeds: GrowP Seeds Gst, one behind the other. -/
import Derived.Test.YtogkiifljdnjgaaDoorGram
import Derived.Test.YtogkiifljdnjgaaDoorNodes
/- Grow in plain Lean: the program that is grown from seeds. No condition. -/
namespace Go.Proofs.YtogkiifljdnjgaaDoor
set_option linter.unusedVariables false
set_option linter.unusedSimpArgs false

abbrev SeedP := Nat × Nat
def takeP : List SeedP → SeedP × List SeedP
  | [] => ((200, 0), [])
  | s :: r => (s, r)
def wordsL : List (List UInt8) := [[97], [98], [112, 97, 116, 104], [104, 101, 97, 100, 101, 114], [120, 95, 49], [108, 101, 110], [104, 111, 115, 116], [108, 111, 119, 101, 114]]
def kindsL : List Int := [13, 14, 15, 16, 17, 18, 19, 24, 20, 21, 22, 23]
def numsL : List (List UInt8) := [[48], [55], [52, 48, 51], [57, 57, 57, 57, 57, 57, 57, 57, 57], [48, 48, 55]]
def strsL : List (List UInt8) := [[], [120], [97, 34, 98], [92], [35, 32, 110, 111]]
def boolsL : List (List UInt8) := [[116, 114, 117, 101], [102, 97, 108, 115, 101]]
def cmpsL : List (List UInt8) := [[61, 61], [33, 61], [60], [60, 61], [115, 116, 97, 114, 116, 115], [101, 110, 100, 115], [99, 111, 110, 116, 97, 105, 110, 115]]
def setsL : List (List UInt8) := [[112, 97, 116, 104], [113, 117, 101, 114, 121]]
def hdrsL : List (List UInt8) := [[120, 45, 97], [], [97, 32, 98, 34]]
def wordP (n : Nat) : List UInt8 := wordsL.getD (n % 8) []
def exprK (s : SeedP) : Int := if s.1 < 200 then kindsL.getD (s.1 % 12) 0 else 23
def textE (K : Int) (n : Nat) : List UInt8 :=
  if K = 20 then numsL.getD (n % 5) [] else if K = 21 then strsL.getD (n % 5) [] else if K = 22 then boolsL.getD (n % 2) [] else if K = 24 then wordP n
  else if K = 15 then [] else if K = 16 then cmpsL.getD (n % 7) [] else if K = 23 then wordP n else []
def manyE (K : Int) (n : Nat) : Nat :=
  if K = 20 then 0 else if K = 21 then 0 else if K = 22 then 0 else if K = 24 then n / 8 % 3 else if K = 15 then 1 else if K = 16 then 2 else if K = 23 then 0 else 2
/-- Trees that are grown one after the other. -/
def kidsP (f : List SeedP → Tree × List SeedP) : Nat → List SeedP → List Tree × List SeedP
  | 0, l => ([], l)
  | q + 1, l => ((kidsP f q l).1 ++ [(f (kidsP f q l).2).1], (f (kidsP f q l).2).2)
def listP (f : List SeedP → Tree × List SeedP) : Nat → List SeedP → List Tree × List SeedP
  | 0, l => ([], l)
  | q + 1, l => if (listP f q l).2 = [] then listP f q l else ((listP f q l).1 ++ [(f (listP f q l).2).1], (f (listP f q l).2).2)
def exprP : Nat → List SeedP → Tree × List SeedP
  | 0, l => (.node 23 (wordP (takeP l).1.2) [] 0, (takeP l).2)
  | d + 1, l => (.node (exprK (takeP l).1) (textE (exprK (takeP l).1) (takeP l).1.2) (kidsP (exprP d) (manyE (exprK (takeP l).1) (takeP l).1.2) (takeP l).2).1 0, (kidsP (exprP d) (manyE (exprK (takeP l).1) (takeP l).1.2) (takeP l).2).2)
def textS (K : Int) (n : Nat) : List UInt8 := if K = 3 then wordP n else if K = 4 then setsL.getD (n % 2) [] else if K = 5 ∨ K = 6 then hdrsL.getD (n % 3) [] else []
def blkT (ks : List Tree) : Tree := .node 12 [] ks 0
def simpleP (K : Int) (n : Nat) (r : List SeedP) : Tree × List SeedP :=
  if K ≠ 6 ∧ K ≠ 10 ∧ K ≠ 11 then (.node K (textS K n) [(exprP 4 r).1] 0, (exprP 4 r).2) else (.node K (textS K n) [] 0, r)
def ifP (f : List SeedP → Tree × List SeedP) (n : Nat) (r : List SeedP) : Tree × List SeedP :=
  let e := exprP 3 r
  let b := listP f (n % 4) e.2
  if n / 4 % 3 = 1 then (.node 2 [] [e.1, blkT b.1, blkT (listP f (n / 16 % 3) b.2).1] 0, (listP f (n / 16 % 3) b.2).2)
  else if n / 4 % 3 = 2 ∧ b.2 ≠ [] then
    if (f ((0, n / 16) :: b.2)).1.kind = 2 then (.node 2 [] [e.1, blkT b.1, (f ((0, n / 16) :: b.2)).1] 0, (f ((0, n / 16) :: b.2)).2)
    else (.node 2 [] [e.1, blkT b.1] 0, (f ((0, n / 16) :: b.2)).2)
  else (.node 2 [] [e.1, blkT b.1] 0, b.2)
def stmtK (s : SeedP) : Int := 2 + ((s.1 % 10 : Nat) : Int)
def stmtP : Nat → List SeedP → Tree × List SeedP
  | 0, l => if stmtK (takeP l).1 = 2 then (.node 10 [] [] 0, (takeP l).2) else simpleP (stmtK (takeP l).1) (takeP l).1.2 (takeP l).2
  | d + 1, l => if stmtK (takeP l).1 = 2 then ifP (stmtP d) (takeP l).1.2 (takeP l).2 else simpleP (stmtK (takeP l).1) (takeP l).1.2 (takeP l).2
def growP (l : List SeedP) : Tree := .node 1 [] (listP (stmtP 3) 12 (l.take 120)).1 1

/-! ### What is left is no more than there was -/
theorem takeP_len (l : List SeedP) : (takeP l).2.length ≤ l.length := by
  cases l <;> simp [takeP]
theorem kidsP_len {f : List SeedP → Tree × List SeedP} (H : ∀ l, (f l).2.length ≤ l.length) : ∀ (q : Nat) (l : List SeedP), (kidsP f q l).2.length ≤ l.length
  | 0, l => Nat.le_refl _
  | q + 1, l => Nat.le_trans (H _) (kidsP_len H q l)
theorem listP_len {f : List SeedP → Tree × List SeedP} (H : ∀ l, (f l).2.length ≤ l.length) : ∀ (q : Nat) (l : List SeedP), (listP f q l).2.length ≤ l.length
  | 0, l => Nat.le_refl _
  | q + 1, l => by
    rw [listP]
    split
    · exact listP_len H q l
    · exact Nat.le_trans (H _) (listP_len H q l)
theorem exprP_len : ∀ (d : Nat) (l : List SeedP), (exprP d l).2.length ≤ l.length
  | 0, l => takeP_len l
  | d + 1, l => Nat.le_trans (kidsP_len (exprP_len d) _ _) (takeP_len l)
theorem simpleP_len (K : Int) (n : Nat) (r : List SeedP) : (simpleP K n r).2.length ≤ r.length := by
  unfold simpleP
  split
  · exact exprP_len 4 r
  · exact Nat.le_refl _
theorem ifP_len {f : List SeedP → Tree × List SeedP} (H : ∀ l, (f l).2.length ≤ l.length) (n : Nat) (r : List SeedP) : (ifP f n r).2.length ≤ r.length + 1 := by
  have h1 := exprP_len 3 r
  have h2 := listP_len H (n % 4) (exprP 3 r).2
  unfold ifP
  dsimp only
  split
  · have := listP_len H (n / 16 % 3) (listP f (n % 4) (exprP 3 r).2).2
    dsimp only; omega
  split
  · have := H ((0, n / 16) :: (listP f (n % 4) (exprP 3 r).2).2)
    rw [List.length_cons] at this
    split <;> dsimp only <;> omega
  · dsimp only; omega
/-- Where nothing was left, nothing comes back. -/
theorem exprP_nil : ∀ d, (exprP d []).2 = []
  | 0 => rfl
  | d + 1 => List.eq_nil_of_length_eq_zero (Nat.le_zero.1 (exprP_len (d + 1) []))
theorem listP_nil {f : List SeedP → Tree × List SeedP} : ∀ q, listP f q [] = ([], [])
  | 0 => rfl
  | q + 1 => by rw [listP, listP_nil q]; rfl
theorem ifP_nil (f : List SeedP → Tree × List SeedP) (n : Nat) (r : List SeedP) (h : (exprP 3 r).2 = []) : (ifP f n r).2 = [] := by
  unfold ifP
  dsimp only
  rw [h, listP_nil]
  dsimp only
  rw [listP_nil]
  split
  · rfl
  split
  · rename_i h; exact absurd rfl h.2
  · rfl
theorem stmtP_len : ∀ (d : Nat) (l : List SeedP), (stmtP d l).2.length ≤ l.length
  | 0, l => by
    rw [stmtP]
    split
    · exact takeP_len l
    · exact Nat.le_trans (simpleP_len _ _ _) (takeP_len l)
  | d + 1, l => by
    rw [stmtP]
    split
    · cases l with
      | nil =>
        have h := ifP_nil (stmtP d) (takeP []).1.2 (takeP []).2 (exprP_nil 3)
        rw [h]
        exact Nat.le_refl _
      | cons s r => exact ifP_len (stmtP_len d) s.2 r
    · exact Nat.le_trans (simpleP_len _ _ _) (takeP_len l)
/-! ### Sizes -/
theorem manyE_le (K : Int) (n : Nat) : manyE K n ≤ 2 := by
  unfold manyE
  have : n / 8 % 3 < 3 := Nat.mod_lt _ (by decide)
  repeat (split; omega)
  omega
theorem kidsP_size {f : List SeedP → Tree × List SeedP} {B : Nat} (H : ∀ l, sizeT (f l).1 ≤ B) : ∀ (q : Nat) (l : List SeedP), sizeL (kidsP f q l).1 ≤ q * B
  | 0, l => by simp [kidsP, sizeL_nil]
  | q + 1, l => by
    rw [kidsP, sizeL_append, sizeL_cons, sizeL_nil, Nat.succ_mul]
    have := kidsP_size H q l
    have := H (kidsP f q l).2
    omega
theorem listP_size {f : List SeedP → Tree × List SeedP} {B : Nat} (H : ∀ l, sizeT (f l).1 ≤ B) : ∀ (q : Nat) (l : List SeedP), sizeL (listP f q l).1 ≤ q * B
  | 0, l => by simp [listP, sizeL_nil]
  | q + 1, l => by
    have h1 := listP_size H q l
    have h2 := H (listP f q l).2
    rw [listP, Nat.succ_mul]
    split
    · omega
    · rw [sizeL_append, sizeL_cons, sizeL_nil]; omega
theorem kidsP_cnt {f : List SeedP → Tree × List SeedP} : ∀ (q : Nat) (l : List SeedP), (kidsP f q l).1.length = q
  | 0, l => rfl
  | q + 1, l => by rw [kidsP, List.length_append, kidsP_cnt q l]; rfl
theorem listP_cnt {f : List SeedP → Tree × List SeedP} : ∀ (q : Nat) (l : List SeedP), (listP f q l).1.length ≤ q
  | 0, l => Nat.le_refl _
  | q + 1, l => by
    have := listP_cnt (f := f) q l
    rw [listP]
    split
    · omega
    · rw [List.length_append]; simp; omega
theorem exprP_size : ∀ (d : Nat) (l : List SeedP), sizeT (exprP d l).1 ≤ 3 ^ d
  | 0, l => by rw [exprP, sizeT_node, sizeL_nil]; decide
  | d + 1, l => by
    rw [exprP, sizeT_node, Nat.pow_succ]
    have h1 := kidsP_size (exprP_size d) (manyE (exprK (takeP l).1) (takeP l).1.2) (takeP l).2
    have h2 := manyE_le (exprK (takeP l).1) (takeP l).1.2
    have h3 : manyE (exprK (takeP l).1) (takeP l).1.2 * 3 ^ d ≤ 2 * 3 ^ d := Nat.mul_le_mul_right _ h2
    have h4 : 1 ≤ 3 ^ d := Nat.pos_of_ne_zero (by simp)
    omega
theorem simpleP_size (K : Int) (n : Nat) (r : List SeedP) : sizeT (simpleP K n r).1 ≤ 82 := by
  unfold simpleP
  split
  · rw [sizeT_node, sizeL_cons, sizeL_nil]
    have := exprP_size 4 r
    have e : 3 ^ 4 = 81 := by decide
    omega
  · rw [sizeT_node, sizeL_nil]; decide
theorem blkT_size (ks : List Tree) : sizeT (blkT ks) = 1 + sizeL ks := by rw [blkT, sizeT_node]
theorem ifP_size {f : List SeedP → Tree × List SeedP} {B : Nat} (H : ∀ l, sizeT (f l).1 ≤ B) (n : Nat) (r : List SeedP) : sizeT (ifP f n r).1 ≤ 30 + 6 * B := by
  have h1 := exprP_size 3 r
  have e : 3 ^ 3 = 27 := by decide
  have h2 := listP_size H (n % 4) (exprP 3 r).2
  have h3 : n % 4 * B ≤ 3 * B := Nat.mul_le_mul_right _ (by omega)
  have h4 : n / 16 % 3 * B ≤ 2 * B := Nat.mul_le_mul_right _ (by omega)
  unfold ifP
  dsimp only
  split
  · have := listP_size H (n / 16 % 3) (listP f (n % 4) (exprP 3 r).2).2
    dsimp only; rw [sizeT_node, sizeL_cons, sizeL_cons, sizeL_cons, sizeL_nil, blkT_size, blkT_size]; omega
  split
  · have := H ((0, n / 16) :: (listP f (n % 4) (exprP 3 r).2).2)
    split
    · dsimp only; rw [sizeT_node, sizeL_cons, sizeL_cons, sizeL_cons, sizeL_nil, blkT_size]; omega
    · dsimp only; rw [sizeT_node, sizeL_cons, sizeL_cons, sizeL_nil, blkT_size]; omega
  · dsimp only; rw [sizeT_node, sizeL_cons, sizeL_cons, sizeL_nil, blkT_size]; omega
theorem stmtP_size0 (l : List SeedP) : sizeT (stmtP 0 l).1 ≤ 82 := by
  rw [stmtP]
  split
  · rw [sizeT_node, sizeL_nil]; decide
  · exact simpleP_size _ _ _
theorem stmtP_sizeS {d B : Nat} (H : ∀ l, sizeT (stmtP d l).1 ≤ B) (l : List SeedP) : sizeT (stmtP (d + 1) l).1 ≤ 82 + 6 * B := by
  rw [stmtP]
  split
  · have := ifP_size H (takeP l).1.2 (takeP l).2; omega
  · have := simpleP_size (stmtK (takeP l).1) (takeP l).1.2 (takeP l).2; omega
theorem stmtP_size3 (l : List SeedP) : sizeT (stmtP 3 l).1 ≤ 21238 := stmtP_sizeS (stmtP_sizeS (stmtP_sizeS stmtP_size0)) l
theorem growP_size (l : List SeedP) : sizeT (growP l) ≤ 300000 := by
  rw [growP, sizeT_node]
  have := listP_size stmtP_size3 12 (l.take 120)
  omega
end Go.Proofs.YtogkiifljdnjgaaDoor

/- Seeds in memory; take and word. No condition beyond a list's length. -/
namespace Go.Proofs.YtogkiifljdnjgaaDoor
open Go.RowKit
set_option linter.unusedVariables false
set_option linter.unusedSimpArgs false

/-- A slice of seeds; its block is not gb, and lies below N or holds seeds alone. -/
def IsS (w : World) (N gb : Nat) (v : Value) (l : List SeedP) : Prop :=
  (∀ s ∈ l, s.1 < 256 ∧ s.2 < 256) ∧ ((l = [] ∧ ∃ a cap, v = .slice a 0 cap ∧ cap ≤ maxLen ∧ (a = none → cap = 0)) ∨
  (l ≠ [] ∧ ∃ b off cap, v = .slice (some ⟨b, off, none⟩) l.length cap ∧ l.length ≤ cap ∧ cap ≤ maxLen ∧ b ≠ gb ∧ (b < N ∨ ∃ cs m, w.heap[b]? = some (.cells cs 82 m)) ∧ ∀ i s, l[i]? = some s → w.cell? ⟨b, off + i * 2, none⟩ = some (.int .u8 (s.1 : Int)) ∧ w.cell? ⟨b, off + i * 2 + 1, none⟩ = some (.int .u8 (s.2 : Int))))
/-- A grower in memory. -/
def GAt (w : World) (N gb : Nat) (l : List SeedP) : Prop := l.length ≤ 200 ∧ N ≤ gb ∧ ∃ v, w.heap[gb]? = some (.cells #[v] 57 (0, 0)) ∧ IsS w N gb v l
theorem IsS.only {w w' : World} {N gb b : Nat} {v : Value} {l : List SeedP} (h : IsS w N gb v l) (ho : Only b w w') (hb : b = gb ∨ w.heap.size ≤ b) : IsS w' N gb v l := by
  obtain ⟨h0, h⟩ := h
  refine ⟨h0, ?_⟩
  rcases h with h | ⟨h1, g, off, cap, hv, h2, h3, h4, h6, h5⟩
  · exact .inl h
  · have hg : g < w.heap.size := by
      cases l with
      | nil => exact absurd rfl h1
      | cons s r => exact World.block_lt_of_cell? w _ (h5 0 s rfl).1
    have hgn : g ≠ b := by rcases hb with rfl | hb; exact h4; omega
    refine .inr ⟨h1, g, off, cap, hv, h2, h3, h4, h6.imp id (fun ⟨cs, m, hc⟩ => ⟨cs, m, (ho.block g hg (fun e => hgn (Option.some.inj e))).trans hc⟩), fun i s hi => ?_⟩
    obtain ⟨c0, c1⟩ := h5 i s hi
    have hlt := World.block_lt_of_cell? w _ c0
    dsimp only at hlt
    have hn : g ≠ b := by rcases hb with rfl | hb; exact h4; omega
    exact ⟨(ho.cell hlt hn).trans c0, (ho.cell hlt hn).trans c1⟩
theorem GAt.lt {w : World} {N gb : Nat} {l : List SeedP} (h : GAt w N gb l) : gb < w.heap.size := by
  obtain ⟨_, _, v, h, _⟩ := h
  exact block_lt h
theorem GAt.step {w w' : World} {N gb : Nat} {l : List SeedP} (h : GAt w N gb l) (hb : Below w.heap.size w w') : GAt w' N gb l := by
  obtain ⟨h0, hN, v, h1, h2⟩ := h
  exact ⟨h0, hN, v, keep_blk hb h1, h2.only (Only.of_below (b := gb) hb) (.inl rfl)⟩
theorem GAt.other {w w' : World} {N gb b : Nat} {l : List SeedP} (h : GAt w N gb l) (ho : Only b w w') (hn : w.heap.size ≤ b) : GAt w' N gb l :=
  h.step ⟨ho.os, ho.tape, ho.output, ho.size, fun k hk => ho.block k hk (fun e => by have := Option.some.inj e; omega)⟩
/-- The grower's own slice is put anew. -/
theorem GAt.put {w : World} {N gb : Nat} {v0 v : Value} {l : List SeedP} (h0 : w.heap[gb]? = some (.cells #[v0] 57 (0, 0))) (h : IsS w N gb v l) (hl : l.length ≤ 200) (hN : N ≤ gb) : GAt (w.setCell ⟨gb, 0, none⟩ v) N gb l :=
  ⟨hl, hN, v, by have := Joins.block_setCell (i := 0) h0 v; simpa using this, h.only Only.set (.inl rfl)⟩
theorem IsS.tail {w : World} {N gb b off cap : Nat} {s : SeedP} {r : List SeedP} (h : IsS w N gb (.slice (some ⟨b, off, none⟩) (s :: r).length cap) (s :: r)) :
    (cap = 1 → ∀ a, IsS w N gb (.slice (some a) 0 0) r) ∧ (cap ≠ 1 → IsS w N gb (.slice (some ⟨b, off + 2, none⟩) r.length (cap - 1)) r) ∧ r.length ≤ cap - 1 ∧ 1 ≤ cap ∧ cap ≤ maxLen ∧ s.1 < 256 ∧ s.2 < 256 ∧ w.cell? ⟨b, off, none⟩ = some (.int .u8 (s.1 : Int)) ∧ w.cell? ⟨b, off + 1, none⟩ = some (.int .u8 (s.2 : Int)) ∧ b ≠ gb := by
  obtain ⟨h0, h⟩ := h
  rcases h with ⟨h, _⟩ | ⟨_, g, o, c, hv, h2, h3, h4, h6, h5⟩
  · cases h
  simp only [Value.slice.injEq, Option.some.injEq, Addr.mk.injEq, and_true, true_and] at hv
  obtain ⟨⟨rfl, rfl⟩, rfl⟩ := hv
  rw [List.length_cons] at h2
  have c0 := h5 0 s rfl
  have hs := h0 s (by simp)
  rw [Nat.zero_mul, Nat.add_zero] at c0
  refine ⟨fun hc a => ?_, fun hc => ?_, by omega, by omega, h3, hs.1, hs.2, c0.1, c0.2, h4⟩
  · have hr : r = [] := List.eq_nil_of_length_eq_zero (by omega)
    subst hr
    exact ⟨fun s hs => by simp at hs, .inl ⟨rfl, _, 0, rfl, Nat.zero_le _, fun e => by cases e⟩⟩
  · refine ⟨fun t ht => h0 t (List.mem_cons_of_mem _ ht), ?_⟩
    by_cases hr : r = []
    · subst hr
      exact .inl ⟨rfl, _, cap - 1, rfl, by omega, fun e => by cases e⟩
    · refine .inr ⟨hr, b, off + 2, cap - 1, rfl, by omega, by omega, h4, h6, fun i t hi => ?_⟩
      have := h5 (i + 1) t (by simpa using hi)
      rwa [show off + (i + 1) * 2 = off + 2 + i * 2 by omega] at this
theorem GAt.bnd {w : World} {N gb : Nat} {l : List SeedP} (h : GAt w N gb l) : (takeP l).1.1 < 256 ∧ (takeP l).1.2 < 256 := by
  obtain ⟨_, _, v, _, h0, _⟩ := h
  cases l with
  | nil => exact ⟨by decide, by decide⟩
  | cons s r => exact h0 s (by simp)
set_option maxRecDepth 20000 in
theorem take_any (w : World) (N gb : Nat) (l : List SeedP) (h : GAt w N gb l) :
    Calls Tryd.prog 53 #[.pointer (some ⟨gb, 0, none⟩)] w fun e w' => e = .returned (.agg #[.int .u8 ((takeP l).1.1 : Int), .int .u8 ((takeP l).1.2 : Int)]) ∧ GAt w' N gb (takeP l).2 ∧ Only gb w w' := by
  have hlt := h.lt
  obtain ⟨h0, hN, v, h1, h2⟩ := h
  have HN := Lib.hid hN
  clear hN
  have HH := Lib.hid h1
  have hpw : ¬ gb = w.heap.size := by omega
  have hpw2 : ¬ w.heap.size = gb := by omega
  have p0 : w.cell? ⟨gb, 0, none⟩ = some v := by simp [World.cell?, h1]
  have p1 : w.frozen? ⟨gb, 0, none⟩ = false := by simp [World.frozen?, h1]
  cases l with
  | nil =>
    rcases h2.2 with ⟨_, a, cap, rfl, hc, hn⟩ | ⟨h, _⟩
    rotate_left
    · exact absurd rfl h
    have HS := Lib.hid h2
    clear h1 h2 hn
    go_enter Tryd.func53, Tryd.ntmps53
    go_wp2_with fail
    refine bodyPost_ret (v := .agg #[.int .u8 200, .int .u8 0]) (by simp [results, Tryd.results53, go_sem]) rfl ?_
    refine ⟨rfl, ?_, ?_⟩
    · exact GAt.step (w := w) ⟨by decide, HN.out, _, HH.out, HS.out⟩ (bel_new w _)
    · exact Only.of_below (bel_new w _)
  | cons s r =>
    rcases h2.2 with ⟨h, _⟩ | ⟨_, b, off, cap, rfl, hx⟩
    · cases h
    obtain ⟨t1, t2, t3, t4, t5, t6, t7, t8, t9, t10⟩ := IsS.tail h2
    clear hx
    have HT1 := Lib.hid t1
    have HT2 := Lib.hid t2
    have HL := Lib.hid h0
    have hbl := World.block_lt_of_cell? w _ t8
    dsimp only at hbl
    have n1 : ¬ b = w.heap.size := by omega
    have n2 : ¬ b = w.heap.size + 1 := by omega
    have n3 : ¬ gb = w.heap.size + 1 := by omega
    have n4 : ¬ w.heap.size + 1 = gb := by omega
    have n5 : ¬ b = gb := t10
    have n6 : ¬ gb = b := fun e => t10 e.symm
    unfold maxLen at t5
    rw [List.length_cons] at p0
    clear t1 t2 h1 h2 h0 t10
    by_cases hc : cap = 1
    · subst hc
      have hr : r = [] := List.eq_nil_of_length_eq_zero (by omega)
      subst hr
      go_enter Tryd.func53, Tryd.ntmps53
      go_wp2_with fail
      refine bodyPost_ret (v := .agg #[.int .u8 (s.1 : Int), .int .u8 (s.2 : Int)]) (by simp [results, Tryd.results53, go_sem]) rfl ?_
      exact ⟨rfl, ((GAt.put HH.out (HT1.out trivial _) (by decide) HN.out).step (bel_new _ _)).step (bel_new _ _), (Only.set.alloc).alloc⟩
    · go_enter Tryd.func53, Tryd.ntmps53
      go_wp2_with fail
      refine bodyPost_ret (v := .agg #[.int .u8 (s.1 : Int), .int .u8 (s.2 : Int)]) (by simp [results, Tryd.results53, go_sem]) rfl ?_
      exact ⟨rfl, ((GAt.put HH.out (HT2.out hc) (by have h := HL.out; rw [List.length_cons] at h; exact Nat.le_of_succ_le h) HN.out).step (bel_new _ _)).step (bel_new _ _), (Only.set.alloc).alloc⟩
theorem word_any (n : Nat) (hn : n < 256) (w : World) : Calls Tryd.prog 55 #[.int .u8 (n : Int)] w fun e w' => e = .returned (.string ⟨(wordP n).toArray⟩) ∧ Below w.heap.size w w' := by
  have h0 : (0 : Int) ≤ (n : Int) := by omega
  have h1 : (n : Int) < 256 := by omega
  obtain ⟨j, hj⟩ : ∃ j, n % 8 = j := ⟨_, rfl⟩
  have hj8 : j < 8 := by omega
  unfold wordP
  rw [hj]
  have hji : (n : Int) % 8 = (j : Int) := by omega
  clear hj hn
  match j, hj8 with
  | 0, _ =>
    have e : (n : Int) % 8 = 0 := hji
    clear hji
    go_enter Tryd.func55, Tryd.ntmps55
    go_wp2_with fail
    go_ret
    exact ⟨rfl, bel_new w _⟩
  | 1, _ =>
    have e : (n : Int) % 8 = 1 := hji
    clear hji
    go_enter Tryd.func55, Tryd.ntmps55
    go_wp2_with fail
    go_ret
    exact ⟨rfl, bel_new w _⟩
  | 2, _ =>
    have e : (n : Int) % 8 = 2 := hji
    clear hji
    go_enter Tryd.func55, Tryd.ntmps55
    go_wp2_with fail
    go_ret
    exact ⟨rfl, bel_new w _⟩
  | 3, _ =>
    have e : (n : Int) % 8 = 3 := hji
    clear hji
    go_enter Tryd.func55, Tryd.ntmps55
    go_wp2_with fail
    go_ret
    exact ⟨rfl, bel_new w _⟩
  | 4, _ =>
    have e : (n : Int) % 8 = 4 := hji
    clear hji
    go_enter Tryd.func55, Tryd.ntmps55
    go_wp2_with fail
    go_ret
    exact ⟨rfl, bel_new w _⟩
  | 5, _ =>
    have e : (n : Int) % 8 = 5 := hji
    clear hji
    go_enter Tryd.func55, Tryd.ntmps55
    go_wp2_with fail
    go_ret
    exact ⟨rfl, bel_new w _⟩
  | 6, _ =>
    have e : (n : Int) % 8 = 6 := hji
    clear hji
    go_enter Tryd.func55, Tryd.ntmps55
    go_wp2_with fail
    go_ret
    exact ⟨rfl, bel_new w _⟩
  | 7, _ =>
    have e : (n : Int) % 8 = 7 := hji
    clear hji
    go_enter Tryd.func55, Tryd.ntmps55
    go_wp2_with fail
    go_ret
    exact ⟨rfl, bel_new w _⟩
end Go.Proofs.YtogkiifljdnjgaaDoor

/- What Grow's functions keep in memory between their steps. No condition. -/
namespace Go.Proofs.YtogkiifljdnjgaaDoor
open Go.RowKit
set_option linter.unusedVariables false
set_option linter.unusedSimpArgs false

/-- What a function that grows a tree leaves. -/
def PostG (w w' : World) (N gb : Nat) (r : Tree × List SeedP) (e : Ending) : Prop := (∃ v, e = .returned v ∧ IsT w' (New w' w.heap.size) r.1 v) ∧ GAt w' N gb r.2 ∧ Only gb w w'
/-- A box of a seed. -/
theorem box2 {w : World} {b T : Nat} {x0 x1 : Value} (h : w.heap[b]? = some (.cells #[x0, x1] T (0, 0))) :
    w.cell? ⟨b, 0, none⟩ = some x0 ∧ w.cell? ⟨b, 1, none⟩ = some x1 := by
  refine ⟨?_, ?_⟩ <;> simp [World.cell?, h]
/-- A node's block holds no seeds. -/
theorem IsS.node {w w' : World} {N gb nb : Nat} {v : Value} {l : List SeedP} {k ln : Int} {tx : ByteArray} {a : Option Addr} {m c : Nat} (h : IsS w N gb v l) (ho : Only nb w w')
    (hn : w.heap[nb]? = some (.cells #[.int .i64 k, .string tx, .slice a m c, .int .i64 ln] 26 (0, 0))) : IsS w' N gb v l := by
  obtain ⟨h0, h⟩ := h
  refine ⟨h0, ?_⟩
  rcases h with h | ⟨h1, g, off, cap, hv, h2, h3, h4, h6, h5⟩
  · exact .inl h
  · have hg : g ≠ nb := by
      intro e
      subst e
      cases l with
      | nil => exact h1 rfl
      | cons s r =>
        have c0 := (h5 0 s rfl).1
        simp only [World.cell?, hn] at c0
        match off, c0 with
        | 0, c0 => simp at c0
        | 1, c0 => simp at c0
        | 2, c0 => simp at c0
        | 3, c0 => simp at c0
        | n + 4, c0 => simp at c0
    have hgl : g < w.heap.size := by
      cases l with
      | nil => exact absurd rfl h1
      | cons s r => exact World.block_lt_of_cell? w _ (h5 0 s rfl).1
    refine .inr ⟨h1, g, off, cap, hv, h2, h3, h4, h6.imp id (fun ⟨cs, m, hc⟩ => ⟨cs, m, (ho.block g hgl (fun e => hg (Option.some.inj e))).trans hc⟩), fun i s hi => ?_⟩
    obtain ⟨c0, c1⟩ := h5 i s hi
    have hlt := World.block_lt_of_cell? w _ c0
    exact ⟨(ho.cell hlt hg).trans c0, (ho.cell hlt hg).trans c1⟩
theorem GAt.node {w w' : World} {N gb nb : Nat} {l : List SeedP} {k ln : Int} {tx : ByteArray} {a : Option Addr} {m c : Nat} (h : GAt w N gb l) (ho : Only nb w w')
    (hn : w.heap[nb]? = some (.cells #[.int .i64 k, .string tx, .slice a m c, .int .i64 ln] 26 (0, 0))) (hne : gb ≠ nb) : GAt w' N gb l := by
  obtain ⟨h0, hN, v, h1, h2⟩ := h
  exact ⟨h0, hN, v, ho.keep h1 hne, h2.node ho hn⟩
theorem GAt.drew {w : World} {N gb : Nat} {l : List SeedP} (h : GAt w N gb l) : GAt w.drew N gb l := h
/-- The result's box (the call's first block), the seed's, the node's; the grower. -/
structure Gst (w wx : World) (N gb sb nb : Nat) (x : SeedP) (k : Int) (tx : ByteArray) (kv : Value) (l : List SeedP) : Prop where
  lt1 : w.heap.size < sb
  lt2 : sb < nb
  lt3 : nb < wx.heap.size
  pl : gb < w.heap.size
  res : wx.heap[w.heap.size]? = some (.cells #[.int .i64 0, .string ⟨#[]⟩, .slice none 0 0, .int .i64 0] 26 (0, 0))
  seed : wx.heap[sb]? = some (.cells #[.int .u8 (x.1 : Int), .int .u8 (x.2 : Int)] 82 (0, 0))
  node : wx.heap[nb]? = some (.cells #[.int .i64 k, .string tx, kv, .int .i64 0] 26 (0, 0))
  slice : ∃ a m c, kv = .slice a m c
  g : GAt wx N gb l
  only : Only gb w wx
theorem Gst.call {w wx wy : World} {N gb sb nb : Nat} {x : SeedP} {k : Int} {tx : ByteArray} {kv : Value} {l l' : List SeedP} (h : Gst w wx N gb sb nb x k tx kv l) (ho : Only gb wx wy) (hg : GAt wy N gb l') : Gst w wy N gb sb nb x k tx kv l' := by
  have h1 := h.lt1; have h2 := h.lt2; have h3 := h.lt3; have h4 := h.pl; have h5 := ho.size
  exact ⟨h1, h2, by omega, h4, ho.keep h.res (by omega), ho.keep h.seed (by omega), ho.keep h.node (by omega), h.slice, hg, h.only.trans ho⟩
theorem Gst.step {w wx wy : World} {N gb sb nb : Nat} {x : SeedP} {k : Int} {tx : ByteArray} {kv : Value} {l : List SeedP} (h : Gst w wx N gb sb nb x k tx kv l) (hb : Below wx.heap.size wx wy) : Gst w wy N gb sb nb x k tx kv l := h.call (Only.of_below hb) (h.g.step hb)
theorem Gst.alloc {w wx : World} {N gb sb nb : Nat} {x : SeedP} {k : Int} {tx : ByteArray} {kv : Value} {l : List SeedP} (h : Gst w wx N gb sb nb x k tx kv l) (y : Obj) : Gst w (wx.alloc y) N gb sb nb x k tx kv l := h.step (bel_new _ _)
theorem Gst.drew {w wx : World} {N gb sb nb : Nat} {x : SeedP} {k : Int} {tx : ByteArray} {kv : Value} {l : List SeedP} (h : Gst w wx N gb sb nb x k tx kv l) : Gst w wx.drew N gb sb nb x k tx kv l :=
  ⟨h.lt1, h.lt2, h.lt3, h.pl, h.res, h.seed, h.node, h.slice, h.g, h.only.drew⟩
/-- The node's block is written: all else stays. -/
theorem Gst.put {w wx wy : World} {N gb sb nb : Nat} {x : SeedP} {k k' : Int} {tx tx' : ByteArray} {kv kv' : Value} {l : List SeedP} (h : Gst w wx N gb sb nb x k tx kv l) (ho : Only nb wx wy)
    (hn : wy.heap[nb]? = some (.cells #[.int .i64 k', .string tx', kv', .int .i64 0] 26 (0, 0))) (hk : ∃ a m c, kv' = .slice a m c) : Gst w wy N gb sb nb x k' tx' kv' l := by
  have h1 := h.lt1; have h2 := h.lt2; have h3 := h.lt3; have h4 := h.pl; have h5 := ho.size
  obtain ⟨a, m, c, hs⟩ := h.slice
  have hnode := h.node
  rw [hs] at hnode
  exact ⟨h1, h2, by omega, h4, ho.keep h.res (by omega), ho.keep h.seed (by omega), hn, hk, h.g.node ho hnode (by omega), h.only.new ho (by omega)⟩
theorem Gst.set0 {w wx : World} {N gb sb nb : Nat} {x : SeedP} {k : Int} {tx : ByteArray} {kv : Value} {l : List SeedP} (h : Gst w wx N gb sb nb x k tx kv l) (u : Int) : Gst w (wx.setCell ⟨nb, 0, none⟩ (.int .i64 u)) N gb sb nb x u tx kv l :=
  h.put Only.set (by have h := Joins.block_setCell (i := 0) h.node (.int .i64 u); simpa using h) h.slice
theorem Gst.set1 {w wx : World} {N gb sb nb : Nat} {x : SeedP} {k : Int} {tx : ByteArray} {kv : Value} {l : List SeedP} (h : Gst w wx N gb sb nb x k tx kv l) (u : ByteArray) : Gst w (wx.setCell ⟨nb, 1, none⟩ (.string u)) N gb sb nb x k u kv l :=
  h.put Only.set (by have h := Joins.block_setCell (i := 1) h.node (.string u); simpa using h) h.slice
theorem Gst.set2 {w wx : World} {N gb sb nb : Nat} {x : SeedP} {k : Int} {tx : ByteArray} {kv : Value} {l : List SeedP} (h : Gst w wx N gb sb nb x k tx kv l) {u : Value} (hu : ∃ a m c, u = .slice a m c) : Gst w (wx.setCell ⟨nb, 2, none⟩ u) N gb sb nb x k tx u l :=
  h.put Only.set (by have h := Joins.block_setCell (i := 2) h.node u; simpa using h) hu
/-- The node is handed back. -/
theorem Gst.done {w wx w' : World} {N gb sb nb B : Nat} {x : SeedP} {k : Int} {tx : ByteArray} {t : List UInt8} {kv : Value} {ks : List Tree} {l : List SeedP} (h : Gst w wx N gb sb nb x k tx kv l)
    (ht : tx = ⟨t.toArray⟩) (hk : IsKids wx (New wx B) ks kv) (hB : w.heap.size < B) (hw : Only w.heap.size wx w') : PostG w w' N gb (.node k t ks 0, l) (.returned (.agg #[.int .i64 k, .string tx, kv, .int .i64 0])) := by
  subst ht
  refine ⟨⟨_, rfl, IsT.of ((IsKids.only hk hw hB).mono fun b hb hl => ⟨by have := hb.1; omega, hl⟩)⟩, ?_, h.only.new hw (Nat.le_refl _)⟩
  exact h.g.node hw h.res (by have := h.pl; omega)
/-- An append to trees of the call's own leaves the seeds. -/
theorem GAt.grown {w w' : World} {N gb base : Nat} {l : List SeedP} {kv : Value} {ks : List Tree} (h : GAt w N gb l) (hown : OwnTs 26 w base kv ks) (hN : N ≤ base) (hg : gb < base) (hk : ∀ k, k < w.heap.size → kv.ownBlock ≠ some k → w'.heap[k]? = w.heap[k]?) : GAt w' N gb l := by
  have hlt := h.lt
  have hno : ∀ k, kv.ownBlock = some k → N ≤ k ∧ k ≠ gb ∧ ∃ cur, w.heap[k]? = some (.cells cur 26 (0, 0)) := by
    intro k hk
    obtain ⟨F, xs, ⟨o0, o1⟩, _⟩ := hown
    rcases o1 with ⟨rfl, _⟩ | ⟨g, cap, cur, rfl, hb, hgb, _⟩
    · cases hk
    · have e : g = k := by simpa [Value.ownBlock] using hk
      subst e
      exact ⟨by omega, by omega, cur, hgb⟩
  obtain ⟨h0, h1, v, h2, h3, h4⟩ := h
  refine ⟨h0, h1, v, (hk gb hlt (fun e => (hno _ e).2.1 rfl)).trans h2, h3, ?_⟩
  rcases h4 with h4 | ⟨h5, g, off, cap, hv, h6, h7, h8, h9, h10⟩
  · exact .inl h4
  · have hgl : g < w.heap.size := by
      cases l with
      | nil => exact absurd rfl h5
      | cons s r => exact World.block_lt_of_cell? w _ (h10 0 s rfl).1
    have hgk : w'.heap[g]? = w.heap[g]? := by
      refine hk g hgl fun e => ?_
      obtain ⟨n1, _, cur, n3⟩ := hno _ e
      rcases h9 with h9 | ⟨cs, m, hc⟩
      · omega
      · rw [n3] at hc; simp at hc
    refine .inr ⟨h5, g, off, cap, hv, h6, h7, h8, h9.imp id (fun ⟨cs, m, hc⟩ => ⟨cs, m, hgk.trans hc⟩), fun i s hi => ?_⟩
    obtain ⟨c0, c1⟩ := h10 i s hi
    exact ⟨(World.cell?_of_block hgk).trans c0, (World.cell?_of_block hgk).trans c1⟩
/-- An append to trees of the call's own, behind the node's block. -/
theorem Gst.app {w wx wy : World} {N gb sb nb : Nat} {x : SeedP} {k : Int} {tx : ByteArray} {kv : Value} {l : List SeedP} (h : Gst w wx N gb sb nb x k tx kv l) (hb : Below (nb + 1) wx wy) (hg : GAt wy N gb l) : Gst w wy N gb sb nb x k tx kv l := by
  have h1 := h.lt1; have h2 := h.lt2; have h3 := h.lt3; have h4 := h.pl; have h5 := hb.size
  exact ⟨h1, h2, by omega, h4, (hb.block _ (by omega)).trans h.res, (hb.block _ (by omega)).trans h.seed, (hb.block _ (by omega)).trans h.node, h.slice, hg, h.only.bel2 (hb.mono (by omega))⟩
end Go.Proofs.YtogkiifljdnjgaaDoor
