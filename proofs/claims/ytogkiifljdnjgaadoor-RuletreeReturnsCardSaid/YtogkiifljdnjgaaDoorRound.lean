/- In plain Lean: the canonical text is parsed to the same tree, which has the same text; a grown tree has short texts. Conditions: as each says. -/
import Derived.Test.YtogkiifljdnjgaaDoorDerS
import Derived.Test.YtogkiifljdnjgaaDoorCanL
import Derived.Test.YtogkiifljdnjgaaDoorErrLaw
import Derived.Test.YtogkiifljdnjgaaDoorGrow
namespace Go.Proofs.YtogkiifljdnjgaaDoor
set_option linter.unusedVariables false
set_option linter.unusedSimpArgs false

mutual
theorem sizeT_er : ∀ t : Tree, sizeT (erT t) = sizeT t
  | .node k tx ks l => by rw [erT_node, sizeT_node, sizeT_node, sizeL_er ks]
theorem sizeL_er : ∀ ts : List Tree, sizeL (erL ts) = sizeL ts
  | [] => by rw [erL_nil]
  | t :: ts => by rw [erL_cons, sizeL_cons, sizeL_cons, sizeT_er t, sizeL_er ts]
end
mutual
theorem depthT_er : ∀ t : Tree, depthT (erT t) = depthT t
  | .node k tx ks l => by rw [erT_node, depthT_node, depthT_node, depthL_er ks]
theorem depthL_er : ∀ ts : List Tree, depthL (erL ts) = depthL ts
  | [] => by rw [erL_nil]
  | t :: ts => by rw [erL_cons, depthL_cons, depthL_cons, depthT_er t, depthL_er ts]
end
theorem erL_len : ∀ ts : List Tree, (erL ts).length = ts.length
  | [] => by rw [erL_nil]
  | t :: ts => by rw [erL_cons, List.length_cons, List.length_cons, erL_len ts]
theorem er_kind (t : Tree) : (erT t).kind = t.kind := by
  obtain ⟨k, tx, ks, l⟩ := t
  rw [erT_node]; rfl
mutual
theorem sameT_er : ∀ t u : Tree, erT t = erT u → sameT t u = true
  | .node k tx ks l, .node k' tx' ks' l', h => by
    rw [erT_node, erT_node] at h
    simp only [Tree.node.injEq, and_true] at h
    obtain ⟨rfl, rfl, h3⟩ := h
    have hl := congrArg List.length h3
    rw [erL_len, erL_len] at hl
    rw [sameT_node, sameL_er ks ks' h3, hl]
    simp
theorem sameL_er : ∀ ts us : List Tree, erL ts = erL us → sameL ts us = true
  | [], us, _ => sameL_nil us
  | t :: ts, [], h => by rw [erL_cons, erL_nil] at h; cases h
  | t :: ts, u :: us, h => by
    rw [erL_cons, erL_cons] at h
    obtain ⟨h1, h2⟩ := List.cons.inj h
    rw [sameL_cons, sameT_er t u h1, sameL_er ts us h2]
    rfl
end
mutual
theorem writP_er : ∀ t : Tree, writP (erT t) = writP t
  | .node k tx ks l => by rw [erT_node, writP_node, writP_node, writL_er ks]
theorem writL_er : ∀ ts : List Tree, writL (erL ts) = writL ts
  | [] => by rw [erL_nil]
  | t :: ts => by rw [erL_cons, writL_cons, writL_cons, er_kind, writP_er t, writL_er ts]
end
mutual
theorem lineP_er : ∀ (t : Tree) (bl : List UInt8), lineP (erT t) bl = lineP t bl
  | .node k tx [] l, bl => by rw [erT_node, erL_nil, lineP_0, lineP_0]
  | .node k tx [e] l, bl => by rw [erT_node, erL_cons, erL_nil, lineP_1, lineP_1, writP_er e]
  | .node k tx [e, b] l, bl => by rw [erT_node, erL_cons, erL_cons, erL_nil, lineP_2, lineP_2, writP_er e, braceP_er b bl]
  | .node k tx [e, b, x] l, bl => by rw [erT_node, erL_cons, erL_cons, erL_cons, erL_nil, lineP_3, lineP_3, writP_er e, braceP_er b bl, er_kind, lineP_er x bl, braceP_er x bl]
  | .node k tx (a :: b :: c :: d :: r) l, bl => by rw [erT_node, erL_cons, erL_cons, erL_cons, erL_cons, lineP, lineP]
theorem braceP_er : ∀ (t : Tree) (bl : List UInt8), braceP (erT t) bl = braceP t bl
  | .node k tx ks l, bl => by rw [erT_node, braceP_node, braceP_node, linesP_er ks]
theorem linesP_er : ∀ (ts : List Tree) (bl : List UInt8), linesP (erL ts) bl = linesP ts bl
  | [], bl => by rw [erL_nil]
  | t :: ts, bl => by rw [erL_cons, linesP_cons, linesP_cons, lineP_er t bl, linesP_er ts bl]
end
theorem validP_parts {t : Tree} (h : validP t = true) : t.kind = 1 ∧ t.text = [] ∧ sizeT t ≤ 512 ∧ depthT t ≤ 32 ∧ stsOK t.kids = true := by
  obtain ⟨k, tx, ks, l⟩ := t
  rw [validP_node] at h
  simp only [Bool.and_eq_true, decide_eq_true_eq] at h
  exact ⟨h.1.1, h.1.2.1, h.1.2.2.1, h.1.2.2.2, h.2⟩
/-- A text with a valid tree's tokens is parsed to that tree. -/
theorem parse_text {S : List UInt8} {t : Tree} (ht : validP t = true) (hw : WS .stl S (lst t.kids)) (hS : S.length ≤ 4096) : ∃ u, parseF S = (u, 0, 0) ∧ erT u = erT t := by
  obtain ⟨ks, hd, hl⟩ := hw
  obtain ⟨us, l', c', e1, e2⟩ := hl [] 1 1 (fun x hx => by cases hx)
  have hz : splitS [] 0 l' c' = some [⟨5, [], l', c'⟩] := by simp only [splitS]
  rw [List.append_nil, hz] at e2
  have hs : splitT S = some (us ++ [⟨5, [], l', c'⟩]) := e2
  obtain ⟨ks', g1, g2⟩ := parse_der hd us ⟨5, [], l', c'⟩ e1 rfl
  obtain ⟨v1, v2, v3, v4, v5⟩ := validP_parts ht
  obtain ⟨k, tx, kk, l⟩ := t
  simp only [Tree.kind, Tree.text] at v1 v2
  subst v1; subst v2
  have g3 : erL ks' = erL kk := g1
  have hsz : sizeT (.node 1 [] ks' 1) = sizeT (.node 1 [] kk l) := by rw [sizeT_node, sizeT_node, ← sizeL_er ks', g3, sizeL_er]
  have hdp : depthT (.node 1 [] ks' 1) = depthT (.node 1 [] kk l) := by rw [depthT_node, depthT_node, ← depthL_er ks', g3, depthL_er]
  refine ⟨.node 1 [] ks' 1, ?_, by rw [erT_node, erT_node, g3]⟩
  rw [parseF_some (by omega) hs]
  unfold parseL
  rw [g2]
  have he : endF ([(⟨5, [], l', c'⟩ : Tok)], (0 : Int)) = ([⟨5, [], l', c'⟩], 0) := endF_end rfl
  dsimp only
  rw [he, if_neg (fun h => h rfl)]
  have hk : (lst ks').kids = ks' := rfl
  rw [hk, if_neg (by rw [hsz, hdp]; omega)]
theorem fmt_round {t : Tree} {x : List UInt8} (h : fmtP t = (x, 0)) : ∃ u, parseF x = (u, 0, 0) ∧ fmtP u = (x, 0) ∧ sameT u t = true := by
  unfold fmtP at h
  split at h
  rotate_left
  · cases h
  rename_i hv
  split at h
  rotate_left
  · cases h
  rename_i hlen
  rw [Prod.mk.injEq] at h
  obtain ⟨rfl, _⟩ := h
  obtain ⟨u, hp, he⟩ := parse_text hv (lines_ws t.kids [] (validP_parts hv).2.2.2.2 (fun x hx => by cases hx)) hlen
  have hvu := (parse_valid hp).1
  have hk : linesP u.kids [] = linesP t.kids [] := by rw [← linesP_er u.kids, er_kids_eq he, linesP_er]
  refine ⟨u, hp, ?_, sameT_er u t he⟩
  unfold fmtP
  rw [if_pos hvu, hk, if_pos hlen]

/-! ### Grown trees have short texts -/
theorem getD_short {L : List (List UInt8)} (h : ∀ x ∈ L, x.length ≤ 100) (n : Nat) : (L.getD n []).length ≤ 100 := by
  rw [List.getD_eq_getElem?_getD]
  cases hx : L[n]? with
  | none => simp
  | some x => simpa using h x (List.mem_of_getElem? hx)
theorem wordP_short (n : Nat) : (wordP n).length ≤ 100 := getD_short (by decide) _
theorem textE_short (K : Int) (n : Nat) : (textE K n).length ≤ 100 := by
  unfold textE
  split
  · exact getD_short (by decide) _
  split
  · exact getD_short (by decide) _
  split
  · exact getD_short (by decide) _
  split
  · exact wordP_short _
  split
  · simp
  split
  · exact getD_short (by decide) _
  split
  · exact wordP_short _
  · simp
theorem textS_short (K : Int) (n : Nat) : (textS K n).length ≤ 100 := by
  unfold textS
  split
  · exact wordP_short _
  split
  · exact getD_short (by decide) _
  split
  · exact getD_short (by decide) _
  · simp
theorem node_short {k : Int} {tx : List UInt8} {ks : List Tree} {l : Int} (h : tx.length ≤ 100) (hk : shortL ks) : shortT (.node k tx ks l) := by
  rw [shortT_node]
  exact ⟨by omega, hk⟩
theorem kidsP_short {f : List SeedP → Tree × List SeedP} (H : ∀ l, shortT (f l).1) : ∀ (q : Nat) (l : List SeedP), shortL (kidsP f q l).1
  | 0, l => sl_nil
  | q + 1, l => by rw [kidsP]; exact sl_append (kidsP_short H q l) (sl_one (H _))
theorem listP_short {f : List SeedP → Tree × List SeedP} (H : ∀ l, shortT (f l).1) : ∀ (q : Nat) (l : List SeedP), shortL (listP f q l).1
  | 0, l => sl_nil
  | q + 1, l => by
    rw [listP]
    split
    · exact listP_short H q l
    · exact sl_append (listP_short H q l) (sl_one (H _))
theorem exprP_short : ∀ (d : Nat) (l : List SeedP), shortT (exprP d l).1
  | 0, l => by rw [exprP]; exact node_short (wordP_short _) sl_nil
  | d + 1, l => by rw [exprP]; exact node_short (textE_short _ _) (kidsP_short (exprP_short d) _ _)
theorem simpleP_short (K : Int) (n : Nat) (r : List SeedP) : shortT (simpleP K n r).1 := by
  unfold simpleP
  split
  · exact node_short (textS_short _ _) (sl_one (exprP_short 4 r))
  · exact node_short (textS_short _ _) sl_nil
theorem sl_cons {t : Tree} {ts : List Tree} (h : shortT t) (g : shortL ts) : shortL (t :: ts) := by rw [shortL_cons]; exact ⟨h, g⟩
theorem ifP_short {f : List SeedP → Tree × List SeedP} (H : ∀ l, shortT (f l).1) (n : Nat) (r : List SeedP) : shortT (ifP f n r).1 := by
  have hb : ∀ q l, shortT (blkT (listP f q l).1) := fun q l => node_short (by simp) (listP_short H q l)
  unfold ifP
  dsimp only
  split
  · exact node_short (by simp) (sl_cons (exprP_short 3 r) (sl_cons (hb _ _) (sl_one (hb _ _))))
  split
  · split
    · exact node_short (by simp) (sl_cons (exprP_short 3 r) (sl_cons (hb _ _) (sl_one (H _))))
    · exact node_short (by simp) (sl_cons (exprP_short 3 r) (sl_one (hb _ _)))
  · exact node_short (by simp) (sl_cons (exprP_short 3 r) (sl_one (hb _ _)))
theorem stmtP_short : ∀ (d : Nat) (l : List SeedP), shortT (stmtP d l).1
  | 0, l => by
    rw [stmtP]
    split
    · exact node_short (by simp) sl_nil
    · exact simpleP_short _ _ _
  | d + 1, l => by
    rw [stmtP]
    split
    · exact ifP_short (stmtP_short d) _ _
    · exact simpleP_short _ _ _
theorem growP_short (l : List SeedP) : shortT (growP l) := by
  unfold growP
  exact node_short (by simp) (listP_short (stmtP_short 3) _ _)
theorem fmt_cases (t : Tree) : (∃ x, fmtP t = (x, 0)) ∨ fmtP t = ([], 5) ∨ (fmtP t = ([], 2) ∧ validP t = false) := by
  cases hv : validP t with
  | true =>
    rcases fmt_valid hv with h | h
    · exact .inl h
    · exact .inr (.inl h)
  | false =>
    refine .inr (.inr ⟨?_, rfl⟩)
    unfold fmtP
    rw [hv]
    rfl
end Go.Proofs.YtogkiifljdnjgaaDoor
