/- In plain Lean: a text with a valid tree's tokens is parsed to that tree. Conditions: as each says. -/
import Derived.Test.YtogkiifljdnjgaaDoorDer
import Derived.Test.YtogkiifljdnjgaaDoorCan
namespace Go.Proofs.YtogkiifljdnjgaaDoor
set_option linter.unusedVariables false
set_option linter.unusedSimpArgs false

mutual
theorem sizeT_er : ∀ t : Tree, sizeT (erT t) = sizeT t
  | .node k tx ks l => by rw [erT_node, sizeT_node, sizeT_node, sizeL_er ks]
theorem sizeL_er : ∀ ts : List Tree, sizeL (erL ts) = sizeL ts
  | [] => by rw [erL_nil]
  | t :: ts => by rw [erL_cons, sizeL_cons, sizeL_cons, sizeT_er t, sizeL_er ts]
end
mutual
theorem depthT_er : ∀ t : Tree, depthT (erT t) = depthT t
  | .node k tx ks l => by rw [erT_node, depthT_node, depthT_node, depthL_er ks]
theorem depthL_er : ∀ ts : List Tree, depthL (erL ts) = depthL ts
  | [] => by rw [erL_nil]
  | t :: ts => by rw [erL_cons, depthL_cons, depthL_cons, depthT_er t, depthL_er ts]
end
theorem erL_len : ∀ ts : List Tree, (erL ts).length = ts.length
  | [] => by rw [erL_nil]
  | t :: ts => by rw [erL_cons, List.length_cons, List.length_cons, erL_len ts]
theorem er_kind (t : Tree) : (erT t).kind = t.kind := by
  obtain ⟨k, tx, ks, l⟩ := t
  rw [erT_node]; rfl
mutual
theorem sameT_er : ∀ t u : Tree, erT t = erT u → sameT t u = true
  | .node k tx ks l, .node k' tx' ks' l', h => by
    rw [erT_node, erT_node] at h
    simp only [Tree.node.injEq, and_true] at h
    obtain ⟨rfl, rfl, h3⟩ := h
    have hl := congrArg List.length h3
    rw [erL_len, erL_len] at hl
    rw [sameT_node, sameL_er ks ks' h3, hl]
    simp
theorem sameL_er : ∀ ts us : List Tree, erL ts = erL us → sameL ts us = true
  | [], us, _ => sameL_nil us
  | t :: ts, [], h => by rw [erL_cons, erL_nil] at h; cases h
  | t :: ts, u :: us, h => by
    rw [erL_cons, erL_cons] at h
    obtain ⟨h1, h2⟩ := List.cons.inj h
    rw [sameL_cons, sameT_er t u h1, sameL_er ts us h2]
    rfl
end
mutual
theorem writP_er : ∀ t : Tree, writP (erT t) = writP t
  | .node k tx ks l => by rw [erT_node, writP_node, writP_node, writL_er ks]
theorem writL_er : ∀ ts : List Tree, writL (erL ts) = writL ts
  | [] => by rw [erL_nil]
  | t :: ts => by rw [erL_cons, writL_cons, writL_cons, er_kind, writP_er t, writL_er ts]
end
mutual
theorem lineP_er : ∀ (t : Tree) (bl : List UInt8), lineP (erT t) bl = lineP t bl
  | .node k tx [] l, bl => by rw [erT_node, erL_nil, lineP_0, lineP_0]
  | .node k tx [e] l, bl => by rw [erT_node, erL_cons, erL_nil, lineP_1, lineP_1, writP_er e]
  | .node k tx [e, b] l, bl => by rw [erT_node, erL_cons, erL_cons, erL_nil, lineP_2, lineP_2, writP_er e, braceP_er b bl]
  | .node k tx [e, b, x] l, bl => by rw [erT_node, erL_cons, erL_cons, erL_cons, erL_nil, lineP_3, lineP_3, writP_er e, braceP_er b bl, er_kind, lineP_er x bl, braceP_er x bl]
  | .node k tx (a :: b :: c :: d :: r) l, bl => by rw [erT_node, erL_cons, erL_cons, erL_cons, erL_cons, lineP, lineP]
theorem braceP_er : ∀ (t : Tree) (bl : List UInt8), braceP (erT t) bl = braceP t bl
  | .node k tx ks l, bl => by rw [erT_node, braceP_node, braceP_node, linesP_er ks]
theorem linesP_er : ∀ (ts : List Tree) (bl : List UInt8), linesP (erL ts) bl = linesP ts bl
  | [], bl => by rw [erL_nil]
  | t :: ts, bl => by rw [erL_cons, linesP_cons, linesP_cons, lineP_er t bl, linesP_er ts bl]
end
theorem validP_parts {t : Tree} (h : validP t = true) : t.kind = 1 ∧ t.text = [] ∧ sizeT t ≤ 512 ∧ depthT t ≤ 32 ∧ stsOK t.kids = true := by
  obtain ⟨k, tx, ks, l⟩ := t
  rw [validP_node] at h
  simp only [Bool.and_eq_true, decide_eq_true_eq] at h
  exact ⟨h.1.1, h.1.2.1, h.1.2.2.1, h.1.2.2.2, h.2⟩
/-- A text with a valid tree's tokens is parsed to that tree. -/
theorem parse_text {S : List UInt8} {t : Tree} (ht : validP t = true) (hw : WS .stl S (lst t.kids)) (hS : S.length ≤ 4096) : ∃ u, parseF S = (u, 0, 0) ∧ erT u = erT t := by
  obtain ⟨ks, hd, hl⟩ := hw
  obtain ⟨us, l', c', e1, e2⟩ := hl [] 1 1 (fun x hx => by cases hx)
  have hz : splitS [] 0 l' c' = some [⟨5, [], l', c'⟩] := by simp only [splitS]
  rw [List.append_nil, hz] at e2
  have hs : splitT S = some (us ++ [⟨5, [], l', c'⟩]) := e2
  obtain ⟨ks', g1, g2⟩ := parse_der hd us ⟨5, [], l', c'⟩ e1 rfl
  obtain ⟨v1, v2, v3, v4, v5⟩ := validP_parts ht
  obtain ⟨k, tx, kk, l⟩ := t
  simp only [Tree.kind, Tree.text] at v1 v2
  subst v1; subst v2
  have g3 : erL ks' = erL kk := g1
  have hsz : sizeT (.node 1 [] ks' 1) = sizeT (.node 1 [] kk l) := by rw [sizeT_node, sizeT_node, ← sizeL_er ks', g3, sizeL_er]
  have hdp : depthT (.node 1 [] ks' 1) = depthT (.node 1 [] kk l) := by rw [depthT_node, depthT_node, ← depthL_er ks', g3, depthL_er]
  refine ⟨.node 1 [] ks' 1, ?_, by rw [erT_node, erT_node, g3]⟩
  rw [parseF_some (by omega) hs]
  unfold parseL
  rw [g2]
  have he : endF ([(⟨5, [], l', c'⟩ : Tok)], (0 : Int)) = ([⟨5, [], l', c'⟩], 0) := endF_end rfl
  dsimp only
  rw [he, if_neg (fun h => h rfl)]
  have hk : (lst ks').kids = ks' := rfl
  rw [hk, if_neg (by rw [hsz, hdp]; omega)]
end Go.Proofs.YtogkiifljdnjgaaDoor
