/- In plain Lean: the parser finds the tree of what the grammar derives. No condition. -/
import Derived.Test.YtogkiifljdnjgaaDoorDer
namespace Go.Proofs.YtogkiifljdnjgaaDoor
set_option linter.unusedVariables false
set_option linter.unusedSimpArgs false

theorem nxt_cons {o : Tok} {l : List Tok} (h : l ≠ []) : nxt (o :: l) = l := by
  cases l with
  | nil => exact absurd rfl h
  | cons a l => rfl
theorem app_ne {us r : List Tok} (h : r ≠ []) : us ++ r ≠ [] := fun e => h (List.append_eq_nil_iff.1 e).2
theorem split3 {us : List Tok} {a b : List KT} {h : KT} (e : us.map kt = a ++ h :: b) : ∃ ua o ub, us = ua ++ o :: ub ∧ ua.map kt = a ∧ kt o = h ∧ ub.map kt = b := by
  obtain ⟨ua, u2, rfl, h1, h2⟩ := List.map_eq_append_iff.1 e
  obtain ⟨o, ub, rfl, h3, h4⟩ := List.map_eq_cons_iff.1 h2
  exact ⟨ua, o, ub, rfl, h1, h3, h4⟩
theorem split2 {us : List Tok} {a b : List KT} (e : us.map kt = a ++ b) : ∃ ua ub, us = ua ++ ub ∧ ua.map kt = a ∧ ub.map kt = b := by
  obtain ⟨ua, u2, rfl, h1, h2⟩ := List.map_eq_append_iff.1 e
  exact ⟨ua, u2, rfl, h1, h2⟩
theorem split1 {us : List Tok} {b : List KT} {h : KT} (e : us.map kt = h :: b) : ∃ o ub, us = o :: ub ∧ kt o = h ∧ ub.map kt = b := by
  obtain ⟨o, ub, rfl, h3, h4⟩ := List.map_eq_cons_iff.1 e
  exact ⟨o, ub, rfl, h3, h4⟩
theorem isW_yes {o : Tok} {l : List Tok} {k : Int} {tx : List UInt8} (h : kt o = (k, tx)) : isW (o :: l) k tx = true := isW_kt.2 h
theorem isW_dif {o : Tok} {l : List Tok} {k k' : Int} {tx tx' : List UInt8} (h : kt o = (k, tx)) (hd : (k, tx) ≠ (k', tx')) : isW (o :: l) k' tx' = false := isW_no (by rw [show hdT (o :: l) = o from rfl, h]; exact hd)
theorem kt_kind {o : Tok} {k : Int} {tx : List UInt8} (h : kt o = (k, tx)) : o.kind = k := (Prod.mk.inj h).1
theorem kt_text {o : Tok} {k : Int} {tx : List UInt8} (h : kt o = (k, tx)) : o.text = tx := (Prod.mk.inj h).2
theorem signF_ok {o : Tok} {l : List Tok} {tx : List UInt8} (h : kt o = (4, tx)) (hl : l ≠ []) : signF tx (o :: l, 0) = (l, 0) := by
  unfold signF
  rw [if_pos (isW_yes h), nxt_cons hl]
theorem lev_hd {o : Tok} {l : List Tok} {g : KT} (h : kt o = g) : lev (o :: l) = levK g := by
  unfold lev
  rw [show hdT (o :: l) = o from rfl, h]
theorem opsF_stop {rc : Rec} {nt : NT} {kind : Int} {op : List UInt8} {k : Int} {f : Nat} {t : Tree} {r : List Tok} (h : isW r kind op = false) : opsF rc nt kind op k f t (r, 0) = (t, (r, 0)) := by
  cases f with
  | zero => rfl
  | succ f => unfold opsF; rw [if_neg (fun e => by dsimp only at e; rw [h] at e; exact absurd e.2 (by decide))]
theorem opsF_go {rc : Rec} {nt : NT} {kind : Int} {op : List UInt8} {k : Int} {f : Nat} {t y : Tree} {o : Tok} {l r : List Tok} (h : kt o = (kind, op)) (hl : l ≠ []) (hy : rc nt (l, 0) = (y, (r, 0))) :
    opsF rc nt kind op k (f + 1) t (o :: l, 0) = opsF rc nt kind op k f (binT k [] t y) (r, 0) := by
  conv => lhs; unfold opsF
  rw [if_pos ⟨rfl, isW_yes h⟩]
  dsimp only
  rw [nxt_cons hl, hy]
theorem sumF_stop {rc : Rec} {f : Nat} {t : Tree} {r : List Tok} (h : isW r 4 [43] = false) (g : isW r 4 [45] = false) : sumF rc f t (r, 0) = (t, (r, 0)) := by
  cases f with
  | zero => rfl
  | succ f => unfold sumF; rw [if_neg (fun e => e rfl), if_neg (by rw [h]; decide), if_neg (by rw [g]; decide)]
theorem sumF_go {rc : Rec} {f : Nat} {t y : Tree} {o : Tok} {l r : List Tok} (h : kt o = (4, [43])) (hl : l ≠ []) (hy : rc .prod (l, 0) = (y, (r, 0))) :
    sumF rc (f + 1) t (o :: l, 0) = sumF rc f (binT 17 [] t y) (r, 0) := by
  conv => lhs; unfold sumF
  rw [if_neg (fun e => e rfl), if_pos (isW_yes h)]
  dsimp only
  rw [nxt_cons hl, hy]
theorem sumF_go2 {rc : Rec} {f : Nat} {t y : Tree} {o : Tok} {l r : List Tok} (h : kt o = (4, [45])) (hl : l ≠ []) (hy : rc .prod (l, 0) = (y, (r, 0))) :
    sumF rc (f + 1) t (o :: l, 0) = sumF rc f (binT 18 [] t y) (r, 0) := by
  conv => lhs; unfold sumF
  rw [if_neg (fun e => e rfl), if_neg (by rw [isW_dif h (by decide)]; decide), if_pos (isW_yes h)]
  dsimp only
  rw [nxt_cons hl, hy]

def rkC : Cat → Nat
  | .args => 9 | .argl => 9 | .chosen => 9 | .expr => 8 | .conj => 7 | .neg => 6 | .comp => 5 | .sum => 4 | .prod => 3 | .atom => 2 | .stl => 2 | .stmt => 1 | .block => 1
/-- What may follow. -/
def okF : Cat → List Tok → Prop
  | .expr, r => lev r < 2
  | .conj, r | .neg, r | .comp, r => lev r < 4
  | .sum, r => lev r < 6
  | .prod, r | .atom, r => lev r < 8
  | .stl, r => (hdT r).kind = 5 ∨ isW r 4 [125] = true
  | .stmt, r | .chosen, r => isW r 1 [101, 108, 115, 101] = false
  | .args, _ | .argl, _ | .block, _ => True
def One (n : Nat) (nt : NT) (t : Tree) (s r : List Tok) : Prop := ∃ t', erT t' = erT t ∧ body (pRun n) nt (s, 0) = (t', (r, 0))
/-- What the parser does with a piece. -/
def Res : Cat → Nat → Tree → List Tok → List Tok → Prop
  | .expr, n, t, s, r => ∃ t' f, erT t' = erT t ∧ r.length ≤ f ∧ body (pRun n) .expr (s, 0) = opsF (pRun n) .conj 1 [111, 114] 13 f t' (r, 0)
  | .conj, n, t, s, r => ∃ t' f, erT t' = erT t ∧ r.length ≤ f ∧ body (pRun n) .conj (s, 0) = opsF (pRun n) .neg 1 [97, 110, 100] 14 f t' (r, 0)
  | .neg, n, t, s, r => One n .neg t s r
  | .comp, n, t, s, r => One n .comp t s r
  | .sum, n, t, s, r => ∃ t' f, erT t' = erT t ∧ r.length ≤ f ∧ body (pRun n) .sum (s, 0) = sumF (pRun n) f t' (r, 0)
  | .prod, n, t, s, r => ∃ t' f, erT t' = erT t ∧ r.length ≤ f ∧ body (pRun n) .prod (s, 0) = opsF (pRun n) .atom 4 [42] 19 f t' (r, 0)
  | .atom, n, t, s, r => One n .atom t s r
  | .args, n, t, s, r => ∃ ks, erL ks = erL t.kids ∧ body (pRun n) .args (s, 0) = (lst ks, (r, 0))
  | .argl, n, t, s, r => ∀ f acc, s.length ≤ f → ∃ ks, erL ks = erL t.kids ∧ argsF (pRun n) f acc (s, 0) = (lst (acc ++ ks), (r, 0))
  | .stl, n, t, s, r => ∀ f acc, s.length + 1 ≤ f → ∃ ks, erL ks = erL t.kids ∧ stmtsF (pRun n) f acc (s, 0) = (lst (acc ++ ks), (r, 0))
  | .stmt, n, t, s, r => One n .stmt t s r
  | .block, n, t, s, r => One n .block t s r
  | .chosen, n, t, s, r => ∀ l, One n (.chosen l) t s r
def Q (c : Cat) (ks : List KT) (t : Tree) : Prop := ∀ (n : Nat) (us r : List Tok), us.map kt = ks → r ≠ [] → 10 * (us.length + r.length) + rkC c ≤ n + 1 → okF c r → Res c n t (us ++ r) r
/-- The whole of a piece. -/
def Fin (nt : NT) (k : Nat) (ok : List Tok → Prop) (ks : List KT) (t : Tree) : Prop := ∀ (n : Nat) (us r : List Tok), us.map kt = ks → r ≠ [] → 10 * (us.length + r.length) + k ≤ n → ok r → ∃ t', erT t' = erT t ∧ pRun n nt (us ++ r, 0) = (t', (r, 0))
theorem n_pos {n k : Nat} {us r : List Tok} (hr : r ≠ []) (h : 10 * (us.length + r.length) + k ≤ n) : ∃ m, n = m + 1 := by
  have := List.length_pos_iff.2 hr
  exact ⟨n - 1, by omega⟩
theorem fin_expr {ks : List KT} {t : Tree} (h : Q .expr ks t) : Fin .expr 8 (fun r => lev r < 1) ks t := by
  intro n us r hu hr hn hf
  obtain ⟨m, rfl⟩ := n_pos hr hn
  obtain ⟨t', f, h1, h2, h3⟩ := h m us r hu hr hn (show lev r < 2 by have := hf; omega)
  exact ⟨t', h1, by show body (pRun m) .expr _ = _; rw [h3, opsF_stop (isW_lev hf (by decide))]⟩
theorem fin_conj {ks : List KT} {t : Tree} (h : Q .conj ks t) : Fin .conj 7 (fun r => lev r < 2) ks t := by
  intro n us r hu hr hn hf
  obtain ⟨m, rfl⟩ := n_pos hr hn
  obtain ⟨t', f, h1, h2, h3⟩ := h m us r hu hr hn (show lev r < 4 by have := hf; omega)
  exact ⟨t', h1, by show body (pRun m) .conj _ = _; rw [h3, opsF_stop (isW_lev hf (by decide))]⟩
theorem fin_neg {ks : List KT} {t : Tree} (h : Q .neg ks t) : Fin .neg 6 (fun r => lev r < 4) ks t := by
  intro n us r hu hr hn hf
  obtain ⟨m, rfl⟩ := n_pos hr hn
  exact h m us r hu hr hn hf
theorem fin_comp {ks : List KT} {t : Tree} (h : Q .comp ks t) : Fin .comp 5 (fun r => lev r < 4) ks t := by
  intro n us r hu hr hn hf
  obtain ⟨m, rfl⟩ := n_pos hr hn
  exact h m us r hu hr hn hf
theorem fin_sum {ks : List KT} {t : Tree} (h : Q .sum ks t) : Fin .sum 4 (fun r => lev r < 5) ks t := by
  intro n us r hu hr hn hf
  obtain ⟨m, rfl⟩ := n_pos hr hn
  obtain ⟨t', f, h1, h2, h3⟩ := h m us r hu hr hn (show lev r < 6 by have := hf; omega)
  exact ⟨t', h1, by show body (pRun m) .sum _ = _; rw [h3, sumF_stop (isW_lev hf (by decide)) (isW_lev hf (by decide))]⟩
theorem fin_prod {ks : List KT} {t : Tree} (h : Q .prod ks t) : Fin .prod 3 (fun r => lev r < 6) ks t := by
  intro n us r hu hr hn hf
  obtain ⟨m, rfl⟩ := n_pos hr hn
  obtain ⟨t', f, h1, h2, h3⟩ := h m us r hu hr hn (show lev r < 8 by have := hf; omega)
  exact ⟨t', h1, by show body (pRun m) .prod _ = _; rw [h3, opsF_stop (isW_lev hf (by decide))]⟩
theorem fin_atom {ks : List KT} {t : Tree} (h : Q .atom ks t) : Fin .atom 2 (fun r => lev r < 8) ks t := by
  intro n us r hu hr hn hf
  obtain ⟨m, rfl⟩ := n_pos hr hn
  exact h m us r hu hr hn hf
theorem fin_args {ks : List KT} {t : Tree} (h : Q .args ks t) (n : Nat) (us r : List Tok) (hu : us.map kt = ks) (hr : r ≠ []) (hn : 10 * (us.length + r.length) + 9 ≤ n) : ∃ ks', erL ks' = erL t.kids ∧ pRun n .args (us ++ r, 0) = (lst ks', (r, 0)) := by
  obtain ⟨m, rfl⟩ := n_pos hr hn
  exact h m us r hu hr hn trivial
theorem fin_stmt {ks : List KT} {t : Tree} (h : Q .stmt ks t) : Fin .stmt 1 (fun r => isW r 1 [101, 108, 115, 101] = false) ks t := by
  intro n us r hu hr hn hf
  obtain ⟨m, rfl⟩ := n_pos hr hn
  exact h m us r hu hr hn hf
theorem fin_block {ks : List KT} {t : Tree} (h : Q .block ks t) : Fin .block 1 (fun _ => True) ks t := by
  intro n us r hu hr hn hf
  obtain ⟨m, rfl⟩ := n_pos hr hn
  exact h m us r hu hr hn hf
theorem fin_chosen {ks : List KT} {t : Tree} (h : Q .chosen ks t) (l : Int) : Fin (.chosen l) 9 (fun r => isW r 1 [101, 108, 115, 101] = false) ks t := by
  intro n us r hu hr hn hf
  obtain ⟨m, rfl⟩ := n_pos hr hn
  exact h m us r hu hr hn hf l
theorem fin_stl {ks : List KT} {t : Tree} (h : Q .stl ks t) (n : Nat) (us r : List Tok) (hu : us.map kt = ks) (hr : r ≠ []) (hn : 10 * (us.length + r.length) + 2 ≤ n) (hf : okF .stl r) : ∃ ks', erL ks' = erL t.kids ∧ pRun n .stmts (us ++ r, 0) = (lst ks', (r, 0)) := by
  obtain ⟨m, rfl⟩ := n_pos hr hn
  obtain ⟨ks', h1, h2⟩ := h m us r hu hr hn hf ((us ++ r).length + 1) [] (Nat.le_refl _)
  exact ⟨ks', h1, by show stmtsF _ _ _ _ = _; rw [h2, List.nil_append]⟩
/-- A value behind a sign. -/
theorem fin_value {a : List KT} {x : Tree} (h : Q .expr a x) (n : Nat) (o p : Tok) (us r : List Tok) (sg : List UInt8) (ho : kt o = (4, sg)) (hp : kt p = (4, [59])) (hu : us.map kt = a) (hs : sg ≠ []) (hr : r ≠ []) (hn : 10 * (us.length + r.length) + 20 ≤ n) :
    ∃ x', erT x' = erT x ∧ pRun n (.value sg) (o :: (us ++ p :: r), 0) = (lst [x'], (r, 0)) := by
  obtain ⟨m, rfl⟩ : ∃ m, n = m + 1 := ⟨n - 1, by omega⟩
  obtain ⟨x', e, hx⟩ := fin_expr h m us (p :: r) hu (by simp) (by simp only [List.length_cons]; omega) (by show lev _ < 1; rw [lev_hd hp]; decide)
  refine ⟨x', e, ?_⟩
  show valueB (pRun m) sg _ = _
  unfold valueB
  rw [if_neg hs, signF_ok ho (by simp)]
  dsimp only
  rw [if_neg (fun e => e rfl), hx]
  dsimp only
  rw [if_pos rfl, signF_ok hp hr]
theorem fin_value0 {a : List KT} {x : Tree} (h : Q .expr a x) (n : Nat) (p : Tok) (us r : List Tok) (hp : kt p = (4, [59])) (hu : us.map kt = a) (hr : r ≠ []) (hn : 10 * (us.length + r.length) + 20 ≤ n) :
    ∃ x', erT x' = erT x ∧ pRun n (.value []) (us ++ p :: r, 0) = (lst [x'], (r, 0)) := by
  obtain ⟨m, rfl⟩ : ∃ m, n = m + 1 := ⟨n - 1, by omega⟩
  obtain ⟨x', e, hx⟩ := fin_expr h m us (p :: r) hu (by simp) (by simp only [List.length_cons]; omega) (by show lev _ < 1; rw [lev_hd hp]; decide)
  refine ⟨x', e, ?_⟩
  show body (pRun m) (.value []) (us ++ p :: r, 0) = _
  show valueB (pRun m) [] (us ++ p :: r, 0) = _
  unfold valueB
  rw [if_pos rfl]
  dsimp only
  rw [if_neg (fun e => e rfl), hx]
  dsimp only
  rw [if_pos rfl, signF_ok hp hr]
theorem aHead_not {g : KT} (h : aHead g) : g ≠ (1, [110, 111, 116]) := by
  rintro rfl
  rcases h with h | h | ⟨_, h | h | h⟩ | h
  · exact absurd h (by decide)
  · exact absurd h (by decide)
  · exact absurd h (by decide)
  · exact absurd h (by decide)
  · exact absurd (show ([110, 111, 116] : List UInt8) ∈ kws by decide) h
  · exact absurd h (by decide)
theorem eHead_par {g : KT} (h : aHead g ∨ g = (1, [110, 111, 116])) : g ≠ (4, [41]) := by
  rintro rfl
  rcases h with (h | h | ⟨h, _⟩ | h) | h <;> exact absurd h (by decide)
theorem erT_bin {k : Int} {tx : List UInt8} {x y x' y' : Tree} {l : Int} (h : erT x' = erT x) (g : erT y' = erT y) : erT (binT k tx x' y') = erT (.node k tx [x, y] l) := by
  unfold binT
  simp only [erT_node, erL_cons, erL_nil, h, g]
theorem der_stl {b : List KT} {y : Tree} (h : Der .stl b y) : b = [] ∨ ∃ g r, b = g :: r ∧ headC .stmt g := by
  cases h with
  | t0 => exact .inl rfl
  | t1 h1 h2 =>
    obtain ⟨g, r, rfl, hg⟩ := der_head h1 nofun
    exact .inr ⟨g, _, rfl, hg⟩
end Go.Proofs.YtogkiifljdnjgaaDoor
