/- In plain Lean: the grammar as a relation between tokens and trees; whatever it derives, the parser reads. No condition. -/
import Derived.Test.YtogkiifljdnjgaaDoorLexP
namespace Go.Proofs.YtogkiifljdnjgaaDoor
set_option linter.unusedVariables false
set_option linter.unusedSimpArgs false

mutual
/-- A tree without its lines. -/
def erT : Tree → Tree
  | .node k tx ks _ => .node k tx (erL ks) 0
def erL : List Tree → List Tree
  | [] => []
  | t :: ts => erT t :: erL ts
end
theorem erT_node {k : Int} {tx : List UInt8} {ks : List Tree} {l : Int} : erT (.node k tx ks l) = .node k tx (erL ks) 0 := by rw [erT]
theorem erL_nil : erL [] = [] := by rw [erL]
theorem erL_cons {t : Tree} {ts : List Tree} : erL (t :: ts) = erT t :: erL ts := by rw [erL]
theorem erL_append : ∀ (xs ys : List Tree), erL (xs ++ ys) = erL xs ++ erL ys
  | [], ys => by rw [erL_nil]; rfl
  | x :: xs, ys => by rw [List.cons_append, erL_cons, erL_cons, erL_append xs ys]; rfl
theorem er_kids {t : Tree} : (erT t).kids = erL t.kids := by
  obtain ⟨k, tx, ks, l⟩ := t
  rw [erT_node]; rfl
theorem er_kids_eq {t u : Tree} (h : erT t = erT u) : erL t.kids = erL u.kids := by rw [← er_kids, ← er_kids, h]

inductive Cat | expr | conj | neg | comp | sum | prod | atom | args | argl | stl | stmt | block | chosen
/-- The tokens of a piece, and its tree. -/
inductive Der : Cat → List KT → Tree → Prop
  | e1 {a x} : Der .conj a x → Der .expr a x
  | e2 {a b x y l} : Der .expr a x → Der .conj b y → Der .expr (a ++ (1, [111, 114]) :: b) (.node 13 [] [x, y] l)
  | c1 {a x} : Der .neg a x → Der .conj a x
  | c2 {a b x y l} : Der .conj a x → Der .neg b y → Der .conj (a ++ (1, [97, 110, 100]) :: b) (.node 14 [] [x, y] l)
  | n1 {a x} : Der .comp a x → Der .neg a x
  | n2 {a x l} : Der .neg a x → Der .neg ((1, [110, 111, 116]) :: a) (.node 15 [] [x] l)
  | m1 {a x} : Der .sum a x → Der .comp a x
  | m2 {a b x y l} {k : Int} {tx : List UInt8} : cmpW k tx = true → Der .sum a x → Der .sum b y → Der .comp (a ++ (k, tx) :: b) (.node 16 tx [x, y] l)
  | s1 {a x} : Der .prod a x → Der .sum a x
  | s2 {a b x y l} : Der .sum a x → Der .prod b y → Der .sum (a ++ (4, [43]) :: b) (.node 17 [] [x, y] l)
  | s3 {a b x y l} : Der .sum a x → Der .prod b y → Der .sum (a ++ (4, [45]) :: b) (.node 18 [] [x, y] l)
  | p1 {a x} : Der .atom a x → Der .prod a x
  | p2 {a b x y l} : Der .prod a x → Der .atom b y → Der .prod (a ++ (4, [42]) :: b) (.node 19 [] [x, y] l)
  | num {tx l} : Der .atom [(2, tx)] (.node 20 tx [] l)
  | str {tx l} : Der .atom [(3, tx)] (.node 21 tx [] l)
  | boo {tx l} : tx = [116, 114, 117, 101] ∨ tx = [102, 97, 108, 115, 101] → Der .atom [(1, tx)] (.node 22 tx [] l)
  | nam {tx l} : tx ∉ kws → Der .atom [(1, tx)] (.node 23 tx [] l)
  | call {tx a x l} : tx ∉ kws → Der .args a x → Der .atom ((1, tx) :: (4, [40]) :: a) (.node 24 tx x.kids l)
  | par {a x} : Der .expr a x → Der .atom ((4, [40]) :: (a ++ [(4, [41])])) x
  | a0 : Der .args [(4, [41])] (lst [])
  | a1 {a x} : Der .argl a x → Der .args a x
  | l1 {a x} : Der .expr a x → Der .argl (a ++ [(4, [41])]) (lst [x])
  | l2 {a b x y} : Der .expr a x → Der .argl b y → Der .argl (a ++ (4, [44]) :: b) (lst (x :: y.kids))
  | t0 : Der .stl [] (lst [])
  | t1 {a b x y} : Der .stmt a x → Der .stl b y → Der .stl (a ++ b) (lst (x :: y.kids))
  | sif {a x} : Der .chosen a x → Der .stmt ((1, [105, 102]) :: a) x
  | slet {a x l} {nm : List UInt8} : nm ∉ kws → Der .expr a x → Der .stmt ((1, [108, 101, 116]) :: (1, nm) :: (4, [61]) :: (a ++ [(4, [59])])) (.node 3 nm [x] l)
  | sset {a x l} {nm : List UInt8} : nm = [112, 97, 116, 104] ∨ nm = [113, 117, 101, 114, 121] → Der .expr a x → Der .stmt ((1, nm) :: (4, [61]) :: (a ++ [(4, [59])])) (.node 4 nm [x] l)
  | shdr {a x l} {tx : List UInt8} : Der .expr a x → Der .stmt ((1, [104, 101, 97, 100, 101, 114]) :: (3, tx) :: (4, [61]) :: (a ++ [(4, [59])])) (.node 5 tx [x] l)
  | svry {l} {tx : List UInt8} : Der .stmt [(1, [118, 97, 114, 121]), (3, tx), (4, [59])] (.node 6 tx [] l)
  | stag {a x l} : Der .expr a x → Der .stmt ((1, [116, 97, 103]) :: (a ++ [(4, [59])])) (.node 7 [] [x] l)
  | sttl {a x l} : Der .expr a x → Der .stmt ((1, [116, 116, 108]) :: (a ++ [(4, [59])])) (.node 8 [] [x] l)
  | sdny {a x l} : Der .expr a x → Der .stmt ((1, [100, 101, 110, 121]) :: (a ++ [(4, [59])])) (.node 9 [] [x] l)
  | spas {l} : Der .stmt [(1, [112, 97, 115, 115]), (4, [59])] (.node 10 [] [] l)
  | stok {l} : Der .stmt [(1, [116, 111, 107, 101, 110]), (4, [59])] (.node 11 [] [] l)
  | blk {a x l} : Der .stl a x → Der .block ((4, [123]) :: (a ++ [(4, [125])])) (.node 12 [] x.kids l)
  | ch2 {a b x y l} : Der .expr a x → Der .block b y → Der .chosen (a ++ b) (.node 2 [] [x, y] l)
  | chb {a b c x y z l} : Der .expr a x → Der .block b y → Der .block c z → Der .chosen (a ++ (b ++ (1, [101, 108, 115, 101]) :: c)) (.node 2 [] [x, y, z] l)
  | chc {a b c x y z l} : Der .expr a x → Der .block b y → Der .chosen c z → Der .chosen (a ++ (b ++ (1, [101, 108, 115, 101]) :: (1, [105, 102]) :: c)) (.node 2 [] [x, y, z] l)

/-- How a piece begins. -/
def aHead (h : KT) : Prop := h.1 = 2 ∨ h.1 = 3 ∨ (h.1 = 1 ∧ (h.2 = [116, 114, 117, 101] ∨ h.2 = [102, 97, 108, 115, 101] ∨ h.2 ∉ kws)) ∨ h = (4, [40])
def headC : Cat → KT → Prop
  | .comp, h | .sum, h | .prod, h | .atom, h => aHead h
  | .expr, h | .conj, h | .neg, h | .argl, h | .chosen, h => aHead h ∨ h = (1, [110, 111, 116])
  | .stmt, h => h.1 = 1 ∧ h.2 ≠ [101, 108, 115, 101]
  | .block, h => h = (4, [123])
  | _, _ => True
theorem der_head {c : Cat} {ks : List KT} {t : Tree} (h : Der c ks t) : c ≠ .stl → ∃ g r, ks = g :: r ∧ headC c g := by
  induction h with
  | e1 _ ih => exact fun _ => ih nofun
  | e2 _ _ ih _ => intro _; obtain ⟨g, r, rfl, hg⟩ := ih nofun; exact ⟨g, _, rfl, hg⟩
  | c1 _ ih => exact fun _ => ih nofun
  | c2 _ _ ih _ => intro _; obtain ⟨g, r, rfl, hg⟩ := ih nofun; exact ⟨g, _, rfl, hg⟩
  | n1 _ ih => intro _; obtain ⟨g, r, rfl, hg⟩ := ih nofun; exact ⟨g, _, rfl, .inl hg⟩
  | n2 _ _ => exact fun _ => ⟨_, _, rfl, .inr rfl⟩
  | m1 _ ih => exact fun _ => ih nofun
  | m2 _ _ _ ih _ => intro _; obtain ⟨g, r, rfl, hg⟩ := ih nofun; exact ⟨g, _, rfl, hg⟩
  | s1 _ ih => exact fun _ => ih nofun
  | s2 _ _ ih _ => intro _; obtain ⟨g, r, rfl, hg⟩ := ih nofun; exact ⟨g, _, rfl, hg⟩
  | s3 _ _ ih _ => intro _; obtain ⟨g, r, rfl, hg⟩ := ih nofun; exact ⟨g, _, rfl, hg⟩
  | p1 _ ih => exact fun _ => ih nofun
  | p2 _ _ ih _ => intro _; obtain ⟨g, r, rfl, hg⟩ := ih nofun; exact ⟨g, _, rfl, hg⟩
  | num => exact fun _ => ⟨_, _, rfl, .inl rfl⟩
  | str => exact fun _ => ⟨_, _, rfl, .inr (.inl rfl)⟩
  | boo h => exact fun _ => ⟨_, _, rfl, .inr (.inr (.inl ⟨rfl, h.elim .inl (fun e => .inr (.inl e))⟩))⟩
  | nam h => exact fun _ => ⟨_, _, rfl, .inr (.inr (.inl ⟨rfl, .inr (.inr h)⟩))⟩
  | call h _ _ => exact fun _ => ⟨_, _, rfl, .inr (.inr (.inl ⟨rfl, .inr (.inr h)⟩))⟩
  | par _ _ => exact fun _ => ⟨_, _, rfl, .inr (.inr (.inr rfl))⟩
  | a0 => exact fun _ => ⟨_, _, rfl, trivial⟩
  | a1 _ ih => intro _; obtain ⟨g, r, rfl, hg⟩ := ih nofun; exact ⟨g, _, rfl, trivial⟩
  | l1 _ ih => intro _; obtain ⟨g, r, rfl, hg⟩ := ih nofun; exact ⟨g, _, rfl, hg⟩
  | l2 _ _ ih _ => intro _; obtain ⟨g, r, rfl, hg⟩ := ih nofun; exact ⟨g, _, rfl, hg⟩
  | t0 => exact fun h => absurd rfl h
  | t1 _ _ _ _ => exact fun h => absurd rfl h
  | sif _ _ => exact fun _ => ⟨_, _, rfl, rfl, by decide⟩
  | slet _ _ _ => exact fun _ => ⟨_, _, rfl, rfl, by decide⟩
  | sset h _ _ => exact fun _ => ⟨_, _, rfl, rfl, by rcases h with rfl | rfl <;> decide⟩
  | shdr _ _ => exact fun _ => ⟨_, _, rfl, rfl, by decide⟩
  | svry => exact fun _ => ⟨_, _, rfl, rfl, by decide⟩
  | stag _ _ => exact fun _ => ⟨_, _, rfl, rfl, by decide⟩
  | sttl _ _ => exact fun _ => ⟨_, _, rfl, rfl, by decide⟩
  | sdny _ _ => exact fun _ => ⟨_, _, rfl, rfl, by decide⟩
  | spas => exact fun _ => ⟨_, _, rfl, rfl, by decide⟩
  | stok => exact fun _ => ⟨_, _, rfl, rfl, by decide⟩
  | blk _ _ => exact fun _ => ⟨_, _, rfl, rfl⟩
  | ch2 _ _ ih _ => intro _; obtain ⟨g, r, rfl, hg⟩ := ih nofun; exact ⟨g, _, rfl, hg⟩
  | chb _ _ _ ih _ _ => intro _; obtain ⟨g, r, rfl, hg⟩ := ih nofun; exact ⟨g, _, rfl, hg⟩
  | chc _ _ _ ih _ _ => intro _; obtain ⟨g, r, rfl, hg⟩ := ih nofun; exact ⟨g, _, rfl, hg⟩

/-- How tightly a token binds as an operator. -/
def levK (h : KT) : Nat := if h = (1, [111, 114]) then 1 else if h = (1, [97, 110, 100]) then 2 else if cmpW h.1 h.2 = true then 4 else if h = (4, [43]) ∨ h = (4, [45]) then 5 else if h = (4, [42]) then 6 else if h = (4, [40]) then 8 else 0
def lev (r : List Tok) : Nat := levK (kt (hdT r))
theorem isW_kt {r : List Tok} {k : Int} {tx : List UInt8} : isW r k tx = true ↔ kt (hdT r) = (k, tx) := by
  unfold isW kt
  rw [Bool.and_eq_true, beq_iff_eq, beq_iff_eq, Prod.mk.injEq]
theorem isW_lev {r : List Tok} {k : Int} {tx : List UInt8} {n : Nat} (h : lev r < n) (hn : n ≤ levK (k, tx)) : isW r k tx = false := by
  rw [Bool.eq_false_iff]
  intro e
  rw [isW_kt] at e
  unfold lev at h
  rw [e] at h
  omega
theorem isW_no {r : List Tok} {k : Int} {tx : List UInt8} (h : kt (hdT r) ≠ (k, tx)) : isW r k tx = false := by
  rw [Bool.eq_false_iff]
  exact fun e => h (isW_kt.1 e)
theorem cmp_lev {r : List Tok} (h : lev r < 4) : cmpW (hdT r).kind (hdT r).text = false := by
  rw [Bool.eq_false_iff]
  intro e
  have : levK (kt (hdT r)) ≤ 3 := by unfold lev at h; omega
  unfold levK kt at this
  dsimp only at this
  split at this
  · rename_i h1
    rw [Prod.mk.injEq] at h1
    rw [h1.1, h1.2] at e
    revert e
    decide
  · split at this
    · rename_i h1
      rw [Prod.mk.injEq] at h1
      rw [h1.1, h1.2] at e
      revert e
      decide
    · simp [e] at this
theorem lev_cmp {r : List Tok} {k : Int} {tx : List UInt8} (h : kt (hdT r) = (k, tx)) (hc : cmpW k tx = true) : lev r = 4 := by
  unfold lev levK
  rw [h]
  dsimp only
  rw [if_neg, if_neg, if_pos hc]
  · rintro e
    rw [Prod.mk.injEq] at e
    rw [e.1, e.2] at hc
    revert hc
    decide
  · rintro e
    rw [Prod.mk.injEq] at e
    rw [e.1, e.2] at hc
    revert hc
    decide
end Go.Proofs.YtogkiifljdnjgaaDoor

namespace Go.Proofs.YtogkiifljdnjgaaDoor
set_option linter.unusedVariables false
set_option linter.unusedSimpArgs false

theorem nxt_cons {o : Tok} {l : List Tok} (h : l ≠ []) : nxt (o :: l) = l := by
  cases l with
  | nil => exact absurd rfl h
  | cons a l => rfl
theorem app_ne {us r : List Tok} (h : r ≠ []) : us ++ r ≠ [] := fun e => h (List.append_eq_nil_iff.1 e).2
theorem split3 {us : List Tok} {a b : List KT} {h : KT} (e : us.map kt = a ++ h :: b) : ∃ ua o ub, us = ua ++ o :: ub ∧ ua.map kt = a ∧ kt o = h ∧ ub.map kt = b := by
  obtain ⟨ua, u2, rfl, h1, h2⟩ := List.map_eq_append_iff.1 e
  obtain ⟨o, ub, rfl, h3, h4⟩ := List.map_eq_cons_iff.1 h2
  exact ⟨ua, o, ub, rfl, h1, h3, h4⟩
theorem split2 {us : List Tok} {a b : List KT} (e : us.map kt = a ++ b) : ∃ ua ub, us = ua ++ ub ∧ ua.map kt = a ∧ ub.map kt = b := by
  obtain ⟨ua, u2, rfl, h1, h2⟩ := List.map_eq_append_iff.1 e
  exact ⟨ua, u2, rfl, h1, h2⟩
theorem split1 {us : List Tok} {b : List KT} {h : KT} (e : us.map kt = h :: b) : ∃ o ub, us = o :: ub ∧ kt o = h ∧ ub.map kt = b := by
  obtain ⟨o, ub, rfl, h3, h4⟩ := List.map_eq_cons_iff.1 e
  exact ⟨o, ub, rfl, h3, h4⟩
theorem isW_yes {o : Tok} {l : List Tok} {k : Int} {tx : List UInt8} (h : kt o = (k, tx)) : isW (o :: l) k tx = true := isW_kt.2 h
theorem isW_dif {o : Tok} {l : List Tok} {k k' : Int} {tx tx' : List UInt8} (h : kt o = (k, tx)) (hd : (k, tx) ≠ (k', tx')) : isW (o :: l) k' tx' = false := isW_no (by rw [show hdT (o :: l) = o from rfl, h]; exact hd)
theorem kt_kind {o : Tok} {k : Int} {tx : List UInt8} (h : kt o = (k, tx)) : o.kind = k := (Prod.mk.inj h).1
theorem kt_text {o : Tok} {k : Int} {tx : List UInt8} (h : kt o = (k, tx)) : o.text = tx := (Prod.mk.inj h).2
theorem signF_ok {o : Tok} {l : List Tok} {tx : List UInt8} (h : kt o = (4, tx)) (hl : l ≠ []) : signF tx (o :: l, 0) = (l, 0) := by
  unfold signF
  rw [if_pos (isW_yes h), nxt_cons hl]
theorem lev_hd {o : Tok} {l : List Tok} {g : KT} (h : kt o = g) : lev (o :: l) = levK g := by
  unfold lev
  rw [show hdT (o :: l) = o from rfl, h]
theorem opsF_stop {rc : Rec} {nt : NT} {kind : Int} {op : List UInt8} {k : Int} {f : Nat} {t : Tree} {r : List Tok} (h : isW r kind op = false) : opsF rc nt kind op k f t (r, 0) = (t, (r, 0)) := by
  cases f with
  | zero => rfl
  | succ f => unfold opsF; rw [if_neg (fun e => by dsimp only at e; rw [h] at e; exact absurd e.2 (by decide))]
theorem opsF_go {rc : Rec} {nt : NT} {kind : Int} {op : List UInt8} {k : Int} {f : Nat} {t y : Tree} {o : Tok} {l r : List Tok} (h : kt o = (kind, op)) (hl : l ≠ []) (hy : rc nt (l, 0) = (y, (r, 0))) :
    opsF rc nt kind op k (f + 1) t (o :: l, 0) = opsF rc nt kind op k f (binT k [] t y) (r, 0) := by
  conv => lhs; unfold opsF
  rw [if_pos ⟨rfl, isW_yes h⟩]
  dsimp only
  rw [nxt_cons hl, hy]
theorem sumF_stop {rc : Rec} {f : Nat} {t : Tree} {r : List Tok} (h : isW r 4 [43] = false) (g : isW r 4 [45] = false) : sumF rc f t (r, 0) = (t, (r, 0)) := by
  cases f with
  | zero => rfl
  | succ f => unfold sumF; rw [if_neg (fun e => e rfl), if_neg (by rw [h]; decide), if_neg (by rw [g]; decide)]
theorem sumF_go {rc : Rec} {f : Nat} {t y : Tree} {o : Tok} {l r : List Tok} (h : kt o = (4, [43])) (hl : l ≠ []) (hy : rc .prod (l, 0) = (y, (r, 0))) :
    sumF rc (f + 1) t (o :: l, 0) = sumF rc f (binT 17 [] t y) (r, 0) := by
  conv => lhs; unfold sumF
  rw [if_neg (fun e => e rfl), if_pos (isW_yes h)]
  dsimp only
  rw [nxt_cons hl, hy]
theorem sumF_go2 {rc : Rec} {f : Nat} {t y : Tree} {o : Tok} {l r : List Tok} (h : kt o = (4, [45])) (hl : l ≠ []) (hy : rc .prod (l, 0) = (y, (r, 0))) :
    sumF rc (f + 1) t (o :: l, 0) = sumF rc f (binT 18 [] t y) (r, 0) := by
  conv => lhs; unfold sumF
  rw [if_neg (fun e => e rfl), if_neg (by rw [isW_dif h (by decide)]; decide), if_pos (isW_yes h)]
  dsimp only
  rw [nxt_cons hl, hy]

def rkC : Cat → Nat
  | .args => 9 | .argl => 9 | .chosen => 9 | .expr => 8 | .conj => 7 | .neg => 6 | .comp => 5 | .sum => 4 | .prod => 3 | .atom => 2 | .stl => 2 | .stmt => 1 | .block => 1
/-- What may follow. -/
def okF : Cat → List Tok → Prop
  | .expr, r => lev r < 2
  | .conj, r | .neg, r | .comp, r => lev r < 4
  | .sum, r => lev r < 6
  | .prod, r | .atom, r => lev r < 8
  | .stl, r => (hdT r).kind = 5 ∨ isW r 4 [125] = true
  | .stmt, r | .chosen, r => isW r 1 [101, 108, 115, 101] = false
  | .args, _ | .argl, _ | .block, _ => True
def One (n : Nat) (nt : NT) (t : Tree) (s r : List Tok) : Prop := ∃ t', erT t' = erT t ∧ body (pRun n) nt (s, 0) = (t', (r, 0))
/-- What the parser does with a piece. -/
def Res : Cat → Nat → Tree → List Tok → List Tok → Prop
  | .expr, n, t, s, r => ∃ t' f, erT t' = erT t ∧ r.length ≤ f ∧ body (pRun n) .expr (s, 0) = opsF (pRun n) .conj 1 [111, 114] 13 f t' (r, 0)
  | .conj, n, t, s, r => ∃ t' f, erT t' = erT t ∧ r.length ≤ f ∧ body (pRun n) .conj (s, 0) = opsF (pRun n) .neg 1 [97, 110, 100] 14 f t' (r, 0)
  | .neg, n, t, s, r => One n .neg t s r
  | .comp, n, t, s, r => One n .comp t s r
  | .sum, n, t, s, r => ∃ t' f, erT t' = erT t ∧ r.length ≤ f ∧ body (pRun n) .sum (s, 0) = sumF (pRun n) f t' (r, 0)
  | .prod, n, t, s, r => ∃ t' f, erT t' = erT t ∧ r.length ≤ f ∧ body (pRun n) .prod (s, 0) = opsF (pRun n) .atom 4 [42] 19 f t' (r, 0)
  | .atom, n, t, s, r => One n .atom t s r
  | .args, n, t, s, r => ∃ ks, erL ks = erL t.kids ∧ body (pRun n) .args (s, 0) = (lst ks, (r, 0))
  | .argl, n, t, s, r => ∀ f acc, s.length ≤ f → ∃ ks, erL ks = erL t.kids ∧ argsF (pRun n) f acc (s, 0) = (lst (acc ++ ks), (r, 0))
  | .stl, n, t, s, r => ∀ f acc, s.length + 1 ≤ f → ∃ ks, erL ks = erL t.kids ∧ stmtsF (pRun n) f acc (s, 0) = (lst (acc ++ ks), (r, 0))
  | .stmt, n, t, s, r => One n .stmt t s r
  | .block, n, t, s, r => One n .block t s r
  | .chosen, n, t, s, r => ∀ l, One n (.chosen l) t s r
def Q (c : Cat) (ks : List KT) (t : Tree) : Prop := ∀ (n : Nat) (us r : List Tok), us.map kt = ks → r ≠ [] → 10 * (us.length + r.length) + rkC c ≤ n + 1 → okF c r → Res c n t (us ++ r) r
/-- The whole of a piece. -/
def Fin (nt : NT) (k : Nat) (ok : List Tok → Prop) (ks : List KT) (t : Tree) : Prop := ∀ (n : Nat) (us r : List Tok), us.map kt = ks → r ≠ [] → 10 * (us.length + r.length) + k ≤ n → ok r → ∃ t', erT t' = erT t ∧ pRun n nt (us ++ r, 0) = (t', (r, 0))
theorem n_pos {n k : Nat} {us r : List Tok} (hr : r ≠ []) (h : 10 * (us.length + r.length) + k ≤ n) : ∃ m, n = m + 1 := by
  have := List.length_pos_iff.2 hr
  exact ⟨n - 1, by omega⟩
theorem fin_expr {ks : List KT} {t : Tree} (h : Q .expr ks t) : Fin .expr 8 (fun r => lev r < 1) ks t := by
  intro n us r hu hr hn hf
  obtain ⟨m, rfl⟩ := n_pos hr hn
  obtain ⟨t', f, h1, h2, h3⟩ := h m us r hu hr hn (show lev r < 2 by have := hf; omega)
  exact ⟨t', h1, by show body (pRun m) .expr _ = _; rw [h3, opsF_stop (isW_lev hf (by decide))]⟩
theorem fin_conj {ks : List KT} {t : Tree} (h : Q .conj ks t) : Fin .conj 7 (fun r => lev r < 2) ks t := by
  intro n us r hu hr hn hf
  obtain ⟨m, rfl⟩ := n_pos hr hn
  obtain ⟨t', f, h1, h2, h3⟩ := h m us r hu hr hn (show lev r < 4 by have := hf; omega)
  exact ⟨t', h1, by show body (pRun m) .conj _ = _; rw [h3, opsF_stop (isW_lev hf (by decide))]⟩
theorem fin_neg {ks : List KT} {t : Tree} (h : Q .neg ks t) : Fin .neg 6 (fun r => lev r < 4) ks t := by
  intro n us r hu hr hn hf
  obtain ⟨m, rfl⟩ := n_pos hr hn
  exact h m us r hu hr hn hf
theorem fin_comp {ks : List KT} {t : Tree} (h : Q .comp ks t) : Fin .comp 5 (fun r => lev r < 4) ks t := by
  intro n us r hu hr hn hf
  obtain ⟨m, rfl⟩ := n_pos hr hn
  exact h m us r hu hr hn hf
theorem fin_sum {ks : List KT} {t : Tree} (h : Q .sum ks t) : Fin .sum 4 (fun r => lev r < 5) ks t := by
  intro n us r hu hr hn hf
  obtain ⟨m, rfl⟩ := n_pos hr hn
  obtain ⟨t', f, h1, h2, h3⟩ := h m us r hu hr hn (show lev r < 6 by have := hf; omega)
  exact ⟨t', h1, by show body (pRun m) .sum _ = _; rw [h3, sumF_stop (isW_lev hf (by decide)) (isW_lev hf (by decide))]⟩
theorem fin_prod {ks : List KT} {t : Tree} (h : Q .prod ks t) : Fin .prod 3 (fun r => lev r < 6) ks t := by
  intro n us r hu hr hn hf
  obtain ⟨m, rfl⟩ := n_pos hr hn
  obtain ⟨t', f, h1, h2, h3⟩ := h m us r hu hr hn (show lev r < 8 by have := hf; omega)
  exact ⟨t', h1, by show body (pRun m) .prod _ = _; rw [h3, opsF_stop (isW_lev hf (by decide))]⟩
theorem fin_atom {ks : List KT} {t : Tree} (h : Q .atom ks t) : Fin .atom 2 (fun r => lev r < 8) ks t := by
  intro n us r hu hr hn hf
  obtain ⟨m, rfl⟩ := n_pos hr hn
  exact h m us r hu hr hn hf
theorem fin_args {ks : List KT} {t : Tree} (h : Q .args ks t) (n : Nat) (us r : List Tok) (hu : us.map kt = ks) (hr : r ≠ []) (hn : 10 * (us.length + r.length) + 9 ≤ n) : ∃ ks', erL ks' = erL t.kids ∧ pRun n .args (us ++ r, 0) = (lst ks', (r, 0)) := by
  obtain ⟨m, rfl⟩ := n_pos hr hn
  exact h m us r hu hr hn trivial
theorem fin_stmt {ks : List KT} {t : Tree} (h : Q .stmt ks t) : Fin .stmt 1 (fun r => isW r 1 [101, 108, 115, 101] = false) ks t := by
  intro n us r hu hr hn hf
  obtain ⟨m, rfl⟩ := n_pos hr hn
  exact h m us r hu hr hn hf
theorem fin_block {ks : List KT} {t : Tree} (h : Q .block ks t) : Fin .block 1 (fun _ => True) ks t := by
  intro n us r hu hr hn hf
  obtain ⟨m, rfl⟩ := n_pos hr hn
  exact h m us r hu hr hn hf
theorem fin_chosen {ks : List KT} {t : Tree} (h : Q .chosen ks t) (l : Int) : Fin (.chosen l) 9 (fun r => isW r 1 [101, 108, 115, 101] = false) ks t := by
  intro n us r hu hr hn hf
  obtain ⟨m, rfl⟩ := n_pos hr hn
  exact h m us r hu hr hn hf l
theorem fin_stl {ks : List KT} {t : Tree} (h : Q .stl ks t) (n : Nat) (us r : List Tok) (hu : us.map kt = ks) (hr : r ≠ []) (hn : 10 * (us.length + r.length) + 2 ≤ n) (hf : okF .stl r) : ∃ ks', erL ks' = erL t.kids ∧ pRun n .stmts (us ++ r, 0) = (lst ks', (r, 0)) := by
  obtain ⟨m, rfl⟩ := n_pos hr hn
  obtain ⟨ks', h1, h2⟩ := h m us r hu hr hn hf ((us ++ r).length + 1) [] (Nat.le_refl _)
  exact ⟨ks', h1, by show stmtsF _ _ _ _ = _; rw [h2, List.nil_append]⟩
/-- A value behind a sign. -/
theorem fin_value {a : List KT} {x : Tree} (h : Q .expr a x) (n : Nat) (o p : Tok) (us r : List Tok) (sg : List UInt8) (ho : kt o = (4, sg)) (hp : kt p = (4, [59])) (hu : us.map kt = a) (hs : sg ≠ []) (hr : r ≠ []) (hn : 10 * (us.length + r.length) + 20 ≤ n) :
    ∃ x', erT x' = erT x ∧ pRun n (.value sg) (o :: (us ++ p :: r), 0) = (lst [x'], (r, 0)) := by
  obtain ⟨m, rfl⟩ : ∃ m, n = m + 1 := ⟨n - 1, by omega⟩
  obtain ⟨x', e, hx⟩ := fin_expr h m us (p :: r) hu (by simp) (by simp only [List.length_cons]; omega) (by show lev _ < 1; rw [lev_hd hp]; decide)
  refine ⟨x', e, ?_⟩
  show valueB (pRun m) sg _ = _
  unfold valueB
  rw [if_neg hs, signF_ok ho (by simp)]
  dsimp only
  rw [if_neg (fun e => e rfl), hx]
  dsimp only
  rw [if_pos rfl, signF_ok hp hr]
theorem fin_value0 {a : List KT} {x : Tree} (h : Q .expr a x) (n : Nat) (p : Tok) (us r : List Tok) (hp : kt p = (4, [59])) (hu : us.map kt = a) (hr : r ≠ []) (hn : 10 * (us.length + r.length) + 20 ≤ n) :
    ∃ x', erT x' = erT x ∧ pRun n (.value []) (us ++ p :: r, 0) = (lst [x'], (r, 0)) := by
  obtain ⟨m, rfl⟩ : ∃ m, n = m + 1 := ⟨n - 1, by omega⟩
  obtain ⟨x', e, hx⟩ := fin_expr h m us (p :: r) hu (by simp) (by simp only [List.length_cons]; omega) (by show lev _ < 1; rw [lev_hd hp]; decide)
  refine ⟨x', e, ?_⟩
  show body (pRun m) (.value []) (us ++ p :: r, 0) = _
  show valueB (pRun m) [] (us ++ p :: r, 0) = _
  unfold valueB
  rw [if_pos rfl]
  dsimp only
  rw [if_neg (fun e => e rfl), hx]
  dsimp only
  rw [if_pos rfl, signF_ok hp hr]
theorem aHead_not {g : KT} (h : aHead g) : g ≠ (1, [110, 111, 116]) := by
  rintro rfl
  rcases h with h | h | ⟨_, h | h | h⟩ | h
  · exact absurd h (by decide)
  · exact absurd h (by decide)
  · exact absurd h (by decide)
  · exact absurd h (by decide)
  · exact absurd (show ([110, 111, 116] : List UInt8) ∈ kws by decide) h
  · exact absurd h (by decide)
theorem eHead_par {g : KT} (h : aHead g ∨ g = (1, [110, 111, 116])) : g ≠ (4, [41]) := by
  rintro rfl
  rcases h with (h | h | ⟨h, _⟩ | h) | h <;> exact absurd h (by decide)
theorem erT_bin {k : Int} {tx : List UInt8} {x y x' y' : Tree} {l : Int} (h : erT x' = erT x) (g : erT y' = erT y) : erT (binT k tx x' y') = erT (.node k tx [x, y] l) := by
  unfold binT
  simp only [erT_node, erL_cons, erL_nil, h, g]
theorem der_stl {b : List KT} {y : Tree} (h : Der .stl b y) : b = [] ∨ ∃ g r, b = g :: r ∧ headC .stmt g := by
  cases h with
  | t0 => exact .inl rfl
  | t1 h1 h2 =>
    obtain ⟨g, r, rfl, hg⟩ := der_head h1 nofun
    exact .inr ⟨g, _, rfl, hg⟩
end Go.Proofs.YtogkiifljdnjgaaDoor

namespace Go.Proofs.YtogkiifljdnjgaaDoor
set_option linter.unusedVariables false
set_option linter.unusedSimpArgs false

theorem hd_kt {us r : List Tok} {g : KT} {b : List KT} (h : us.map kt = g :: b) : kt (hdT (us ++ r)) = g := by
  obtain ⟨o, ub, rfl, h1, h2⟩ := split1 h
  exact h1
theorem r_ops {n : Nat} {C nt : NT} {kind : Int} {op : List UInt8} {k : Int} {f : Nat} {t' y' x y : Tree} {l : Int} {o : Tok} {ub r s : List Tok} (hb : body (pRun n) C (s, 0) = opsF (pRun n) nt kind op k f t' (o :: (ub ++ r), 0))
    (hx : erT t' = erT x) (hf : (o :: (ub ++ r)).length ≤ f) (ho : kt o = (kind, op)) (hr : r ≠ []) (hy : pRun n nt (ub ++ r, 0) = (y', (r, 0))) (hye : erT y' = erT y) :
    ∃ t2 f2, erT t2 = erT (.node k [] [x, y] l) ∧ r.length ≤ f2 ∧ body (pRun n) C (s, 0) = opsF (pRun n) nt kind op k f2 t2 (r, 0) := by
  obtain ⟨g, rfl⟩ : ∃ g, f = g + 1 := ⟨f - 1, by simp only [List.length_cons] at hf; omega⟩
  refine ⟨binT k [] t' y', g, erT_bin hx hye, ?_, by rw [hb, opsF_go ho (app_ne hr) hy]⟩
  simp only [List.length_cons, List.length_append] at hf
  omega
theorem q_e1 {a : List KT} {x : Tree} (ih : Q .conj a x) : Q .expr a x := by
  intro n us r hu hr hn hf
  obtain ⟨t', e, hp⟩ := fin_conj ih n us r hu hr (by simp only [rkC] at hn; omega) hf
  exact ⟨t', r.length, e, Nat.le_refl _, by show opsF _ _ _ _ _ _ _ _ = _; rw [hp]⟩
theorem q_c1 {a : List KT} {x : Tree} (ih : Q .neg a x) : Q .conj a x := by
  intro n us r hu hr hn hf
  obtain ⟨t', e, hp⟩ := fin_neg ih n us r hu hr (by simp only [rkC] at hn; omega) hf
  exact ⟨t', r.length, e, Nat.le_refl _, by show opsF _ _ _ _ _ _ _ _ = _; rw [hp]⟩
theorem q_s1 {a : List KT} {x : Tree} (ih : Q .prod a x) : Q .sum a x := by
  intro n us r hu hr hn hf
  obtain ⟨t', e, hp⟩ := fin_prod ih n us r hu hr (by simp only [rkC] at hn; omega) hf
  exact ⟨t', r.length, e, Nat.le_refl _, by show sumF _ _ _ _ = _; rw [hp]⟩
theorem q_p1 {a : List KT} {x : Tree} (ih : Q .atom a x) : Q .prod a x := by
  intro n us r hu hr hn hf
  obtain ⟨t', e, hp⟩ := fin_atom ih n us r hu hr (by simp only [rkC] at hn; omega) hf
  exact ⟨t', r.length, e, Nat.le_refl _, by show opsF _ _ _ _ _ _ _ _ = _; rw [hp]⟩
theorem q_e2 {a b : List KT} {x y : Tree} {l : Int} (iha : Q .expr a x) (ihb : Q .conj b y) : Q .expr (a ++ (1, [111, 114]) :: b) (.node 13 [] [x, y] l) := by
  intro n us r hu hr hn hf
  obtain ⟨ua, o, ub, rfl, h1, h2, h3⟩ := split3 hu
  simp only [rkC, List.length_append, List.length_cons] at hn
  rw [List.append_assoc, List.cons_append]
  obtain ⟨t', f, e1, e2, e3⟩ := iha n ua (o :: (ub ++ r)) h1 (by simp) (by simp only [rkC, List.length_append, List.length_cons]; omega) (by show lev _ < 2; rw [lev_hd h2]; decide)
  obtain ⟨y', g1, g2⟩ := fin_conj ihb n ub r h3 hr (by omega) hf
  exact r_ops e3 e1 e2 h2 hr g2 g1
theorem q_c2 {a b : List KT} {x y : Tree} {l : Int} (iha : Q .conj a x) (ihb : Q .neg b y) : Q .conj (a ++ (1, [97, 110, 100]) :: b) (.node 14 [] [x, y] l) := by
  intro n us r hu hr hn hf
  obtain ⟨ua, o, ub, rfl, h1, h2, h3⟩ := split3 hu
  simp only [rkC, List.length_append, List.length_cons] at hn
  rw [List.append_assoc, List.cons_append]
  obtain ⟨t', f, e1, e2, e3⟩ := iha n ua (o :: (ub ++ r)) h1 (by simp) (by simp only [rkC, List.length_append, List.length_cons]; omega) (by show lev _ < 4; rw [lev_hd h2]; decide)
  obtain ⟨y', g1, g2⟩ := fin_neg ihb n ub r h3 hr (by omega) hf
  exact r_ops e3 e1 e2 h2 hr g2 g1
theorem q_p2 {a b : List KT} {x y : Tree} {l : Int} (iha : Q .prod a x) (ihb : Q .atom b y) : Q .prod (a ++ (4, [42]) :: b) (.node 19 [] [x, y] l) := by
  intro n us r hu hr hn hf
  obtain ⟨ua, o, ub, rfl, h1, h2, h3⟩ := split3 hu
  simp only [rkC, List.length_append, List.length_cons] at hn
  rw [List.append_assoc, List.cons_append]
  obtain ⟨t', f, e1, e2, e3⟩ := iha n ua (o :: (ub ++ r)) h1 (by simp) (by simp only [rkC, List.length_append, List.length_cons]; omega) (by show lev _ < 8; rw [lev_hd h2]; decide)
  obtain ⟨y', g1, g2⟩ := fin_atom ihb n ub r h3 hr (by omega) hf
  exact r_ops e3 e1 e2 h2 hr g2 g1
theorem q_s2 {a b : List KT} {x y : Tree} {l : Int} (iha : Q .sum a x) (ihb : Q .prod b y) : Q .sum (a ++ (4, [43]) :: b) (.node 17 [] [x, y] l) := by
  intro n us r hu hr hn hf
  obtain ⟨ua, o, ub, rfl, h1, h2, h3⟩ := split3 hu
  simp only [rkC, List.length_append, List.length_cons] at hn
  rw [List.append_assoc, List.cons_append]
  obtain ⟨t', f, e1, e2, e3⟩ := iha n ua (o :: (ub ++ r)) h1 (by simp) (by simp only [rkC, List.length_append, List.length_cons]; omega) (by show lev _ < 6; rw [lev_hd h2]; decide)
  obtain ⟨y', g1, g2⟩ := fin_prod ihb n ub r h3 hr (by omega) hf
  simp only [List.length_append, List.length_cons] at e2
  obtain ⟨g, rfl⟩ : ∃ g, f = g + 1 := ⟨f - 1, by omega⟩
  exact ⟨binT 17 [] t' y', g, erT_bin e1 g1, by omega, by rw [e3, sumF_go h2 (app_ne hr) g2]⟩
theorem q_s3 {a b : List KT} {x y : Tree} {l : Int} (iha : Q .sum a x) (ihb : Q .prod b y) : Q .sum (a ++ (4, [45]) :: b) (.node 18 [] [x, y] l) := by
  intro n us r hu hr hn hf
  obtain ⟨ua, o, ub, rfl, h1, h2, h3⟩ := split3 hu
  simp only [rkC, List.length_append, List.length_cons] at hn
  rw [List.append_assoc, List.cons_append]
  obtain ⟨t', f, e1, e2, e3⟩ := iha n ua (o :: (ub ++ r)) h1 (by simp) (by simp only [rkC, List.length_append, List.length_cons]; omega) (by show lev _ < 6; rw [lev_hd h2]; decide)
  obtain ⟨y', g1, g2⟩ := fin_prod ihb n ub r h3 hr (by omega) hf
  simp only [List.length_append, List.length_cons] at e2
  obtain ⟨g, rfl⟩ : ∃ g, f = g + 1 := ⟨f - 1, by omega⟩
  exact ⟨binT 18 [] t' y', g, erT_bin e1 g1, by omega, by rw [e3, sumF_go2 h2 (app_ne hr) g2]⟩
theorem q_n1 {a : List KT} {x : Tree} (ha : Der .comp a x) (ih : Q .comp a x) : Q .neg a x := by
  intro n us r hu hr hn hf
  obtain ⟨g, b, rfl, hg⟩ := der_head ha nofun
  obtain ⟨t', e, hp⟩ := fin_comp ih n us r hu hr (by simp only [rkC] at hn; omega) hf
  refine ⟨t', e, ?_⟩
  show negB _ _ = _
  unfold negB
  rw [if_neg (by dsimp only; rw [isW_no (by rw [hd_kt hu]; exact aHead_not hg)]; decide), hp]
theorem q_n2 {a : List KT} {x : Tree} {l : Int} (ih : Q .neg a x) : Q .neg ((1, [110, 111, 116]) :: a) (.node 15 [] [x] l) := by
  intro n us r hu hr hn hf
  obtain ⟨o, ub, rfl, h1, h2⟩ := split1 hu
  simp only [rkC, List.length_cons] at hn
  obtain ⟨t', e, hp⟩ := fin_neg ih n ub r h2 hr (by omega) hf
  refine ⟨.node 15 [] [t'] o.line, by simp only [erT_node, erL_cons, erL_nil, e], ?_⟩
  show negB _ _ = _
  unfold negB
  rw [List.cons_append, if_pos (isW_yes h1)]
  dsimp only
  rw [nxt_cons (app_ne hr), hp]
  rfl
theorem q_m1 {a : List KT} {x : Tree} (ih : Q .sum a x) : Q .comp a x := by
  intro n us r hu hr hn hf
  have hf' : lev r < 4 := hf
  obtain ⟨t', e, hp⟩ := fin_sum ih n us r hu hr (by simp only [rkC] at hn; omega) (show lev r < 5 by omega)
  refine ⟨t', e, ?_⟩
  show compB _ _ = _
  unfold compB
  rw [hp]
  dsimp only
  rw [if_neg (fun h => by rw [cmp_lev hf'] at h; exact absurd h.2 (by decide))]
theorem q_m2 {a b : List KT} {x y : Tree} {k l : Int} {tx : List UInt8} (hc : cmpW k tx = true) (iha : Q .sum a x) (ihb : Q .sum b y) : Q .comp (a ++ (k, tx) :: b) (.node 16 tx [x, y] l) := by
  intro n us r hu hr hn hf
  have hf' : lev r < 4 := hf
  obtain ⟨ua, o, ub, rfl, h1, h2, h3⟩ := split3 hu
  simp only [rkC, List.length_append, List.length_cons] at hn
  rw [List.append_assoc, List.cons_append]
  obtain ⟨x', e, hp⟩ := fin_sum iha n ua (o :: (ub ++ r)) h1 (by simp) (by simp only [List.length_append, List.length_cons]; omega) (by show lev _ < 5; rw [lev_cmp (r := o :: (ub ++ r)) h2 hc]; decide)
  obtain ⟨y', g1, g2⟩ := fin_sum ihb n ub r h3 hr (by omega) (show lev r < 5 by omega)
  refine ⟨binT 16 tx x' y', erT_bin e g1, ?_⟩
  show compB _ _ = _
  unfold compB
  rw [hp]
  dsimp only
  rw [show hdT (o :: (ub ++ r)) = o from rfl, kt_kind h2, kt_text h2, if_pos ⟨rfl, hc⟩, nxt_cons (app_ne hr), g2]
theorem q_num {tx : List UInt8} {l : Int} : Q .atom [(2, tx)] (.node 20 tx [] l) := by
  intro n us r hu hr hn hf
  obtain ⟨o, ub, rfl, h1, h2⟩ := split1 hu
  obtain rfl := List.map_eq_nil_iff.1 h2
  refine ⟨.node 20 tx [] o.line, by simp only [erT_node], ?_⟩
  show atomB _ _ = _
  unfold atomB
  dsimp only
  rw [List.cons_append, List.nil_append, show hdT (o :: r) = o from rfl, kt_kind h1, kt_text h1, if_pos rfl, nxt_cons hr]
theorem q_str {tx : List UInt8} {l : Int} : Q .atom [(3, tx)] (.node 21 tx [] l) := by
  intro n us r hu hr hn hf
  obtain ⟨o, ub, rfl, h1, h2⟩ := split1 hu
  obtain rfl := List.map_eq_nil_iff.1 h2
  refine ⟨.node 21 tx [] o.line, by simp only [erT_node], ?_⟩
  show atomB _ _ = _
  unfold atomB
  dsimp only
  rw [List.cons_append, List.nil_append, show hdT (o :: r) = o from rfl, kt_kind h1, kt_text h1, if_neg (by decide), if_pos rfl, nxt_cons hr]
theorem q_boo {tx : List UInt8} {l : Int} (h : tx = [116, 114, 117, 101] ∨ tx = [102, 97, 108, 115, 101]) : Q .atom [(1, tx)] (.node 22 tx [] l) := by
  intro n us r hu hr hn hf
  obtain ⟨o, ub, rfl, h1, h2⟩ := split1 hu
  obtain rfl := List.map_eq_nil_iff.1 h2
  refine ⟨.node 22 tx [] o.line, by simp only [erT_node], ?_⟩
  show atomB _ _ = _
  unfold atomB
  dsimp only
  have hc : isW (o :: r) 1 [116, 114, 117, 101] = true ∨ isW (o :: r) 1 [102, 97, 108, 115, 101] = true := by
    rcases h with rfl | rfl
    · exact .inl (isW_yes h1)
    · exact .inr (isW_yes h1)
  rw [List.cons_append, List.nil_append, show hdT (o :: r) = o from rfl, kt_kind h1, kt_text h1, if_neg (by decide), if_neg (by decide), if_pos hc, nxt_cons hr]
theorem nam_no {tx : List UInt8} {o : Tok} {l : List Tok} (h : tx ∉ kws) (h1 : kt o = (1, tx)) : ¬ (isW (o :: l) 1 [116, 114, 117, 101] = true ∨ isW (o :: l) 1 [102, 97, 108, 115, 101] = true) := by
  rintro (e | e)
  · have := (Prod.mk.inj (h1.symm.trans (isW_kt.1 e))).2
    rw [this] at h
    exact h (by decide)
  · have := (Prod.mk.inj (h1.symm.trans (isW_kt.1 e))).2
    rw [this] at h
    exact h (by decide)
theorem q_nam {tx : List UInt8} {l : Int} (h : tx ∉ kws) : Q .atom [(1, tx)] (.node 23 tx [] l) := by
  intro n us r hu hr hn hf
  obtain ⟨o, ub, rfl, h1, h2⟩ := split1 hu
  obtain rfl := List.map_eq_nil_iff.1 h2
  refine ⟨.node 23 tx [] o.line, by simp only [erT_node], ?_⟩
  show atomB _ _ = _
  unfold atomB
  dsimp only
  rw [List.cons_append, List.nil_append, show hdT (o :: r) = o from rfl, kt_kind h1, kt_text h1, if_neg (by decide), if_neg (by decide), if_neg (nam_no h h1), if_pos ⟨rfl, h⟩, nxt_cons hr, if_neg (by rw [isW_lev (show lev r < 8 from hf) (by decide)]; decide)]
theorem q_call {tx : List UInt8} {a : List KT} {x : Tree} {l : Int} (h : tx ∉ kws) (ih : Q .args a x) : Q .atom ((1, tx) :: (4, [40]) :: a) (.node 24 tx x.kids l) := by
  intro n us r hu hr hn hf
  obtain ⟨o, u2, rfl, h1, h2⟩ := split1 hu
  obtain ⟨p, ub, rfl, h3, h4⟩ := split1 h2
  simp only [rkC, List.length_cons] at hn
  obtain ⟨ks', e, hp⟩ := fin_args ih n ub r h4 hr (by omega)
  refine ⟨.node 24 tx ks' o.line, by simp only [erT_node, e], ?_⟩
  show atomB _ _ = _
  unfold atomB
  dsimp only
  rw [List.cons_append, List.cons_append, show hdT (o :: p :: (ub ++ r)) = o from rfl, kt_kind h1, kt_text h1, if_neg (by decide), if_neg (by decide), if_neg (nam_no h h1), if_pos ⟨rfl, h⟩, nxt_cons (by simp), if_pos (isW_yes h3), nxt_cons (app_ne hr), hp]
  rfl
theorem q_par {a : List KT} {x : Tree} (ih : Q .expr a x) : Q .atom ((4, [40]) :: (a ++ [(4, [41])])) x := by
  intro n us r hu hr hn hf
  obtain ⟨o, u2, rfl, h1, h2⟩ := split1 hu
  obtain ⟨ua, p, ub, rfl, h3, h4, h5⟩ := split3 h2
  obtain rfl := List.map_eq_nil_iff.1 h5
  simp only [rkC, List.length_cons, List.length_append, List.length_nil] at hn
  obtain ⟨x', e, hp⟩ := fin_expr ih n ua (p :: r) h3 (by simp) (by simp only [List.length_cons]; omega) (by show lev _ < 1; rw [lev_hd h4]; decide)
  refine ⟨x', e, ?_⟩
  show atomB _ _ = _
  unfold atomB
  dsimp only
  rw [List.cons_append, List.append_assoc, List.cons_append, List.nil_append, show hdT (o :: (ua ++ p :: r)) = o from rfl, kt_kind h1, if_neg (by decide), if_neg (by decide), if_neg (by rw [isW_dif h1 (by decide), isW_dif h1 (by decide)]; decide), if_neg (fun e => absurd e.1 (by decide)), if_pos (isW_yes h1), nxt_cons (by simp), hp]
  dsimp only
  rw [if_pos rfl, signF_ok h4 hr]
theorem q_a0 : Q .args [(4, [41])] (lst []) := by
  intro n us r hu hr hn hf
  obtain ⟨o, ub, rfl, h1, h2⟩ := split1 hu
  obtain rfl := List.map_eq_nil_iff.1 h2
  refine ⟨[], rfl, ?_⟩
  show argsB _ _ = _
  unfold argsB
  rw [List.cons_append, List.nil_append, if_pos (isW_yes h1), nxt_cons hr]
theorem q_a1 {a : List KT} {x : Tree} (ha : Der .argl a x) (ih : Q .argl a x) : Q .args a x := by
  intro n us r hu hr hn hf
  obtain ⟨g, b, rfl, hg⟩ := der_head ha nofun
  obtain ⟨ks', e, hp⟩ := ih n us r hu hr hn trivial ((us ++ r).length + 1) [] (Nat.le_succ _)
  refine ⟨ks', e, ?_⟩
  show argsB _ _ = _
  unfold argsB
  rw [if_neg (by dsimp only; rw [isW_no (by rw [hd_kt hu]; exact eHead_par hg)]; decide), hp, List.nil_append]
theorem q_l1 {a : List KT} {x : Tree} (ih : Q .expr a x) : Q .argl (a ++ [(4, [41])]) (lst [x]) := by
  intro n us r hu hr hn hf
  obtain ⟨ua, p, ub, rfl, h3, h4, h5⟩ := split3 hu
  obtain rfl := List.map_eq_nil_iff.1 h5
  simp only [rkC, List.length_cons, List.length_append, List.length_nil] at hn
  obtain ⟨x', e, hp⟩ := fin_expr ih n ua (p :: r) h3 (by simp) (by simp only [List.length_cons]; omega) (by show lev _ < 1; rw [lev_hd h4]; decide)
  intro f acc hfl
  simp only [List.length_cons, List.length_append, List.length_nil] at hfl
  obtain ⟨g, rfl⟩ : ∃ g, f = g + 1 := ⟨f - 1, by omega⟩
  refine ⟨[x'], by show erL [x'] = erL [x]; simp only [erL_cons, erL_nil, e], ?_⟩
  unfold argsF
  rw [List.append_assoc, List.cons_append, List.nil_append, if_neg (fun e => e rfl), hp]
  dsimp only
  rw [if_neg (fun e => e rfl), if_neg (by rw [isW_dif h4 (by decide)]; decide), signF_ok h4 hr]
theorem q_l2 {a b : List KT} {x y : Tree} (iha : Q .expr a x) (ihb : Q .argl b y) : Q .argl (a ++ (4, [44]) :: b) (lst (x :: y.kids)) := by
  intro n us r hu hr hn hf
  obtain ⟨ua, p, ub, rfl, h3, h4, h5⟩ := split3 hu
  simp only [rkC, List.length_cons, List.length_append, List.length_nil] at hn
  obtain ⟨x', e, hp⟩ := fin_expr iha n ua (p :: (ub ++ r)) h3 (by simp) (by simp only [List.length_cons, List.length_append]; omega) (by show lev _ < 1; rw [lev_hd h4]; decide)
  intro f acc hfl
  simp only [List.length_cons, List.length_append, List.length_nil] at hfl
  obtain ⟨g, rfl⟩ : ∃ g, f = g + 1 := ⟨f - 1, by omega⟩
  obtain ⟨ks', e2, hq⟩ := ihb n ub r h5 hr (by simp only [rkC]; omega) trivial g (acc ++ [x']) (by rw [List.length_append]; omega)
  refine ⟨x' :: ks', by show erL (x' :: ks') = erL (x :: y.kids); rw [erL_cons, erL_cons, e, e2], ?_⟩
  unfold argsF
  rw [List.append_assoc, List.cons_append, if_neg (fun e => e rfl), hp]
  dsimp only
  rw [if_neg (fun e => e rfl), if_pos (isW_yes h4), nxt_cons (app_ne hr), hq, List.append_assoc]
  rfl
theorem q_t0 : Q .stl [] (lst []) := by
  intro n us r hu hr hn hf f acc hfl
  obtain rfl := List.map_eq_nil_iff.1 hu
  obtain ⟨g, rfl⟩ : ∃ g, f = g + 1 := ⟨f - 1, by omega⟩
  refine ⟨[], rfl, ?_⟩
  unfold stmtsF
  rw [List.nil_append, List.append_nil, if_neg]
  rintro ⟨_, h1, h2⟩
  rcases hf with h | h
  · exact h1 h
  · dsimp only at h2
    rw [h] at h2
    cases h2
theorem q_t1 {a b : List KT} {x y : Tree} (ha : Der .stmt a x) (hb : Der .stl b y) (iha : Q .stmt a x) (ihb : Q .stl b y) : Q .stl (a ++ b) (lst (x :: y.kids)) := by
  intro n us r hu hr hn hf f acc hfl
  obtain ⟨ua, ub, rfl, h1, h2⟩ := split2 hu
  obtain ⟨g, b', rfl, hg⟩ := der_head ha nofun
  simp only [rkC, List.length_append] at hn hfl
  have hul : 1 ≤ ua.length := by
    have := congrArg List.length h1
    simp only [List.length_map, List.length_cons] at this
    omega
  obtain ⟨f', rfl⟩ : ∃ f', f = f' + 1 := ⟨f - 1, by omega⟩
  have hfo : isW (ub ++ r) 1 [101, 108, 115, 101] = false := by
    rcases der_stl hb with rfl | ⟨q, b2, rfl, hq⟩
    · obtain rfl := List.map_eq_nil_iff.1 h2
      rw [List.nil_append]
      refine isW_no fun e => ?_
      rcases hf with h | h
      · rw [kt_kind e] at h
        exact absurd h (by decide)
      · rw [isW_kt] at h
        rw [h] at e
        exact absurd e (by decide)
    · refine isW_no ?_
      rw [hd_kt h2]
      rintro rfl
      exact hq.2 rfl
  obtain ⟨x', e, hp⟩ := fin_stmt iha n ua (ub ++ r) h1 (app_ne hr) (by rw [List.length_append]; omega) hfo
  obtain ⟨ks', e2, hq⟩ := ihb n ub r h2 hr (by simp only [rkC]; omega) hf f' (acc ++ [x']) (by rw [List.length_append]; omega)
  refine ⟨x' :: ks', by show erL (x' :: ks') = erL (x :: y.kids); rw [erL_cons, erL_cons, e, e2], ?_⟩
  have hk := hd_kt (r := ub ++ r) h1
  unfold stmtsF
  rw [List.append_assoc, if_pos, hp, hq, List.append_assoc]
  · rfl
  · refine ⟨rfl, ?_, ?_⟩
    · dsimp only
      intro e
      have := hg.1
      rw [← hk] at this
      rw [show (hdT (ua ++ (ub ++ r))).kind = 1 from this] at e
      exact absurd e (by decide)
    · dsimp only
      refine isW_no ?_
      rw [hk]
      rintro rfl
      exact absurd hg.1 (by decide)
end Go.Proofs.YtogkiifljdnjgaaDoor

namespace Go.Proofs.YtogkiifljdnjgaaDoor
set_option linter.unusedVariables false
set_option linter.unusedSimpArgs false

theorem q_sif {a : List KT} {x : Tree} (ih : Q .chosen a x) : Q .stmt ((1, [105, 102]) :: a) x := by
  intro n us r hu hr hn hf
  obtain ⟨o, ub, rfl, h1, h2⟩ := split1 hu
  simp only [rkC, List.length_cons] at hn
  obtain ⟨t', e, hp⟩ := fin_chosen ih o.line n ub r h2 hr (by omega) hf
  refine ⟨t', e, ?_⟩
  show stmtB _ _ = _
  unfold stmtB
  dsimp only
  rw [List.cons_append, show hdT (o :: (ub ++ r)) = o from rfl, kt_kind h1, kt_text h1, if_neg (by decide), if_pos rfl, nxt_cons (app_ne hr), hp]
theorem q_slet {a : List KT} {x : Tree} {l : Int} {nm : List UInt8} (hk : nm ∉ kws) (ih : Q .expr a x) : Q .stmt ((1, [108, 101, 116]) :: (1, nm) :: (4, [61]) :: (a ++ [(4, [59])])) (.node 3 nm [x] l) := by
  intro n us r hu hr hn hf
  obtain ⟨o, u2, rfl, h1, h2⟩ := split1 hu
  obtain ⟨p, u3, rfl, h3, h4⟩ := split1 h2
  obtain ⟨q, u4, rfl, h5, h6⟩ := split1 h4
  obtain ⟨ua, z, ub, rfl, h7, h8, h9⟩ := split3 h6
  obtain rfl := List.map_eq_nil_iff.1 h9
  simp only [rkC, List.length_cons, List.length_append, List.length_nil] at hn
  obtain ⟨x', e, hp⟩ := fin_value ih n q z ua r [61] h5 h8 h7 (by decide) hr (by omega)
  refine ⟨.node 3 nm [x'] o.line, by simp only [erT_node, erL_cons, erL_nil, e], ?_⟩
  show stmtB _ _ = _
  unfold stmtB
  dsimp only
  rw [List.cons_append, List.cons_append, List.cons_append, List.append_assoc, List.cons_append, List.nil_append, show hdT (o :: p :: q :: (ua ++ z :: r)) = o from rfl, kt_kind h1, kt_text h1, if_neg (by decide), if_neg (by decide), if_pos rfl, nxt_cons (by simp), show hdT (p :: q :: (ua ++ z :: r)) = p from rfl, kt_kind h3, kt_text h3, if_neg (fun e => e.elim (fun h => h rfl) hk), nxt_cons (by simp), hp]
  rfl
theorem q_sset {a : List KT} {x : Tree} {l : Int} {nm : List UInt8} (hk : nm = [112, 97, 116, 104] ∨ nm = [113, 117, 101, 114, 121]) (ih : Q .expr a x) : Q .stmt ((1, nm) :: (4, [61]) :: (a ++ [(4, [59])])) (.node 4 nm [x] l) := by
  intro n us r hu hr hn hf
  obtain ⟨o, u2, rfl, h1, h2⟩ := split1 hu
  obtain ⟨q, u4, rfl, h5, h6⟩ := split1 h2
  obtain ⟨ua, z, ub, rfl, h7, h8, h9⟩ := split3 h6
  obtain rfl := List.map_eq_nil_iff.1 h9
  simp only [rkC, List.length_cons, List.length_append, List.length_nil] at hn
  obtain ⟨x', e, hp⟩ := fin_value ih n q z ua r [61] h5 h8 h7 (by decide) hr (by omega)
  refine ⟨.node 4 nm [x'] o.line, by simp only [erT_node, erL_cons, erL_nil, e], ?_⟩
  show stmtB _ _ = _
  unfold stmtB
  dsimp only
  rw [List.cons_append, List.cons_append, List.append_assoc, List.cons_append, List.nil_append, show hdT (o :: q :: (ua ++ z :: r)) = o from rfl, kt_kind h1, kt_text h1, if_neg (by decide), if_neg (by rcases hk with rfl | rfl <;> decide), if_neg (by rcases hk with rfl | rfl <;> decide), if_pos hk, nxt_cons (by simp), hp]
  rfl
theorem textF_ok {o : Tok} {l : List Tok} {tx : List UInt8} (h : kt o = (3, tx)) (hl : l ≠ []) : textF (o :: l, 0) = (tx, (l, 0)) := by
  unfold textF
  dsimp only
  rw [show hdT (o :: l) = o from rfl, kt_kind h, kt_text h, if_pos rfl, nxt_cons hl]
theorem q_shdr {a : List KT} {x : Tree} {l : Int} {tx : List UInt8} (ih : Q .expr a x) : Q .stmt ((1, [104, 101, 97, 100, 101, 114]) :: (3, tx) :: (4, [61]) :: (a ++ [(4, [59])])) (.node 5 tx [x] l) := by
  intro n us r hu hr hn hf
  obtain ⟨o, u2, rfl, h1, h2⟩ := split1 hu
  obtain ⟨p, u3, rfl, h3, h4⟩ := split1 h2
  obtain ⟨q, u4, rfl, h5, h6⟩ := split1 h4
  obtain ⟨ua, z, ub, rfl, h7, h8, h9⟩ := split3 h6
  obtain rfl := List.map_eq_nil_iff.1 h9
  simp only [rkC, List.length_cons, List.length_append, List.length_nil] at hn
  obtain ⟨x', e, hp⟩ := fin_value ih n q z ua r [61] h5 h8 h7 (by decide) hr (by omega)
  refine ⟨.node 5 tx [x'] o.line, by simp only [erT_node, erL_cons, erL_nil, e], ?_⟩
  show stmtB _ _ = _
  unfold stmtB
  dsimp only
  rw [List.cons_append, List.cons_append, List.cons_append, List.append_assoc, List.cons_append, List.nil_append, show hdT (o :: p :: q :: (ua ++ z :: r)) = o from rfl, kt_kind h1, kt_text h1, if_neg (by decide), if_neg (by decide), if_neg (by decide), if_neg (by decide), if_pos rfl, nxt_cons (by simp), textF_ok h3 (by simp)]
  dsimp only
  rw [if_pos rfl, hp]
  rfl
theorem q_svry {l : Int} {tx : List UInt8} : Q .stmt [(1, [118, 97, 114, 121]), (3, tx), (4, [59])] (.node 6 tx [] l) := by
  intro n us r hu hr hn hf
  obtain ⟨o, u2, rfl, h1, h2⟩ := split1 hu
  obtain ⟨p, u3, rfl, h3, h4⟩ := split1 h2
  obtain ⟨z, u4, rfl, h8, h6⟩ := split1 h4
  obtain rfl := List.map_eq_nil_iff.1 h6
  refine ⟨.node 6 tx [] o.line, by simp only [erT_node, erL_nil], ?_⟩
  show stmtB _ _ = _
  unfold stmtB
  dsimp only
  rw [List.cons_append, List.cons_append, List.cons_append, List.nil_append, show hdT (o :: p :: z :: r) = o from rfl, kt_kind h1, kt_text h1, if_neg (by decide), if_neg (by decide), if_neg (by decide), if_neg (by decide), if_neg (by decide), if_pos rfl, nxt_cons (by simp), textF_ok h3 (by simp)]
  dsimp only
  rw [if_pos rfl, signF_ok h8 hr]
theorem q_stag {a : List KT} {x : Tree} {l : Int} (ih : Q .expr a x) : Q .stmt ((1, [116, 97, 103]) :: (a ++ [(4, [59])])) (.node 7 [] [x] l) := by
  intro n us r hu hr hn hf
  obtain ⟨o, u2, rfl, h1, h2⟩ := split1 hu
  obtain ⟨ua, z, ub, rfl, h7, h8, h9⟩ := split3 h2
  obtain rfl := List.map_eq_nil_iff.1 h9
  simp only [rkC, List.length_cons, List.length_append, List.length_nil] at hn
  by_cases hn2 : 10 * (ua.length + r.length) + 20 ≤ n
  rotate_left
  · exact absurd hn2 (by omega)
  obtain ⟨x', e, hp⟩ := fin_value0 ih n z ua r h8 h7 hr hn2
  refine ⟨.node 7 [] [x'] o.line, by simp only [erT_node, erL_cons, erL_nil, e], ?_⟩
  show stmtB _ _ = _
  unfold stmtB
  dsimp only
  rw [List.cons_append, List.append_assoc, List.cons_append, List.nil_append, show hdT (o :: (ua ++ z :: r)) = o from rfl, kt_kind h1, kt_text h1, if_neg (by decide), if_neg (by decide), if_neg (by decide), if_neg (by decide), if_neg (by decide), if_neg (by decide), if_pos rfl, nxt_cons (by simp), hp]
  rfl
theorem q_sttl {a : List KT} {x : Tree} {l : Int} (ih : Q .expr a x) : Q .stmt ((1, [116, 116, 108]) :: (a ++ [(4, [59])])) (.node 8 [] [x] l) := by
  intro n us r hu hr hn hf
  obtain ⟨o, u2, rfl, h1, h2⟩ := split1 hu
  obtain ⟨ua, z, ub, rfl, h7, h8, h9⟩ := split3 h2
  obtain rfl := List.map_eq_nil_iff.1 h9
  simp only [rkC, List.length_cons, List.length_append, List.length_nil] at hn
  obtain ⟨x', e, hp⟩ := fin_value0 ih n z ua r h8 h7 hr (by omega)
  refine ⟨.node 8 [] [x'] o.line, by simp only [erT_node, erL_cons, erL_nil, e], ?_⟩
  show stmtB _ _ = _
  unfold stmtB
  dsimp only
  rw [List.cons_append, List.append_assoc, List.cons_append, List.nil_append, show hdT (o :: (ua ++ z :: r)) = o from rfl, kt_kind h1, kt_text h1, if_neg (by decide), if_neg (by decide), if_neg (by decide), if_neg (by decide), if_neg (by decide), if_neg (by decide), if_neg (by decide), if_pos rfl, nxt_cons (by simp), hp]
  rfl
theorem q_sdny {a : List KT} {x : Tree} {l : Int} (ih : Q .expr a x) : Q .stmt ((1, [100, 101, 110, 121]) :: (a ++ [(4, [59])])) (.node 9 [] [x] l) := by
  intro n us r hu hr hn hf
  obtain ⟨o, u2, rfl, h1, h2⟩ := split1 hu
  obtain ⟨ua, z, ub, rfl, h7, h8, h9⟩ := split3 h2
  obtain rfl := List.map_eq_nil_iff.1 h9
  simp only [rkC, List.length_cons, List.length_append, List.length_nil] at hn
  obtain ⟨x', e, hp⟩ := fin_value0 ih n z ua r h8 h7 hr (by omega)
  refine ⟨.node 9 [] [x'] o.line, by simp only [erT_node, erL_cons, erL_nil, e], ?_⟩
  show stmtB _ _ = _
  unfold stmtB
  dsimp only
  rw [List.cons_append, List.append_assoc, List.cons_append, List.nil_append, show hdT (o :: (ua ++ z :: r)) = o from rfl, kt_kind h1, kt_text h1, if_neg (by decide), if_neg (by decide), if_neg (by decide), if_neg (by decide), if_neg (by decide), if_neg (by decide), if_neg (by decide), if_neg (by decide), if_pos rfl, nxt_cons (by simp), hp]
  rfl
theorem q_spas {l : Int} : Q .stmt [(1, [112, 97, 115, 115]), (4, [59])] (.node 10 [] [] l) := by
  intro n us r hu hr hn hf
  obtain ⟨o, u2, rfl, h1, h2⟩ := split1 hu
  obtain ⟨z, u4, rfl, h8, h6⟩ := split1 h2
  obtain rfl := List.map_eq_nil_iff.1 h6
  refine ⟨.node 10 [] [] o.line, by simp only [erT_node, erL_nil], ?_⟩
  show stmtB _ _ = _
  unfold stmtB
  dsimp only
  rw [List.cons_append, List.cons_append, List.nil_append, show hdT (o :: z :: r) = o from rfl, kt_kind h1, kt_text h1, if_neg (by decide), if_neg (by decide), if_neg (by decide), if_neg (by decide), if_neg (by decide), if_neg (by decide), if_neg (by decide), if_neg (by decide), if_neg (by decide), if_pos rfl, nxt_cons (by simp), signF_ok h8 hr]
theorem q_stok {l : Int} : Q .stmt [(1, [116, 111, 107, 101, 110]), (4, [59])] (.node 11 [] [] l) := by
  intro n us r hu hr hn hf
  obtain ⟨o, u2, rfl, h1, h2⟩ := split1 hu
  obtain ⟨z, u4, rfl, h8, h6⟩ := split1 h2
  obtain rfl := List.map_eq_nil_iff.1 h6
  refine ⟨.node 11 [] [] o.line, by simp only [erT_node, erL_nil], ?_⟩
  show stmtB _ _ = _
  unfold stmtB
  dsimp only
  rw [List.cons_append, List.cons_append, List.nil_append, show hdT (o :: z :: r) = o from rfl, kt_kind h1, kt_text h1, if_neg (by decide), if_neg (by decide), if_neg (by decide), if_neg (by decide), if_neg (by decide), if_neg (by decide), if_neg (by decide), if_neg (by decide), if_neg (by decide), if_neg (by decide), if_pos rfl, nxt_cons (by simp), signF_ok h8 hr]
theorem q_blk {a : List KT} {x : Tree} {l : Int} (ih : Q .stl a x) : Q .block ((4, [123]) :: (a ++ [(4, [125])])) (.node 12 [] x.kids l) := by
  intro n us r hu hr hn hf
  obtain ⟨o, u2, rfl, h1, h2⟩ := split1 hu
  obtain ⟨ua, z, ub, rfl, h7, h8, h9⟩ := split3 h2
  obtain rfl := List.map_eq_nil_iff.1 h9
  simp only [rkC, List.length_cons, List.length_append, List.length_nil] at hn
  obtain ⟨ks', e, hp⟩ := fin_stl ih n ua (z :: r) h7 (by simp) (by simp only [List.length_cons]; omega) (.inr (isW_yes h8))
  refine ⟨.node 12 [] ks' o.line, by simp only [erT_node, e], ?_⟩
  show blockB _ _ = _
  unfold blockB
  rw [List.cons_append, List.append_assoc, List.cons_append, List.nil_append, signF_ok h1 (by simp)]
  dsimp only
  rw [if_pos rfl, hp]
  dsimp only
  rw [signF_ok h8 hr]
  rfl
theorem q_ch2 {a b : List KT} {x y : Tree} {l : Int} (ha : Der .expr a x) (hb : Der .block b y) (iha : Q .expr a x) (ihb : Q .block b y) : Q .chosen (a ++ b) (.node 2 [] [x, y] l) := by
  intro n us r hu hr hn hf l2
  obtain ⟨ua, ub, rfl, h1, h2⟩ := split2 hu
  obtain ⟨g, b', rfl, hg⟩ := der_head hb nofun
  obtain ⟨g2, a', rfl, hg2⟩ := der_head ha nofun
  have hul := congrArg List.length h1
  simp only [List.length_map, List.length_cons] at hul
  simp only [rkC, List.length_append] at hn
  obtain ⟨x', e, hp⟩ := fin_expr iha n ua (ub ++ r) h1 (app_ne hr) (by rw [List.length_append]; omega) (by show lev _ < 1; unfold lev; rw [hd_kt h2, show g = (4, [123]) from hg]; decide)
  obtain ⟨y', e2, hq⟩ := fin_block ihb n ub r h2 hr (by omega) trivial
  refine ⟨.node 2 [] [x', y'] l2, by simp only [erT_node, erL_cons, erL_nil, e, e2], ?_⟩
  show chosenB _ _ _ = _
  unfold chosenB
  dsimp only
  rw [List.append_assoc, hp]
  dsimp only
  rw [if_neg (fun e => e rfl), hq]
  dsimp only
  rw [if_pos (.inr hf)]
theorem q_chb {a b c : List KT} {x y z : Tree} {l : Int} (ha : Der .expr a x) (hb : Der .block b y) (hc : Der .block c z) (iha : Q .expr a x) (ihb : Q .block b y) (ihc : Q .block c z) : Q .chosen (a ++ (b ++ (1, [101, 108, 115, 101]) :: c)) (.node 2 [] [x, y, z] l) := by
  intro n us r hu hr hn hf l2
  obtain ⟨ua, u2, rfl, h1, h2⟩ := split2 hu
  obtain ⟨ub, o, uc, rfl, h3, h4, h5⟩ := split3 h2
  obtain ⟨g, b', rfl, hg⟩ := der_head hb nofun
  obtain ⟨g2, a', rfl, hg2⟩ := der_head ha nofun
  obtain ⟨g3, c', rfl, hg3⟩ := der_head hc nofun
  have hul := congrArg List.length h1
  simp only [List.length_map, List.length_cons] at hul
  simp only [rkC, List.length_append, List.length_cons] at hn
  obtain ⟨x', e, hp⟩ := fin_expr iha n ua (ub ++ o :: (uc ++ r)) h1 (by simp) (by simp only [List.length_append, List.length_cons]; omega) (by show lev _ < 1; unfold lev; rw [hd_kt h3, show g = (4, [123]) from hg]; decide)
  obtain ⟨y', e2, hq⟩ := fin_block ihb n ub (o :: (uc ++ r)) h3 (by simp) (by simp only [List.length_append, List.length_cons]; omega) trivial
  obtain ⟨z', e3, hz⟩ := fin_block ihc n uc r h5 hr (by omega) trivial
  refine ⟨.node 2 [] [x', y', z'] l2, by simp only [erT_node, erL_cons, erL_nil, e, e2, e3], ?_⟩
  show chosenB _ _ _ = _
  unfold chosenB
  dsimp only
  rw [List.append_assoc, List.append_assoc, List.cons_append, hp]
  dsimp only
  rw [if_neg (fun e => e rfl), hq]
  dsimp only
  rw [if_neg (fun h => h.elim (fun h => h rfl) (fun h => by rw [isW_yes h4] at h; cases h)), nxt_cons (app_ne hr), if_neg (by rw [isW_no (by rw [hd_kt h5, show g3 = (4, [123]) from hg3]; decide)]; decide), hz]
theorem q_chc {a b c : List KT} {x y z : Tree} {l : Int} (ha : Der .expr a x) (hb : Der .block b y) (iha : Q .expr a x) (ihb : Q .block b y) (ihc : Q .chosen c z) : Q .chosen (a ++ (b ++ (1, [101, 108, 115, 101]) :: (1, [105, 102]) :: c)) (.node 2 [] [x, y, z] l) := by
  intro n us r hu hr hn hf l2
  obtain ⟨ua, u2, rfl, h1, h2⟩ := split2 hu
  obtain ⟨ub, o, u4, rfl, h3, h4, h5⟩ := split3 h2
  obtain ⟨p, uc, rfl, h6, h7⟩ := split1 h5
  obtain ⟨g, b', rfl, hg⟩ := der_head hb nofun
  obtain ⟨g2, a', rfl, hg2⟩ := der_head ha nofun
  have hul := congrArg List.length h1
  simp only [List.length_map, List.length_cons] at hul
  simp only [rkC, List.length_append, List.length_cons] at hn
  obtain ⟨x', e, hp⟩ := fin_expr iha n ua (ub ++ o :: p :: (uc ++ r)) h1 (by simp) (by simp only [List.length_append, List.length_cons]; omega) (by show lev _ < 1; unfold lev; rw [hd_kt h3, show g = (4, [123]) from hg]; decide)
  obtain ⟨y', e2, hq⟩ := fin_block ihb n ub (o :: p :: (uc ++ r)) h3 (by simp) (by simp only [List.length_append, List.length_cons]; omega) trivial
  obtain ⟨z', e3, hz⟩ := fin_chosen ihc p.line n uc r h7 hr (by omega) hf
  refine ⟨.node 2 [] [x', y', z'] l2, by simp only [erT_node, erL_cons, erL_nil, e, e2, e3], ?_⟩
  show chosenB _ _ _ = _
  unfold chosenB
  dsimp only
  rw [List.append_assoc, List.append_assoc, List.cons_append, List.cons_append, hp]
  dsimp only
  rw [if_neg (fun e => e rfl), hq]
  dsimp only
  rw [if_neg (fun h => h.elim (fun h => h rfl) (fun h => by rw [isW_yes h4] at h; cases h)), nxt_cons (by simp), if_pos (isW_yes h6), nxt_cons (app_ne hr), show hdT (p :: (uc ++ r)) = p from rfl, hz]
/-- All rules. -/
theorem der_run {c : Cat} {ks : List KT} {t : Tree} (h : Der c ks t) : Q c ks t := by
  induction h with
  | e1 _ ih => exact q_e1 ih
  | e2 _ _ ih ih2 => exact q_e2 ih ih2
  | c1 _ ih => exact q_c1 ih
  | c2 _ _ ih ih2 => exact q_c2 ih ih2
  | n1 h ih => exact q_n1 h ih
  | n2 _ ih => exact q_n2 ih
  | m1 _ ih => exact q_m1 ih
  | m2 h _ _ ih ih2 => exact q_m2 h ih ih2
  | s1 _ ih => exact q_s1 ih
  | s2 _ _ ih ih2 => exact q_s2 ih ih2
  | s3 _ _ ih ih2 => exact q_s3 ih ih2
  | p1 _ ih => exact q_p1 ih
  | p2 _ _ ih ih2 => exact q_p2 ih ih2
  | num => exact q_num
  | str => exact q_str
  | boo h => exact q_boo h
  | nam h => exact q_nam h
  | call h _ ih => exact q_call h ih
  | par _ ih => exact q_par ih
  | a0 => exact q_a0
  | a1 h ih => exact q_a1 h ih
  | l1 _ ih => exact q_l1 ih
  | l2 _ _ ih ih2 => exact q_l2 ih ih2
  | t0 => exact q_t0
  | t1 h1 h2 ih ih2 => exact q_t1 h1 h2 ih ih2
  | sif _ ih => exact q_sif ih
  | slet h _ ih => exact q_slet h ih
  | sset h _ ih => exact q_sset h ih
  | shdr _ ih => exact q_shdr ih
  | svry => exact q_svry
  | stag _ ih => exact q_stag ih
  | sttl _ ih => exact q_sttl ih
  | sdny _ ih => exact q_sdny ih
  | spas => exact q_spas
  | stok => exact q_stok
  | blk _ ih => exact q_blk ih
  | ch2 h1 h2 ih ih2 => exact q_ch2 h1 h2 ih ih2
  | chb h1 h2 h3 ih ih2 ih3 => exact q_chb h1 h2 h3 ih ih2 ih3
  | chc h1 h2 _ ih ih2 ih3 => exact q_chc h1 h2 ih ih2 ih3
/-- A text that gives the tokens of statements is parsed. -/
theorem parse_der {ks : List KT} {t : Tree} (h : Der .stl ks t) (es : List Tok) (z : Tok) (hu : es.map kt = ks) (hz : z.kind = 5) : ∃ ks', erL ks' = erL t.kids ∧ parseR (es ++ [z]) = (lst ks', ([z], 0)) := by
  obtain ⟨ks', e, hp⟩ := fin_stl (der_run h) (10 * (es ++ [z]).length + 2) es [z] hu (by simp) (by simp) (.inl hz)
  exact ⟨ks', e, hp⟩
end Go.Proofs.YtogkiifljdnjgaaDoor
