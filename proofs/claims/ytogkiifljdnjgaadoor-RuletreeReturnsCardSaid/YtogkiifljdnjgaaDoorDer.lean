/- In plain Lean: the grammar as a relation between tokens and trees, and that the parser finds the tree. No condition. -/
import Derived.Test.YtogkiifljdnjgaaDoorLexP
namespace Go.Proofs.YtogkiifljdnjgaaDoor
set_option linter.unusedVariables false
set_option linter.unusedSimpArgs false

mutual
/-- A tree without its lines. -/
def erT : Tree → Tree
  | .node k tx ks _ => .node k tx (erL ks) 0
def erL : List Tree → List Tree
  | [] => []
  | t :: ts => erT t :: erL ts
end
theorem erT_node {k : Int} {tx : List UInt8} {ks : List Tree} {l : Int} : erT (.node k tx ks l) = .node k tx (erL ks) 0 := by rw [erT]
theorem erL_nil : erL [] = [] := by rw [erL]
theorem erL_cons {t : Tree} {ts : List Tree} : erL (t :: ts) = erT t :: erL ts := by rw [erL]
theorem erL_append : ∀ (xs ys : List Tree), erL (xs ++ ys) = erL xs ++ erL ys
  | [], ys => by rw [erL_nil]; rfl
  | x :: xs, ys => by rw [List.cons_append, erL_cons, erL_cons, erL_append xs ys]; rfl
theorem er_kids {t : Tree} : (erT t).kids = erL t.kids := by
  obtain ⟨k, tx, ks, l⟩ := t
  rw [erT_node]; rfl
theorem er_kids_eq {t u : Tree} (h : erT t = erT u) : erL t.kids = erL u.kids := by rw [← er_kids, ← er_kids, h]

inductive Cat | expr | conj | neg | comp | sum | prod | atom | args | argl | stl | stmt | block | chosen
/-- The tokens of a piece, and its tree. -/
inductive Der : Cat → List KT → Tree → Prop
  | e1 {a x} : Der .conj a x → Der .expr a x
  | e2 {a b x y l} : Der .expr a x → Der .conj b y → Der .expr (a ++ (1, [111, 114]) :: b) (.node 13 [] [x, y] l)
  | c1 {a x} : Der .neg a x → Der .conj a x
  | c2 {a b x y l} : Der .conj a x → Der .neg b y → Der .conj (a ++ (1, [97, 110, 100]) :: b) (.node 14 [] [x, y] l)
  | n1 {a x} : Der .comp a x → Der .neg a x
  | n2 {a x l} : Der .neg a x → Der .neg ((1, [110, 111, 116]) :: a) (.node 15 [] [x] l)
  | m1 {a x} : Der .sum a x → Der .comp a x
  | m2 {a b x y l} {k : Int} {tx : List UInt8} : cmpW k tx = true → Der .sum a x → Der .sum b y → Der .comp (a ++ (k, tx) :: b) (.node 16 tx [x, y] l)
  | s1 {a x} : Der .prod a x → Der .sum a x
  | s2 {a b x y l} : Der .sum a x → Der .prod b y → Der .sum (a ++ (4, [43]) :: b) (.node 17 [] [x, y] l)
  | s3 {a b x y l} : Der .sum a x → Der .prod b y → Der .sum (a ++ (4, [45]) :: b) (.node 18 [] [x, y] l)
  | p1 {a x} : Der .atom a x → Der .prod a x
  | p2 {a b x y l} : Der .prod a x → Der .atom b y → Der .prod (a ++ (4, [42]) :: b) (.node 19 [] [x, y] l)
  | num {tx l} : Der .atom [(2, tx)] (.node 20 tx [] l)
  | str {tx l} : Der .atom [(3, tx)] (.node 21 tx [] l)
  | boo {tx l} : tx = [116, 114, 117, 101] ∨ tx = [102, 97, 108, 115, 101] → Der .atom [(1, tx)] (.node 22 tx [] l)
  | nam {tx l} : tx ∉ kws → Der .atom [(1, tx)] (.node 23 tx [] l)
  | call {tx a x l} : tx ∉ kws → Der .args a x → Der .atom ((1, tx) :: (4, [40]) :: a) (.node 24 tx x.kids l)
  | par {a x} : Der .expr a x → Der .atom ((4, [40]) :: (a ++ [(4, [41])])) x
  | a0 : Der .args [(4, [41])] (lst [])
  | a1 {a x} : Der .argl a x → Der .args a x
  | l1 {a x} : Der .expr a x → Der .argl (a ++ [(4, [41])]) (lst [x])
  | l2 {a b x y} : Der .expr a x → Der .argl b y → Der .argl (a ++ (4, [44]) :: b) (lst (x :: y.kids))
  | t0 : Der .stl [] (lst [])
  | t1 {a b x y} : Der .stmt a x → Der .stl b y → Der .stl (a ++ b) (lst (x :: y.kids))
  | sif {a x} : Der .chosen a x → Der .stmt ((1, [105, 102]) :: a) x
  | slet {a x l} {nm : List UInt8} : nm ∉ kws → Der .expr a x → Der .stmt ((1, [108, 101, 116]) :: (1, nm) :: (4, [61]) :: (a ++ [(4, [59])])) (.node 3 nm [x] l)
  | sset {a x l} {nm : List UInt8} : nm = [112, 97, 116, 104] ∨ nm = [113, 117, 101, 114, 121] → Der .expr a x → Der .stmt ((1, nm) :: (4, [61]) :: (a ++ [(4, [59])])) (.node 4 nm [x] l)
  | shdr {a x l} {tx : List UInt8} : Der .expr a x → Der .stmt ((1, [104, 101, 97, 100, 101, 114]) :: (3, tx) :: (4, [61]) :: (a ++ [(4, [59])])) (.node 5 tx [x] l)
  | svry {l} {tx : List UInt8} : Der .stmt [(1, [118, 97, 114, 121]), (3, tx), (4, [59])] (.node 6 tx [] l)
  | stag {a x l} : Der .expr a x → Der .stmt ((1, [116, 97, 103]) :: (a ++ [(4, [59])])) (.node 7 [] [x] l)
  | sttl {a x l} : Der .expr a x → Der .stmt ((1, [116, 116, 108]) :: (a ++ [(4, [59])])) (.node 8 [] [x] l)
  | sdny {a x l} : Der .expr a x → Der .stmt ((1, [100, 101, 110, 121]) :: (a ++ [(4, [59])])) (.node 9 [] [x] l)
  | spas {l} : Der .stmt [(1, [112, 97, 115, 115]), (4, [59])] (.node 10 [] [] l)
  | stok {l} : Der .stmt [(1, [116, 111, 107, 101, 110]), (4, [59])] (.node 11 [] [] l)
  | blk {a x l} : Der .stl a x → Der .block ((4, [123]) :: (a ++ [(4, [125])])) (.node 12 [] x.kids l)
  | ch2 {a b x y l} : Der .expr a x → Der .block b y → Der .chosen (a ++ b) (.node 2 [] [x, y] l)
  | chb {a b c x y z l} : Der .expr a x → Der .block b y → Der .block c z → Der .chosen (a ++ (b ++ (1, [101, 108, 115, 101]) :: c)) (.node 2 [] [x, y, z] l)
  | chc {a b c x y z l} : Der .expr a x → Der .block b y → Der .chosen c z → Der .chosen (a ++ (b ++ (1, [101, 108, 115, 101]) :: (1, [105, 102]) :: c)) (.node 2 [] [x, y, z] l)

/-- How a piece begins. -/
def aHead (h : KT) : Prop := h.1 = 2 ∨ h.1 = 3 ∨ (h.1 = 1 ∧ (h.2 = [116, 114, 117, 101] ∨ h.2 = [102, 97, 108, 115, 101] ∨ h.2 ∉ kws)) ∨ h = (4, [40])
def headC : Cat → KT → Prop
  | .comp, h | .sum, h | .prod, h | .atom, h => aHead h
  | .expr, h | .conj, h | .neg, h | .argl, h | .chosen, h => aHead h ∨ h = (1, [110, 111, 116])
  | .stmt, h => h.1 = 1 ∧ h.2 ≠ [101, 108, 115, 101]
  | .block, h => h = (4, [123])
  | _, _ => True
theorem der_head {c : Cat} {ks : List KT} {t : Tree} (h : Der c ks t) : c ≠ .stl → ∃ g r, ks = g :: r ∧ headC c g := by
  induction h with
  | e1 _ ih => exact fun _ => ih nofun
  | e2 _ _ ih _ => intro _; obtain ⟨g, r, rfl, hg⟩ := ih nofun; exact ⟨g, _, rfl, hg⟩
  | c1 _ ih => exact fun _ => ih nofun
  | c2 _ _ ih _ => intro _; obtain ⟨g, r, rfl, hg⟩ := ih nofun; exact ⟨g, _, rfl, hg⟩
  | n1 _ ih => intro _; obtain ⟨g, r, rfl, hg⟩ := ih nofun; exact ⟨g, _, rfl, .inl hg⟩
  | n2 _ _ => exact fun _ => ⟨_, _, rfl, .inr rfl⟩
  | m1 _ ih => exact fun _ => ih nofun
  | m2 _ _ _ ih _ => intro _; obtain ⟨g, r, rfl, hg⟩ := ih nofun; exact ⟨g, _, rfl, hg⟩
  | s1 _ ih => exact fun _ => ih nofun
  | s2 _ _ ih _ => intro _; obtain ⟨g, r, rfl, hg⟩ := ih nofun; exact ⟨g, _, rfl, hg⟩
  | s3 _ _ ih _ => intro _; obtain ⟨g, r, rfl, hg⟩ := ih nofun; exact ⟨g, _, rfl, hg⟩
  | p1 _ ih => exact fun _ => ih nofun
  | p2 _ _ ih _ => intro _; obtain ⟨g, r, rfl, hg⟩ := ih nofun; exact ⟨g, _, rfl, hg⟩
  | num => exact fun _ => ⟨_, _, rfl, .inl rfl⟩
  | str => exact fun _ => ⟨_, _, rfl, .inr (.inl rfl)⟩
  | boo h => exact fun _ => ⟨_, _, rfl, .inr (.inr (.inl ⟨rfl, h.elim .inl (fun e => .inr (.inl e))⟩))⟩
  | nam h => exact fun _ => ⟨_, _, rfl, .inr (.inr (.inl ⟨rfl, .inr (.inr h)⟩))⟩
  | call h _ _ => exact fun _ => ⟨_, _, rfl, .inr (.inr (.inl ⟨rfl, .inr (.inr h)⟩))⟩
  | par _ _ => exact fun _ => ⟨_, _, rfl, .inr (.inr (.inr rfl))⟩
  | a0 => exact fun _ => ⟨_, _, rfl, trivial⟩
  | a1 _ ih => intro _; obtain ⟨g, r, rfl, hg⟩ := ih nofun; exact ⟨g, _, rfl, trivial⟩
  | l1 _ ih => intro _; obtain ⟨g, r, rfl, hg⟩ := ih nofun; exact ⟨g, _, rfl, hg⟩
  | l2 _ _ ih _ => intro _; obtain ⟨g, r, rfl, hg⟩ := ih nofun; exact ⟨g, _, rfl, hg⟩
  | t0 => exact fun h => absurd rfl h
  | t1 _ _ _ _ => exact fun h => absurd rfl h
  | sif _ _ => exact fun _ => ⟨_, _, rfl, rfl, by decide⟩
  | slet _ _ _ => exact fun _ => ⟨_, _, rfl, rfl, by decide⟩
  | sset h _ _ => exact fun _ => ⟨_, _, rfl, rfl, by rcases h with rfl | rfl <;> decide⟩
  | shdr _ _ => exact fun _ => ⟨_, _, rfl, rfl, by decide⟩
  | svry => exact fun _ => ⟨_, _, rfl, rfl, by decide⟩
  | stag _ _ => exact fun _ => ⟨_, _, rfl, rfl, by decide⟩
  | sttl _ _ => exact fun _ => ⟨_, _, rfl, rfl, by decide⟩
  | sdny _ _ => exact fun _ => ⟨_, _, rfl, rfl, by decide⟩
  | spas => exact fun _ => ⟨_, _, rfl, rfl, by decide⟩
  | stok => exact fun _ => ⟨_, _, rfl, rfl, by decide⟩
  | blk _ _ => exact fun _ => ⟨_, _, rfl, rfl⟩
  | ch2 _ _ ih _ => intro _; obtain ⟨g, r, rfl, hg⟩ := ih nofun; exact ⟨g, _, rfl, hg⟩
  | chb _ _ _ ih _ _ => intro _; obtain ⟨g, r, rfl, hg⟩ := ih nofun; exact ⟨g, _, rfl, hg⟩
  | chc _ _ _ ih _ _ => intro _; obtain ⟨g, r, rfl, hg⟩ := ih nofun; exact ⟨g, _, rfl, hg⟩

/-- How tightly a token binds as an operator. -/
def levK (h : KT) : Nat := if h = (1, [111, 114]) then 1 else if h = (1, [97, 110, 100]) then 2 else if cmpW h.1 h.2 = true then 4 else if h = (4, [43]) ∨ h = (4, [45]) then 5 else if h = (4, [42]) then 6 else if h = (4, [40]) then 8 else 0
def lev (r : List Tok) : Nat := levK (kt (hdT r))
theorem isW_kt {r : List Tok} {k : Int} {tx : List UInt8} : isW r k tx = true ↔ kt (hdT r) = (k, tx) := by
  unfold isW kt
  rw [Bool.and_eq_true, beq_iff_eq, beq_iff_eq, Prod.mk.injEq]
theorem isW_lev {r : List Tok} {k : Int} {tx : List UInt8} {n : Nat} (h : lev r < n) (hn : n ≤ levK (k, tx)) : isW r k tx = false := by
  rw [Bool.eq_false_iff]
  intro e
  rw [isW_kt] at e
  unfold lev at h
  rw [e] at h
  omega
theorem isW_no {r : List Tok} {k : Int} {tx : List UInt8} (h : kt (hdT r) ≠ (k, tx)) : isW r k tx = false := by
  rw [Bool.eq_false_iff]
  exact fun e => h (isW_kt.1 e)
theorem cmp_lev {r : List Tok} (h : lev r < 4) : cmpW (hdT r).kind (hdT r).text = false := by
  rw [Bool.eq_false_iff]
  intro e
  have : levK (kt (hdT r)) ≤ 3 := by unfold lev at h; omega
  unfold levK kt at this
  dsimp only at this
  split at this
  · rename_i h1
    rw [Prod.mk.injEq] at h1
    rw [h1.1, h1.2] at e
    revert e
    decide
  · split at this
    · rename_i h1
      rw [Prod.mk.injEq] at h1
      rw [h1.1, h1.2] at e
      revert e
      decide
    · simp [e] at this
theorem lev_cmp {r : List Tok} {k : Int} {tx : List UInt8} (h : kt (hdT r) = (k, tx)) (hc : cmpW k tx = true) : lev r = 4 := by
  unfold lev levK
  rw [h]
  dsimp only
  rw [if_neg, if_neg, if_pos hc]
  · rintro e
    rw [Prod.mk.injEq] at e
    rw [e.1, e.2] at hc
    revert hc
    decide
  · rintro e
    rw [Prod.mk.injEq] at e
    rw [e.1, e.2] at hc
    revert hc
    decide
end Go.Proofs.YtogkiifljdnjgaaDoor
