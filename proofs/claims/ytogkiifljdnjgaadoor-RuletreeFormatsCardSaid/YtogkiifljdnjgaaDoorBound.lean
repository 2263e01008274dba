/- Bound: Bound ParseP, one behind the other. -/
import Derived.Test.YtogkiifljdnjgaaDoorGram
import Derived.Test.YtogkiifljdnjgaaDoorBase
/- The parser in plain Lean: what is left, the line, and the size of what it makes. Condition: the last token is the End, lines are set, fuel. -/
namespace Go.Proofs.YtogkiifljdnjgaaDoor
set_option linter.unusedVariables false
set_option linter.unusedSimpArgs false

structure Bd (s : PS) (sz k : Nat) (r : PS) : Prop where
  good : GoodL r.1
  mem : ∀ t ∈ r.1, t ∈ s.1
  line : r.2 = s.2 ∨ ∃ t ∈ s.1, r.2 = t.line
  size : sz + 4 * r.1.length ≤ 4 * s.1.length + k
theorem Bd.refl {s : PS} (h : GoodL s.1) : Bd s 0 0 s := ⟨h, fun _ h => h, .inl rfl, by omega⟩
theorem Bd.trans {s r q : PS} {a b c d : Nat} (h : Bd s a c r) (g : Bd r b d q) : Bd s (a + b) (c + d) q := by
  refine ⟨g.good, fun t ht => h.mem t (g.mem t ht), ?_, by have := h.size; have := g.size; omega⟩
  rcases g.line with e | ⟨t, ht, e⟩
  · rw [e]; exact h.line
  · exact .inr ⟨t, h.mem t ht, e⟩
theorem Bd.mono {s r : PS} {a b c d : Nat} (h : Bd s a c r) (hs : b + c ≤ a + d) : Bd s b d r := ⟨h.good, h.mem, h.line, by have := h.size; omega⟩
theorem nxt_mem {l : List Tok} : ∀ t ∈ nxt l, t ∈ l := by
  match l with
  | [] => exact fun t h => h
  | [x] => exact fun t h => h
  | x :: y :: l => exact fun t h => List.mem_cons_of_mem _ h
theorem GoodL.len {l : List Tok} (h : GoodL l) : 1 ≤ l.length := by
  obtain ⟨_, t, h, _⟩ := h
  match l, h with
  | x :: l, _ => simp
theorem GoodL.hd_mem {l : List Tok} (h : GoodL l) : hdT l ∈ l := by
  match l, h.len with
  | x :: l, _ => exact List.mem_cons_self
theorem bd_nxt {s : PS} (h : GoodL s.1) : Bd s 0 0 (nxt s.1, s.2) := ⟨h.nxt, nxt_mem, .inl rfl, by have := nxt_le' s.1; simp; omega⟩
/-- A token is taken that is not the End. -/
theorem bd_take {s : PS} (h : GoodL s.1) (hk : (hdT s.1).kind ≠ 5) : Bd s 4 0 (nxt s.1, s.2) := ⟨h.nxt, nxt_mem, .inl rfl, by have := h.nxt_lt hk; simp; omega⟩
theorem bd_isW {s : PS} {k : Int} {tx : List UInt8} (h : GoodL s.1) (hw : isW s.1 k tx = true) (hk : k ≠ 5) : Bd s 4 0 (nxt s.1, s.2) := bd_take h (by rw [isW_kind hw]; exact hk)
theorem bd_fail {s : PS} (h : GoodL s.1) : Bd s 0 0 (failF s) := by
  unfold failF
  refine ⟨h, fun _ h => h, ?_, by simp⟩
  dsimp only
  split
  · exact .inr ⟨_, h.hd_mem, rfl⟩
  · exact .inl rfl
theorem fail_bad {s : PS} (h : GoodL s.1) : (failF s).2 ≠ 0 := by
  unfold failF
  dsimp only
  split
  · exact h.hd_line
  · rename_i h; exact h
theorem bd_sign {tx : List UInt8} {s : PS} (h : GoodL s.1) : Bd s 0 0 (signF tx s) := by
  unfold signF
  split
  · exact bd_nxt h
  · exact bd_fail h
/-- A sign that is there is taken. -/
theorem bd_sign0 {tx : List UInt8} {s : PS} (h : GoodL s.1) (hz : (signF tx s).2 = 0) : Bd s 4 0 (signF tx s) := by
  unfold signF at hz ⊢
  split
  · rename_i hi; exact bd_isW h hi (by decide)
  · rename_i hi
    rw [if_neg hi] at hz
    exact absurd hz (fail_bad h)
theorem bd_text {s : PS} (h : GoodL s.1) : Bd s 0 0 (textF s).2 := by
  unfold textF
  split
  · exact bd_nxt h
  · exact bd_fail h
def szN : NT → Tree → Nat
  | .args, t => sizeL t.kids
  | .stmts, t => sizeL t.kids
  | .value _, t => sizeL t.kids
  | _, t => sizeT t
def kN : NT → Nat
  | .chosen _ => 3
  | _ => 1
def BdN (nt : NT) (s : PS) (r : Tree × PS) : Prop := Bd s (szN nt r.1) (kN nt) r.2 ∧ (nt = .stmt → r.2.2 = 0 → Bd s (sizeT r.1) 0 r.2)
theorem sizeT_bin (k : Int) (tx : List UInt8) (a b : Tree) : sizeT (binT k tx a b) = 1 + sizeT a + sizeT b := by
  unfold binT
  rw [sizeT_node, sizeL_cons, sizeL_cons, sizeL_nil]
  omega
theorem kids_lst (ks : List Tree) : (lst ks).kids = ks := rfl
theorem kids_node (k : Int) (t : List UInt8) (ks : List Tree) (l : Int) : (Tree.node k t ks l).kids = ks := rfl
section
variable {n : Nat} {rc : Rec} (H : ∀ nt s, GoodL s.1 → 10 * s.1.length + rankN nt ≤ n → BdN nt s (rc nt s))
theorem rank_le (nt : NT) : rankN nt ≤ 9 := by cases nt <;> simp [rankN]
include H
/-- A call behind a token that was taken. -/
theorem bd_call {s0 s : PS} (nt : NT) (h : GoodL s.1) (hs : s.1.length + 1 ≤ s0.1.length) (h0 : 10 * s0.1.length ≤ n + 1) : BdN nt s (rc nt s) := H nt s h (by have := rank_le nt; omega)
theorem bd_ops (nt : NT) (kind : Int) (op : List UInt8) (k : Int) (hk : kind ≠ 5) (hn : ∀ t, szN nt t = sizeT t) (hkn : kN nt = 1) : ∀ (f : Nat) (t : Tree) (s : PS), GoodL s.1 → 10 * s.1.length ≤ n + 1 → Bd s (sizeT (opsF rc nt kind op k f t s).1) (sizeT t) (opsF rc nt kind op k f t s).2
  | 0, t, s, h, h0 => (Bd.refl h).mono (Nat.le_of_eq (Nat.add_comm _ _))
  | f + 1, t, s, h, h0 => by
    unfold opsF
    split
    · rename_i hc
      have b1 := bd_isW h hc.2 hk
      have hl := h.nxt_lt (l := s.1) (by rw [isW_kind hc.2]; exact hk)
      have b2 := (bd_call H nt (s0 := s) (s := (nxt s.1, s.2)) b1.good (by dsimp only; omega) h0).1
      rw [hn, hkn] at b2
      have hl2 := b2.size
      have b3 := bd_ops nt kind op k hk hn hkn f (binT k [] t (rc nt (nxt s.1, s.2)).1) (rc nt (nxt s.1, s.2)).2 b2.good (by dsimp only at hl2; have := sizeT_node; have h4 : 1 ≤ sizeT (rc nt (nxt s.1, s.2)).1 := by cases (rc nt (nxt s.1, s.2)).1; rw [sizeT_node]; omega
                                                                                                                             omega)
      rw [sizeT_bin] at b3
      exact ((b1.trans b2).trans b3).mono (by omega)
    · exact (Bd.refl h).mono (Nat.le_of_eq (Nat.add_comm _ _))
theorem bd_sum : ∀ (f : Nat) (t : Tree) (s : PS), GoodL s.1 → 10 * s.1.length ≤ n + 1 → Bd s (sizeT (sumF rc f t s).1) (sizeT t) (sumF rc f t s).2
  | 0, t, s, h, h0 => (Bd.refl h).mono (Nat.le_of_eq (Nat.add_comm _ _))
  | f + 1, t, s, h, h0 => by
    have key : ∀ (tx : List UInt8) (k : Int), isW s.1 4 tx = true → Bd s (sizeT (sumF rc f (binT k [] t (rc .prod (nxt s.1, s.2)).1) (rc .prod (nxt s.1, s.2)).2).1) (sizeT t) (sumF rc f (binT k [] t (rc .prod (nxt s.1, s.2)).1) (rc .prod (nxt s.1, s.2)).2).2 := by
      intro tx k hc
      have b1 := bd_isW h hc (by decide)
      have hl := h.nxt_lt (l := s.1) (by rw [isW_kind hc]; decide)
      have b2 := (bd_call H .prod (s0 := s) (s := (nxt s.1, s.2)) b1.good (by dsimp only; omega) h0).1
      have hl2 : sizeT (rc .prod (nxt s.1, s.2)).1 + 4 * (rc .prod (nxt s.1, s.2)).2.1.length ≤ 4 * (nxt s.1).length + 1 := b2.size
      have h4 : 1 ≤ sizeT (rc .prod (nxt s.1, s.2)).1 := by cases (rc .prod (nxt s.1, s.2)).1; rw [sizeT_node]; omega
      have b3 := bd_sum f (binT k [] t (rc .prod (nxt s.1, s.2)).1) (rc .prod (nxt s.1, s.2)).2 b2.good (by omega)
      rw [sizeT_bin] at b3
      have b2' : Bd (nxt s.1, s.2) (sizeT (rc .prod (nxt s.1, s.2)).1) 1 (rc .prod (nxt s.1, s.2)).2 := b2
      exact ((b1.trans b2').trans b3).mono (by omega)
    unfold sumF
    split
    · exact (Bd.refl h).mono (Nat.le_of_eq (Nat.add_comm _ _))
    split
    · rename_i hc; exact key _ _ hc
    split
    · rename_i hc; exact key _ _ hc
    · exact (Bd.refl h).mono (Nat.le_of_eq (Nat.add_comm _ _))
theorem bd_args : ∀ (f : Nat) (ks : List Tree) (s : PS), GoodL s.1 → 10 * s.1.length + 8 ≤ n → Bd s (sizeL (argsF rc f ks s).1.kids) (sizeL ks + 1) (argsF rc f ks s).2
  | 0, ks, s, h, h0 => (Bd.refl h).mono (by unfold argsF; rw [kids_lst]; omega)
  | f + 1, ks, s, h, h0 => by
    have b1 : Bd s (sizeT (rc .expr s).1) 1 (rc .expr s).2 := (H .expr s h h0).1
    unfold argsF
    split
    · exact (Bd.refl h).mono (by dsimp only; rw [kids_lst]; omega)
    split
    · exact b1.mono (by dsimp only; rw [kids_lst, sizeL_append, sizeL_cons, sizeL_nil]; omega)
    split
    · rename_i hc
      have b2 := bd_isW b1.good hc (by decide)
      have hl := b2.size
      have hl1 := b1.size
      have h4 : 1 ≤ sizeT (rc .expr s).1 := by cases (rc .expr s).1; rw [sizeT_node]; omega
      have b3 := bd_args f (ks ++ [(rc .expr s).1]) (nxt (rc .expr s).2.1, (rc .expr s).2.2) b2.good (by omega)
      rw [sizeL_append, sizeL_cons, sizeL_nil] at b3
      exact ((b1.trans b2).trans b3).mono (by omega)
    · exact (b1.trans (bd_sign b1.good)).mono (by dsimp only; rw [kids_lst, sizeL_append, sizeL_cons, sizeL_nil]; omega)
theorem bd_stmts : ∀ (f : Nat) (ks : List Tree) (s : PS), GoodL s.1 → 10 * s.1.length + 1 ≤ n → Bd s (sizeL (stmtsF rc f ks s).1.kids) (sizeL ks + 1) (stmtsF rc f ks s).2
  | 0, ks, s, h, h0 => (Bd.refl h).mono (by unfold stmtsF; rw [kids_lst]; omega)
  | f + 1, ks, s, h, h0 => by
    have hs := H .stmt s h h0
    have b1 : Bd s (sizeT (rc .stmt s).1) 1 (rc .stmt s).2 := hs.1
    unfold stmtsF
    split
    · rename_i hc
      by_cases hz : (rc .stmt s).2.2 = 0
      · have b2 := hs.2 rfl hz
        have hl := b2.size
        have b3 := bd_stmts f (ks ++ [(rc .stmt s).1]) (rc .stmt s).2 b2.good (by omega)
        rw [sizeL_append, sizeL_cons, sizeL_nil] at b3
        exact (b2.trans b3).mono (by omega)
      · have hst : stmtsF rc f (ks ++ [(rc .stmt s).1]) (rc .stmt s).2 = (lst (ks ++ [(rc .stmt s).1]), (rc .stmt s).2) := by
          cases f with
          | zero => rfl
          | succ f => unfold stmtsF; rw [if_neg (fun h => hz h.1)]
        rw [hst]
        exact b1.mono (by dsimp only; rw [kids_lst, sizeL_append, sizeL_cons, sizeL_nil]; omega)
    · exact (Bd.refl h).mono (by dsimp only; rw [kids_lst]; omega)
theorem bd_neg (s : PS) (h : GoodL s.1) (h0 : 10 * s.1.length + 6 ≤ n + 1) : Bd s (sizeT (negB rc s).1) 1 (negB rc s).2 := by
  unfold negB
  split
  · rename_i hc
    have b1 := bd_isW h hc (by decide)
    have hl := h.nxt_lt (l := s.1) (by rw [isW_kind hc]; decide)
    have b2 : Bd (nxt s.1, s.2) (sizeT (rc .neg (nxt s.1, s.2)).1) 1 (rc .neg (nxt s.1, s.2)).2 := (bd_call H .neg (s0 := s) (s := (nxt s.1, s.2)) b1.good (by dsimp only; omega) (by omega)).1
    exact (b1.trans b2).mono (by dsimp only; rw [sizeT_node, sizeL_cons, sizeL_nil]; omega)
  · exact (H .comp s h (by simp [rankN]; omega)).1
theorem bd_comp (s : PS) (h : GoodL s.1) (h0 : 10 * s.1.length + 5 ≤ n + 1) : Bd s (sizeT (compB rc s).1) 1 (compB rc s).2 := by
  have b1 : Bd s (sizeT (rc .sum s).1) 1 (rc .sum s).2 := (H .sum s h (by simp [rankN]; omega)).1
  unfold compB
  split
  · rename_i hc
    have hk : (hdT (rc .sum s).2.1).kind ≠ 5 := by
      intro e
      have h2 := hc.2
      unfold cmpW at h2
      rw [e] at h2
      split at h2
      · exact absurd h2 (by decide)
      split at h2
      · exact absurd h2 (by decide)
      · exact absurd h2 (by decide)
    have b2 := bd_take b1.good hk
    have hl := b1.good.nxt_lt hk
    have hl1 := b1.size
    have h4 : 1 ≤ sizeT (rc .sum s).1 := by cases (rc .sum s).1; rw [sizeT_node]; omega
    have b3 : Bd (nxt (rc .sum s).2.1, (rc .sum s).2.2) (sizeT (rc .sum (nxt (rc .sum s).2.1, (rc .sum s).2.2)).1) 1 (rc .sum (nxt (rc .sum s).2.1, (rc .sum s).2.2)).2 :=
      (bd_call H .sum (s0 := (rc .sum s).2) (s := (nxt (rc .sum s).2.1, (rc .sum s).2.2)) b2.good (by dsimp only; omega) (by omega)).1
    exact ((b1.trans b2).trans b3).mono (by dsimp only; rw [sizeT_bin]; omega)
  · exact b1
theorem bd_argsB (s : PS) (h : GoodL s.1) (h0 : 10 * s.1.length + 9 ≤ n + 1) : Bd s (sizeL (argsB rc s).1.kids) 1 (argsB rc s).2 := by
  unfold argsB
  split
  · exact (bd_nxt h).mono (by dsimp only; rw [kids_lst, sizeL_nil]; omega)
  · exact (bd_args H _ _ _ h (by omega)).mono (by rw [sizeL_nil]; omega)
theorem bd_atom (s : PS) (h : GoodL s.1) (h0 : 10 * s.1.length + 2 ≤ n + 1) : Bd s (sizeT (atomB rc s).1) 1 (atomB rc s).2 := by
  have leaf : ∀ (k : Int) (tx : List UInt8) (l : Int), sizeT (.node k tx [] l) = 1 := fun k tx l => by rw [sizeT_node, sizeL_nil]
  unfold atomB
  dsimp only
  split
  · exact (bd_nxt h).mono (by rw [leaf]; omega)
  split
  · exact (bd_nxt h).mono (by rw [leaf]; omega)
  split
  · exact (bd_nxt h).mono (by rw [leaf]; omega)
  split
  · rename_i hc
    have b1 := bd_take h (by rw [hc.1]; decide)
    have hl : (nxt s.1).length + 1 = s.1.length := h.nxt_lt (by rw [hc.1]; decide)
    split
    · rename_i hq
      have b2 := bd_isW (s := (nxt s.1, s.2)) b1.good hq (by decide)
      have hl2 : (nxt (nxt s.1)).length + 1 = (nxt s.1).length := h.nxt.nxt_lt (by rw [isW_kind hq]; decide)
      have b3 : Bd (nxt (nxt s.1), s.2) (sizeL (rc .args (nxt (nxt s.1), s.2)).1.kids) 1 (rc .args (nxt (nxt s.1), s.2)).2 := (bd_call H .args (s0 := s) (s := (nxt (nxt s.1), s.2)) b2.good (by dsimp only; omega) (by omega)).1
      exact ((b1.trans b2).trans b3).mono (by dsimp only; rw [sizeT_node]; omega)
    · exact b1.mono (by dsimp only; rw [leaf]; omega)
  split
  · rename_i hq
    have b1 := bd_isW h hq (by decide)
    have hl := h.nxt_lt (l := s.1) (by rw [isW_kind hq]; decide)
    have b2 : Bd (nxt s.1, s.2) (sizeT (rc .expr (nxt s.1, s.2)).1) 1 (rc .expr (nxt s.1, s.2)).2 := (bd_call H .expr (s0 := s) (s := (nxt s.1, s.2)) b1.good (by dsimp only; omega) (by omega)).1
    dsimp only
    split
    · exact ((b1.trans b2).trans (bd_sign b2.good)).mono (by omega)
    · exact (b1.trans b2).mono (by omega)
  · exact (bd_fail h).mono (by rw [leaf]; omega)
theorem bd_block (s : PS) (h : GoodL s.1) (h0 : 10 * s.1.length + 1 ≤ n + 1) : Bd s (sizeT (blockB rc s).1) 1 (blockB rc s).2 := by
  unfold blockB
  split
  · rename_i hz
    have b1 := bd_sign0 h hz
    have hl := b1.size
    have b2 : Bd (signF [123] s) (sizeL (rc .stmts (signF [123] s)).1.kids) 1 (rc .stmts (signF [123] s)).2 := (bd_call H .stmts (s0 := s) (s := signF [123] s) b1.good (by omega) (by omega)).1
    exact ((b1.trans b2).trans (bd_sign b2.good)).mono (by dsimp only; rw [sizeT_node]; omega)
  · exact (bd_sign h).mono (by dsimp only; rw [sizeT_node, sizeL_nil]; omega)
theorem bd_value (sg : List UInt8) (s : PS) (h : GoodL s.1) (h0 : 10 * s.1.length + 9 ≤ n + 1) : Bd s (sizeL (valueB rc sg s).1.kids) 1 (valueB rc sg s).2 := by
  unfold valueB
  dsimp only
  have b1 : Bd s 0 0 (if sg = [] then s else signF sg s) := by
    split
    · exact Bd.refl h
    · exact bd_sign h
  generalize (if sg = [] then s else signF sg s) = s1 at *
  have hl := b1.size
  have b2 : Bd s1 (sizeT (rc .expr s1).1) 1 (rc .expr s1).2 := (H .expr s1 b1.good (by simp [rankN]; omega)).1
  split
  · exact b1.mono (by dsimp only; rw [kids_lst, sizeL_nil]; omega)
  · dsimp only
    rw [kids_lst, sizeL_cons, sizeL_nil]
    split
    · exact ((b1.trans b2).trans (bd_sign b2.good)).mono (by omega)
    · exact (b1.trans b2).mono (by omega)
theorem bd_chosen (l : Int) (s : PS) (h : GoodL s.1) (h0 : 10 * s.1.length + 9 ≤ n + 1) : Bd s (sizeT (chosenB rc l s).1) 3 (chosenB rc l s).2 := by
  have n1 : ∀ (a : Tree), sizeT (.node 2 [] [a] l) = 1 + sizeT a := fun a => by rw [sizeT_node, sizeL_cons, sizeL_nil]; omega
  have n2 : ∀ (a b : Tree), sizeT (.node 2 [] [a, b] l) = 1 + sizeT a + sizeT b := fun a b => by rw [sizeT_node, sizeL_cons, sizeL_cons, sizeL_nil]; omega
  have n3 : ∀ (a b c : Tree), sizeT (.node 2 [] [a, b, c] l) = 1 + sizeT a + sizeT b + sizeT c := fun a b c => by rw [sizeT_node, sizeL_cons, sizeL_cons, sizeL_cons, sizeL_nil]; omega
  have b1 : Bd s (sizeT (rc .expr s).1) 1 (rc .expr s).2 := (H .expr s h (by simp [rankN]; omega)).1
  have hl1 := b1.size
  have p1 : 1 ≤ sizeT (rc .expr s).1 := by cases (rc .expr s).1; rw [sizeT_node]; omega
  unfold chosenB
  dsimp only
  split
  · exact b1.mono (by dsimp only; rw [n1]; omega)
  have b2 : Bd (rc .expr s).2 (sizeT (rc .block (rc .expr s).2).1) 1 (rc .block (rc .expr s).2).2 := (H .block (rc .expr s).2 b1.good (by simp [rankN]; omega)).1
  have hl2 := b2.size
  have p2 : 1 ≤ sizeT (rc .block (rc .expr s).2).1 := by cases (rc .block (rc .expr s).2).1; rw [sizeT_node]; omega
  split
  · exact (b1.trans b2).mono (by dsimp only; rw [n2]; omega)
  rename_i hne
  have he : isW (rc .block (rc .expr s).2).2.1 1 [101, 108, 115, 101] = true := by
    cases hh : isW (rc .block (rc .expr s).2).2.1 1 [101, 108, 115, 101] with
    | true => rfl
    | false => exact absurd (.inr hh) hne
  have b3 := bd_isW b2.good he (by decide)
  have hl3 := b2.good.nxt_lt (l := (rc .block (rc .expr s).2).2.1) (by rw [isW_kind he]; decide)
  generalize rc .block (rc .expr s).2 = r2 at *
  generalize rc .expr s = r1 at *
  split
  · rename_i hi
    have b4 := bd_isW (s := (nxt r2.2.1, r2.2.2)) b3.good hi (by decide)
    have hl4 : (nxt (nxt r2.2.1)).length + 1 = (nxt r2.2.1).length := b3.good.nxt_lt (by rw [isW_kind hi]; decide)
    have b5 : Bd (nxt (nxt r2.2.1), r2.2.2) (sizeT (rc (.chosen (hdT (nxt r2.2.1)).line) (nxt (nxt r2.2.1), r2.2.2)).1) 3 (rc (.chosen (hdT (nxt r2.2.1)).line) (nxt (nxt r2.2.1), r2.2.2)).2 := (bd_call H (.chosen (hdT (nxt r2.2.1)).line) (s0 := s) (s := (nxt (nxt r2.2.1), r2.2.2)) b4.good (by dsimp only; omega) (by omega)).1
    exact ((((b1.trans b2).trans b3).trans b4).trans b5).mono (by dsimp only; rw [n3]; omega)
  · have b5 : Bd (nxt r2.2.1, r2.2.2) (sizeT (rc .block (nxt r2.2.1, r2.2.2)).1) 1 (rc .block (nxt r2.2.1, r2.2.2)).2 := (bd_call H .block (s0 := s) (s := (nxt r2.2.1, r2.2.2)) b3.good (by dsimp only; omega) (by omega)).1
    exact (((b1.trans b2).trans b3).trans b5).mono (by dsimp only; rw [n3]; omega)
theorem bd_stmt (s : PS) (h : GoodL s.1) (h0 : 10 * s.1.length + 1 ≤ n + 1) : Bd s (sizeT (stmtB rc s).1) 1 (stmtB rc s).2 ∧ ((stmtB rc s).2.2 = 0 → Bd s (sizeT (stmtB rc s).1) 0 (stmtB rc s).2) := by
  have leaf : ∀ (k : Int) (tx : List UInt8) (l : Int), sizeT (.node k tx [] l) = 1 := fun k tx l => by rw [sizeT_node, sizeL_nil]
  have bad : ∀ (l : Int), Bd s (sizeT (.node 0 [] [] l)) 1 (failF s) ∧ ((failF s).2 = 0 → Bd s (sizeT (.node 0 [] [] l)) 0 (failF s)) := fun l => ⟨(bd_fail h).mono (by rw [leaf]; omega), fun hz => absurd hz (fail_bad h)⟩
  have two : ∀ {t : Tree} {r : PS}, Bd s (sizeT t) 0 r → Bd s (sizeT t) 1 r ∧ (r.2 = 0 → Bd s (sizeT t) 0 r) := fun hb => ⟨hb.mono (by omega), fun _ => hb⟩
  unfold stmtB
  dsimp only
  by_cases hk : (hdT s.1).kind = 1
  rotate_left
  · rw [if_pos hk]; exact bad _
  rw [if_neg (fun h => h hk)]
  have b1 := bd_take h (by rw [hk]; decide)
  have hl : (nxt s.1).length + 1 = s.1.length := h.nxt_lt (by rw [hk]; decide)
  have call : ∀ (nt : NT) (s' : PS), GoodL s'.1 → s'.1.length + 1 ≤ s.1.length → Bd s' (szN nt (rc nt s').1) (kN nt) (rc nt s').2 := fun nt s' hg hlt => (bd_call H nt (s0 := s) (s := s') hg hlt (by omega)).1
  have val : ∀ (sg : List UInt8) (s' : PS) (k : Int) (tx : List UInt8) (l : Int), Bd s 4 0 s' → Bd s (sizeT (.node k tx (rc (.value sg) s').1.kids l)) 0 (rc (.value sg) s').2 := fun sg s' k tx l hb => by
    have h2 : Bd s' (sizeL (rc (.value sg) s').1.kids) 1 (rc (.value sg) s').2 := call (.value sg) s' hb.good (by have := hb.size; omega)
    exact (hb.trans h2).mono (by rw [sizeT_node]; omega)
  by_cases e1 : (hdT s.1).text = [105, 102]
  · rw [if_pos e1]
    have b2 : Bd (nxt s.1, s.2) (sizeT (rc (.chosen (hdT s.1).line) (nxt s.1, s.2)).1) 3 (rc (.chosen (hdT s.1).line) (nxt s.1, s.2)).2 := call (.chosen (hdT s.1).line) _ b1.good (by dsimp only; omega)
    exact two ((b1.trans b2).mono (by omega))
  rw [if_neg e1]
  by_cases e2 : (hdT s.1).text = [108, 101, 116]
  · rw [if_pos e2]
    split
    · exact two ((b1.trans (bd_fail b1.good)).mono (by dsimp only; rw [leaf]; omega))
    · exact two (val _ _ _ _ _ ((b1.trans (bd_nxt b1.good)).mono (by omega)))
  rw [if_neg e2]
  by_cases e3 : (hdT s.1).text = [112, 97, 116, 104] ∨ (hdT s.1).text = [113, 117, 101, 114, 121]
  · rw [if_pos e3]
    exact two (val _ _ _ _ _ b1)
  rw [if_neg e3]
  have b2 := b1.trans (bd_text b1.good)
  by_cases e4 : (hdT s.1).text = [104, 101, 97, 100, 101, 114]
  · rw [if_pos e4]
    split
    · exact two (val _ _ _ _ _ (b2.mono (by omega)))
    · exact two (b2.mono (by dsimp only; rw [leaf]; omega))
  rw [if_neg e4]
  by_cases e5 : (hdT s.1).text = [118, 97, 114, 121]
  · rw [if_pos e5]
    dsimp only
    split
    · exact two ((b2.trans (bd_sign b2.good)).mono (by rw [leaf]; omega))
    · exact two (b2.mono (by rw [leaf]; omega))
  rw [if_neg e5]
  by_cases e6 : (hdT s.1).text = [116, 97, 103]
  · rw [if_pos e6]; exact two (val _ _ _ _ _ b1)
  rw [if_neg e6]
  by_cases e7 : (hdT s.1).text = [116, 116, 108]
  · rw [if_pos e7]; exact two (val _ _ _ _ _ b1)
  rw [if_neg e7]
  by_cases e8 : (hdT s.1).text = [100, 101, 110, 121]
  · rw [if_pos e8]; exact two (val _ _ _ _ _ b1)
  rw [if_neg e8]
  have b3 : ∀ k l, Bd s (sizeT (.node k [] [] l)) 0 (signF [59] (nxt s.1, s.2)) := fun k l => (b1.trans (bd_sign b1.good)).mono (by rw [leaf]; omega)
  by_cases e9 : (hdT s.1).text = [112, 97, 115, 115]
  · rw [if_pos e9]; exact two (b3 _ _)
  rw [if_neg e9]
  by_cases e10 : (hdT s.1).text = [116, 111, 107, 101, 110]
  · rw [if_pos e10]; exact two (b3 _ _)
  rw [if_neg e10]
  exact bad _
theorem bd_body (nt : NT) (s : PS) (h : GoodL s.1) (h0 : 10 * s.1.length + rankN nt ≤ n + 1) : BdN nt s (body rc nt s) := by
  cases nt with
  | expr =>
    have b1 : Bd s (sizeT (rc .conj s).1) 1 (rc .conj s).2 := (H .conj s h (by simp [rankN] at h0 ⊢; omega)).1
    have p : 1 ≤ sizeT (rc .conj s).1 := by cases (rc .conj s).1; rw [sizeT_node]; omega
    have b2 := bd_ops H .conj 1 [111, 114] 13 (by decide) (fun _ => rfl) rfl (rc .conj s).2.1.length (rc .conj s).1 (rc .conj s).2 b1.good (by have := b1.size; simp [rankN] at h0; omega)
    exact ⟨(b1.trans b2).mono (by show sizeT (body rc .expr s).1 + (1 + sizeT (rc .conj s).1) ≤ sizeT (rc .conj s).1 + sizeT (body rc .expr s).1 + 1; omega), fun e => by cases e⟩
  | conj =>
    have b1 : Bd s (sizeT (rc .neg s).1) 1 (rc .neg s).2 := (H .neg s h (by simp [rankN] at h0 ⊢; omega)).1
    have p : 1 ≤ sizeT (rc .neg s).1 := by cases (rc .neg s).1; rw [sizeT_node]; omega
    have b2 := bd_ops H .neg 1 [97, 110, 100] 14 (by decide) (fun _ => rfl) rfl (rc .neg s).2.1.length (rc .neg s).1 (rc .neg s).2 b1.good (by have := b1.size; simp [rankN] at h0; omega)
    exact ⟨(b1.trans b2).mono (by show sizeT (body rc .conj s).1 + (1 + sizeT (rc .neg s).1) ≤ sizeT (rc .neg s).1 + sizeT (body rc .conj s).1 + 1; omega), fun e => by cases e⟩
  | neg => exact ⟨bd_neg H s h h0, fun e => by cases e⟩
  | comp => exact ⟨bd_comp H s h h0, fun e => by cases e⟩
  | sum =>
    have b1 : Bd s (sizeT (rc .prod s).1) 1 (rc .prod s).2 := (H .prod s h (by simp [rankN] at h0 ⊢; omega)).1
    have p : 1 ≤ sizeT (rc .prod s).1 := by cases (rc .prod s).1; rw [sizeT_node]; omega
    have b2 := bd_sum H (rc .prod s).2.1.length (rc .prod s).1 (rc .prod s).2 b1.good (by have := b1.size; simp [rankN] at h0; omega)
    exact ⟨(b1.trans b2).mono (by show sizeT (body rc .sum s).1 + (1 + sizeT (rc .prod s).1) ≤ sizeT (rc .prod s).1 + sizeT (body rc .sum s).1 + 1; omega), fun e => by cases e⟩
  | prod =>
    have b1 : Bd s (sizeT (rc .atom s).1) 1 (rc .atom s).2 := (H .atom s h (by simp [rankN] at h0 ⊢; omega)).1
    have p : 1 ≤ sizeT (rc .atom s).1 := by cases (rc .atom s).1; rw [sizeT_node]; omega
    have b2 := bd_ops H .atom 4 [42] 19 (by decide) (fun _ => rfl) rfl (rc .atom s).2.1.length (rc .atom s).1 (rc .atom s).2 b1.good (by have := b1.size; simp [rankN] at h0; omega)
    exact ⟨(b1.trans b2).mono (by show sizeT (body rc .prod s).1 + (1 + sizeT (rc .atom s).1) ≤ sizeT (rc .atom s).1 + sizeT (body rc .prod s).1 + 1; omega), fun e => by cases e⟩
  | atom => exact ⟨bd_atom H s h h0, fun e => by cases e⟩
  | args => exact ⟨bd_argsB H s h h0, fun e => by cases e⟩
  | stmts =>
    refine ⟨?_, fun e => by cases e⟩
    exact (bd_stmts H (s.1.length + 1) [] s h (by simp [rankN] at h0; omega)).mono (by rw [sizeL_nil]; exact Nat.le_of_eq rfl)
  | stmt => exact ⟨(bd_stmt H s h h0).1, fun _ => (bd_stmt H s h h0).2⟩
  | block => exact ⟨bd_block H s h h0, fun e => by cases e⟩
  | value sg => exact ⟨bd_value H sg s h h0, fun e => by cases e⟩
  | chosen l => exact ⟨bd_chosen H l s h h0, fun e => by cases e⟩
end
theorem bd_run : ∀ (n : Nat) (nt : NT) (s : PS), GoodL s.1 → 10 * s.1.length + rankN nt ≤ n → BdN nt s (pRun n nt s)
  | 0, nt, s, h, h0 => by have := h.len; omega
  | n + 1, nt, s, h, h0 => bd_body (bd_run n) nt s h h0
end Go.Proofs.YtogkiifljdnjgaaDoor

/- Parse in plain Lean. No condition. -/
namespace Go.Proofs.YtogkiifljdnjgaaDoor
set_option linter.unusedVariables false
set_option linter.unusedSimpArgs false

theorem splitS_goodL : ∀ (s : List UInt8) (k : Nat) (l c : Int) (ts : List Tok), 1 ≤ l → splitS s k l c = some ts → GoodL ts
  | [], k, l, c, ts, hl, h => by
    have hb : ∀ t ∈ [(⟨5, [], l, c⟩ : Tok)], t.line ≠ 0 := by
      intro t ht
      obtain rfl := List.mem_singleton.1 ht
      show l ≠ 0
      omega
    cases k <;> simp only [splitS, Option.some.injEq] at h <;> subst h <;> exact ⟨hb, _, rfl, rfl⟩
  | x :: r, k + 1, l, c, ts, hl, h => by
    rw [splitS] at h
    exact splitS_goodL r k l (c + 1) ts hl h
  | x :: r, 0, l, c, ts, hl, h => by
    rw [splitS] at h
    split at h
    · exact splitS_goodL r _ _ _ ts (by omega) h
    · split at h
      · exact splitS_goodL r _ _ _ ts hl h
      · split at h
        · exact splitS_goodL r _ _ _ ts hl h
        · split at h
          · cases h
          · obtain ⟨ts', h', rfl⟩ := Option.map_eq_some_iff.1 h
            obtain ⟨g1, t, g2, g3⟩ := splitS_goodL r _ _ _ ts' hl h'
            refine ⟨fun u hu => ?_, t, ?_, g3⟩
            · rcases List.mem_cons.1 hu with rfl | hu
              · show l ≠ 0
                omega
              · exact g1 u hu
            · match ts', g2 with
              | a :: ts', g2 => rw [List.getLast?_cons_cons]; exact g2
theorem splitT_goodL {s : List UInt8} {ts : List Tok} (h : splitT s = some ts) : GoodL ts := splitS_goodL s 0 1 1 ts (by omega) h
def errV (n : Nat) : Value := if n = 0 then .nilIface else .iface 52 (.int .i64 n)
theorem errV0 : errV 0 = .nilIface := rfl
theorem errV2 : errV 2 = .iface 52 (.int .i64 2) := rfl
theorem errV5 : errV 5 = .iface 52 (.int .i64 5) := rfl
/-- What Parse does with the tokens: the tree, the line, the number of the error. -/
def parseR (es : List Tok) : Tree × PS := pRun (10 * es.length + 2) .stmts (es, 0)
def endF (r : PS) : PS := if r.2 = 0 ∧ (hdT r.1).kind ≠ 5 then failF r else r
def parseL (es : List Tok) : Tree × Int × Nat :=
  if (endF (parseR es).2).2 ≠ 0 then (default, (endF (parseR es).2).2, 2)
  else if 512 < sizeT (.node 1 [] (parseR es).1.kids 1) ∨ 32 < depthT (.node 1 [] (parseR es).1.kids 1) then (default, 0, 5)
  else (.node 1 [] (parseR es).1.kids 1, 0, 0)
def parseF (text : List UInt8) : Tree × Int × Nat :=
  if 4096 < text.length then (default, 0, 5) else match splitT text with
    | none => (default, 0, 2)
    | some es => parseL es
theorem parseF_large {s : List UInt8} (h : 4096 < s.length) : parseF s = (default, 0, 5) := by unfold parseF; rw [if_pos h]
theorem parseF_none {s : List UInt8} (h : ¬ 4096 < s.length) (hn : splitT s = none) : parseF s = (default, 0, 2) := by unfold parseF; rw [if_neg h, hn]
theorem parseF_some {s : List UInt8} {es : List Tok} (h : ¬ 4096 < s.length) (hn : splitT s = some es) : parseF s = parseL es := by unfold parseF; rw [if_neg h, hn]
theorem endF_bad {r : PS} (h : r.2 ≠ 0) : endF r = r := by unfold endF; rw [if_neg (fun g => h g.1)]
theorem endF_fail {r : PS} (h : r.2 = 0) (hk : (hdT r.1).kind ≠ 5) : endF r = failF r := by unfold endF; rw [if_pos ⟨h, hk⟩]
theorem endF_end {r : PS} (hk : (hdT r.1).kind = 5) : endF r = r := by unfold endF; rw [if_neg (fun g => g.2 hk)]
theorem parse_bd {es : List Tok} (h : GoodL es) : Bd (es, 0) (sizeL (parseR es).1.kids) 1 (parseR es).2 := (bd_run _ .stmts (es, 0) h (by simp [rankN])).1
theorem parse_size {es : List Tok} (h : GoodL es) (hl : es.length ≤ 5000) : sizeT (.node 1 [] (parseR es).1.kids 1) ≤ 1000000000 := by
  have := (parse_bd h).size
  rw [sizeT_node]
  dsimp only at this
  omega
end Go.Proofs.YtogkiifljdnjgaaDoor
