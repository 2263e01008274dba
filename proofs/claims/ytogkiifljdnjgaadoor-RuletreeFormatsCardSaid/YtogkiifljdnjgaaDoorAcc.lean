/- In plain Lean: whatever the parser accepts is valid. Condition: the tokens are such as Split gives. -/
import Derived.Test.YtogkiifljdnjgaaDoorBound
import Derived.Test.YtogkiifljdnjgaaDoorValidV
namespace Go.Proofs.YtogkiifljdnjgaaDoor
set_option linter.unusedVariables false
set_option linter.unusedSimpArgs false
set_option linter.unusedSectionVars false

/-- What Split's tokens are. -/
structure TokOK (t : Tok) : Prop where
  len : t.text.length ≤ 4096
  word : t.kind = 1 → t.text ∉ kws → namedP t.text = true
  num : t.kind = 2 → digitsP t.text = true
  str : t.kind = 3 → t.text.all okB = true
def TT (l : List Tok) : Prop := ∀ t ∈ l, TokOK t
theorem bd_zero {s r : PS} {a k : Nat} (h : Bd s a k r) (hg : GoodL s.1) (hz : r.2 = 0) : s.2 = 0 := by
  rcases h.line with e | ⟨t, ht, e⟩
  · rw [← e]; exact hz
  · rw [hz] at e
    exact absurd e.symm (hg.1 t ht)
theorem bd_tt {s r : PS} {a k : Nat} (h : Bd s a k r) (ht : TT s.1) : TT r.1 := fun t hm => ht t (h.mem t hm)
theorem tt_nxt {l : List Tok} (ht : TT l) : TT (nxt l) := fun t hm => ht t (nxt_mem t hm)
theorem tt_hd {l : List Tok} (hg : GoodL l) (ht : TT l) : TokOK (hdT l) := ht _ hg.hd_mem
theorem isW_text {l : List Tok} {kind : Int} {tx : List UInt8} (h : isW l kind tx = true) : (hdT l).text = tx := by
  unfold isW at h
  simp at h
  exact h.2
def VE (t : Tree) : Prop := exprOK t = true ∧ shortT t
def VN : NT → Tree → Prop
  | .args, t => exprsOK t.kids = true ∧ shortL t.kids
  | .stmts, t => stsOK t.kids = true ∧ shortL t.kids
  | .stmt, t => stOK t = true ∧ shortT t
  | .block, t => blOK t = true ∧ shortT t
  | .value _, t => ∃ e, t.kids = [e] ∧ VE e
  | .chosen _, t => t.kind = 2 ∧ stOK t = true ∧ shortT t
  | _, t => VE t
theorem ve_bin {k : Int} {tx : List UInt8} {a b : Tree} (hk : operandsP k tx = 2) (ht : tx.length ≤ 100000) (ha : VE a) (hb : VE b) : VE (binT k tx a b) := by
  unfold binT
  refine ⟨?_, ?_⟩
  · rw [exprOK_node, exprsOK_cons, exprsOK_cons, exprsOK_nil, hk, ha.1, hb.1]
    rfl
  · rw [shortT_node, shortL_cons, shortL_cons]
    exact ⟨ht, ha.2, hb.2, by rw [shortL]; trivial⟩
theorem ve_leaf {k : Int} {tx : List UInt8} {l : Int} (hk : operandsP k tx = 0) (ht : tx.length ≤ 100000) : VE (.node k tx [] l) := by
  refine ⟨?_, ?_⟩
  · rw [exprOK_node, exprsOK_nil, hk]
    rfl
  · rw [shortT_node]
    exact ⟨ht, by rw [shortL]; trivial⟩
theorem sl_nil : shortL [] := by rw [shortL]; trivial
theorem sl_append : ∀ {xs ys : List Tree}, shortL xs → shortL ys → shortL (xs ++ ys)
  | [], ys, _, h => h
  | x :: xs, ys, h, g => by
    rw [shortL_cons] at h
    rw [List.cons_append, shortL_cons]
    exact ⟨h.1, sl_append h.2 g⟩
theorem sl_one {t : Tree} (h : shortT t) : shortL [t] := by rw [shortL_cons]; exact ⟨h, sl_nil⟩
section
variable {n : Nat} {rc : Rec} (HB : ∀ nt s, GoodL s.1 → 10 * s.1.length + rankN nt ≤ n → BdN nt s (rc nt s)) (H : ∀ nt s, GoodL s.1 → TT s.1 → 10 * s.1.length + rankN nt ≤ n → (rc nt s).2.2 = 0 → VN nt (rc nt s).1)
include HB H
theorem ok_call {s0 s : PS} (nt : NT) (h : GoodL s.1) (ht : TT s.1) (hs : s.1.length + 1 ≤ s0.1.length) (h0 : 10 * s0.1.length ≤ n + 1) (hz : (rc nt s).2.2 = 0) : VN nt (rc nt s).1 := H nt s h ht (by have := rank_le nt; omega) hz
theorem ok_ops (nt : NT) (kind : Int) (op : List UInt8) (k : Int) (hk : kind ≠ 5) (hn : ∀ t, szN nt t = sizeT t) (hkn : kN nt = 1) (hv : ∀ t, VN nt t → VE t) (hop : operandsP k [] = 2) : ∀ (f : Nat) (t : Tree) (s : PS), GoodL s.1 → TT s.1 → 10 * s.1.length ≤ n + 1 → VE t → (opsF rc nt kind op k f t s).2.2 = 0 → VE (opsF rc nt kind op k f t s).1
  | 0, t, s, h, ht, h0, ve, hz => ve
  | f + 1, t, s, h, ht, h0, ve, hz => by
    unfold opsF at hz ⊢
    split
    · rename_i hc
      rw [if_pos hc] at hz
      have b1 := bd_isW h hc.2 hk
      have hl := h.nxt_lt (l := s.1) (by rw [isW_kind hc.2]; exact hk)
      have b2 := (bd_call HB nt (s0 := s) (s := (nxt s.1, s.2)) b1.good (by dsimp only; omega) h0).1
      rw [hn, hkn] at b2
      have hl2 := b2.size
      have h4 : 1 ≤ sizeT (rc nt (nxt s.1, s.2)).1 := sizeT_pos _
      have hlen : 10 * (rc nt (nxt s.1, s.2)).2.1.length ≤ n + 1 := by dsimp only at hl2; omega
      have b3 := bd_ops HB nt kind op k hk hn hkn f (binT k [] t (rc nt (nxt s.1, s.2)).1) (rc nt (nxt s.1, s.2)).2 b2.good hlen
      have hz2 := bd_zero b3 b2.good hz
      have hv2 := hv _ (ok_call HB H nt (s0 := s) (s := (nxt s.1, s.2)) b1.good (tt_nxt ht) (by dsimp only; omega) h0 hz2)
      exact ok_ops nt kind op k hk hn hkn hv hop f _ _ b2.good (bd_tt b2 (tt_nxt ht)) hlen (ve_bin hop (by simp) ve hv2) hz
    · exact ve
theorem ok_sum : ∀ (f : Nat) (t : Tree) (s : PS), GoodL s.1 → TT s.1 → 10 * s.1.length ≤ n + 1 → VE t → (sumF rc f t s).2.2 = 0 → VE (sumF rc f t s).1
  | 0, t, s, h, ht, h0, ve, hz => ve
  | f + 1, t, s, h, ht, h0, ve, hz => by
    have key : ∀ (tx : List UInt8) (k : Int), operandsP k [] = 2 → isW s.1 4 tx = true → (sumF rc f (binT k [] t (rc .prod (nxt s.1, s.2)).1) (rc .prod (nxt s.1, s.2)).2).2.2 = 0 → VE (sumF rc f (binT k [] t (rc .prod (nxt s.1, s.2)).1) (rc .prod (nxt s.1, s.2)).2).1 := by
      intro tx k hop hc hz
      have b1 := bd_isW h hc (by decide)
      have hl := h.nxt_lt (l := s.1) (by rw [isW_kind hc]; decide)
      have b2 : Bd (nxt s.1, s.2) (sizeT (rc .prod (nxt s.1, s.2)).1) 1 (rc .prod (nxt s.1, s.2)).2 := (bd_call HB .prod (s0 := s) (s := (nxt s.1, s.2)) b1.good (by dsimp only; omega) h0).1
      have hl2 := b2.size
      have h4 : 1 ≤ sizeT (rc .prod (nxt s.1, s.2)).1 := sizeT_pos _
      have hlen : 10 * (rc .prod (nxt s.1, s.2)).2.1.length ≤ n + 1 := by dsimp only at hl2; omega
      have b3 := bd_sum HB f (binT k [] t (rc .prod (nxt s.1, s.2)).1) (rc .prod (nxt s.1, s.2)).2 b2.good hlen
      have hz2 := bd_zero b3 b2.good hz
      have hv2 : VE (rc .prod (nxt s.1, s.2)).1 := ok_call HB H .prod (s0 := s) (s := (nxt s.1, s.2)) b1.good (tt_nxt ht) (by dsimp only; omega) h0 hz2
      exact ok_sum f _ _ b2.good (bd_tt b2 (tt_nxt ht)) hlen (ve_bin hop (by simp) ve hv2) hz
    unfold sumF at hz ⊢
    split
    · exact ve
    rename_i h1
    rw [if_neg h1] at hz
    split
    · rename_i hc
      rw [if_pos hc] at hz
      exact key _ _ (by decide) hc hz
    rename_i h2
    rw [if_neg h2] at hz
    split
    · rename_i hc
      rw [if_pos hc] at hz
      exact key _ _ (by decide) hc hz
    · exact ve
theorem ok_args : ∀ (f : Nat) (ks : List Tree) (s : PS), GoodL s.1 → TT s.1 → 10 * s.1.length + 8 ≤ n → exprsOK ks = true → shortL ks → (argsF rc f ks s).2.2 = 0 → exprsOK (argsF rc f ks s).1.kids = true ∧ shortL (argsF rc f ks s).1.kids
  | 0, ks, s, h, ht, h0, v1, v2, hz => ⟨v1, v2⟩
  | f + 1, ks, s, h, ht, h0, v1, v2, hz => by
    have b1 : Bd s (sizeT (rc .expr s).1) 1 (rc .expr s).2 := (HB .expr s h h0).1
    have push : (rc .expr s).2.2 = 0 → exprsOK (ks ++ [(rc .expr s).1]) = true ∧ shortL (ks ++ [(rc .expr s).1]) := fun hz2 => by
      have hv : VE (rc .expr s).1 := H .expr s h ht h0 hz2
      refine ⟨?_, sl_append v2 (sl_one hv.2)⟩
      rw [exprsOK_append, exprsOK_cons, exprsOK_nil, v1, hv.1]
      rfl
    unfold argsF at hz ⊢
    split
    · exact ⟨v1, v2⟩
    rename_i h1
    rw [if_neg h1] at hz
    split
    · rename_i hc
      rw [if_pos hc] at hz
      exact absurd hz hc
    rename_i h2
    rw [if_neg h2] at hz
    have hp := push (by simpa using h2)
    split
    · rename_i hc
      rw [if_pos hc] at hz
      have b2 := bd_isW b1.good hc (by decide)
      have hl := b2.size
      have hl1 := b1.size
      have h4 : 1 ≤ sizeT (rc .expr s).1 := sizeT_pos _
      exact ok_args f _ _ b2.good (tt_nxt (bd_tt b1 ht)) (by omega) hp.1 hp.2 hz
    · exact hp
theorem ok_stmts : ∀ (f : Nat) (ks : List Tree) (s : PS), GoodL s.1 → TT s.1 → 10 * s.1.length + 1 ≤ n → stsOK ks = true → shortL ks → (stmtsF rc f ks s).2.2 = 0 → stsOK (stmtsF rc f ks s).1.kids = true ∧ shortL (stmtsF rc f ks s).1.kids
  | 0, ks, s, h, ht, h0, v1, v2, hz => ⟨v1, v2⟩
  | f + 1, ks, s, h, ht, h0, v1, v2, hz => by
    have hs := HB .stmt s h h0
    have b1 : Bd s (sizeT (rc .stmt s).1) 1 (rc .stmt s).2 := hs.1
    unfold stmtsF at hz ⊢
    split
    · rename_i hc
      rw [if_pos hc] at hz
      by_cases hzz : (rc .stmt s).2.2 = 0
      · have hv : stOK (rc .stmt s).1 = true ∧ shortT (rc .stmt s).1 := H .stmt s h ht h0 hzz
        have b2 := hs.2 rfl hzz
        have hl := b2.size
        refine ok_stmts f _ _ b2.good (bd_tt b1 ht) (by omega) ?_ (sl_append v2 (sl_one hv.2)) hz
        rw [stsOK_append, stsOK_cons, stsOK_nil, v1, hv.1]
        rfl
      · have hst : stmtsF rc f (ks ++ [(rc .stmt s).1]) (rc .stmt s).2 = (lst (ks ++ [(rc .stmt s).1]), (rc .stmt s).2) := by
          cases f with
          | zero => rfl
          | succ f => unfold stmtsF; rw [if_neg (fun h => hzz h.1)]
        rw [hst] at hz
        exact absurd hz hzz
    · exact ⟨v1, v2⟩
theorem ok_neg (s : PS) (h : GoodL s.1) (ht : TT s.1) (h0 : 10 * s.1.length + 6 ≤ n + 1) (hz : (negB rc s).2.2 = 0) : VE (negB rc s).1 := by
  unfold negB at hz ⊢
  split
  · rename_i hc
    rw [if_pos hc] at hz
    have b1 := bd_isW h hc (by decide)
    have hl := h.nxt_lt (l := s.1) (by rw [isW_kind hc]; decide)
    have hv : VE (rc .neg (nxt s.1, s.2)).1 := ok_call HB H .neg (s0 := s) (s := (nxt s.1, s.2)) b1.good (tt_nxt ht) (by dsimp only; omega) (by omega) hz
    refine ⟨?_, ?_⟩
    · dsimp only
      rw [exprOK_node, exprsOK_cons, exprsOK_nil, hv.1]
      rfl
    · dsimp only
      rw [shortT_node]
      exact ⟨by simp, sl_one hv.2⟩
  · rename_i hc
    rw [if_neg hc] at hz
    exact H .comp s h ht (by simp [rankN]; omega) hz
theorem ok_comp (s : PS) (h : GoodL s.1) (ht : TT s.1) (h0 : 10 * s.1.length + 5 ≤ n + 1) (hz : (compB rc s).2.2 = 0) : VE (compB rc s).1 := by
  have b1 : Bd s (sizeT (rc .sum s).1) 1 (rc .sum s).2 := (HB .sum s h (by simp [rankN]; omega)).1
  unfold compB at hz ⊢
  split
  · rename_i hc
    rw [if_pos hc] at hz
    have hk : (hdT (rc .sum s).2.1).kind = 4 ∨ (hdT (rc .sum s).2.1).kind = 1 := by
      have h2 := hc.2
      unfold cmpW at h2
      split at h2
      · exact .inl (by simpa using h2)
      split at h2
      · exact .inr (by simpa using h2)
      · cases h2
    have hk5 : (hdT (rc .sum s).2.1).kind ≠ 5 := by rcases hk with e | e <;> rw [e] <;> decide
    have b2 := bd_take b1.good hk5
    have hl := b1.good.nxt_lt hk5
    have hl1 := b1.size
    have h4 : 1 ≤ sizeT (rc .sum s).1 := sizeT_pos _
    have hv1 : VE (rc .sum s).1 := H .sum s h ht (by simp [rankN]; omega) hc.1
    have htt := bd_tt b1 ht
    have hv2 : VE (rc .sum (nxt (rc .sum s).2.1, (rc .sum s).2.2)).1 := ok_call HB H .sum (s0 := (rc .sum s).2) (s := (nxt (rc .sum s).2.1, (rc .sum s).2.2)) b2.good (tt_nxt htt) (by dsimp only; omega) (by omega) hz
    refine ve_bin ?_ (Nat.le_trans (tt_hd b1.good htt).len (by omega)) hv1 hv2
    have h2 := hc.2
    unfold operandsP
    have h3 : (cmpW 4 (hdT (rc .sum s).2.1).text || cmpW 1 (hdT (rc .sum s).2.1).text) = true := by
      rcases hk with e | e <;> rw [e] at h2 <;> rw [h2] <;> simp
    rw [if_neg (by decide), if_neg (by decide), if_pos rfl, if_pos h3]
  · rename_i hc
    rw [if_neg hc] at hz
    exact H .sum s h ht (by simp [rankN]; omega) hz
theorem ok_argsB (s : PS) (h : GoodL s.1) (ht : TT s.1) (h0 : 10 * s.1.length + 9 ≤ n + 1) (hz : (argsB rc s).2.2 = 0) : exprsOK (argsB rc s).1.kids = true ∧ shortL (argsB rc s).1.kids := by
  unfold argsB at hz ⊢
  split
  · exact ⟨exprsOK_nil, sl_nil⟩
  · rename_i hc
    rw [if_neg hc] at hz
    exact ok_args HB H _ _ _ h ht (by omega) exprsOK_nil sl_nil hz
theorem ok_atom (s : PS) (h : GoodL s.1) (ht : TT s.1) (h0 : 10 * s.1.length + 2 ≤ n + 1) (hz : (atomB rc s).2.2 = 0) : VE (atomB rc s).1 := by
  have hT := tt_hd h ht
  have hlen : (hdT s.1).text.length ≤ 100000 := Nat.le_trans hT.len (by omega)
  unfold atomB at hz ⊢
  dsimp only at hz ⊢
  split
  · rename_i hc
    exact ve_leaf (by simp [operandsP, hT.num hc]) hlen
  rename_i h1
  rw [if_neg h1] at hz
  split
  · rename_i hc
    exact ve_leaf (by have := hT.str hc; unfold operandsP; rw [if_pos (c := (hdT s.1).text.all okB = true) this]; rfl) hlen
  rename_i h2
  rw [if_neg h2] at hz
  split
  · rename_i hc
    refine ve_leaf ?_ hlen
    have : boolP (hdT s.1).text = true := by
      unfold boolP
      rcases hc with e | e
      · rw [isW_text e]; rfl
      · rw [isW_text e]; rfl
    simp [operandsP, this]
  rename_i h3
  rw [if_neg h3] at hz
  split
  · rename_i hc
    rw [if_pos hc] at hz
    have hnm := hT.word hc.1 hc.2
    have b1 := bd_take h (by rw [hc.1]; decide)
    have hl : (nxt s.1).length + 1 = s.1.length := h.nxt_lt (by rw [hc.1]; decide)
    split
    · rename_i hq
      rw [if_pos hq] at hz
      have b2 := bd_isW (s := (nxt s.1, s.2)) b1.good hq (by decide)
      have hl2 : (nxt (nxt s.1)).length + 1 = (nxt s.1).length := h.nxt.nxt_lt (by rw [isW_kind hq]; decide)
      have hv : exprsOK (rc .args (nxt (nxt s.1), s.2)).1.kids = true ∧ shortL (rc .args (nxt (nxt s.1), s.2)).1.kids := ok_call HB H .args (s0 := s) (s := (nxt (nxt s.1), s.2)) b2.good (tt_nxt (tt_nxt ht)) (by dsimp only; omega) (by omega) hz
      refine ⟨?_, ?_⟩
      · dsimp only
        rw [exprOK_node, hv.1, show operandsP 24 (hdT s.1).text = -1 by simp [operandsP, hnm]]
        simp [arOK]
      · dsimp only
        rw [shortT_node]
        exact ⟨hlen, hv.2⟩
    · exact ve_leaf (by simp [operandsP, hnm]) hlen
  rename_i h4
  rw [if_neg h4] at hz
  split
  · rename_i hq
    rw [if_pos hq] at hz
    have b1 := bd_isW h hq (by decide)
    have hl := h.nxt_lt (l := s.1) (by rw [isW_kind hq]; decide)
    dsimp only at hz ⊢
    have hz2 : (rc .expr (nxt s.1, s.2)).2.2 = 0 := by
      by_cases e : (rc .expr (nxt s.1, s.2)).2.2 = 0
      · exact e
      · rw [if_neg e] at hz; exact hz
    exact ok_call HB H .expr (s0 := s) (s := (nxt s.1, s.2)) b1.good (tt_nxt ht) (by dsimp only; omega) (by omega) hz2
  · rename_i h5
    rw [if_neg h5] at hz
    exact absurd hz (fail_bad h)
theorem ok_block (s : PS) (h : GoodL s.1) (ht : TT s.1) (h0 : 10 * s.1.length + 1 ≤ n + 1) (hz : (blockB rc s).2.2 = 0) : blOK (blockB rc s).1 = true ∧ shortT (blockB rc s).1 := by
  unfold blockB at hz ⊢
  split
  · rename_i hc
    rw [if_pos hc] at hz
    have b1 := bd_sign0 h hc
    have hl := b1.size
    have b2 : Bd (signF [123] s) (sizeL (rc .stmts (signF [123] s)).1.kids) 1 (rc .stmts (signF [123] s)).2 := (bd_call HB .stmts (s0 := s) (s := signF [123] s) b1.good (by omega) (by omega)).1
    have hz2 := bd_zero (bd_sign b2.good) b2.good hz
    have hv : stsOK (rc .stmts (signF [123] s)).1.kids = true ∧ shortL (rc .stmts (signF [123] s)).1.kids := ok_call HB H .stmts (s0 := s) (s := signF [123] s) b1.good (bd_tt b1 ht) (by omega) (by omega) hz2
    dsimp only
    rw [blOK_node, shortT_node, hv.1]
    exact ⟨rfl, by simp, hv.2⟩
  · rename_i hc
    rw [if_neg hc] at hz
    exact absurd hz hc
theorem ok_value (sg : List UInt8) (s : PS) (h : GoodL s.1) (ht : TT s.1) (h0 : 10 * s.1.length + 9 ≤ n + 1) (hz : (valueB rc sg s).2.2 = 0) : ∃ e, (valueB rc sg s).1.kids = [e] ∧ VE e := by
  unfold valueB at hz ⊢
  dsimp only at hz ⊢
  have b1 : Bd s 0 0 (if sg = [] then s else signF sg s) := by
    split
    · exact Bd.refl h
    · exact bd_sign h
  generalize (if sg = [] then s else signF sg s) = s1 at *
  have hl := b1.size
  have b2 : Bd s1 (sizeT (rc .expr s1).1) 1 (rc .expr s1).2 := (HB .expr s1 b1.good (by simp [rankN]; omega)).1
  split
  · rename_i hc
    rw [if_pos hc] at hz
    exact absurd hz hc
  · rename_i hc
    rw [if_neg hc] at hz
    have hz2 : (rc .expr s1).2.2 = 0 := by
      by_cases e : (rc .expr s1).2.2 = 0
      · exact e
      · dsimp only at hz; rw [if_neg e] at hz; exact hz
    exact ⟨_, rfl, H .expr s1 b1.good (bd_tt b1 ht) (by simp [rankN]; omega) hz2⟩
theorem st_if2 {e b : Tree} {l : Int} (he : VE e) (hb : blOK b = true ∧ shortT b) : stOK (.node 2 [] [e, b] l) = true ∧ shortT (.node 2 [] [e, b] l) := by
  rw [stOK_2, shortT_node, shortL_cons, shortL_cons, he.1, hb.1]
  exact ⟨rfl, by simp, he.2, hb.2, sl_nil⟩
theorem ok_chosen (l : Int) (s : PS) (h : GoodL s.1) (ht : TT s.1) (h0 : 10 * s.1.length + 9 ≤ n + 1) (hz : (chosenB rc l s).2.2 = 0) : (chosenB rc l s).1.kind = 2 ∧ stOK (chosenB rc l s).1 = true ∧ shortT (chosenB rc l s).1 := by
  have b1 : Bd s (sizeT (rc .expr s).1) 1 (rc .expr s).2 := (HB .expr s h (by simp [rankN]; omega)).1
  have v1 : (rc .expr s).2.2 = 0 → VE (rc .expr s).1 := fun e => H .expr s h ht (by simp [rankN]; omega) e
  have hl1 := b1.size
  have p1 : 1 ≤ sizeT (rc .expr s).1 := sizeT_pos _
  unfold chosenB at hz ⊢
  dsimp only at hz ⊢
  split
  · rename_i hc
    rw [if_pos hc] at hz
    exact absurd hz hc
  rename_i hc1
  rw [if_neg hc1] at hz
  have w1 := v1 (by simpa using hc1)
  have t1 := bd_tt b1 ht
  have b2 : Bd (rc .expr s).2 (sizeT (rc .block (rc .expr s).2).1) 1 (rc .block (rc .expr s).2).2 := (HB .block (rc .expr s).2 b1.good (by simp [rankN]; omega)).1
  have v2 : (rc .block (rc .expr s).2).2.2 = 0 → blOK (rc .block (rc .expr s).2).1 = true ∧ shortT (rc .block (rc .expr s).2).1 := fun e => H .block (rc .expr s).2 b1.good t1 (by simp [rankN]; omega) e
  have hl2 := b2.size
  have p2 : 1 ≤ sizeT (rc .block (rc .expr s).2).1 := sizeT_pos _
  have t2 := bd_tt b2 t1
  split
  · rename_i hc
    rw [if_pos hc] at hz
    have w2 := v2 hz
    exact ⟨rfl, st_if2 HB H w1 w2⟩
  rename_i hne
  rw [if_neg hne] at hz
  have he : isW (rc .block (rc .expr s).2).2.1 1 [101, 108, 115, 101] = true := by
    cases hh : isW (rc .block (rc .expr s).2).2.1 1 [101, 108, 115, 101] with
    | true => rfl
    | false => exact absurd (.inr hh) hne
  have w2 := v2 (by
    by_cases e : (rc .block (rc .expr s).2).2.2 = 0
    · exact e
    · exact absurd (.inl e) hne)
  have b3 := bd_isW b2.good he (by decide)
  have hl3 := b2.good.nxt_lt (l := (rc .block (rc .expr s).2).2.1) (by rw [isW_kind he]; decide)
  generalize rc .block (rc .expr s).2 = r2 at *
  generalize rc .expr s = r1 at *
  have fin : ∀ (x : Tree), (blOK x = true ∨ x.kind = 2 ∧ stOK x = true) → shortT x → (Tree.node 2 [] [r1.1, r2.1, x] l).kind = 2 ∧ stOK (.node 2 [] [r1.1, r2.1, x] l) = true ∧ shortT (.node 2 [] [r1.1, r2.1, x] l) := by
    intro x hx hs
    rw [stOK_3, shortT_node, shortL_cons, shortL_cons, shortL_cons, w1.1, w2.1]
    refine ⟨rfl, ?_, by simp, w1.2, w2.2, hs, sl_nil⟩
    rcases hx with e | ⟨e1, e2⟩
    · rw [e]; rfl
    · rw [e1, e2]; simp [headI]
  split
  · rename_i hi
    rw [if_pos hi] at hz
    have b4 := bd_isW (s := (nxt r2.2.1, r2.2.2)) b3.good hi (by decide)
    have hl4 : (nxt (nxt r2.2.1)).length + 1 = (nxt r2.2.1).length := b3.good.nxt_lt (by rw [isW_kind hi]; decide)
    have v5 : (rc (.chosen (hdT (nxt r2.2.1)).line) (nxt (nxt r2.2.1), r2.2.2)).1.kind = 2 ∧ stOK (rc (.chosen (hdT (nxt r2.2.1)).line) (nxt (nxt r2.2.1), r2.2.2)).1 = true ∧ shortT (rc (.chosen (hdT (nxt r2.2.1)).line) (nxt (nxt r2.2.1), r2.2.2)).1 := ok_call HB H (.chosen (hdT (nxt r2.2.1)).line) (s0 := s) (s := (nxt (nxt r2.2.1), r2.2.2)) b4.good (tt_nxt (tt_nxt t2)) (by dsimp only; omega) (by omega) hz
    exact fin _ (.inr ⟨v5.1, v5.2.1⟩) v5.2.2
  · rename_i hi
    rw [if_neg hi] at hz
    have v5 : blOK (rc .block (nxt r2.2.1, r2.2.2)).1 = true ∧ shortT (rc .block (nxt r2.2.1, r2.2.2)).1 := ok_call HB H .block (s0 := s) (s := (nxt r2.2.1, r2.2.2)) b3.good (tt_nxt t2) (by dsimp only; omega) (by omega) hz
    exact fin _ (.inl v5.1) v5.2
omit HB H in
theorem st_one {k : Int} {tx : List UInt8} {ks : List Tree} {l : Int} (hh : head1 k tx = true) (ht : tx.length ≤ 100000) (hv : ∃ e, ks = [e] ∧ VE e) : stOK (.node k tx ks l) = true ∧ shortT (.node k tx ks l) := by
  obtain ⟨e, rfl, he⟩ := hv
  rw [stOK_1, shortT_node, hh, he.1]
  exact ⟨rfl, ht, sl_one he.2⟩
omit HB H in
theorem st_zero {k : Int} {tx : List UInt8} {l : Int} (hh : head0 k tx = true) (ht : tx.length ≤ 100000) : stOK (.node k tx [] l) = true ∧ shortT (.node k tx [] l) := by
  rw [stOK_0, shortT_node, hh]
  exact ⟨rfl, ht, sl_nil⟩
theorem ok_stmt (s : PS) (h : GoodL s.1) (ht : TT s.1) (h0 : 10 * s.1.length + 1 ≤ n + 1) (hz : (stmtB rc s).2.2 = 0) : stOK (stmtB rc s).1 = true ∧ shortT (stmtB rc s).1 := by
  unfold stmtB at hz ⊢
  dsimp only at hz ⊢
  by_cases hk : (hdT s.1).kind = 1
  rotate_left
  · rw [if_pos hk] at hz
    exact absurd hz (fail_bad h)
  rw [if_neg (fun h => h hk)] at hz ⊢
  have b1 := bd_take h (by rw [hk]; decide)
  have t1 : TT (nxt s.1) := tt_nxt ht
  have hl : (nxt s.1).length + 1 = s.1.length := h.nxt_lt (by rw [hk]; decide)
  have val : ∀ (sg : List UInt8) (s' : PS), GoodL s'.1 → TT s'.1 → s'.1.length + 1 ≤ s.1.length → (rc (.value sg) s').2.2 = 0 → ∃ e, (rc (.value sg) s').1.kids = [e] ∧ VE e := fun sg s' hg htt hlt hzz => ok_call HB H (.value sg) (s0 := s) (s := s') hg htt hlt (by omega) hzz
  have hT := tt_hd h ht
  have hlen : (hdT s.1).text.length ≤ 100000 := Nat.le_trans hT.len (by omega)
  by_cases e1 : (hdT s.1).text = [105, 102]
  · rw [if_pos e1] at hz ⊢
    have hv : _ ∧ _ := ok_call HB H (.chosen (hdT s.1).line) (s0 := s) (s := (nxt s.1, s.2)) b1.good t1 (by dsimp only; omega) (by omega) hz
    exact hv.2
  rw [if_neg e1] at hz ⊢
  by_cases e2 : (hdT s.1).text = [108, 101, 116]
  · rw [if_pos e2] at hz ⊢
    split
    · rename_i hc
      rw [if_pos hc] at hz
      exact absurd hz (fail_bad (s := (nxt s.1, s.2)) b1.good)
    · rename_i hc
      rw [if_neg hc] at hz
      have hT2 := tt_hd b1.good t1
      have b2 := bd_nxt (s := (nxt s.1, s.2)) b1.good
      refine st_one ?_ (Nat.le_trans hT2.len (by omega)) (val _ _ b2.good (tt_nxt t1) (by have := b2.size; dsimp only at this ⊢; omega) hz)
      have h3 := hT2.word (by simpa using fun e => hc (.inl e)) (fun e => hc (.inr e))
      simpa [head1] using h3
  rw [if_neg e2] at hz ⊢
  by_cases e3 : (hdT s.1).text = [112, 97, 116, 104] ∨ (hdT s.1).text = [113, 117, 101, 114, 121]
  · rw [if_pos e3] at hz ⊢
    refine st_one ?_ hlen (val _ _ b1.good t1 (by dsimp only; omega) hz)
    rcases e3 with e | e <;> rw [e] <;> decide
  rw [if_neg e3] at hz ⊢
  have b2 := bd_text (s := (nxt s.1, s.2)) b1.good
  have txt : (textF (nxt s.1, s.2)).2.2 = 0 → (textF (nxt s.1, s.2)).1.all okB = true ∧ (textF (nxt s.1, s.2)).1.length ≤ 100000 := by
    intro hzz
    unfold textF at hzz ⊢
    have hT2 := tt_hd b1.good t1
    split
    · rename_i hc
      exact ⟨hT2.str hc, Nat.le_trans hT2.len (by omega)⟩
    · rename_i hc
      rw [if_neg hc] at hzz
      exact absurd hzz (fail_bad (s := (nxt s.1, s.2)) b1.good)
  by_cases e4 : (hdT s.1).text = [104, 101, 97, 100, 101, 114]
  · rw [if_pos e4] at hz ⊢
    split
    · rename_i hc
      rw [if_pos hc] at hz
      exact st_one (by simpa [head1] using (txt hc).1) (txt hc).2 (val _ _ b2.good (bd_tt b2 t1) (by have := b2.size; dsimp only at this ⊢; omega) hz)
    · rename_i hc
      rw [if_neg hc] at hz
      exact absurd hz hc
  rw [if_neg e4] at hz ⊢
  by_cases e5 : (hdT s.1).text = [118, 97, 114, 121]
  · rw [if_pos e5] at hz ⊢
    dsimp only at hz ⊢
    have hzz : (textF (nxt s.1, s.2)).2.2 = 0 := by
      by_cases e : (textF (nxt s.1, s.2)).2.2 = 0
      · exact e
      · rw [if_neg e] at hz; exact hz
    exact st_zero (by simpa [head0] using (txt hzz).1) (txt hzz).2
  rw [if_neg e5] at hz ⊢
  by_cases e6 : (hdT s.1).text = [116, 97, 103]
  · rw [if_pos e6] at hz ⊢
    exact st_one (by decide) (by simp) (val _ _ b1.good t1 (by dsimp only; omega) hz)
  rw [if_neg e6] at hz ⊢
  by_cases e7 : (hdT s.1).text = [116, 116, 108]
  · rw [if_pos e7] at hz ⊢
    exact st_one (by decide) (by simp) (val _ _ b1.good t1 (by dsimp only; omega) hz)
  rw [if_neg e7] at hz ⊢
  by_cases e8 : (hdT s.1).text = [100, 101, 110, 121]
  · rw [if_pos e8] at hz ⊢
    exact st_one (by decide) (by simp) (val _ _ b1.good t1 (by dsimp only; omega) hz)
  rw [if_neg e8] at hz ⊢
  by_cases e9 : (hdT s.1).text = [112, 97, 115, 115]
  · rw [if_pos e9]
    exact st_zero (by decide) (by simp)
  rw [if_neg e9] at hz ⊢
  by_cases e10 : (hdT s.1).text = [116, 111, 107, 101, 110]
  · rw [if_pos e10]
    exact st_zero (by decide) (by simp)
  rw [if_neg e10] at hz ⊢
  exact absurd hz (fail_bad h)
theorem ok_body (nt : NT) (s : PS) (h : GoodL s.1) (ht : TT s.1) (h0 : 10 * s.1.length + rankN nt ≤ n + 1) (hz : (body rc nt s).2.2 = 0) : VN nt (body rc nt s).1 := by
  cases nt with
  | expr =>
    have b1 : Bd s (sizeT (rc .conj s).1) 1 (rc .conj s).2 := (HB .conj s h (by simp [rankN] at h0 ⊢; omega)).1
    have p : 1 ≤ sizeT (rc .conj s).1 := sizeT_pos _
    have hl : 10 * (rc .conj s).2.1.length ≤ n + 1 := by have := b1.size; simp [rankN] at h0; omega
    have b2 := bd_ops HB .conj 1 [111, 114] 13 (by decide) (fun _ => rfl) rfl (rc .conj s).2.1.length (rc .conj s).1 (rc .conj s).2 b1.good hl
    exact ok_ops HB H .conj 1 [111, 114] 13 (by decide) (fun _ => rfl) rfl (fun _ h => h) (by decide) _ _ _ b1.good (bd_tt b1 ht) hl (H .conj s h ht (by simp [rankN] at h0 ⊢; omega) (bd_zero b2 b1.good hz)) hz
  | conj =>
    have b1 : Bd s (sizeT (rc .neg s).1) 1 (rc .neg s).2 := (HB .neg s h (by simp [rankN] at h0 ⊢; omega)).1
    have p : 1 ≤ sizeT (rc .neg s).1 := sizeT_pos _
    have hl : 10 * (rc .neg s).2.1.length ≤ n + 1 := by have := b1.size; simp [rankN] at h0; omega
    have b2 := bd_ops HB .neg 1 [97, 110, 100] 14 (by decide) (fun _ => rfl) rfl (rc .neg s).2.1.length (rc .neg s).1 (rc .neg s).2 b1.good hl
    exact ok_ops HB H .neg 1 [97, 110, 100] 14 (by decide) (fun _ => rfl) rfl (fun _ h => h) (by decide) _ _ _ b1.good (bd_tt b1 ht) hl (H .neg s h ht (by simp [rankN] at h0 ⊢; omega) (bd_zero b2 b1.good hz)) hz
  | neg => exact ok_neg HB H s h ht h0 hz
  | comp => exact ok_comp HB H s h ht h0 hz
  | sum =>
    have b1 : Bd s (sizeT (rc .prod s).1) 1 (rc .prod s).2 := (HB .prod s h (by simp [rankN] at h0 ⊢; omega)).1
    have p : 1 ≤ sizeT (rc .prod s).1 := sizeT_pos _
    have hl : 10 * (rc .prod s).2.1.length ≤ n + 1 := by have := b1.size; simp [rankN] at h0; omega
    have b2 := bd_sum HB (rc .prod s).2.1.length (rc .prod s).1 (rc .prod s).2 b1.good hl
    exact ok_sum HB H _ _ _ b1.good (bd_tt b1 ht) hl (H .prod s h ht (by simp [rankN] at h0 ⊢; omega) (bd_zero b2 b1.good hz)) hz
  | prod =>
    have b1 : Bd s (sizeT (rc .atom s).1) 1 (rc .atom s).2 := (HB .atom s h (by simp [rankN] at h0 ⊢; omega)).1
    have p : 1 ≤ sizeT (rc .atom s).1 := sizeT_pos _
    have hl : 10 * (rc .atom s).2.1.length ≤ n + 1 := by have := b1.size; simp [rankN] at h0; omega
    have b2 := bd_ops HB .atom 4 [42] 19 (by decide) (fun _ => rfl) rfl (rc .atom s).2.1.length (rc .atom s).1 (rc .atom s).2 b1.good hl
    exact ok_ops HB H .atom 4 [42] 19 (by decide) (fun _ => rfl) rfl (fun _ h => h) (by decide) _ _ _ b1.good (bd_tt b1 ht) hl (H .atom s h ht (by simp [rankN] at h0 ⊢; omega) (bd_zero b2 b1.good hz)) hz
  | atom => exact ok_atom HB H s h ht h0 hz
  | args => exact ok_argsB HB H s h ht h0 hz
  | stmts => exact ok_stmts HB H _ _ _ h ht (by simp [rankN] at h0; omega) stsOK_nil sl_nil hz
  | stmt => exact ok_stmt HB H s h ht h0 hz
  | block => exact ok_block HB H s h ht h0 hz
  | value sg => exact ok_value HB H sg s h ht h0 hz
  | chosen l => exact ok_chosen HB H l s h ht h0 hz
end
theorem ok_run : ∀ (n : Nat) (nt : NT) (s : PS), GoodL s.1 → TT s.1 → 10 * s.1.length + rankN nt ≤ n → (pRun n nt s).2.2 = 0 → VN nt (pRun n nt s).1
  | 0, nt, s, h, ht, h0, hz => by have := h.len; omega
  | n + 1, nt, s, h, ht, h0, hz => ok_body (bd_run n) (ok_run n) nt s h ht h0 hz
end Go.Proofs.YtogkiifljdnjgaaDoor
