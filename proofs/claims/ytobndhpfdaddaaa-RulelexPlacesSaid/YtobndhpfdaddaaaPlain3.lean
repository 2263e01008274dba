/- Plain laws on written tokens. No condition. -/
import Derived.Test.YtobndhpfdaddaaaStrings
import Derived.Test.YtobndhpfdaddaaaNumbers
import Derived.Test.YtobndhpfdaddaaaPlain2
namespace Go.Proofs.Ytobndhpfdaddaaa
open Go.RowKit
set_option linter.unusedVariables false
set_option linter.unusedSimpArgs false

/-- A token, written. -/
def writK (kd : Int) (tx : List UInt8) : List UInt8 := if kd = 3 then quoL tx else tx
/-- A byte that ends every token but a string. -/
def endB (x : UInt8) : Prop := x.toNat = 32 ∨ x.toNat = 10 ∨ x.toNat = 9
/-- A token that is read again where it is written. -/
def GoodT (kd : Int) (tx : List UInt8) : Prop := (kd = 3 → tx.all okB = true) ∧ kd ≠ 5 ∧ ∀ x rest, endB x → ∃ c r, writK kd tx = c :: r ∧ plainB c ∧ (∃ m : Nat, kd = (m : Int) ∧ tokP (writK kd tx ++ x :: rest) = (m, (writK kd tx).length, tx))

theorem tw_is {p : UInt8 → Bool} : ∀ (r : List UInt8), (r.takeWhile p).all p = true
  | [] => rfl
  | a :: r => by
    rw [List.takeWhile_cons]
    split
    · rename_i h
      rw [List.all_cons, h, tw_is r]; rfl
    · rfl
theorem end_word {x : UInt8} (h : endB x) : wordB x = false := by
  have : x.toNat = 32 ∨ x.toNat = 10 ∨ x.toNat = 9 := h
  simp [wordB, letN, digN]; omega
theorem end_dig {x : UInt8} (h : endB x) : digB x = false := by
  have : x.toNat = 32 ∨ x.toNat = 10 ∨ x.toNat = 9 := h
  simp [digB, digN]; omega
theorem let_plain {c : UInt8} (h : letN c.toNat = true) : plainB c := by
  simp [letN] at h
  unfold plainB; omega
theorem quo_inv : ∀ (s : List UInt8) (i : Nat) (out : List UInt8), (quoP s i out).1 ≠ 0 →
    ∃ l rest, (quoP s i out).2 = out ++ l ∧ l.all okB = true ∧ s = l.flatMap escB ++ 34 :: rest ∧ (quoP s i out).1 = i + (l.flatMap escB).length + 1
  | [], i, out, h => absurd rfl h
  | c :: r, i, out, h => by
    unfold quoP at h ⊢
    by_cases h34 : c.toNat = 34
    · rw [if_pos h34]
      have : c = 34 := UInt8.toNat_inj.1 h34
      subst this
      exact ⟨[], r, by simp, rfl, rfl, by simp⟩
    · rw [if_neg h34] at h ⊢
      by_cases h92 : c.toNat = 92
      · have : c = 92 := UInt8.toNat_inj.1 h92
        subst this
        rw [if_pos h92] at h ⊢
        match r with
        | [] => exact absurd rfl h
        | d :: r' =>
          simp only [] at h ⊢
          by_cases hd : d.toNat = 34 ∨ d.toNat = 92
          · rw [if_pos hd] at h ⊢
            obtain ⟨l, rest, h1, h2, h3, h4⟩ := quo_inv r' (i + 2) (out ++ [d]) h
            refine ⟨d :: l, rest, by rw [h1]; simp, ?_, ?_, ?_⟩
            · rw [List.all_cons, h2, Bool.and_true]
              simp [okB]; omega
            · rw [List.flatMap_cons, show escB d = [92, d] by rw [escB, if_pos hd], h3]
              simp
            · rw [h4, List.flatMap_cons, show escB d = [92, d] by rw [escB, if_pos hd]]
              simp; omega
          · rw [if_neg hd] at h; exact absurd rfl h
      · rw [if_neg h92] at h ⊢
        by_cases hb : c.toNat < 32 ∨ 126 < c.toNat
        · rw [if_pos hb] at h; exact absurd rfl h
        · rw [if_neg hb] at h ⊢
          obtain ⟨l, rest, h1, h2, h3, h4⟩ := quo_inv r (i + 1) (out ++ [c]) h
          have he : escB c = [c] := by rw [escB, if_neg (by omega)]
          refine ⟨c :: l, rest, by rw [h1]; simp, ?_, ?_, ?_⟩
          · rw [List.all_cons, h2, Bool.and_true]
            simp [okB]; omega
          · rw [List.flatMap_cons, he, h3]; simp
          · rw [h4, List.flatMap_cons, he]; simp; omega
theorem sign_again {g : List UInt8} (h : g ∈ signs) {x : UInt8} (hx : endB x) (rest : List UInt8) : signP (g ++ x :: rest) = some g := by
  have hx61 : x ≠ 61 := by
    intro e; subst e
    revert hx; unfold endB; decide
  have hb : ((61 : UInt8) == x) = false := beq_eq_false_iff_ne.2 (Ne.symm hx61)
  simp only [signs, List.mem_cons, List.not_mem_nil, or_false] at h
  rcases h with rfl | rfl | rfl | rfl | rfl | rfl | rfl | rfl | rfl | rfl | rfl | rfl | rfl | rfl <;> simp [signP, signs, List.find?, List.isPrefixOf, hb]
theorem sign_head {g : List UInt8} (h : g ∈ signs) : ∃ c r, g = c :: r ∧ letN c.toNat = false ∧ digN c.toNat = false ∧ c.toNat ≠ 34 ∧ plainB c := by
  simp only [signs, List.mem_cons, List.not_mem_nil, or_false] at h
  rcases h with rfl | rfl | rfl | rfl | rfl | rfl | rfl | rfl | rfl | rfl | rfl | rfl | rfl | rfl <;> exact ⟨_, _, rfl, by decide, by decide, by decide, by unfold plainB; decide⟩
/-- The token at the beginning of a text: what stands there is the token, written; and it is read again. -/
theorem tok_good (c : UInt8) (r : List UInt8) (h : (tokP (c :: r)).2.1 ≠ 0) :
    (c :: r).take (tokP (c :: r)).2.1 = writK (tokP (c :: r)).1 (tokP (c :: r)).2.2 ∧ GoodT (tokP (c :: r)).1 (tokP (c :: r)).2.2 := by
  cases h0 : letN c.toNat with
  | true =>
    rw [tokP_word h0]
    simp only []
    have hw : writK ((1 : Nat) : Int) (c :: r.takeWhile wordB) = c :: r.takeWhile wordB := by rw [writK, if_neg (by decide)]
    refine ⟨by rw [hw, Nat.add_comm, List.take_succ_cons, take_tw], fun h => by simp at h, by decide, fun x rest hx => ⟨c, r.takeWhile wordB, hw, let_plain h0, 1, rfl, ?_⟩⟩
    rw [hw, List.cons_append, tokP_word h0, tw_all _ _ (tw_is r) (fun y hy => by simp at hy; subst hy; exact end_word hx)]
    simp only [List.length_cons, Nat.add_comm]
  | false =>
    cases h1 : digN c.toNat with
    | true =>
      by_cases h9 : 9 < 1 + (r.takeWhile digB).length
      · rw [tokP_long h0 h1 h9] at h; exact absurd rfl h
      · rw [tokP_dig h0 h1 h9]
        simp only []
        have hw : writK ((2 : Nat) : Int) (c :: r.takeWhile digB) = c :: r.takeWhile digB := by rw [writK, if_neg (by decide)]
        refine ⟨by rw [hw, Nat.add_comm, List.take_succ_cons, take_tw], fun h => by simp at h, by decide, fun x rest hx => ⟨c, r.takeWhile digB, hw, (dig_facts h1).2.2, 2, rfl, ?_⟩⟩
        have ht := tw_all _ (x :: rest) (tw_is (p := digB) r) (fun y hy => by simp at hy; subst hy; exact end_dig hx)
        rw [hw, List.cons_append, tokP_dig h0 h1 (by rw [ht]; exact h9), ht]
        simp only [List.length_cons, Nat.add_comm]
    | false =>
      by_cases hq : c.toNat = 34
      · rw [tokP_quo h0 h1 hq] at h ⊢
        simp only [] at h ⊢
        obtain ⟨l, rest, e1, e2, e3, e4⟩ := quo_inv r 1 [] h
        rw [List.nil_append] at e1
        have hc : c = 34 := UInt8.toNat_inj.1 hq
        subst hc
        rw [e1, e4]
        have hw : writK ((3 : Nat) : Int) l = quoL l := by rw [writK, if_pos (by decide)]
        refine ⟨?_, fun _ => e2, by decide, fun x rest hx => ⟨34, l.flatMap escB ++ [34], by rw [hw]; rfl, by unfold plainB; decide, 3, rfl, ?_⟩⟩
        · rw [hw, e3]
          have : (34 : UInt8) :: (l.flatMap escB ++ 34 :: rest) = quoL l ++ rest := by simp [quoL]
          rw [this]
          refine List.take_left' ?_
          simp [quoL]; omega
        · rw [hw]; exact tok_quo l _ e2
      · cases hg : signP (c :: r) with
        | none => rw [tokP_none h0 h1 hq hg] at h; exact absurd rfl h
        | some g =>
          rw [tokP_sign h0 h1 hq hg]
          simp only []
          obtain ⟨hm, hp⟩ := sign_mem hg
          have hw : writK ((4 : Nat) : Int) g = g := by rw [writK, if_neg (by decide)]
          refine ⟨by rw [hw]; exact (List.prefix_iff_eq_take.1 hp).symm, fun h => by simp at h, by decide, fun x rest hx => ?_⟩
          obtain ⟨c', r', rfl, f1, f2, f3, f4⟩ := sign_head hm
          refine ⟨c', r', hw, f4, 4, rfl, ?_⟩
          rw [hw, List.cons_append, tokP_sign f1 f2 f3 (by rw [← List.cons_append]; exact sign_again hm hx rest)]
/-- Tokens that end by the End, each of which is read again. -/
def goodL (N : Nat) : List Tok → Prop
  | [] => False
  | [e] => e.kind = 5 ∧ e.text = []
  | t :: r => (writK t.kind t.text).length ≤ N ∧ GoodT t.kind t.text ∧ goodL N r
theorem goodL.ne {N : Nat} {ts : List Tok} (h : goodL N ts) : ts ≠ [] := by intro e; subst e; exact h
theorem goodL_cons {N : Nat} {t : Tok} {r : List Tok} (h : goodL N r) (h1 : (writK t.kind t.text).length ≤ N) (h2 : GoodT t.kind t.text) : goodL N (t :: r) := by
  match r, h with
  | a :: r, h => exact ⟨h1, h2, h⟩
theorem splitS_good (N : Nat) : ∀ (s : List UInt8) (k : Nat) (l c : Int) (ts : List Tok), s.length ≤ N → splitS s k l c = some ts → goodL N ts
  | [], k, l, c, ts, hN, h => by
    cases k <;> simp only [splitS, Option.some.injEq] at h <;> subst h <;> exact ⟨rfl, rfl⟩
  | x :: r, k + 1, l, c, ts, hN, h => by
    rw [splitS] at h
    exact splitS_good N r k l (c + 1) ts (by simp only [List.length_cons] at hN; omega) h
  | x :: r, 0, l, c, ts, hN, h => by
    rw [splitS] at h
    have hN' : r.length ≤ N := by simp only [List.length_cons] at hN; omega
    split at h
    · exact splitS_good N r _ _ _ ts hN' h
    · split at h
      · exact splitS_good N r _ _ _ ts hN' h
      · split at h
        · exact splitS_good N r _ _ _ ts hN' h
        · split at h
          · cases h
          · rename_i hz
            obtain ⟨ts', h', rfl⟩ := Option.map_eq_some_iff.1 h
            obtain ⟨g1, g2⟩ := tok_good x r hz
            exact goodL_cons (splitS_good N r _ _ _ ts' hN' h') (by rw [← g1, List.length_take]; omega) g2

/-! ### Tokens written with something between them -/
def sepL (k : Nat) : List UInt8 := if k % 4 = 0 then [32] else if k % 4 = 1 then [10] else if k % 4 = 2 then [32, 35, 32, 97, 32, 34, 99, 111, 109, 109, 101, 110, 116, 10] else [9, 13, 10, 32, 32]
theorem sep_head (k : Nat) : ∃ x r, sepL k = x :: r ∧ endB x := by
  unfold sepL endB
  split
  · exact ⟨_, _, rfl, by decide⟩
  · split
    · exact ⟨_, _, rfl, by decide⟩
    · split
      · exact ⟨_, _, rfl, by decide⟩
      · exact ⟨_, _, rfl, by decide⟩
theorem sep_len (k : Nat) : (sepL k).length ≤ 14 := by
  unfold sepL
  split
  · decide
  · split
    · decide
    · split <;> decide
theorem sep_skip (k : Nat) (r : List UInt8) (l c : Int) : ∃ l' c', splitS (sepL k ++ r) 0 l c = splitS r 0 l' c' := by
  unfold sepL
  split
  · exact ⟨l, c + 1, split_blank (by decide)⟩
  · split
    · exact ⟨l + 1, 1, split_nl (by decide)⟩
    · split
      · refine ⟨l + 1, 1, ?_⟩
        simp only [List.cons_append, List.nil_append]
        rw [split_blank (by decide), split_note (by decide)]
        have ht := tw_all (p := notNl) [32, 97, 32, 34, 99, 111, 109, 109, 101, 110, 116] (10 :: r) (by decide) (fun x hx => by simp at hx; subst hx; decide)
        simp only [List.cons_append, List.nil_append] at ht
        rw [ht]
        simp only [List.length_cons, List.length_nil, List.drop_succ_cons, List.drop_zero]
        exact split_nl (by decide)
      · refine ⟨l + 1, 3, ?_⟩
        simp only [List.cons_append, List.nil_append]
        rw [split_blank (by decide), split_blank (by decide), split_nl (by decide), split_blank (by decide), split_blank (by decide)]
        rfl
def joinF (bt : Nat → Nat) : List Tok → Nat → List UInt8
  | [], _ => []
  | t :: r, i => writK t.kind t.text ++ (sepL (bt i) ++ joinF bt r (i + 1))
theorem joinF_snoc (bt : Nat → Nat) (t : Tok) : ∀ (ts : List Tok) (i : Nat), joinF bt (ts ++ [t]) i = joinF bt ts i ++ (writK t.kind t.text ++ sepL (bt (i + ts.length)))
  | [], i => by simp [joinF]
  | a :: r, i => by
    rw [List.cons_append, joinF, joinF_snoc bt t r (i + 1), joinF]
    simp only [List.append_assoc, List.length_cons]
    rw [show i + 1 + r.length = i + (r.length + 1) by omega]
def kts (ts : List Tok) : List (Int × List UInt8) := ts.map fun t => (t.kind, t.text)
theorem join_split (N : Nat) (bt : Nat → Nat) : ∀ (ts : List Tok) (i : Nat) (l c : Int), goodL N ts → ∃ ts', splitS (joinF bt ts i) 0 l c = some ts' ∧ kts ts' = kts ts
  | [], i, l, c, h => absurd h id
  | [e], i, l, c, h => by
    have hw : writK e.kind e.text = [] := by rw [writK, h.1, h.2, if_neg (by decide)]
    obtain ⟨l', c', hs⟩ := sep_skip (bt i) [] l c
    refine ⟨[⟨5, [], l', c'⟩], ?_, ?_⟩
    · rw [joinF, hw, joinF, List.nil_append, hs]; rfl
    · simp [kts, h.1, h.2]
  | t :: a :: r, i, l, c, h => by
    obtain ⟨h1, ⟨g1, g2, g3⟩, h3⟩ := h
    obtain ⟨x, sr, hx, hxe⟩ := sep_head (bt i)
    obtain ⟨c0, r0, hw, hpl, m, hm, htok⟩ := g3 x (sr ++ joinF bt (a :: r) (i + 1)) hxe
    rw [← List.cons_append, ← hx] at htok
    rw [joinF]
    rw [hw] at htok ⊢
    rw [List.cons_append] at htok ⊢
    obtain ⟨l', c', hs⟩ := sep_skip (bt i) (joinF bt (a :: r) (i + 1)) l (c + ((c0 :: r0).length : Nat))
    obtain ⟨ts', hts, hk⟩ := join_split N bt (a :: r) (i + 1) l' c' h3
    refine ⟨⟨(m : Int), t.text, l, c⟩ :: ts', ?_, ?_⟩
    · rw [split_tok hpl (by rw [htok]; simp), htok]
      simp only []
      rw [← List.cons_append, List.drop_left, hs, hts]
      rfl
    · rw [kts, List.map_cons]
      rw [kts] at hk
      rw [hk, ← hm]
      rfl
end Go.Proofs.Ytobndhpfdaddaaa
