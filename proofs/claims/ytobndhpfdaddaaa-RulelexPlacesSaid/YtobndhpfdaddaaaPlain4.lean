/- Plain laws on the places of tokens. No condition. -/
import Derived.Test.YtobndhpfdaddaaaWritten
namespace Go.Proofs.Ytobndhpfdaddaaa
open Go.RowKit
set_option linter.unusedVariables false
set_option linter.unusedSimpArgs false

/-- Where the lines behind the first begin. -/
def stF : List UInt8 → Nat → List Nat
  | [], _ => []
  | c :: r, i => if c.toNat = 10 then (i + 1) :: stF r (i + 1) else stF r (i + 1)
def startsT (T : List UInt8) : List Nat := 0 :: stF T 0
theorem stF_append : ∀ (a b : List UInt8) (i : Nat), stF (a ++ b) i = stF a i ++ stF b (i + a.length)
  | [], b, i => by simp [stF]
  | c :: a, b, i => by
    rw [List.cons_append, stF, stF, stF_append a b (i + 1)]
    rw [show i + 1 + a.length = i + (c :: a).length by simp only [List.length_cons]; omega]
    split <;> simp
theorem stF_none : ∀ (a : List UInt8) (i : Nat), (∀ x ∈ a, x.toNat ≠ 10) → stF a i = []
  | [], _, _ => rfl
  | c :: a, i, h => by
    rw [stF, if_neg (h c (by simp)), stF_none a (i + 1) (fun x hx => h x (by simp [hx]))]
theorem stF_len : ∀ (a : List UInt8) (i : Nat), (stF a i).length ≤ a.length
  | [], _ => by simp [stF]
  | c :: a, i => by
    rw [stF]
    have := stF_len a (i + 1)
    split <;> simp only [List.length_cons] <;> omega
theorem stF_le : ∀ (a : List UInt8) (i b : Nat), b ∈ stF a i → b ≤ i + a.length
  | [], _, _, h => by simp [stF] at h
  | c :: a, i, b, h => by
    rw [stF] at h
    simp only [List.length_cons]
    split at h
    · rcases List.mem_cons.1 h with h | h
      · omega
      · have := stF_le a (i + 1) b h; omega
    · have := stF_le a (i + 1) b h; omega
theorem starts_split (T : List UInt8) (i : Nat) : startsT T = startsT (T.take i) ++ stF (T.drop i) (T.take i).length := by
  unfold startsT
  conv => lhs; rw [← List.take_append_drop i T, stF_append]
  simp
/-- At byte i: the line, and the column. -/
def St (T : List UInt8) (i l c : Nat) : Prop := l = (startsT (T.take i)).length ∧ ∃ b, (startsT T)[l - 1]? = some b ∧ b + c = i + 1 ∧ 1 ≤ c
theorem St.start (T : List UInt8) : St T 0 1 1 := ⟨by simp [startsT, stF], 0, by simp [startsT], rfl, Nat.le_refl _⟩
theorem St.more {T : List UInt8} {i l c n : Nat} (h : St T i l c) (hn : ∀ x ∈ (T.drop i).take n, x.toNat ≠ 10) (hl : i + n ≤ T.length) : St T (i + n) l (c + n) := by
  obtain ⟨h1, b, h2, h3, h4⟩ := h
  refine ⟨?_, b, h2, by omega, by omega⟩
  rw [h1, List.take_add]
  unfold startsT
  rw [stF_append, stF_none _ _ hn]
  simp
theorem St.line {T : List UInt8} {i l c : Nat} {x : UInt8} {r : List UInt8} (h : St T i l c) (hd : T.drop i = x :: r) (hx : x.toNat = 10) : St T (i + 1) (l + 1) 1 := by
  have hi : i < T.length := by
    apply Classical.byContradiction
    intro hc
    rw [List.drop_of_length_le (by omega)] at hd
    cases hd
  obtain ⟨h1, b, h2, h3, h4⟩ := h
  have ht : T.take (i + 1) = T.take i ++ [x] := by
    rw [List.take_add, hd]; simp
  have hlen : (T.take i).length = i := by rw [List.length_take]; omega
  have hs : startsT (T.take (i + 1)) = startsT (T.take i) ++ [i + 1] := by
    unfold startsT
    rw [ht, stF_append, hlen]
    simp [stF, hx]
  refine ⟨by rw [hs, List.length_append, ← h1]; rfl, i + 1, ?_, rfl, Nat.le_refl _⟩
  rw [starts_split T (i + 1), hs, Nat.add_sub_cancel, h1, List.append_assoc, List.getElem?_append_right (Nat.le_refl _), Nat.sub_self]
  rfl
theorem tok_nonl (c : UInt8) (r : List UInt8) (h : (tokP (c :: r)).2.1 ≠ 0) : ∀ x ∈ (c :: r).take (tokP (c :: r)).2.1, x.toNat ≠ 10 := by
  rw [(tok_good c r h).1]
  cases h0 : letN c.toNat with
  | true =>
    rw [tokP_word h0]
    have hc : c.toNat ≠ 10 := by simp [letN] at h0; omega
    intro x hx
    rw [writK, if_neg (show ¬ ((1 : Nat) : Int) = 3 by decide)] at hx
    rcases List.mem_cons.1 hx with rfl | hx
    · exact hc
    · have := List.all_eq_true.1 (tw_is (p := wordB) r) x hx
      simp [wordB, letN, digN] at this
      omega
  | false =>
    cases h1 : digN c.toNat with
    | true =>
      by_cases h9 : 9 < 1 + (r.takeWhile digB).length
      · rw [tokP_long h0 h1 h9] at h; exact absurd rfl h
      · rw [tokP_dig h0 h1 h9]
        have hc : c.toNat ≠ 10 := by simp [digN] at h1; omega
        intro x hx
        rw [writK, if_neg (show ¬ ((2 : Nat) : Int) = 3 by decide)] at hx
        rcases List.mem_cons.1 hx with rfl | hx
        · exact hc
        · have := List.all_eq_true.1 (tw_is (p := digB) r) x hx
          simp [digB, digN] at this
          omega
    | false =>
      by_cases hq : c.toNat = 34
      · have hg := (tok_good c r h).2.1
        rw [tokP_quo h0 h1 hq] at hg ⊢
        have hok := hg rfl
        intro x hx
        rw [writK, if_pos (show ((3 : Nat) : Int) = 3 by decide)] at hx
        unfold quoL at hx
        simp only [List.mem_append, List.mem_cons, List.not_mem_nil, or_false, List.mem_flatMap] at hx
        rcases hx with (rfl | ⟨y, hy, hxy⟩) | rfl
        · decide
        · have := List.all_eq_true.1 hok y hy
          simp [okB] at this
          unfold escB at hxy
          split at hxy
          · simp at hxy
            rcases hxy with rfl | rfl
            · decide
            · omega
          · simp at hxy
            subst hxy
            omega
        · decide
      · cases hg : signP (c :: r) with
        | none => rw [tokP_none h0 h1 hq hg] at h; exact absurd rfl h
        | some g =>
          rw [tokP_sign h0 h1 hq hg]
          have hm := (sign_mem hg).1
          intro x hx
          rw [writK, if_neg (show ¬ ((4 : Nat) : Int) = 3 by decide)] at hx
          simp only [signs, List.mem_cons, List.not_mem_nil, or_false] at hm
          rcases hm with rfl | rfl | rfl | rfl | rfl | rfl | rfl | rfl | rfl | rfl | rfl | rfl | rfl | rfl <;> simp at hx <;> (try rcases hx with rfl | rfl) <;> (try subst hx) <;> decide
/-- A token stands at a place. -/
def atP (T : List UInt8) (t : Tok) (p : Nat) : Prop := ∃ l c b : Nat, t.line = (l : Int) ∧ t.col = (c : Int) ∧ 1 ≤ l ∧ 1 ≤ c ∧ (startsT T)[l - 1]? = some b ∧ b + c = p + 1 ∧ p + (writK t.kind t.text).length ≤ T.length ∧ (T.drop p).take (writK t.kind t.text).length = writK t.kind t.text
theorem St.at {T : List UInt8} {i l c : Nat} (h : St T i l c) {kd : Int} {tx : List UInt8} (h1 : i + (writK kd tx).length ≤ T.length) (h2 : (T.drop i).take (writK kd tx).length = writK kd tx) : atP T ⟨kd, tx, l, c⟩ i := by
  obtain ⟨e, b, h3, h4, h5⟩ := h
  exact ⟨l, c, b, rfl, rfl, by rw [e]; simp [startsT], h5, h3, h4, h1, h2⟩
def placed (T : List UInt8) : Nat → List Tok → List Nat → Prop
  | _, [], _ => False
  | _, [e], ps => e.kind = 5 ∧ ps = [T.length] ∧ atP T e T.length
  | lo, t :: r, p :: ps => atP T t p ∧ lo ≤ p ∧ placed T (p + 1) r ps
  | _, _, [] => False
theorem placed_cons {T : List UInt8} {lo p : Nat} {t : Tok} {r : List Tok} {ps : List Nat} (h : placed T (p + 1) r ps) (h1 : atP T t p) (h2 : lo ≤ p) : placed T lo (t :: r) (p :: ps) := by
  match r, h with
  | a :: r, h => exact ⟨h1, h2, h⟩
theorem placed_lo {T : List UInt8} {lo lo' : Nat} (hl : lo' ≤ lo) : ∀ {ts : List Tok} {ps : List Nat}, placed T lo ts ps → placed T lo' ts ps
  | [], _, h => absurd h id
  | [e], ps, h => h
  | t :: a :: r, [], h => absurd h id
  | t :: a :: r, p :: ps, h => ⟨h.1, by have := h.2.1; omega, h.2.2⟩
theorem nonl_all {a : List UInt8} (n : Nat) : ∀ x ∈ (a.takeWhile notNl).take n, x.toNat ≠ 10 := by
  intro x hx
  have := List.all_eq_true.1 (tw_is (p := notNl) a) x (List.mem_of_mem_take hx)
  simpa [notNl] using this
theorem split_placed (T : List UInt8) : ∀ (n i l c : Nat) (ts : List Tok), T.length - i ≤ n → i ≤ T.length → St T i l c → splitS (T.drop i) 0 l c = some ts → ∃ ps, placed T i ts ps := by
  intro n
  induction n with
  | zero =>
    intro i l c ts hn hi hst h
    obtain rfl : i = T.length := by omega
    rw [List.drop_length, splitS, Option.some.injEq] at h
    subst h
    exact ⟨[T.length], rfl, rfl, hst.at (by simp [writK]) (by simp [writK])⟩
  | succ n ih =>
    intro i l c ts hn hi hst h
    cases hd : T.drop i with
    | nil =>
      have hi2 : i = T.length := by
        have := congrArg List.length hd
        simp at this; omega
      subst hi2
      rw [hd, splitS, Option.some.injEq] at h
      subst h
      exact ⟨[T.length], rfl, rfl, hst.at (by simp [writK]) (by simp [writK])⟩
    | cons x r =>
      have hlt : i < T.length := by
        have := congrArg List.length hd
        simp at this; omega
      have hr : T.drop (i + 1) = r := by
        have := List.drop_drop (i := 1) (j := i) (l := T)
        rw [← this, hd]; rfl
      have hrl : r.length = T.length - (i + 1) := by rw [← hr, List.length_drop]
      rw [hd] at h
      by_cases h10 : x.toNat = 10
      · rw [split_nl h10, ← hr] at h
        obtain ⟨ps, hp⟩ := ih (i + 1) (l + 1) 1 ts (by omega) (by omega) (hst.line hd h10) (by simpa using h)
        exact ⟨ps, placed_lo (by omega) hp⟩
      · by_cases hb : x.toNat = 32 ∨ x.toNat = 9 ∨ x.toNat = 13
        · rw [split_blank hb, ← hr] at h
          obtain ⟨ps, hp⟩ := ih (i + 1) l (c + 1) ts (by omega) (by omega) (hst.more (by rw [hd]; simp; exact h10) (by omega)) (by simpa using h)
          exact ⟨ps, placed_lo (by omega) hp⟩
        · by_cases h35 : x.toNat = 35
          · rw [split_note h35] at h
            have htl := takeWhile_len notNl r
            have hst2 := hst.more (n := 1 + (r.takeWhile notNl).length) (by
              rw [hd, Nat.add_comm, List.take_succ_cons, take_tw]
              intro y hy
              rcases List.mem_cons.1 hy with rfl | hy
              · exact h10
              · have := nonl_all (a := r) r.length y (by rw [List.take_of_length_le htl]; exact hy)
                exact this) (by omega)
            obtain ⟨ps, hp⟩ := ih _ _ _ ts (by omega) (by omega) hst2 (by
              rw [← hr, List.drop_drop] at h
              rw [hr] at h
              rw [← Nat.add_assoc]
              rw [show c + (1 + (r.takeWhile notNl).length) = c + 1 + (r.takeWhile notNl).length by omega]
              push_cast
              exact h)
            exact ⟨ps, placed_lo (by omega) hp⟩
          · have hpl : plainB x := ⟨h10, by omega, by omega, by omega, h35⟩
            by_cases hz : (tokP (x :: r)).2.1 = 0
            · rw [split_bad hpl hz] at h; cases h
            · rw [split_tok hpl hz] at h
              obtain ⟨ts', h', rfl⟩ := Option.map_eq_some_iff.1 h
              obtain ⟨g1, g2⟩ := tok_good x r hz
              have hln := tokP_len (x :: r)
              have hnl := tok_nonl x r hz
              simp only [List.length_cons] at hln
              have hst2 := hst.more (n := (tokP (x :: r)).2.1) (by rw [hd]; exact hnl) (by omega)
              rw [← hd, List.drop_drop] at h'
              rw [hd] at h'
              obtain ⟨ps, hp⟩ := ih _ _ _ ts' (by omega) (by omega) hst2 (by push_cast; exact h')
              have hwl : (writK (tokP (x :: r)).1 (tokP (x :: r)).2.2).length = (tokP (x :: r)).2.1 := by
                rw [← g1, List.length_take]; simp only [List.length_cons]; omega
              refine ⟨i :: ps, placed_cons (placed_lo (by omega) hp) (hst.at (by rw [hwl]; omega) (by rw [hwl, hd]; exact g1)) (Nat.le_refl _)⟩
theorem splitT_goods {s : List UInt8} {ts : List Tok} (h : splitT s = some ts) : goodL s.length ts := splitS_good s.length s 0 1 1 ts (Nat.le_refl _) h
theorem splitT_placed {T : List UInt8} {ts : List Tok} (h : splitT T = some ts) : ∃ ps, placed T 0 ts ps :=
  split_placed T T.length 0 1 1 ts (by omega) (by omega) (St.start T) (by simpa [splitT] using h)
theorem placed_len {T : List UInt8} : ∀ {lo : Nat} {ts : List Tok} {ps : List Nat}, placed T lo ts ps → ps.length = ts.length
  | _, [], _, h => absurd h id
  | _, [e], ps, h => by rw [h.2.1]; rfl
  | _, t :: a :: r, [], h => absurd h id
  | _, t :: a :: r, p :: ps, h => by rw [List.length_cons, placed_len h.2.2]; rfl
theorem placed_at {T : List UInt8} : ∀ {lo : Nat} {ts : List Tok} {ps : List Nat} (h : placed T lo ts ps) (k : Nat) (t : Tok) (p : Nat), ts[k]? = some t → ps[k]? = some p →
    atP T t p ∧ (k + 1 < ts.length → (k = 0 → lo ≤ p) ∧ ∀ j q, k = j + 1 → ps[j]? = some q → q < p) ∧ (k + 1 = ts.length → p = T.length ∧ t.kind = 5)
  | _, [], _, h, _, _, _, _, _ => absurd h id
  | _, [e], ps, h, k, t, p, ht, hp => by
    obtain ⟨h1, rfl, h3⟩ := h
    cases k with
    | zero =>
      simp at ht hp
      subst ht
      subst hp
      exact ⟨h3, fun h => by simp at h, fun _ => ⟨rfl, h1⟩⟩
    | succ k => simp at ht
  | _, t :: a :: r, [], h, _, _, _, _, _ => absurd h id
  | lo, t0 :: a :: r, p0 :: ps, h, k, t, p, ht, hp => by
    obtain ⟨h1, h2, h3⟩ := h
    cases k with
    | zero =>
      simp at ht hp
      subst ht
      subst hp
      exact ⟨h1, fun _ => ⟨fun _ => h2, fun j q hj => by omega⟩, fun h => by simp at h⟩
    | succ k =>
      have := placed_at h3 k t p (by simpa using ht) (by simpa using hp)
      refine ⟨this.1, fun hk => ⟨fun h => by omega, fun j q hj hq => ?_⟩, fun hk => this.2.2 (by simp only [List.length_cons] at hk ⊢; omega)⟩
      obtain rfl : k = j := by omega
      have h4 := this.2.1 (by simp only [List.length_cons] at hk ⊢; omega)
      cases k with
      | zero =>
        simp at hq
        subst hq
        have := h4.1 rfl
        omega
      | succ j => exact h4.2 j q rfl (by simpa using hq)
end Go.Proofs.Ytobndhpfdaddaaa
