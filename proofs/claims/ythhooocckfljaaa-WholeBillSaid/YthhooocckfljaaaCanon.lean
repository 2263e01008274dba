/- The plain laws of records and entries: what is decoded is what was encoded, and the other way round. No program in sight. -/
import Derived.Test.YthhooocckfljaaaCurs
import Derived.Test.YthhooocckfljaaaDecode
namespace Go.Proofs.Ythhooocckfljaaa
set_option linter.unusedVariables false
set_option linter.unusedSimpArgs false

theorem be4_inj {q r : List UInt8} (hq : q.length = 4) (hr : r.length = 4) (h : be4 q = be4 r) : q = r := by
  match q, r, hq, hr with
  | [a, b, c, d], [a', b', c', d'], _, _ =>
    simp only [be4] at h
    have := a.toNat_lt
    have := b.toNat_lt
    have := c.toNat_lt
    have := d.toNat_lt
    have := a'.toNat_lt
    have := b'.toNat_lt
    have := c'.toNat_lt
    have := d'.toNat_lt
    have e1 : a.toNat = a'.toNat := by omega
    have e2 : b.toNat = b'.toNat := by omega
    have e3 : c.toNat = c'.toNat := by omega
    have e4 : d.toNat = d'.toNat := by omega
    rw [UInt8.toNat_inj.1 e1, UInt8.toNat_inj.1 e2, UInt8.toNat_inj.1 e3, UInt8.toNat_inj.1 e4]
theorem ofNat_back (c : UInt8) : UInt8.ofNat c.toNat = c := by
  apply UInt8.toNat_inj.1
  rw [UInt8.toNat_ofNat']
  have := c.toNat_lt
  omega
theorem takeF_canon (bytes : Nat) : ∀ (l : List UInt8) (k acc : Nat), k < bytes → 0 < (takeF bytes k acc l).2 →
    ∃ n : Nat, (takeF bytes k acc l).1 = ((acc + n * 128 ^ k : Nat) : Int) ∧ (0 < k → n ≠ 0) ∧ (k : Int) < (takeF bytes k acc l).2 ∧ (∀ f, 1 ≤ f → n < 128 ^ f → numF f n = l.take ((takeF bytes k acc l).2.toNat - k))
  | [], _, _, _, h => by simp [takeF] at h
  | c :: r, k, acc, hk, h => by
    have hcb : c.toNat < 256 := c.toNat_lt
    by_cases h128 : c.toNat < 128
    · have eT : takeF bytes k acc (c :: r) = if c.toNat = 0 ∧ 0 < k then (0, -1) else (((acc + c.toNat * 128 ^ k : Nat) : Int), (k : Int) + 1) := by rw [takeF, if_pos h128]
      by_cases h0 : c.toNat = 0 ∧ 0 < k
      · rw [eT, if_pos h0] at h; simp at h
      · rw [if_neg h0] at eT
        rw [eT]
        refine ⟨c.toNat, rfl, by omega, by simp only []; omega, fun f hf _ => ?_⟩
        obtain ⟨f, rfl⟩ : ∃ g, f = g + 1 := ⟨f - 1, by omega⟩
        rw [numF_small f _ h128, ofNat_back]
        rw [show ((k : Int) + 1).toNat - k = 1 by omega]
        rfl
    · by_cases hb1 : k + 1 = bytes
      · rw [takeF, if_neg h128, if_pos hb1] at h; simp at h
      · have eT : takeF bytes k acc (c :: r) = takeF bytes (k + 1) (acc + (c.toNat - 128) * 128 ^ k) r := by rw [takeF, if_neg h128, if_neg hb1]
        rw [eT] at h ⊢
        obtain ⟨n, h1, h2, h3, h4⟩ := takeF_canon bytes r (k + 1) (acc + (c.toNat - 128) * 128 ^ k) (by omega) h
        have hn := h2 (by omega)
        refine ⟨c.toNat - 128 + n * 128, ?_, by omega, by omega, fun f hf hlt => ?_⟩
        · rw [h1]
          congr 1
          rw [Nat.pow_succ, Nat.add_mul, Nat.mul_assoc n 128, Nat.mul_comm 128, Nat.add_assoc]
        · obtain ⟨f, rfl⟩ : ∃ g, f = g + 1 := ⟨f - 1, by omega⟩
          have hf1 : 1 ≤ f := by
            cases f with
            | zero => simp at hlt; omega
            | succ f => omega
          rw [numF_big f _ (by omega), show (c.toNat - 128 + n * 128) / 128 = n by omega, show (c.toNat - 128 + n * 128) % 128 + 128 = c.toNat by omega, ofNat_back, h4 f hf1 (by rw [Nat.pow_succ] at hlt; omega)]
          rw [show (takeF bytes (k + 1) (acc + (c.toNat - 128) * 128 ^ k) r).2.toNat - k = ((takeF bytes (k + 1) (acc + (c.toNat - 128) * 128 ^ k) r).2.toNat - (k + 1)) + 1 by omega, List.take_succ_cons]
theorem partP_bd {bytes most : Nat} {l : List UInt8} {n k : Nat} (h : partP bytes most l = .inr (n, k)) : k ≤ l.length ∧ 1 ≤ k ∧ n ≤ most := by
  have hb := takeP_bd bytes l
  unfold partP at h
  split at h
  · cases h
  · split at h
    · cases h
    · simp only [Sum.inr.injEq, Prod.mk.injEq] at h
      omega
theorem partP_canon {bytes most : Nat} {l : List UInt8} {n k : Nat} (hb : 1 ≤ bytes) (h : partP bytes most l = .inr (n, k)) (hm : most < 128 ^ 10) : numB n = l.take k := by
  have hp := partP_bd h
  have hb0 := takeP_bd bytes l
  unfold partP at h
  split at h
  · cases h
  · split at h
    · cases h
    · simp only [Sum.inr.injEq, Prod.mk.injEq] at h
      obtain ⟨h1, h2⟩ := h
      obtain ⟨n', e1, _, e2, e3⟩ := takeF_canon bytes l 0 0 (by omega) (by change 0 < (takeP bytes l).2; omega)
      change (takeP bytes l).1 = _ at e1
      change ∀ f, _ → _ → _ = l.take ((takeP bytes l).2.toNat - 0) at e3
      have hn : n' = n := by simp at e1; omega
      subst hn
      have := e3 10 (by omega) (by omega)
      rw [h2] at this
      exact this
/-- What the reference compares. -/
theorem end_enc (l : List UInt8) (c : UInt8) (n k m j : Nat) (hc0 : l[0]? = some c) (h1 : partP 6 1099511627776 (l.drop 1) = .inr (n, k)) (h2 : partP 3 131072 (l.drop (1 + k)) = .inr (m, j)) (hle : ¬ l.length < 1 + k + j + m + 4) :
    endP l c.toNat n (1 + k + j) m = if encP c.toNat n ((l.drop (1 + k + j)).take m) = l.take (1 + k + j + m + 4) then .inr (c.toNat, n, (l.drop (1 + k + j)).take m, 1 + k + j + m + 4) else .inl 12 := by
  have c1 := partP_canon (by omega) h1 (by decide)
  have c2 := partP_canon (by omega) h2 (by decide)
  obtain ⟨P, hP⟩ : ∃ P, P = (l.drop (1 + k + j)).take m := ⟨_, rfl⟩
  have hPl : P.length = m := by rw [hP]; simp; omega
  have hH : headP c.toNat n P = l.take (1 + k + j + m) := by
    unfold headP
    rw [hPl, c1, c2, hP, ofNat_back]
    have e0 : l = c :: l.drop 1 := by
      cases l with
      | nil => cases hc0
      | cons d r => simp at hc0; subst hc0; rfl
    have s1 : l.take 1 = [c] := by rw [e0]; rfl
    rw [← s1, ← List.take_add, ← List.take_add, ← List.take_add]
  have hT : l.take (1 + k + j + m + 4) = l.take (1 + k + j + m) ++ (l.drop (1 + k + j + m)).take 4 := by rw [List.take_add]
  have hq : ((l.drop (1 + k + j + m)).take 4).length = 4 := by simp; omega
  rw [← hP]
  unfold endP encP
  rw [if_neg hle, hH, hT, ← hP]
  by_cases hs : be4 ((l.drop (1 + k + j + m)).take 4) = sumP (l.take (1 + k + j + m))
  · rw [if_neg (by simpa using hs), if_pos]
    congr 1
    exact be4_inj rfl hq (by rw [be4_four _ (word_sumP _), hs])
  · rw [if_pos hs, if_neg]
    intro e
    have e2 := List.append_cancel_left e
    apply hs
    rw [← e2, be4_four _ (word_sumP _)]
theorem dec_canon {l p : List UInt8} {k n s : Nat} (h : decP l = .inr (k, n, p, s)) :
    s ≤ l.length ∧ 5 ≤ s ∧ p.length ≤ s ∧ p.length ≤ 131072 ∧ (1 ≤ k ∧ k ≤ 127) ∧ n ≤ 1099511627776 ∧ encP k n p = l.take s := by
  cases l with
  | nil => simp [decP] at h
  | cons c r =>
    simp only [decP] at h
    split at h
    · cases h
    · rename_i hc
      split at h
      · cases h
      · rename_i n' k' h1
        split at h
        · cases h
        · rename_i m j h2
          have b1 := partP_bd h1
          have b2 := partP_bd h2
          by_cases hle : (c :: r).length < 1 + k' + j + m + 4
          · unfold endP at h; rw [if_pos hle] at h; cases h
          · have h2' : partP 3 131072 ((c :: r).drop (1 + k')) = .inr (m, j) := by
              rw [Nat.add_comm, List.drop_succ_cons]; exact h2
            rw [end_enc (c :: r) c n' k' m j rfl h1 h2' hle] at h
            split at h
            · rename_i he
              simp only [Sum.inr.injEq, Prod.mk.injEq] at h
              obtain ⟨rfl, rfl, rfl, rfl⟩ := h
              have hpl : (((c :: r).drop (1 + k' + j)).take m).length = m := by rw [List.length_take, List.length_drop]; omega
              refine ⟨by omega, by omega, by rw [hpl]; omega, by rw [hpl]; omega, by omega, by omega, he⟩
            · cases h
theorem numR_canon {l r : List UInt8} {n : Nat} (h : numR l = some (n, r)) : l = numB n ++ r := by
  rcases num_cases l with ⟨n', k, ht, hk1, hk2, hn, hR⟩ | ⟨_, hR⟩
  · rw [hR] at h
    simp only [Option.some.injEq, Prod.mk.injEq] at h
    obtain ⟨rfl, rfl⟩ := h
    have hp : 0 < (takeF 9 0 0 l).2 := by change 0 < (takeP 9 l).2; rw [ht]; simp only []; omega
    obtain ⟨m, e1, _, _, e3⟩ := takeF_canon 9 l 0 0 (by omega) hp
    change (takeP 9 l).1 = _ at e1
    change ∀ f, _ → _ → _ = l.take ((takeP 9 l).2.toNat - 0) at e3
    rw [ht] at e1 e3
    have hm : m = n' := by simp at e1; omega
    subst hm
    have := e3 10 (by omega) (by omega)
    simp only [Int.toNat_natCast, Nat.sub_zero] at this
    unfold numB
    rw [this, List.take_append_drop]
  · rw [hR] at h; cases h
theorem wordR_canon {l r s : List UInt8} (h : wordR l = some (s, r)) : l = textB s ++ r := by
  unfold wordR at h
  split at h
  · cases h
  · rename_i n q hn
    split at h
    · rename_i hle
      simp only [Option.some.injEq, Prod.mk.injEq] at h
      obtain ⟨rfl, rfl⟩ := h
      have := numR_canon hn
      have hl : (q.take n).length = n := by rw [List.length_take]; omega
      unfold textB
      rw [hl, List.append_assoc, List.take_append_drop]
      exact this
    · cases h

/-! ### An entry of a payload -/
def cur1 (p : List UInt8) : Option (List UInt8) := wordO (some p)
def entOf (n : Nat) (p : List UInt8) : Ent :=
  ⟨wordV (some p), numV (cur1 p), n, numV (numO (cur1 p)), numV (numO (numO (cur1 p))), numV (numO (numO (numO (cur1 p)))), numV (numO (numO (numO (numO (cur1 p)))))⟩
def curE (p : List UInt8) : Option (List UInt8) := numO (numO (numO (numO (numO (cur1 p)))))
def entP (l : List UInt8) : Option (Ent × Nat) :=
  match decP l with
  | .inl _ => none
  | .inr (k, n, p, s) => if k = 1 ∧ curE p = some [] ∧ codeE (entOf n p) = 0 then some (entOf n p, s) else none
theorem numO_some {o : Option (List UInt8)} {r : List UInt8} (h : numO o = some r) : ∃ l n, o = some l ∧ numR l = some (n, r) ∧ numV o = (n : Int) := by
  unfold numO at h
  cases o with
  | none => simp at h
  | some l =>
    simp only [Option.bind_some] at h
    cases hR : numR l with
    | none => rw [hR] at h; simp at h
    | some x =>
      obtain ⟨n, q⟩ := x
      rw [hR] at h
      simp at h
      subst h
      exact ⟨l, n, rfl, hR, by simp [numV, hR]⟩
theorem wordO_some {o : Option (List UInt8)} {r : List UInt8} (h : wordO o = some r) : ∃ l s, o = some l ∧ wordR l = some (s, r) ∧ wordV o = s := by
  unfold wordO at h
  cases o with
  | none => simp at h
  | some l =>
    simp only [Option.bind_some] at h
    cases hR : wordR l with
    | none => rw [hR] at h; simp at h
    | some x =>
      obtain ⟨n, q⟩ := x
      rw [hR] at h
      simp at h
      subst h
      exact ⟨l, n, rfl, hR, by simp [wordV, hR]⟩
theorem numI_nat {n : Nat} (h : n ≤ 4611686018427387904) : numI (n : Int) = numB n := by
  unfold numI clampN
  congr 1
  omega
theorem ent_pay {n : Nat} {p : List UInt8} (h : curE p = some []) : payE (entOf n p) = p := by
  obtain ⟨l5, n5, e5, r5, v5⟩ := numO_some h
  obtain ⟨l4, n4, e4, r4, v4⟩ := numO_some e5
  obtain ⟨l3, n3, e3, r3, v3⟩ := numO_some e4
  obtain ⟨l2, n2, e2, r2, v2⟩ := numO_some e3
  obtain ⟨l1, n1, e1, r1, v1⟩ := numO_some e2
  obtain ⟨l0, s, e0, r0, v0⟩ := wordO_some (show wordO (some p) = some l1 from e1)
  simp only [Option.some.injEq] at e0
  subst e0
  have b5 := (numR_bd r5).2
  have b4 := (numR_bd r4).2
  have b3 := (numR_bd r3).2
  have b2 := (numR_bd r2).2
  have b1 := (numR_bd r1).2
  have c0 := wordR_canon r0
  have c1 := numR_canon r1
  have c2 := numR_canon r2
  have c3 := numR_canon r3
  have c4 := numR_canon r4
  have c5 := numR_canon r5
  unfold payE intsE entOf
  simp only [List.flatMap_cons, List.flatMap_nil]
  rw [v0, v1, v2, v3, v4, v5, numI_nat b1, numI_nat b2, numI_nat b3, numI_nat b4, numI_nat b5, c0, c1, c2, c3, c4, c5]
theorem num_step {n : Nat} {t : List UInt8} (h : n ≤ 4611686018427387904) : numO (some (numB n ++ t)) = some t ∧ numV (some (numB n ++ t)) = (n : Int) := by
  simp [numO, numV, numR_num n t h]
theorem numI_step {x : Int} {t : List UInt8} (h : inR x) : numO (some (numI x ++ t)) = some t ∧ numV (some (numI x ++ t)) = x := by
  obtain ⟨h1, h2⟩ := clamp_in h
  have := num_step (n := clampN x) (t := t) (by omega)
  rw [h1] at this
  exact this
theorem parse_pay (e : Ent) (hc : codeE e = 0) : curE (payE e) = some [] ∧ entOf e.seq.toNat (payE e) = e := by
  obtain ⟨hn, h0, h1, h2, h3, h4, h5, h6, h7⟩ := codeE_ok hc
  have hl := (named_short hn).2
  have hw : wordR (payE e) = some (e.node, (intsE e).flatMap numI) := wordR_text _ _ (by omega)
  have c1 : cur1 (payE e) = some (numI e.boot ++ (numI e.ten ++ (numI e.hits ++ (numI e.bytes ++ (numI e.att ++ []))))) := by
    simp [cur1, wordO, hw, intsE]
  have hv : wordV (some (payE e)) = e.node := by simp [wordV, hw]
  obtain ⟨a1, a2⟩ := numI_step (t := numI e.ten ++ (numI e.hits ++ (numI e.bytes ++ (numI e.att ++ [])))) h0
  obtain ⟨b1, b2⟩ := numI_step (t := numI e.hits ++ (numI e.bytes ++ (numI e.att ++ []))) h2
  obtain ⟨d1, d2⟩ := numI_step (t := numI e.bytes ++ (numI e.att ++ [])) h3
  obtain ⟨f1, f2⟩ := numI_step (t := numI e.att ++ []) h4
  obtain ⟨g1, g2⟩ := numI_step (t := []) h5
  unfold curE entOf
  rw [c1, hv, a1, a2, b1, b2, d1, d2, f1, f2, g1, g2]
  refine ⟨rfl, ?_⟩
  have hs : ((e.seq.toNat : Nat) : Int) = e.seq := by omega
  rw [hs]
theorem pay_short (e : Ent) (hc : codeE e = 0) : (payE e).length ≤ 131072 ∧ e.seq.toNat ≤ 1099511627776 := by
  obtain ⟨hn, h0, h1, h2, h3, h4, h5, h6, h7⟩ := codeE_ok hc
  have hl := (named_short hn).2
  have := payE_len e
  have := h1.2
  omega
theorem ent_rec (e : Ent) (t : List UInt8) (hc : codeE e = 0) : entP (recE e ++ t) = some (e, (recE e).length) := by
  obtain ⟨h1, h2⟩ := pay_short e hc
  obtain ⟨h3, h4⟩ := parse_pay e hc
  unfold entP recE
  rw [dec_enc 1 _ _ t (by omega) h2 h1]
  simp only []
  rw [h4, if_pos ⟨trivial, h3, hc⟩]
theorem ent_cut (e : Ent) (i : Nat) (hc : codeE e = 0) (hi : i < (recE e).length) : entP ((recE e).take i) = none := by
  obtain ⟨h1, h2⟩ := pay_short e hc
  unfold entP recE
  rw [dec_pre 1 _ _ i (by omega) h2 h1 hi]
theorem ent_canon {l : List UInt8} {e : Ent} {s : Nat} (h : entP l = some (e, s)) : codeE e = 0 ∧ recE e = l.take s ∧ s ≤ l.length ∧ 5 ≤ s := by
  unfold entP at h
  split at h
  · cases h
  · rename_i k n p s' hd
    split at h
    · rename_i hc
      simp only [Option.some.injEq, Prod.mk.injEq] at h
      obtain ⟨rfl, rfl⟩ := h
      obtain ⟨h1, h2, h3, h4, h5, h6, h7⟩ := dec_canon hd
      obtain ⟨rfl, hc1, hc2⟩ := hc
      refine ⟨hc2, ?_, h1, h2⟩
      unfold recE
      rw [ent_pay hc1]
      have : (entOf n p).seq.toNat = n := by simp [entOf]
      rw [this]
      exact h7
    · cases h

/-! ### The entries of bytes -/
def decsF : Nat → List UInt8 → List Ent × Nat
  | 0, _ => ([], 0)
  | f + 1, l => match entP l with
    | none => ([], 0)
    | some (e, s) => (e :: (decsF f (l.drop s)).1, s + (decsF f (l.drop s)).2)
def decsP (l : List UInt8) : List Ent × Nat := decsF l.length l
theorem decsF_fuel : ∀ (f g : Nat) (l : List UInt8), l.length ≤ f → l.length ≤ g → decsF f l = decsF g l
  | 0, 0, _, _, _ => rfl
  | 0, g + 1, l, h, _ => by
    obtain rfl := List.eq_nil_of_length_eq_zero (Nat.le_zero.1 h)
    rfl
  | f + 1, 0, l, _, h => by
    obtain rfl := List.eq_nil_of_length_eq_zero (Nat.le_zero.1 h)
    rfl
  | f + 1, g + 1, l, hf, hg => by
    simp only [decsF]
    cases he : entP l with
    | none => rfl
    | some x =>
      obtain ⟨e, s⟩ := x
      have := ent_canon he
      simp only []
      rw [decsF_fuel f g (l.drop s) (by rw [List.length_drop]; omega) (by rw [List.length_drop]; omega)]
theorem decsP_none {l : List UInt8} (h : entP l = none) : decsP l = ([], 0) := by
  unfold decsP
  cases hl : l.length with
  | zero => rfl
  | succ n => simp only [decsF]; rw [h]
theorem decsP_some {l : List UInt8} {e : Ent} {s : Nat} (h : entP l = some (e, s)) : decsP l = (e :: (decsP (l.drop s)).1, s + (decsP (l.drop s)).2) := by
  have hc := ent_canon h
  unfold decsP
  obtain ⟨n, hn⟩ : ∃ n, l.length = n + 1 := ⟨l.length - 1, by omega⟩
  rw [hn]
  simp only [decsF]
  rw [h]
  simp only []
  rw [decsF_fuel n (l.drop s).length (l.drop s) (by rw [List.length_drop]; omega) (Nat.le_refl _)]
theorem decs_app : ∀ (es : List Ent) (t : List UInt8), (∀ e ∈ es, codeE e = 0) → decsP (es.flatMap recE ++ t) = (es ++ (decsP t).1, (es.flatMap recE).length + (decsP t).2)
  | [], t, _ => by simp
  | e :: es, t, h => by
    have h0 := h e (by simp)
    have ih := decs_app es t fun x hx => h x (by simp [hx])
    have h1 := ent_rec e (es.flatMap recE ++ t) h0
    rw [List.flatMap_cons, List.append_assoc, decsP_some h1, List.drop_left, ih]
    simp only [List.cons_append, List.length_append]
    rw [Nat.add_assoc]
theorem decs_canon : ∀ (f : Nat) (l : List UInt8), l.length ≤ f → (∀ e ∈ (decsP l).1, codeE e = 0) ∧ (decsP l).1.flatMap recE = l.take (decsP l).2 ∧ (decsP l).2 ≤ l.length ∧ entP (l.drop (decsP l).2) = none
  | f, l, hf => by
    cases he : entP l with
    | none => rw [decsP_none he]; simp [he]
    | some x =>
      obtain ⟨e, s⟩ := x
      obtain ⟨h1, h2, h3, h4⟩ := ent_canon he
      cases f with
      | zero => omega
      | succ f =>
        obtain ⟨g1, g2, g3, g4⟩ := decs_canon f (l.drop s) (by rw [List.length_drop]; omega)
        rw [decsP_some he]
        simp only []
        rw [List.length_drop] at g3
        refine ⟨fun x hx => ?_, ?_, by omega, by rw [← List.drop_drop]; exact g4⟩
        · rcases List.mem_cons.1 hx with rfl | hx
          · exact h1
          · exact g1 x hx
        · rw [List.flatMap_cons, g2, h2, ← List.take_add]
end Go.Proofs.Ythhooocckfljaaa
