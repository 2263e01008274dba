/- The plain laws of records and entries: what is decoded is what was encoded, and the other way round. No program in sight. -/
import Derived.Test.YtbfpjldincnihaaCurs
import Derived.Test.YtbfpjldincnihaaDecode
namespace Go.Proofs.Ytbfpjldincnihaa
set_option linter.unusedVariables false
set_option linter.unusedSimpArgs false

theorem be4_inj {q r : List UInt8} (hq : q.length = 4) (hr : r.length = 4) (h : be4 q = be4 r) : q = r := by
  match q, r, hq, hr with
  | [a, b, c, d], [a', b', c', d'], _, _ =>
    simp only [be4] at h
    have := a.toNat_lt
    have := b.toNat_lt
    have := c.toNat_lt
    have := d.toNat_lt
    have := a'.toNat_lt
    have := b'.toNat_lt
    have := c'.toNat_lt
    have := d'.toNat_lt
    have e1 : a.toNat = a'.toNat := by omega
    have e2 : b.toNat = b'.toNat := by omega
    have e3 : c.toNat = c'.toNat := by omega
    have e4 : d.toNat = d'.toNat := by omega
    rw [UInt8.toNat_inj.1 e1, UInt8.toNat_inj.1 e2, UInt8.toNat_inj.1 e3, UInt8.toNat_inj.1 e4]
theorem ofNat_back (c : UInt8) : UInt8.ofNat c.toNat = c := by
  apply UInt8.toNat_inj.1
  rw [UInt8.toNat_ofNat']
  have := c.toNat_lt
  omega
theorem takeF_canon (bytes : Nat) : ∀ (l : List UInt8) (k acc : Nat), k < bytes → 0 < (takeF bytes k acc l).2 →
    ∃ n : Nat, (takeF bytes k acc l).1 = ((acc + n * 128 ^ k : Nat) : Int) ∧ (0 < k → n ≠ 0) ∧ (k : Int) < (takeF bytes k acc l).2 ∧ (∀ f, 1 ≤ f → n < 128 ^ f → numF f n = l.take ((takeF bytes k acc l).2.toNat - k))
  | [], _, _, _, h => by simp [takeF] at h
  | c :: r, k, acc, hk, h => by
    have hcb : c.toNat < 256 := c.toNat_lt
    by_cases h128 : c.toNat < 128
    · have eT : takeF bytes k acc (c :: r) = if c.toNat = 0 ∧ 0 < k then (0, -1) else (((acc + c.toNat * 128 ^ k : Nat) : Int), (k : Int) + 1) := by rw [takeF, if_pos h128]
      by_cases h0 : c.toNat = 0 ∧ 0 < k
      · rw [eT, if_pos h0] at h; simp at h
      · rw [if_neg h0] at eT
        rw [eT]
        refine ⟨c.toNat, rfl, by omega, by simp only []; omega, fun f hf _ => ?_⟩
        obtain ⟨f, rfl⟩ : ∃ g, f = g + 1 := ⟨f - 1, by omega⟩
        rw [numF_small f _ h128, ofNat_back]
        rw [show ((k : Int) + 1).toNat - k = 1 by omega]
        rfl
    · by_cases hb1 : k + 1 = bytes
      · rw [takeF, if_neg h128, if_pos hb1] at h; simp at h
      · have eT : takeF bytes k acc (c :: r) = takeF bytes (k + 1) (acc + (c.toNat - 128) * 128 ^ k) r := by rw [takeF, if_neg h128, if_neg hb1]
        rw [eT] at h ⊢
        obtain ⟨n, h1, h2, h3, h4⟩ := takeF_canon bytes r (k + 1) (acc + (c.toNat - 128) * 128 ^ k) (by omega) h
        have hn := h2 (by omega)
        refine ⟨c.toNat - 128 + n * 128, ?_, by omega, by omega, fun f hf hlt => ?_⟩
        · rw [h1]
          congr 1
          rw [Nat.pow_succ, Nat.add_mul, Nat.mul_assoc n 128, Nat.mul_comm 128, Nat.add_assoc]
        · obtain ⟨f, rfl⟩ : ∃ g, f = g + 1 := ⟨f - 1, by omega⟩
          have hf1 : 1 ≤ f := by
            cases f with
            | zero => simp at hlt; omega
            | succ f => omega
          rw [numF_big f _ (by omega), show (c.toNat - 128 + n * 128) / 128 = n by omega, show (c.toNat - 128 + n * 128) % 128 + 128 = c.toNat by omega, ofNat_back, h4 f hf1 (by rw [Nat.pow_succ] at hlt; omega)]
          rw [show (takeF bytes (k + 1) (acc + (c.toNat - 128) * 128 ^ k) r).2.toNat - k = ((takeF bytes (k + 1) (acc + (c.toNat - 128) * 128 ^ k) r).2.toNat - (k + 1)) + 1 by omega, List.take_succ_cons]
theorem partP_bd {bytes most : Nat} {l : List UInt8} {n k : Nat} (h : partP bytes most l = .inr (n, k)) : k ≤ l.length ∧ 1 ≤ k ∧ n ≤ most := by
  have hb := takeP_bd bytes l
  unfold partP at h
  split at h
  · cases h
  · split at h
    · cases h
    · simp only [Sum.inr.injEq, Prod.mk.injEq] at h
      omega
theorem partP_canon {bytes most : Nat} {l : List UInt8} {n k : Nat} (hb : 1 ≤ bytes) (h : partP bytes most l = .inr (n, k)) (hm : most < 128 ^ 10) : numB n = l.take k := by
  have hp := partP_bd h
  have hb0 := takeP_bd bytes l
  unfold partP at h
  split at h
  · cases h
  · split at h
    · cases h
    · simp only [Sum.inr.injEq, Prod.mk.injEq] at h
      obtain ⟨h1, h2⟩ := h
      obtain ⟨n', e1, _, e2, e3⟩ := takeF_canon bytes l 0 0 (by omega) (by change 0 < (takeP bytes l).2; omega)
      change (takeP bytes l).1 = _ at e1
      change ∀ f, _ → _ → _ = l.take ((takeP bytes l).2.toNat - 0) at e3
      have hn : n' = n := by simp at e1; omega
      subst hn
      have := e3 10 (by omega) (by omega)
      rw [h2] at this
      exact this
/-- What the reference compares. -/
theorem end_enc (l : List UInt8) (c : UInt8) (n k m j : Nat) (hc0 : l[0]? = some c) (h1 : partP 6 1099511627776 (l.drop 1) = .inr (n, k)) (h2 : partP 3 131072 (l.drop (1 + k)) = .inr (m, j)) (hle : ¬ l.length < 1 + k + j + m + 4) :
    endP l c.toNat n (1 + k + j) m = if encP c.toNat n ((l.drop (1 + k + j)).take m) = l.take (1 + k + j + m + 4) then .inr (c.toNat, n, (l.drop (1 + k + j)).take m, 1 + k + j + m + 4) else .inl 12 := by
  have c1 := partP_canon (by omega) h1 (by decide)
  have c2 := partP_canon (by omega) h2 (by decide)
  obtain ⟨P, hP⟩ : ∃ P, P = (l.drop (1 + k + j)).take m := ⟨_, rfl⟩
  have hPl : P.length = m := by rw [hP]; simp; omega
  have hH : headP c.toNat n P = l.take (1 + k + j + m) := by
    unfold headP
    rw [hPl, c1, c2, hP, ofNat_back]
    have e0 : l = c :: l.drop 1 := by
      cases l with
      | nil => cases hc0
      | cons d r => simp at hc0; subst hc0; rfl
    have s1 : l.take 1 = [c] := by rw [e0]; rfl
    rw [← s1, ← List.take_add, ← List.take_add, ← List.take_add]
  have hT : l.take (1 + k + j + m + 4) = l.take (1 + k + j + m) ++ (l.drop (1 + k + j + m)).take 4 := by rw [List.take_add]
  have hq : ((l.drop (1 + k + j + m)).take 4).length = 4 := by simp; omega
  rw [← hP]
  unfold endP encP
  rw [if_neg hle, hH, hT, ← hP]
  by_cases hs : be4 ((l.drop (1 + k + j + m)).take 4) = sumP (l.take (1 + k + j + m))
  · rw [if_neg (by simpa using hs), if_pos]
    congr 1
    exact be4_inj rfl hq (by rw [be4_four _ (word_sumP _), hs])
  · rw [if_pos hs, if_neg]
    intro e
    have e2 := List.append_cancel_left e
    apply hs
    rw [← e2, be4_four _ (word_sumP _)]
theorem dec_canon {l p : List UInt8} {k n s : Nat} (h : decP l = .inr (k, n, p, s)) :
    s ≤ l.length ∧ 5 ≤ s ∧ p.length ≤ s ∧ p.length ≤ 131072 ∧ (1 ≤ k ∧ k ≤ 127) ∧ n ≤ 1099511627776 ∧ encP k n p = l.take s := by
  cases l with
  | nil => simp [decP] at h
  | cons c r =>
    simp only [decP] at h
    split at h
    · cases h
    · rename_i hc
      split at h
      · cases h
      · rename_i n' k' h1
        split at h
        · cases h
        · rename_i m j h2
          have b1 := partP_bd h1
          have b2 := partP_bd h2
          by_cases hle : (c :: r).length < 1 + k' + j + m + 4
          · unfold endP at h; rw [if_pos hle] at h; cases h
          · have h2' : partP 3 131072 ((c :: r).drop (1 + k')) = .inr (m, j) := by
              rw [Nat.add_comm, List.drop_succ_cons]; exact h2
            rw [end_enc (c :: r) c n' k' m j rfl h1 h2' hle] at h
            split at h
            · rename_i he
              simp only [Sum.inr.injEq, Prod.mk.injEq] at h
              obtain ⟨rfl, rfl, rfl, rfl⟩ := h
              have hpl : (((c :: r).drop (1 + k' + j)).take m).length = m := by rw [List.length_take, List.length_drop]; omega
              refine ⟨by omega, by omega, by rw [hpl]; omega, by rw [hpl]; omega, by omega, by omega, he⟩
            · cases h
theorem numR_canon {l r : List UInt8} {n : Nat} (h : numR l = some (n, r)) : l = numB n ++ r := by
  rcases num_cases l with ⟨n', k, ht, hk1, hk2, hn, hR⟩ | ⟨_, hR⟩
  · rw [hR] at h
    simp only [Option.some.injEq, Prod.mk.injEq] at h
    obtain ⟨rfl, rfl⟩ := h
    have hp : 0 < (takeF 9 0 0 l).2 := by change 0 < (takeP 9 l).2; rw [ht]; simp only []; omega
    obtain ⟨m, e1, _, _, e3⟩ := takeF_canon 9 l 0 0 (by omega) hp
    change (takeP 9 l).1 = _ at e1
    change ∀ f, _ → _ → _ = l.take ((takeP 9 l).2.toNat - 0) at e3
    rw [ht] at e1 e3
    have hm : m = n' := by simp at e1; omega
    subst hm
    have := e3 10 (by omega) (by omega)
    simp only [Int.toNat_natCast, Nat.sub_zero] at this
    unfold numB
    rw [this, List.take_append_drop]
  · rw [hR] at h; cases h
theorem wordR_canon {l r s : List UInt8} (h : wordR l = some (s, r)) : l = textB s ++ r := by
  unfold wordR at h
  split at h
  · cases h
  · rename_i n q hn
    split at h
    · rename_i hle
      simp only [Option.some.injEq, Prod.mk.injEq] at h
      obtain ⟨rfl, rfl⟩ := h
      have := numR_canon hn
      have hl : (q.take n).length = n := by rw [List.length_take]; omega
      unfold textB
      rw [hl, List.append_assoc, List.take_append_drop]
      exact this
    · cases h

end Go.Proofs.Ytbfpjldincnihaa
