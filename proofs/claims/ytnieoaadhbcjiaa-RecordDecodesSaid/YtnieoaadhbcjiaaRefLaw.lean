/- The plain law: a record's bytes are those that Encode writes of what was read. No program in sight. -/
import Derived.Test.YtnieoaadhbcjiaaDecLaw
import Derived.Test.YtnieoaadhbcjiaaBurst
namespace Go.Proofs.Ytnieoaadhbcjiaa
set_option linter.unusedVariables false
set_option linter.unusedSimpArgs false

theorem ofNat_back (c : UInt8) : UInt8.ofNat c.toNat = c := by
  apply UInt8.toNat_inj.1
  rw [UInt8.toNat_ofNat']
  have := c.toNat_lt
  omega
theorem takeF_canon (bytes : Nat) : ∀ (l : List UInt8) (k acc : Nat), k < bytes → 0 < (takeF bytes k acc l).2 →
    ∃ n : Nat, (takeF bytes k acc l).1 = ((acc + n * 128 ^ k : Nat) : Int) ∧ (0 < k → n ≠ 0) ∧ (k : Int) < (takeF bytes k acc l).2 ∧ (∀ f, 1 ≤ f → n < 128 ^ f → numF f n = l.take ((takeF bytes k acc l).2.toNat - k))
  | [], _, _, _, h => by simp [takeF] at h
  | c :: r, k, acc, hk, h => by
    have hcb : c.toNat < 256 := c.toNat_lt
    by_cases h128 : c.toNat < 128
    · have eT : takeF bytes k acc (c :: r) = if c.toNat = 0 ∧ 0 < k then (0, -1) else (((acc + c.toNat * 128 ^ k : Nat) : Int), (k : Int) + 1) := by rw [takeF, if_pos h128]
      by_cases h0 : c.toNat = 0 ∧ 0 < k
      · rw [eT, if_pos h0] at h; simp at h
      · rw [if_neg h0] at eT
        rw [eT]
        refine ⟨c.toNat, rfl, by omega, by simp only []; omega, fun f hf _ => ?_⟩
        obtain ⟨f, rfl⟩ : ∃ g, f = g + 1 := ⟨f - 1, by omega⟩
        rw [numF_small f _ h128, ofNat_back]
        rw [show ((k : Int) + 1).toNat - k = 1 by omega]
        rfl
    · by_cases hb1 : k + 1 = bytes
      · rw [takeF, if_neg h128, if_pos hb1] at h; simp at h
      · have eT : takeF bytes k acc (c :: r) = takeF bytes (k + 1) (acc + (c.toNat - 128) * 128 ^ k) r := by rw [takeF, if_neg h128, if_neg hb1]
        rw [eT] at h ⊢
        obtain ⟨n, h1, h2, h3, h4⟩ := takeF_canon bytes r (k + 1) (acc + (c.toNat - 128) * 128 ^ k) (by omega) h
        have hn := h2 (by omega)
        refine ⟨c.toNat - 128 + n * 128, ?_, by omega, by omega, fun f hf hlt => ?_⟩
        · rw [h1]
          congr 1
          rw [Nat.pow_succ, Nat.add_mul, Nat.mul_assoc n 128, Nat.mul_comm 128, Nat.add_assoc]
        · obtain ⟨f, rfl⟩ : ∃ g, f = g + 1 := ⟨f - 1, by omega⟩
          have hf1 : 1 ≤ f := by
            cases f with
            | zero => simp at hlt; omega
            | succ f => omega
          rw [numF_big f _ (by omega), show (c.toNat - 128 + n * 128) / 128 = n by omega, show (c.toNat - 128 + n * 128) % 128 + 128 = c.toNat by omega, ofNat_back, h4 f hf1 (by rw [Nat.pow_succ] at hlt; omega)]
          rw [show (takeF bytes (k + 1) (acc + (c.toNat - 128) * 128 ^ k) r).2.toNat - k = ((takeF bytes (k + 1) (acc + (c.toNat - 128) * 128 ^ k) r).2.toNat - (k + 1)) + 1 by omega, List.take_succ_cons]
theorem partP_canon {bytes most : Nat} {l : List UInt8} {n k : Nat} (hb : 1 ≤ bytes) (h : partP bytes most l = .inr (n, k)) (hm : most < 128 ^ 10) : numB n = l.take k := by
  have hp := partP_bd h
  have hb0 := takeP_bd bytes l
  unfold partP at h
  split at h
  · cases h
  · split at h
    · cases h
    · simp only [Sum.inr.injEq, Prod.mk.injEq] at h
      obtain ⟨h1, h2⟩ := h
      obtain ⟨n', e1, _, e2, e3⟩ := takeF_canon bytes l 0 0 (by omega) (by change 0 < (takeP bytes l).2; omega)
      change (takeP bytes l).1 = _ at e1
      change ∀ f, _ → _ → _ = l.take ((takeP bytes l).2.toNat - 0) at e3
      have hn : n' = n := by simp at e1; omega
      subst hn
      have := e3 10 (by omega) (by omega)
      rw [h2] at this
      exact this
/-- What the reference compares. -/
theorem end_enc (l : List UInt8) (c : UInt8) (n k m j : Nat) (hc0 : l[0]? = some c) (h1 : partP 6 1099511627776 (l.drop 1) = .inr (n, k)) (h2 : partP 3 131072 (l.drop (1 + k)) = .inr (m, j)) (hle : ¬ l.length < 1 + k + j + m + 4) :
    endP l c.toNat n (1 + k + j) m = if encP c.toNat n ((l.drop (1 + k + j)).take m) = l.take (1 + k + j + m + 4) then .inr (c.toNat, n, (l.drop (1 + k + j)).take m, 1 + k + j + m + 4) else .inl 12 := by
  have c1 := partP_canon (by omega) h1 (by decide)
  have c2 := partP_canon (by omega) h2 (by decide)
  obtain ⟨P, hP⟩ : ∃ P, P = (l.drop (1 + k + j)).take m := ⟨_, rfl⟩
  have hPl : P.length = m := by rw [hP]; simp; omega
  have hH : headP c.toNat n P = l.take (1 + k + j + m) := by
    unfold headP
    rw [hPl, c1, c2, hP, ofNat_back]
    have e0 : l = c :: l.drop 1 := by
      cases l with
      | nil => cases hc0
      | cons d r => simp at hc0; subst hc0; rfl
    have s1 : l.take 1 = [c] := by rw [e0]; rfl
    rw [← s1, ← List.take_add, ← List.take_add, ← List.take_add]
  have hT : l.take (1 + k + j + m + 4) = l.take (1 + k + j + m) ++ (l.drop (1 + k + j + m)).take 4 := by rw [List.take_add]
  have hq : ((l.drop (1 + k + j + m)).take 4).length = 4 := by simp; omega
  rw [← hP]
  unfold endP encP
  rw [if_neg hle, hH, hT, ← hP]
  by_cases hs : be4 ((l.drop (1 + k + j + m)).take 4) = sumP (l.take (1 + k + j + m))
  · rw [if_neg (by simpa using hs), if_pos]
    congr 1
    exact be4_inj rfl hq (by rw [be4_four _ (word_sumP _), hs])
  · rw [if_pos hs, if_neg]
    intro e
    have e2 := List.append_cancel_left e
    apply hs
    rw [← e2, be4_four _ (word_sumP _)]
end Go.Proofs.Ytnieoaadhbcjiaa
