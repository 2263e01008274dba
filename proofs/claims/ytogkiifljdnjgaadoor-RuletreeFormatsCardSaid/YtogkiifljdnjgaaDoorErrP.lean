/- In plain Lean: the lines of a text's tokens, and the line of an error. No condition. -/
import Derived.Test.YtogkiifljdnjgaaDoorTokF
namespace Go.Proofs.YtogkiifljdnjgaaDoor
set_option linter.unusedVariables false
set_option linter.unusedSimpArgs false

def nlB (c : UInt8) : Bool := decide (c.toNat = 10)
def nls (s : List UInt8) : Nat := s.countP nlB
theorem nls_cons (c : UInt8) (s : List UInt8) : nls (c :: s) = nls s + if nlB c = true then 1 else 0 := by
  unfold nls
  rw [List.countP_cons]
theorem splitS_line : ∀ (s : List UInt8) (k : Nat) (l c : Int) (ts : List Tok), splitS s k l c = some ts → ∀ t ∈ ts, l ≤ t.line ∧ t.line ≤ l + (nls s : Int)
  | [], k, l, c, ts, h => by
    have he : ∀ t ∈ [(⟨5, [], l, c⟩ : Tok)], l ≤ t.line ∧ t.line ≤ l + (nls [] : Int) := fun t ht => by
      obtain rfl := List.mem_singleton.1 ht
      exact ⟨Int.le_refl _, by dsimp only; omega⟩
    cases k <;> simp only [splitS, Option.some.injEq] at h <;> subst h <;> exact he
  | x :: r, k + 1, l, c, ts, h => by
    rw [splitS] at h
    intro t ht
    have := splitS_line r k l (c + 1) ts h t ht
    rw [nls_cons]
    split <;> omega
  | x :: r, 0, l, c, ts, h => by
    rw [splitS] at h
    rw [nls_cons]
    split at h
    · rename_i h10
      intro t ht
      have := splitS_line r _ _ _ ts h t ht
      rw [if_pos (by unfold nlB; simpa using h10)]
      omega
    · split at h
      · intro t ht
        have := splitS_line r _ _ _ ts h t ht
        split <;> omega
      · split at h
        · intro t ht
          have := splitS_line r _ _ _ ts h t ht
          split <;> omega
        · split at h
          · cases h
          · obtain ⟨ts', h', rfl⟩ := Option.map_eq_some_iff.1 h
            intro u hu
            rcases List.mem_cons.1 hu with rfl | hu
            · dsimp only
              split <;> omega
            · have := splitS_line r _ _ _ ts' h' u hu
              split <;> omega
/-- What Parse says of an error. -/
theorem parse_err {s : List UInt8} {t : Tree} {l : Int} {c : Nat} (h : parseF s = (t, l, c)) (hc : c ≠ 0) : t = default ∧ 0 ≤ l ∧ l ≤ 1 + (nls s : Int) ∧ (c = 2 ∨ c = 5 ∧ l = 0) := by
  by_cases hl : 4096 < s.length
  · rw [parseF_large hl] at h
    simp only [Prod.mk.injEq] at h
    obtain ⟨rfl, rfl, rfl⟩ := h
    exact ⟨rfl, by omega, by omega, .inr ⟨rfl, rfl⟩⟩
  cases hn : splitT s with
  | none =>
    rw [parseF_none hl hn] at h
    simp only [Prod.mk.injEq] at h
    obtain ⟨rfl, rfl, rfl⟩ := h
    exact ⟨rfl, by omega, by omega, .inl rfl⟩
  | some es =>
    rw [parseF_some hl hn] at h
    have hg := splitT_goodL hn
    have hb := parse_bd hg
    have hline : ∀ t ∈ es, 1 ≤ t.line ∧ t.line ≤ 1 + (nls s : Int) := fun t ht => splitS_line s 0 1 1 es hn t ht
    have hr : (endF (parseR es).2).2 = 0 ∨ ∃ t ∈ es, (endF (parseR es).2).2 = t.line := by
      by_cases h0 : (parseR es).2.2 = 0
      · by_cases hk : (hdT (parseR es).2.1).kind = 5
        · rw [endF_end hk]
          exact .inl h0
        · rw [endF_fail h0 hk]
          rcases (bd_fail (s := (parseR es).2) hb.good).line with e | ⟨t, ht, e⟩
          · rw [e]; exact .inl h0
          · exact .inr ⟨t, hb.mem t ht, e⟩
      · rw [endF_bad h0]
        rcases hb.line with e | ⟨t, ht, e⟩
        · exact .inl e
        · exact .inr ⟨t, ht, e⟩
    unfold parseL at h
    split at h
    · simp only [Prod.mk.injEq] at h
      obtain ⟨rfl, rfl, rfl⟩ := h
      rcases hr with e | ⟨t, ht, e⟩
      · exact ⟨rfl, by omega, by omega, .inl rfl⟩
      · have := hline t ht
        exact ⟨rfl, by omega, by omega, .inl rfl⟩
    split at h
    · simp only [Prod.mk.injEq] at h
      obtain ⟨rfl, rfl, rfl⟩ := h
      exact ⟨rfl, by omega, by omega, .inr ⟨rfl, rfl⟩⟩
    · simp only [Prod.mk.injEq] at h
      obtain ⟨_, _, rfl⟩ := h
      exact absurd rfl hc
end Go.Proofs.YtogkiifljdnjgaaDoor
