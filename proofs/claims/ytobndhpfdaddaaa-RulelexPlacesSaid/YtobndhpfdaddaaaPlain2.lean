/- Plain laws on the division into tokens. No condition. -/
import Derived.Test.YtobndhpfdaddaaaPlain
namespace Go.Proofs.Ytobndhpfdaddaaa
open Go.RowKit
set_option linter.unusedVariables false
set_option linter.unusedSimpArgs false

theorem splitS_len : ∀ (s : List UInt8) (k : Nat) (l c : Int) (ts : List Tok), splitS s k l c = some ts → ts.length ≤ s.length + 1
  | [], k, l, c, ts, h => by
    cases k <;> simp only [splitS, Option.some.injEq] at h <;> subst h <;> simp
  | x :: r, k + 1, l, c, ts, h => by
    rw [splitS] at h
    have := splitS_len r k l (c + 1) ts h
    simp only [List.length_cons]; omega
  | x :: r, 0, l, c, ts, h => by
    rw [splitS] at h
    simp only [List.length_cons]
    split at h
    · have := splitS_len r _ _ _ ts h; omega
    · split at h
      · have := splitS_len r _ _ _ ts h; omega
      · split at h
        · have := splitS_len r _ _ _ ts h; omega
        · split at h
          · cases h
          · obtain ⟨ts', h', rfl⟩ := Option.map_eq_some_iff.1 h
            have := splitS_len r _ _ _ ts' h'
            simp only [List.length_cons]; omega
theorem splitT_len {s : List UInt8} {ts : List Tok} (h : splitT s = some ts) : ts.length ≤ s.length + 1 := splitS_len s 0 1 1 ts h
end Go.Proofs.Ytobndhpfdaddaaa
