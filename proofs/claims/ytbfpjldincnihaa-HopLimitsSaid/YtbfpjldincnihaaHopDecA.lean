/- What hop.Decode returns, for any bytes. No condition beyond that there are at most a million bytes. -/
import Derived.Test.YtbfpjldincnihaaHopDecM
namespace Go.Proofs.Ytbfpjldincnihaa
open Go.RowKit
set_option linter.unusedVariables false
set_option linter.unusedSimpArgs false

theorem hdec_any (v : Value) (b : List UInt8) (w : World) (h : IsB w v b) (hl : b.length ≤ 1000000) : Calls Try.prog 20 #[v] w (HDecPost w b) := by
  cases hd : decP b with
  | inl c => exact hdec_err v b w h hl (.inl ⟨c, hd⟩)
  | inr x =>
    obtain ⟨k, n, p, s⟩ := x
    by_cases hs : s = b.length
    · subst hs
      cases hok : okK (k : Int) with
      | false => exact hdec_kind v b w h hl k n p hd hok
      | true => exact hdec_main v b w h hl k n p hd hok
    · exact hdec_err v b w h hl (.inr ⟨k, n, p, s, hd, hs⟩)
end Go.Proofs.Ytbfpjldincnihaa
