/- The walk of the law UsageMeters with its arguments taken apart. No condition beyond the statement's own. -/
import Derived.Test.YtdkaapkehmjepaaMeters
import Derived.ProofKit
import Derived.OpenShut
namespace Go.Proofs.Ytdkaapkehmjepaa
open Go.ChangeShapes Go.WideShapes Go.ChangeAt Go.RowKit
set_option linter.unusedVariables false

theorem UsageMeters.walk {H : Type} {enc : TypeId × Value → H} {base : Nat} (W : World) {v0 : Value} {d0 : DataW H} {p0 : List MemPlace} {v1 : Value} {d1 : DataW H} {p1 : List MemPlace} {v2 : Value} {d2 : DataW H} {p2 : List MemPlace}
    (o0 : Value.okWide Try.prog W .any base 9 v0) (h0 : DataW.Trod enc Try.prog W 0 (fun _ => true) true 9 v0 d0 p0)
    (o1 : Value.okWide Try.prog W .any base 3 v1) (h1 : DataW.Trod enc Try.prog W 0 (fun _ => true) true 3 v1 d1 p1)
    (o2 : Value.okWide Try.prog W .any base 31 v2) (h2 : DataW.Trod enc Try.prog W 0 (fun _ => true) true 31 v2 d2 p2) :
    Calls Try.prog 4 #[v0, v1, v2] W fun e w' => e = .returned (.bool true) ∧ Below W.heap.size W w' := by
    obtain ⟨s, rfl⟩ := okWide_string Try.underlying9 o0
    obtain ⟨fuel, hf⟩ := h0
    simp only [Value.cells] at hf
    obtain ⟨s', e, _, ws⟩ := DataW.trod_string Try.underlying9 hf
    simp only [List.cons.injEq, and_true, Value.string.injEq] at e
    subst e
    obtain ⟨a1, rfl, rfl, rfl, w1⟩ := open_int Try.underlying3 o1 h1
    obtain ⟨xs, hA⟩ := open31 o2 h2
    have hsz : s.data.toList.length ≤ 9223372036854775807 := by
      have : s.data.toList.length = s.size := by rw [Array.length_toList]; rfl
      have := maxLen_le
      omega
    exact usageMeters_walk s.data.toList a1 v2 xs W hsz hA
end Go.Proofs.Ytdkaapkehmjepaa
