/- The walk of the law RecordReturns with its arguments taken apart. No condition beyond the statement's own. -/
import Derived.Test.YtnieoaadhbcjiaaReturns
import Derived.ProofKit
import Derived.OpenShut
import Derived.Test.YtnieoaadhbcjiaaOpenVals
namespace Go.Proofs.Ytnieoaadhbcjiaa
open Go.ChangeShapes Go.WideShapes Go.ChangeAt Go.RowKit
set_option linter.unusedVariables false

theorem RecordReturns.walk {H : Type} {enc : TypeId × Value → H} {base : Nat} (W : World) {v0 : Value} {d0 : DataW H} {p0 : List MemPlace}
    (o0 : Value.okWide Try.prog W .any base 22 v0) (h0 : DataW.Trod enc Try.prog W 0 (fun _ => true) true 22 v0 d0 p0)
    (hk : Rows.uptoSmall H [d0] = true) :
    Calls Try.prog 8 #[v0] W fun e w' => e = .returned (.bool true) ∧ Below W.heap.size W w' := by
  have hb : Rows.uptoBulkAll [d0] ≤ 1048576 := of_decide_eq_true hk
  simp only [Rows.uptoBulkAll] at hb
  obtain ⟨vs, hv, hs⟩ := open22 o0 h0
  have hvl := len_sizeV vs
  exact returns_walk v0 vs W hv (by omega) (by omega)
end Go.Proofs.Ytnieoaadhbcjiaa
