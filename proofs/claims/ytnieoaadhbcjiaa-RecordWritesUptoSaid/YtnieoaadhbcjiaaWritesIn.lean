/- The walk of the law RecordWrites with its arguments taken apart. No condition beyond the statement's own. -/
import Derived.Test.YtnieoaadhbcjiaaWrites
import Derived.ProofKit
import Derived.OpenShut
import Derived.Test.YtnieoaadhbcjiaaOpenVals
namespace Go.Proofs.Ytnieoaadhbcjiaa
open Go.ChangeShapes Go.WideShapes Go.ChangeAt Go.RowKit
set_option linter.unusedVariables false

theorem RecordWrites.walk {H : Type} {enc : TypeId × Value → H} {base : Nat} (W : World) {v0 : Value} {d0 : DataW H} {p0 : List MemPlace} {v1 : Value} {d1 : DataW H} {p1 : List MemPlace}
    (o0 : Value.okWide Try.prog W .any base 22 v0) (h0 : DataW.Trod enc Try.prog W 0 (fun _ => true) true 22 v0 d0 p0)
    (o1 : Value.okWide Try.prog W .any base 23 v1) (h1 : DataW.Trod enc Try.prog W 0 (fun _ => true) true 23 v1 d1 p1)
    (hk : Rows.uptoSmall H [d0, d1] = true) :
    Calls Try.prog 3 #[v0, v1] W fun e w' => e = .returned (.bool true) ∧ Below W.heap.size W w' := by
  have hb : Rows.uptoBulkAll [d0, d1] ≤ 1048576 := of_decide_eq_true hk
  simp only [Rows.uptoBulkAll] at hb
  obtain ⟨vs, hv, hs⟩ := open22 o0 h0
  obtain ⟨l, hl⟩ := open23 o1 h1
  have hvl := len_sizeV vs
  exact writes_walk v0 v1 vs l W hv hl (by omega) (by omega)
end Go.Proofs.Ytnieoaadhbcjiaa
