/-
  No cell of these rows narrows 'for every input' (looked for: loops, veiled, ifaces, maps, wideKeys, modest, calm, conditions, laid).
  DERIVED. THE GIVEN ROWS OF THIS SEAT. 3 by the template 'for every input the law returns true; each argument reads behind the call as it read before'; 0 by the template 'total and deterministic' (their statements: YtgefcejolfikoabTotals.lean).
  GIVEN WITH THE SEED: the statements are not yours to turn. If you find one false, say at which input.
  Laid BY PROGRAM, IN A SANDBOX (cutbox-rows.mjs): the forced cells as the released guide's own fill.sh prints them over the translation 8c67a0c060b8818d… (all of the seat's roots in one cut). By AI agents, Wed Nov 11 2026. No macro, syntax, notation, axiom, sorry.
-/
import Derived.Test.YtgefcejolfikoabChecked
import GoSem.Claim
import GoSem.ClaimJoined
import GoSem.ClaimMapViews
import Derived.JoinedTies
import Derived.KernelRfl
namespace Go.Proofs.Ytgefcejolfikoab
/- THE CELL 'sum', in the pinned program and in every row, IS THE sha256 OF THE DUMP (.gsa) THAT YtgefcejolfikoabProg.lean LOADS. Nothing in Lean hashes anything: it is a label: what it is worth is what the hold of that sum in a sandbox is worth. -/
noncomputable def Try.pinned : Pinned := { name := "ytgefcejolfikoab", sum := "8c67a0c060b8818d8af5ae132242f22273d46eb72dfba0db9032998066cb585c", checked := Try.checked }
namespace Rows
def none {H : Type} : Left H := { results := [], args := [] }

/-- 'quaysidelaw13.AgeChains': WHATEVER THE INPUT: true; the input reads as it did. -/
def ageChainsSpec : ChangeSpec := { name := "ageChains", fn := fun _ => fun
  | [d1, d2, d3] => { results := [.lit (.bool true)], args := [d1, d2, d3] }
  | _ => none }
def ageChainsRow : OpenClaim := { program := "ytgefcejolfikoab", sum := "8c67a0c060b8818d8af5ae132242f22273d46eb72dfba0db9032998066cb585c", func := "quayside/quaysidelaw13.AgeChains", spec := "ageChains", apart := false }
def AgeChainsSaid : Prop := ageChainsRow.holds Try.pinned (OpenSpec.ofChange ageChainsSpec)

/-- ITS FALSE NEIGHBOUR: 'it returns false'. Refute it at one input. -/
def ageChainsWrong : ChangeSpec := { name := "ageChains", fn := fun _ => fun
  | [d1, d2, d3] => { results := [.lit (.bool false)], args := [d1, d2, d3] }
  | _ => none }
def AgeChainsWrongFalsely : Prop := ageChainsRow.holds Try.pinned (OpenSpec.ofChange ageChainsWrong)

/-- 'quaysidelaw13.AgeLeft': WHATEVER THE INPUT: true; the input reads as it did. -/
def ageLeftSpec : ChangeSpec := { name := "ageLeft", fn := fun _ => fun
  | [d1, d2, d3] => { results := [.lit (.bool true)], args := [d1, d2, d3] }
  | _ => none }
def ageLeftRow : OpenClaim := { program := "ytgefcejolfikoab", sum := "8c67a0c060b8818d8af5ae132242f22273d46eb72dfba0db9032998066cb585c", func := "quayside/quaysidelaw13.AgeLeft", spec := "ageLeft", unfollowed := true, recurses := true, apart := false }
def AgeLeftSaid : Prop := ageLeftRow.holds Try.pinned (OpenSpec.ofChange ageLeftSpec)

/-- ITS FALSE NEIGHBOUR: 'it returns false'. Refute it at one input. -/
def ageLeftWrong : ChangeSpec := { name := "ageLeft", fn := fun _ => fun
  | [d1, d2, d3] => { results := [.lit (.bool false)], args := [d1, d2, d3] }
  | _ => none }
def AgeLeftWrongFalsely : Prop := ageLeftRow.holds Try.pinned (OpenSpec.ofChange ageLeftWrong)

/-- 'quaysidelaw13.AgeErrors': WHATEVER THE INPUT: true; the input reads as it did. -/
def ageErrorsSpec : ChangeSpec := { name := "ageErrors", fn := fun _ => fun
  | [d1, d2, d3] => { results := [.lit (.bool true)], args := [d1, d2, d3] }
  | _ => none }
def ageErrorsRow : OpenClaim := { program := "ytgefcejolfikoab", sum := "8c67a0c060b8818d8af5ae132242f22273d46eb72dfba0db9032998066cb585c", func := "quayside/quaysidelaw13.AgeErrors", spec := "ageErrors", unfollowed := true, recurses := true, apart := false }
def AgeErrorsSaid : Prop := ageErrorsRow.holds Try.pinned (OpenSpec.ofChange ageErrorsSpec)

/-- ITS FALSE NEIGHBOUR: 'it returns false'. Refute it at one input. -/
def ageErrorsWrong : ChangeSpec := { name := "ageErrors", fn := fun _ => fun
  | [d1, d2, d3] => { results := [.lit (.bool false)], args := [d1, d2, d3] }
  | _ => none }
def AgeErrorsWrongFalsely : Prop := ageErrorsRow.holds Try.pinned (OpenSpec.ofChange ageErrorsWrong)

/- THE SECOND FORM. 'bulk': how many values and letters a reading holds, each counted each time it is reached (what is shared counts as often as it is met; a slice's spare places count too). A statement '..UptoSaid' is the law's where the arguments, and the package variables that the reading takes, are together of bulk at most 1048576: NARROWER than '..Said'. Prove '..Said' where nothing that the law and all that it calls make is longer than what came in: it says more and counts as full. Else prove '..UptoSaid'. A law counts once. -/
mutual
def uptoBulk {H : Type} : DataW H → Nat
  | .lit (.string bytes) => bytes.length + 1
  | .lit _ => 1
  | .nil => 1
  | .ptr d => uptoBulk d + 1
  | .slice elems spare => uptoBulkAll elems + uptoBulkAll spare + 1
  | .agg parts => uptoBulkAll parts + 1
  | .iface _ d => uptoBulk d + 1
  | .map entries => uptoBulkEntries entries + 1
  | .held _ => 1
def uptoBulkAll {H : Type} : List (DataW H) → Nat
  | [] => 0
  | d :: r => uptoBulk d + uptoBulkAll r
def uptoBulkEntries {H : Type} : List (Lit × DataW H) → Nat
  | [] => 0
  | x :: r => uptoBulkEntry x + uptoBulkEntries r
def uptoBulkEntry {H : Type} : Lit × DataW H → Nat
  | (.string bytes, d) => bytes.length + uptoBulk d + 1
  | (_, d) => uptoBulk d + 1
 end
def uptoSmall : (H : Type) → List (DataW H) → Bool := fun _ ds => decide (uptoBulkAll ds ≤ 1048576)
def OpenSpec.upto (s : _root_.Go.ChangeSpec) : _root_.Go.OpenSpec := { _root_.Go.OpenSpec.ofChange s with cond := some uptoSmall }

/-- 'quaysidelaw13.AgeChains', WHERE WHAT IT READS IS OF BULK AT MOST 1048576: true; the input reads as it did. -/
def ageChainsUptoRow : OpenClaim := { program := "ytgefcejolfikoab", sum := "8c67a0c060b8818d8af5ae132242f22273d46eb72dfba0db9032998066cb585c", func := "quayside/quaysidelaw13.AgeChains", spec := "ageChains", apart := false, narrowed := true }
def AgeChainsUptoSaid : Prop := ageChainsUptoRow.holds Try.pinned (OpenSpec.upto ageChainsSpec)

/-- 'quaysidelaw13.AgeLeft', WHERE WHAT IT READS IS OF BULK AT MOST 1048576: true; the input reads as it did. -/
def ageLeftUptoRow : OpenClaim := { program := "ytgefcejolfikoab", sum := "8c67a0c060b8818d8af5ae132242f22273d46eb72dfba0db9032998066cb585c", func := "quayside/quaysidelaw13.AgeLeft", spec := "ageLeft", unfollowed := true, recurses := true, apart := false, narrowed := true }
def AgeLeftUptoSaid : Prop := ageLeftUptoRow.holds Try.pinned (OpenSpec.upto ageLeftSpec)

/-- 'quaysidelaw13.AgeErrors', WHERE WHAT IT READS IS OF BULK AT MOST 1048576: true; the input reads as it did. -/
def ageErrorsUptoRow : OpenClaim := { program := "ytgefcejolfikoab", sum := "8c67a0c060b8818d8af5ae132242f22273d46eb72dfba0db9032998066cb585c", func := "quayside/quaysidelaw13.AgeErrors", spec := "ageErrors", unfollowed := true, recurses := true, apart := false, narrowed := true }
def AgeErrorsUptoSaid : Prop := ageErrorsUptoRow.holds Try.pinned (OpenSpec.upto ageErrorsSpec)

end Rows
end Go.Proofs.Ytgefcejolfikoab
