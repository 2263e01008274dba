/-
  No cell of these rows narrows 'for every input' (looked for: loops, veiled, ifaces, maps, wideKeys, modest, calm, conditions, laid).
  DERIVED. THE GIVEN ROWS OF THIS SEAT. 12 by the template 'for every input the law returns true; each argument reads behind the call as it read before'; 0 by the template 'total and deterministic' (their statements: YtgefcejolfikoaaTotals.lean).
  GIVEN WITH THE SEED: the statements are not yours to turn. If you find one false, say at which input.
  Laid BY PROGRAM, IN A SANDBOX (cutbox-rows.mjs): the forced cells as the released guide's own fill.sh prints them over the translation 8dece0cf00f302c3… (all of the seat's roots in one cut). By AI agents, Wed Nov 11 2026. No macro, syntax, notation, axiom, sorry.
-/
import Derived.Test.YtgefcejolfikoaaChecked
import GoSem.Claim
import GoSem.ClaimJoined
import GoSem.ClaimMapViews
import Derived.JoinedTies
import Derived.KernelRfl
namespace Go.Proofs.Ytgefcejolfikoaa
/- THE CELL 'sum', in the pinned program and in every row, IS THE sha256 OF THE DUMP (.gsa) THAT YtgefcejolfikoaaProg.lean LOADS. Nothing in Lean hashes anything: it is a label: what it is worth is what the hold of that sum in a sandbox is worth. -/
noncomputable def Try.pinned : Pinned := { name := "ytgefcejolfikoaa", sum := "8dece0cf00f302c384b7b29eafaec6af41fe21653b15929b916032fd7e9fa1a2", checked := Try.checked }
namespace Rows
def none {H : Type} : Left H := { results := [], args := [] }

/-- 'quaysidelaw12.ClockElapsed': WHATEVER THE INPUT: true; the input reads as it did. -/
def clockElapsedSpec : ChangeSpec := { name := "clockElapsed", fn := fun _ => fun
  | [d1, d2] => { results := [.lit (.bool true)], args := [d1, d2] }
  | _ => none }
def clockElapsedRow : OpenClaim := { program := "ytgefcejolfikoaa", sum := "8dece0cf00f302c384b7b29eafaec6af41fe21653b15929b916032fd7e9fa1a2", func := "quayside/quaysidelaw12.ClockElapsed", spec := "clockElapsed", apart := false }
def ClockElapsedSaid : Prop := clockElapsedRow.holds Try.pinned (OpenSpec.ofChange clockElapsedSpec)

/-- ITS FALSE NEIGHBOUR: 'it returns false'. Refute it at one input. -/
def clockElapsedWrong : ChangeSpec := { name := "clockElapsed", fn := fun _ => fun
  | [d1, d2] => { results := [.lit (.bool false)], args := [d1, d2] }
  | _ => none }
def ClockElapsedWrongFalsely : Prop := clockElapsedRow.holds Try.pinned (OpenSpec.ofChange clockElapsedWrong)

/-- 'quaysidelaw12.ClockOrders': WHATEVER THE INPUT: true; the input reads as it did. -/
def clockOrdersSpec : ChangeSpec := { name := "clockOrders", fn := fun _ => fun
  | [d1, d2] => { results := [.lit (.bool true)], args := [d1, d2] }
  | _ => none }
def clockOrdersRow : OpenClaim := { program := "ytgefcejolfikoaa", sum := "8dece0cf00f302c384b7b29eafaec6af41fe21653b15929b916032fd7e9fa1a2", func := "quayside/quaysidelaw12.ClockOrders", spec := "clockOrders", apart := false }
def ClockOrdersSaid : Prop := clockOrdersRow.holds Try.pinned (OpenSpec.ofChange clockOrdersSpec)

/-- ITS FALSE NEIGHBOUR: 'it returns false'. Refute it at one input. -/
def clockOrdersWrong : ChangeSpec := { name := "clockOrders", fn := fun _ => fun
  | [d1, d2] => { results := [.lit (.bool false)], args := [d1, d2] }
  | _ => none }
def ClockOrdersWrongFalsely : Prop := clockOrdersRow.holds Try.pinned (OpenSpec.ofChange clockOrdersWrong)

/-- 'quaysidelaw12.ClockReads': WHATEVER THE INPUT: true; the input reads as it did. -/
def clockReadsSpec : ChangeSpec := { name := "clockReads", fn := fun _ => fun
  | [d1, d2] => { results := [.lit (.bool true)], args := [d1, d2] }
  | _ => none }
def clockReadsRow : OpenClaim := { program := "ytgefcejolfikoaa", sum := "8dece0cf00f302c384b7b29eafaec6af41fe21653b15929b916032fd7e9fa1a2", func := "quayside/quaysidelaw12.ClockReads", spec := "clockReads", apart := false }
def ClockReadsSaid : Prop := clockReadsRow.holds Try.pinned (OpenSpec.ofChange clockReadsSpec)

/-- ITS FALSE NEIGHBOUR: 'it returns false'. Refute it at one input. -/
def clockReadsWrong : ChangeSpec := { name := "clockReads", fn := fun _ => fun
  | [d1, d2] => { results := [.lit (.bool false)], args := [d1, d2] }
  | _ => none }
def ClockReadsWrongFalsely : Prop := clockReadsRow.holds Try.pinned (OpenSpec.ofChange clockReadsWrong)

/-- 'quaysidelaw12.ClockWithin': WHATEVER THE INPUT: true; the input reads as it did. -/
def clockWithinSpec : ChangeSpec := { name := "clockWithin", fn := fun _ => fun
  | [d1, d2] => { results := [.lit (.bool true)], args := [d1, d2] }
  | _ => none }
def clockWithinRow : OpenClaim := { program := "ytgefcejolfikoaa", sum := "8dece0cf00f302c384b7b29eafaec6af41fe21653b15929b916032fd7e9fa1a2", func := "quayside/quaysidelaw12.ClockWithin", spec := "clockWithin", apart := false }
def ClockWithinSaid : Prop := clockWithinRow.holds Try.pinned (OpenSpec.ofChange clockWithinSpec)

/-- ITS FALSE NEIGHBOUR: 'it returns false'. Refute it at one input. -/
def clockWithinWrong : ChangeSpec := { name := "clockWithin", fn := fun _ => fun
  | [d1, d2] => { results := [.lit (.bool false)], args := [d1, d2] }
  | _ => none }
def ClockWithinWrongFalsely : Prop := clockWithinRow.holds Try.pinned (OpenSpec.ofChange clockWithinWrong)

/-- 'quaysidelaw12.ClockHolds': WHATEVER THE INPUT: true; the input reads as it did. -/
def clockHoldsSpec : ChangeSpec := { name := "clockHolds", fn := fun _ => fun
  | [d1, d2] => { results := [.lit (.bool true)], args := [d1, d2] }
  | _ => none }
def clockHoldsRow : OpenClaim := { program := "ytgefcejolfikoaa", sum := "8dece0cf00f302c384b7b29eafaec6af41fe21653b15929b916032fd7e9fa1a2", func := "quayside/quaysidelaw12.ClockHolds", spec := "clockHolds", apart := false }
def ClockHoldsSaid : Prop := clockHoldsRow.holds Try.pinned (OpenSpec.ofChange clockHoldsSpec)

/-- ITS FALSE NEIGHBOUR: 'it returns false'. Refute it at one input. -/
def clockHoldsWrong : ChangeSpec := { name := "clockHolds", fn := fun _ => fun
  | [d1, d2] => { results := [.lit (.bool false)], args := [d1, d2] }
  | _ => none }
def ClockHoldsWrongFalsely : Prop := clockHoldsRow.holds Try.pinned (OpenSpec.ofChange clockHoldsWrong)

/-- 'quaysidelaw12.ClockGrows': WHATEVER THE INPUT: true; the input reads as it did. -/
def clockGrowsSpec : ChangeSpec := { name := "clockGrows", fn := fun _ => fun
  | [d1, d2, d3] => { results := [.lit (.bool true)], args := [d1, d2, d3] }
  | _ => none }
def clockGrowsRow : OpenClaim := { program := "ytgefcejolfikoaa", sum := "8dece0cf00f302c384b7b29eafaec6af41fe21653b15929b916032fd7e9fa1a2", func := "quayside/quaysidelaw12.ClockGrows", spec := "clockGrows", apart := false }
def ClockGrowsSaid : Prop := clockGrowsRow.holds Try.pinned (OpenSpec.ofChange clockGrowsSpec)

/-- ITS FALSE NEIGHBOUR: 'it returns false'. Refute it at one input. -/
def clockGrowsWrong : ChangeSpec := { name := "clockGrows", fn := fun _ => fun
  | [d1, d2, d3] => { results := [.lit (.bool false)], args := [d1, d2, d3] }
  | _ => none }
def ClockGrowsWrongFalsely : Prop := clockGrowsRow.holds Try.pinned (OpenSpec.ofChange clockGrowsWrong)

/-- 'quaysidelaw12.ClockContains': WHATEVER THE INPUT: true; the input reads as it did. -/
def clockContainsSpec : ChangeSpec := { name := "clockContains", fn := fun _ => fun
  | [d1, d2, d3] => { results := [.lit (.bool true)], args := [d1, d2, d3] }
  | _ => none }
def clockContainsRow : OpenClaim := { program := "ytgefcejolfikoaa", sum := "8dece0cf00f302c384b7b29eafaec6af41fe21653b15929b916032fd7e9fa1a2", func := "quayside/quaysidelaw12.ClockContains", spec := "clockContains", apart := false }
def ClockContainsSaid : Prop := clockContainsRow.holds Try.pinned (OpenSpec.ofChange clockContainsSpec)

/-- ITS FALSE NEIGHBOUR: 'it returns false'. Refute it at one input. -/
def clockContainsWrong : ChangeSpec := { name := "clockContains", fn := fun _ => fun
  | [d1, d2, d3] => { results := [.lit (.bool false)], args := [d1, d2, d3] }
  | _ => none }
def ClockContainsWrongFalsely : Prop := clockContainsRow.holds Try.pinned (OpenSpec.ofChange clockContainsWrong)

/-- 'quaysidelaw13.AgeBounds': WHATEVER THE INPUT: true; the input reads as it did. -/
def ageBoundsSpec : ChangeSpec := { name := "ageBounds", fn := fun _ => fun
  | [d1, d2] => { results := [.lit (.bool true)], args := [d1, d2] }
  | _ => none }
def ageBoundsRow : OpenClaim := { program := "ytgefcejolfikoaa", sum := "8dece0cf00f302c384b7b29eafaec6af41fe21653b15929b916032fd7e9fa1a2", func := "quayside/quaysidelaw13.AgeBounds", spec := "ageBounds", apart := false }
def AgeBoundsSaid : Prop := ageBoundsRow.holds Try.pinned (OpenSpec.ofChange ageBoundsSpec)

/-- ITS FALSE NEIGHBOUR: 'it returns false'. Refute it at one input. -/
def ageBoundsWrong : ChangeSpec := { name := "ageBounds", fn := fun _ => fun
  | [d1, d2] => { results := [.lit (.bool false)], args := [d1, d2] }
  | _ => none }
def AgeBoundsWrongFalsely : Prop := ageBoundsRow.holds Try.pinned (OpenSpec.ofChange ageBoundsWrong)

/-- 'quaysidelaw13.AgeGrows': WHATEVER THE INPUT: true; the input reads as it did. -/
def ageGrowsSpec : ChangeSpec := { name := "ageGrows", fn := fun _ => fun
  | [d1, d2, d3] => { results := [.lit (.bool true)], args := [d1, d2, d3] }
  | _ => none }
def ageGrowsRow : OpenClaim := { program := "ytgefcejolfikoaa", sum := "8dece0cf00f302c384b7b29eafaec6af41fe21653b15929b916032fd7e9fa1a2", func := "quayside/quaysidelaw13.AgeGrows", spec := "ageGrows", apart := false }
def AgeGrowsSaid : Prop := ageGrowsRow.holds Try.pinned (OpenSpec.ofChange ageGrowsSpec)

/-- ITS FALSE NEIGHBOUR: 'it returns false'. Refute it at one input. -/
def ageGrowsWrong : ChangeSpec := { name := "ageGrows", fn := fun _ => fun
  | [d1, d2, d3] => { results := [.lit (.bool false)], args := [d1, d2, d3] }
  | _ => none }
def AgeGrowsWrongFalsely : Prop := ageGrowsRow.holds Try.pinned (OpenSpec.ofChange ageGrowsWrong)

/-- 'quaysidelaw12.ClockLeases': WHATEVER THE INPUT: true; the input reads as it did. -/
def clockLeasesSpec : ChangeSpec := { name := "clockLeases", fn := fun _ => fun
  | [d1, d2] => { results := [.lit (.bool true)], args := [d1, d2] }
  | _ => none }
def clockLeasesRow : OpenClaim := { program := "ytgefcejolfikoaa", sum := "8dece0cf00f302c384b7b29eafaec6af41fe21653b15929b916032fd7e9fa1a2", func := "quayside/quaysidelaw12.ClockLeases", spec := "clockLeases", apart := false }
def ClockLeasesSaid : Prop := clockLeasesRow.holds Try.pinned (OpenSpec.ofChange clockLeasesSpec)

/-- ITS FALSE NEIGHBOUR: 'it returns false'. Refute it at one input. -/
def clockLeasesWrong : ChangeSpec := { name := "clockLeases", fn := fun _ => fun
  | [d1, d2] => { results := [.lit (.bool false)], args := [d1, d2] }
  | _ => none }
def ClockLeasesWrongFalsely : Prop := clockLeasesRow.holds Try.pinned (OpenSpec.ofChange clockLeasesWrong)

/-- 'quaysidelaw13.AgeFields': WHATEVER THE INPUT: true; the input reads as it did. -/
def ageFieldsSpec : ChangeSpec := { name := "ageFields", fn := fun _ => fun
  | [d1, d2] => { results := [.lit (.bool true)], args := [d1, d2] }
  | _ => none }
def ageFieldsRow : OpenClaim := { program := "ytgefcejolfikoaa", sum := "8dece0cf00f302c384b7b29eafaec6af41fe21653b15929b916032fd7e9fa1a2", func := "quayside/quaysidelaw13.AgeFields", spec := "ageFields", apart := false }
def AgeFieldsSaid : Prop := ageFieldsRow.holds Try.pinned (OpenSpec.ofChange ageFieldsSpec)

/-- ITS FALSE NEIGHBOUR: 'it returns false'. Refute it at one input. -/
def ageFieldsWrong : ChangeSpec := { name := "ageFields", fn := fun _ => fun
  | [d1, d2] => { results := [.lit (.bool false)], args := [d1, d2] }
  | _ => none }
def AgeFieldsWrongFalsely : Prop := ageFieldsRow.holds Try.pinned (OpenSpec.ofChange ageFieldsWrong)

/-- 'quaysidelaw13.AgeJudges': WHATEVER THE INPUT: true; the input reads as it did. -/
def ageJudgesSpec : ChangeSpec := { name := "ageJudges", fn := fun _ => fun
  | [d1, d2, d3] => { results := [.lit (.bool true)], args := [d1, d2, d3] }
  | _ => none }
def ageJudgesRow : OpenClaim := { program := "ytgefcejolfikoaa", sum := "8dece0cf00f302c384b7b29eafaec6af41fe21653b15929b916032fd7e9fa1a2", func := "quayside/quaysidelaw13.AgeJudges", spec := "ageJudges", apart := false }
def AgeJudgesSaid : Prop := ageJudgesRow.holds Try.pinned (OpenSpec.ofChange ageJudgesSpec)

/-- ITS FALSE NEIGHBOUR: 'it returns false'. Refute it at one input. -/
def ageJudgesWrong : ChangeSpec := { name := "ageJudges", fn := fun _ => fun
  | [d1, d2, d3] => { results := [.lit (.bool false)], args := [d1, d2, d3] }
  | _ => none }
def AgeJudgesWrongFalsely : Prop := ageJudgesRow.holds Try.pinned (OpenSpec.ofChange ageJudgesWrong)

/- THE SECOND FORM. 'bulk': how many values and letters a reading holds, each counted each time it is reached (what is shared counts as often as it is met; a slice's spare places count too). A statement '..UptoSaid' is the law's where the arguments, and the package variables that the reading takes, are together of bulk at most 1048576: NARROWER than '..Said'. Prove '..Said' where nothing that the law and all that it calls make is longer than what came in: it says more and counts as full. Else prove '..UptoSaid'. A law counts once. -/
mutual
def uptoBulk {H : Type} : DataW H → Nat
  | .lit (.string bytes) => bytes.length + 1
  | .lit _ => 1
  | .nil => 1
  | .ptr d => uptoBulk d + 1
  | .slice elems spare => uptoBulkAll elems + uptoBulkAll spare + 1
  | .agg parts => uptoBulkAll parts + 1
  | .iface _ d => uptoBulk d + 1
  | .map entries => uptoBulkEntries entries + 1
  | .held _ => 1
def uptoBulkAll {H : Type} : List (DataW H) → Nat
  | [] => 0
  | d :: r => uptoBulk d + uptoBulkAll r
def uptoBulkEntries {H : Type} : List (Lit × DataW H) → Nat
  | [] => 0
  | x :: r => uptoBulkEntry x + uptoBulkEntries r
def uptoBulkEntry {H : Type} : Lit × DataW H → Nat
  | (.string bytes, d) => bytes.length + uptoBulk d + 1
  | (_, d) => uptoBulk d + 1
 end
def uptoSmall : (H : Type) → List (DataW H) → Bool := fun _ ds => decide (uptoBulkAll ds ≤ 1048576)
def OpenSpec.upto (s : _root_.Go.ChangeSpec) : _root_.Go.OpenSpec := { _root_.Go.OpenSpec.ofChange s with cond := some uptoSmall }

/-- 'quaysidelaw12.ClockElapsed', WHERE WHAT IT READS IS OF BULK AT MOST 1048576: true; the input reads as it did. -/
def clockElapsedUptoRow : OpenClaim := { program := "ytgefcejolfikoaa", sum := "8dece0cf00f302c384b7b29eafaec6af41fe21653b15929b916032fd7e9fa1a2", func := "quayside/quaysidelaw12.ClockElapsed", spec := "clockElapsed", apart := false, narrowed := true }
def ClockElapsedUptoSaid : Prop := clockElapsedUptoRow.holds Try.pinned (OpenSpec.upto clockElapsedSpec)

/-- 'quaysidelaw12.ClockOrders', WHERE WHAT IT READS IS OF BULK AT MOST 1048576: true; the input reads as it did. -/
def clockOrdersUptoRow : OpenClaim := { program := "ytgefcejolfikoaa", sum := "8dece0cf00f302c384b7b29eafaec6af41fe21653b15929b916032fd7e9fa1a2", func := "quayside/quaysidelaw12.ClockOrders", spec := "clockOrders", apart := false, narrowed := true }
def ClockOrdersUptoSaid : Prop := clockOrdersUptoRow.holds Try.pinned (OpenSpec.upto clockOrdersSpec)

/-- 'quaysidelaw12.ClockReads', WHERE WHAT IT READS IS OF BULK AT MOST 1048576: true; the input reads as it did. -/
def clockReadsUptoRow : OpenClaim := { program := "ytgefcejolfikoaa", sum := "8dece0cf00f302c384b7b29eafaec6af41fe21653b15929b916032fd7e9fa1a2", func := "quayside/quaysidelaw12.ClockReads", spec := "clockReads", apart := false, narrowed := true }
def ClockReadsUptoSaid : Prop := clockReadsUptoRow.holds Try.pinned (OpenSpec.upto clockReadsSpec)

/-- 'quaysidelaw12.ClockWithin', WHERE WHAT IT READS IS OF BULK AT MOST 1048576: true; the input reads as it did. -/
def clockWithinUptoRow : OpenClaim := { program := "ytgefcejolfikoaa", sum := "8dece0cf00f302c384b7b29eafaec6af41fe21653b15929b916032fd7e9fa1a2", func := "quayside/quaysidelaw12.ClockWithin", spec := "clockWithin", apart := false, narrowed := true }
def ClockWithinUptoSaid : Prop := clockWithinUptoRow.holds Try.pinned (OpenSpec.upto clockWithinSpec)

/-- 'quaysidelaw12.ClockHolds', WHERE WHAT IT READS IS OF BULK AT MOST 1048576: true; the input reads as it did. -/
def clockHoldsUptoRow : OpenClaim := { program := "ytgefcejolfikoaa", sum := "8dece0cf00f302c384b7b29eafaec6af41fe21653b15929b916032fd7e9fa1a2", func := "quayside/quaysidelaw12.ClockHolds", spec := "clockHolds", apart := false, narrowed := true }
def ClockHoldsUptoSaid : Prop := clockHoldsUptoRow.holds Try.pinned (OpenSpec.upto clockHoldsSpec)

/-- 'quaysidelaw12.ClockGrows', WHERE WHAT IT READS IS OF BULK AT MOST 1048576: true; the input reads as it did. -/
def clockGrowsUptoRow : OpenClaim := { program := "ytgefcejolfikoaa", sum := "8dece0cf00f302c384b7b29eafaec6af41fe21653b15929b916032fd7e9fa1a2", func := "quayside/quaysidelaw12.ClockGrows", spec := "clockGrows", apart := false, narrowed := true }
def ClockGrowsUptoSaid : Prop := clockGrowsUptoRow.holds Try.pinned (OpenSpec.upto clockGrowsSpec)

/-- 'quaysidelaw12.ClockContains', WHERE WHAT IT READS IS OF BULK AT MOST 1048576: true; the input reads as it did. -/
def clockContainsUptoRow : OpenClaim := { program := "ytgefcejolfikoaa", sum := "8dece0cf00f302c384b7b29eafaec6af41fe21653b15929b916032fd7e9fa1a2", func := "quayside/quaysidelaw12.ClockContains", spec := "clockContains", apart := false, narrowed := true }
def ClockContainsUptoSaid : Prop := clockContainsUptoRow.holds Try.pinned (OpenSpec.upto clockContainsSpec)

/-- 'quaysidelaw13.AgeBounds', WHERE WHAT IT READS IS OF BULK AT MOST 1048576: true; the input reads as it did. -/
def ageBoundsUptoRow : OpenClaim := { program := "ytgefcejolfikoaa", sum := "8dece0cf00f302c384b7b29eafaec6af41fe21653b15929b916032fd7e9fa1a2", func := "quayside/quaysidelaw13.AgeBounds", spec := "ageBounds", apart := false, narrowed := true }
def AgeBoundsUptoSaid : Prop := ageBoundsUptoRow.holds Try.pinned (OpenSpec.upto ageBoundsSpec)

/-- 'quaysidelaw13.AgeGrows', WHERE WHAT IT READS IS OF BULK AT MOST 1048576: true; the input reads as it did. -/
def ageGrowsUptoRow : OpenClaim := { program := "ytgefcejolfikoaa", sum := "8dece0cf00f302c384b7b29eafaec6af41fe21653b15929b916032fd7e9fa1a2", func := "quayside/quaysidelaw13.AgeGrows", spec := "ageGrows", apart := false, narrowed := true }
def AgeGrowsUptoSaid : Prop := ageGrowsUptoRow.holds Try.pinned (OpenSpec.upto ageGrowsSpec)

/-- 'quaysidelaw12.ClockLeases', WHERE WHAT IT READS IS OF BULK AT MOST 1048576: true; the input reads as it did. -/
def clockLeasesUptoRow : OpenClaim := { program := "ytgefcejolfikoaa", sum := "8dece0cf00f302c384b7b29eafaec6af41fe21653b15929b916032fd7e9fa1a2", func := "quayside/quaysidelaw12.ClockLeases", spec := "clockLeases", apart := false, narrowed := true }
def ClockLeasesUptoSaid : Prop := clockLeasesUptoRow.holds Try.pinned (OpenSpec.upto clockLeasesSpec)

/-- 'quaysidelaw13.AgeFields', WHERE WHAT IT READS IS OF BULK AT MOST 1048576: true; the input reads as it did. -/
def ageFieldsUptoRow : OpenClaim := { program := "ytgefcejolfikoaa", sum := "8dece0cf00f302c384b7b29eafaec6af41fe21653b15929b916032fd7e9fa1a2", func := "quayside/quaysidelaw13.AgeFields", spec := "ageFields", apart := false, narrowed := true }
def AgeFieldsUptoSaid : Prop := ageFieldsUptoRow.holds Try.pinned (OpenSpec.upto ageFieldsSpec)

/-- 'quaysidelaw13.AgeJudges', WHERE WHAT IT READS IS OF BULK AT MOST 1048576: true; the input reads as it did. -/
def ageJudgesUptoRow : OpenClaim := { program := "ytgefcejolfikoaa", sum := "8dece0cf00f302c384b7b29eafaec6af41fe21653b15929b916032fd7e9fa1a2", func := "quayside/quaysidelaw13.AgeJudges", spec := "ageJudges", apart := false, narrowed := true }
def AgeJudgesUptoSaid : Prop := ageJudgesUptoRow.holds Try.pinned (OpenSpec.upto ageJudgesSpec)

end Rows
end Go.Proofs.Ytgefcejolfikoaa
