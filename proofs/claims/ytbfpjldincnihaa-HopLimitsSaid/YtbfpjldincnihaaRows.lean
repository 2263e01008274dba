/-
  No cell of these rows narrows 'for every input' (looked for: loops, veiled, ifaces, maps, wideKeys, modest, calm, conditions, laid).
  DERIVED. THE GIVEN ROWS OF THIS SEAT. 9 by the template 'for every input the law returns true; each argument reads behind the call as it read before'; 0 by the template 'total and deterministic' (their statements: YtbfpjldincnihaaTotals.lean).
  GIVEN WITH THE SEED: the statements are not yours to turn. If you find one false, say at which input.
  Laid BY PROGRAM, IN A SANDBOX (cutbox-rows.mjs): the forced cells as the released guide's own fill.sh prints them over the translation 4612c6c0ac377eb6… (all of the seat's roots in one cut). By AI agents, Wed Nov 11 2026. No macro, syntax, notation, axiom, sorry.
-/
import Derived.Test.YtbfpjldincnihaaChecked
import GoSem.Claim
import GoSem.ClaimJoined
import GoSem.ClaimMapViews
import Derived.JoinedTies
import Derived.KernelRfl
namespace Go.Proofs.Ytbfpjldincnihaa
/- THE CELL 'sum', in the pinned program and in every row, IS THE sha256 OF THE DUMP (.gsa) THAT YtbfpjldincnihaaProg.lean LOADS. Nothing in Lean hashes anything: it is a label: what it is worth is what the hold of that sum in a sandbox is worth. -/
noncomputable def Try.pinned : Pinned := { name := "ytbfpjldincnihaa", sum := "4612c6c0ac377eb6b2f47409b019158c220c00a5b701d50e10ebd6a3d83edab9", checked := Try.checked }
namespace Rows
def none {H : Type} : Left H := { results := [], args := [] }

/-- 'quaysidelaw34.HopEncodes': WHATEVER THE INPUT: true; the input reads as it did. -/
def hopEncodesSpec : ChangeSpec := { name := "hopEncodes", fn := fun _ => fun
  | [d] => { results := [.lit (.bool true)], args := [d] }
  | _ => none }
def hopEncodesRow : OpenClaim := { program := "ytbfpjldincnihaa", sum := "4612c6c0ac377eb6b2f47409b019158c220c00a5b701d50e10ebd6a3d83edab9", func := "quayside/quaysidelaw34.HopEncodes", spec := "hopEncodes", unfollowed := true, recurses := true, apart := false }
def HopEncodesSaid : Prop := hopEncodesRow.holds Try.pinned (OpenSpec.ofChange hopEncodesSpec)

/-- ITS FALSE NEIGHBOUR: 'it returns false'. Refute it at one input. -/
def hopEncodesWrong : ChangeSpec := { name := "hopEncodes", fn := fun _ => fun
  | [d] => { results := [.lit (.bool false)], args := [d] }
  | _ => none }
def HopEncodesWrongFalsely : Prop := hopEncodesRow.holds Try.pinned (OpenSpec.ofChange hopEncodesWrong)

/-- 'quaysidelaw34.HopBack': WHATEVER THE INPUT: true; the input reads as it did. -/
def hopBackSpec : ChangeSpec := { name := "hopBack", fn := fun _ => fun
  | [d] => { results := [.lit (.bool true)], args := [d] }
  | _ => none }
def hopBackRow : OpenClaim := { program := "ytbfpjldincnihaa", sum := "4612c6c0ac377eb6b2f47409b019158c220c00a5b701d50e10ebd6a3d83edab9", func := "quayside/quaysidelaw34.HopBack", spec := "hopBack", unfollowed := true, recurses := true, apart := false }
def HopBackSaid : Prop := hopBackRow.holds Try.pinned (OpenSpec.ofChange hopBackSpec)

/-- ITS FALSE NEIGHBOUR: 'it returns false'. Refute it at one input. -/
def hopBackWrong : ChangeSpec := { name := "hopBack", fn := fun _ => fun
  | [d] => { results := [.lit (.bool false)], args := [d] }
  | _ => none }
def HopBackWrongFalsely : Prop := hopBackRow.holds Try.pinned (OpenSpec.ofChange hopBackWrong)

/-- 'quaysidelaw34.HopDecodes': WHATEVER THE INPUT: true; the input reads as it did. -/
def hopDecodesSpec : ChangeSpec := { name := "hopDecodes", fn := fun _ => fun
  | [d] => { results := [.lit (.bool true)], args := [d] }
  | _ => none }
def hopDecodesRow : OpenClaim := { program := "ytbfpjldincnihaa", sum := "4612c6c0ac377eb6b2f47409b019158c220c00a5b701d50e10ebd6a3d83edab9", func := "quayside/quaysidelaw34.HopDecodes", spec := "hopDecodes", unfollowed := true, recurses := true, apart := false }
def HopDecodesSaid : Prop := hopDecodesRow.holds Try.pinned (OpenSpec.ofChange hopDecodesSpec)

/-- ITS FALSE NEIGHBOUR: 'it returns false'. Refute it at one input. -/
def hopDecodesWrong : ChangeSpec := { name := "hopDecodes", fn := fun _ => fun
  | [d] => { results := [.lit (.bool false)], args := [d] }
  | _ => none }
def HopDecodesWrongFalsely : Prop := hopDecodesRow.holds Try.pinned (OpenSpec.ofChange hopDecodesWrong)

/-- 'quaysidelaw34.HopRecords': WHATEVER THE INPUT: true; the input reads as it did. -/
def hopRecordsSpec : ChangeSpec := { name := "hopRecords", fn := fun _ => fun
  | [d1, d2, d3] => { results := [.lit (.bool true)], args := [d1, d2, d3] }
  | _ => none }
def hopRecordsRow : OpenClaim := { program := "ytbfpjldincnihaa", sum := "4612c6c0ac377eb6b2f47409b019158c220c00a5b701d50e10ebd6a3d83edab9", func := "quayside/quaysidelaw34.HopRecords", spec := "hopRecords", unfollowed := true, recurses := true, apart := false }
def HopRecordsSaid : Prop := hopRecordsRow.holds Try.pinned (OpenSpec.ofChange hopRecordsSpec)

/-- ITS FALSE NEIGHBOUR: 'it returns false'. Refute it at one input. -/
def hopRecordsWrong : ChangeSpec := { name := "hopRecords", fn := fun _ => fun
  | [d1, d2, d3] => { results := [.lit (.bool false)], args := [d1, d2, d3] }
  | _ => none }
def HopRecordsWrongFalsely : Prop := hopRecordsRow.holds Try.pinned (OpenSpec.ofChange hopRecordsWrong)

/-- 'quaysidelaw34.HopSpoiled': WHATEVER THE INPUT: true; the input reads as it did. -/
def hopSpoiledSpec : ChangeSpec := { name := "hopSpoiled", fn := fun _ => fun
  | [d1, d2, d3] => { results := [.lit (.bool true)], args := [d1, d2, d3] }
  | _ => none }
def hopSpoiledRow : OpenClaim := { program := "ytbfpjldincnihaa", sum := "4612c6c0ac377eb6b2f47409b019158c220c00a5b701d50e10ebd6a3d83edab9", func := "quayside/quaysidelaw34.HopSpoiled", spec := "hopSpoiled", unfollowed := true, recurses := true, apart := false }
def HopSpoiledSaid : Prop := hopSpoiledRow.holds Try.pinned (OpenSpec.ofChange hopSpoiledSpec)

/-- ITS FALSE NEIGHBOUR: 'it returns false'. Refute it at one input. -/
def hopSpoiledWrong : ChangeSpec := { name := "hopSpoiled", fn := fun _ => fun
  | [d1, d2, d3] => { results := [.lit (.bool false)], args := [d1, d2, d3] }
  | _ => none }
def HopSpoiledWrongFalsely : Prop := hopSpoiledRow.holds Try.pinned (OpenSpec.ofChange hopSpoiledWrong)

/-- 'quaysidelaw34.HopCut': WHATEVER THE INPUT: true; the input reads as it did. -/
def hopCutSpec : ChangeSpec := { name := "hopCut", fn := fun _ => fun
  | [d1, d2, d3] => { results := [.lit (.bool true)], args := [d1, d2, d3] }
  | _ => none }
def hopCutRow : OpenClaim := { program := "ytbfpjldincnihaa", sum := "4612c6c0ac377eb6b2f47409b019158c220c00a5b701d50e10ebd6a3d83edab9", func := "quayside/quaysidelaw34.HopCut", spec := "hopCut", unfollowed := true, recurses := true, apart := false }
def HopCutSaid : Prop := hopCutRow.holds Try.pinned (OpenSpec.ofChange hopCutSpec)

/-- ITS FALSE NEIGHBOUR: 'it returns false'. Refute it at one input. -/
def hopCutWrong : ChangeSpec := { name := "hopCut", fn := fun _ => fun
  | [d1, d2, d3] => { results := [.lit (.bool false)], args := [d1, d2, d3] }
  | _ => none }
def HopCutWrongFalsely : Prop := hopCutRow.holds Try.pinned (OpenSpec.ofChange hopCutWrong)

/-- 'quaysidelaw34.HopUnused': WHATEVER THE INPUT: true; the input reads as it did. -/
def hopUnusedSpec : ChangeSpec := { name := "hopUnused", fn := fun _ => fun
  | [d1, d2, d3] => { results := [.lit (.bool true)], args := [d1, d2, d3] }
  | _ => none }
def hopUnusedRow : OpenClaim := { program := "ytbfpjldincnihaa", sum := "4612c6c0ac377eb6b2f47409b019158c220c00a5b701d50e10ebd6a3d83edab9", func := "quayside/quaysidelaw34.HopUnused", spec := "hopUnused", unfollowed := true, recurses := true, apart := false }
def HopUnusedSaid : Prop := hopUnusedRow.holds Try.pinned (OpenSpec.ofChange hopUnusedSpec)

/-- ITS FALSE NEIGHBOUR: 'it returns false'. Refute it at one input. -/
def hopUnusedWrong : ChangeSpec := { name := "hopUnused", fn := fun _ => fun
  | [d1, d2, d3] => { results := [.lit (.bool false)], args := [d1, d2, d3] }
  | _ => none }
def HopUnusedWrongFalsely : Prop := hopUnusedRow.holds Try.pinned (OpenSpec.ofChange hopUnusedWrong)

/-- 'quaysidelaw34.HopLimits': WHATEVER THE INPUT: true; the input reads as it did. -/
def hopLimitsSpec : ChangeSpec := { name := "hopLimits", fn := fun _ => fun
  | [d1, d2] => { results := [.lit (.bool true)], args := [d1, d2] }
  | _ => none }
def hopLimitsRow : OpenClaim := { program := "ytbfpjldincnihaa", sum := "4612c6c0ac377eb6b2f47409b019158c220c00a5b701d50e10ebd6a3d83edab9", func := "quayside/quaysidelaw34.HopLimits", spec := "hopLimits", unfollowed := true, recurses := true, apart := false }
def HopLimitsSaid : Prop := hopLimitsRow.holds Try.pinned (OpenSpec.ofChange hopLimitsSpec)

/-- ITS FALSE NEIGHBOUR: 'it returns false'. Refute it at one input. -/
def hopLimitsWrong : ChangeSpec := { name := "hopLimits", fn := fun _ => fun
  | [d1, d2] => { results := [.lit (.bool false)], args := [d1, d2] }
  | _ => none }
def HopLimitsWrongFalsely : Prop := hopLimitsRow.holds Try.pinned (OpenSpec.ofChange hopLimitsWrong)

/-- 'quaysidelaw34.HopSame': WHATEVER THE INPUT: true; the input reads as it did. -/
def hopSameSpec : ChangeSpec := { name := "hopSame", fn := fun _ => fun
  | [d1, d2] => { results := [.lit (.bool true)], args := [d1, d2] }
  | _ => none }
def hopSameRow : OpenClaim := { program := "ytbfpjldincnihaa", sum := "4612c6c0ac377eb6b2f47409b019158c220c00a5b701d50e10ebd6a3d83edab9", func := "quayside/quaysidelaw34.HopSame", spec := "hopSame", unfollowed := true, recurses := true, apart := false }
def HopSameSaid : Prop := hopSameRow.holds Try.pinned (OpenSpec.ofChange hopSameSpec)

/-- ITS FALSE NEIGHBOUR: 'it returns false'. Refute it at one input. -/
def hopSameWrong : ChangeSpec := { name := "hopSame", fn := fun _ => fun
  | [d1, d2] => { results := [.lit (.bool false)], args := [d1, d2] }
  | _ => none }
def HopSameWrongFalsely : Prop := hopSameRow.holds Try.pinned (OpenSpec.ofChange hopSameWrong)

/- THE SECOND FORM. 'bulk': how many values and letters a reading holds, each counted each time it is reached (what is shared counts as often as it is met; a slice's spare places count too). A statement '..UptoSaid' is the law's where the arguments, and the package variables that the reading takes, are together of bulk at most 1048576: NARROWER than '..Said'. Prove '..Said' where nothing that the law and all that it calls make is longer than what came in: it says more and counts as full. Else prove '..UptoSaid'. A law counts once. -/
mutual
def uptoBulk {H : Type} : DataW H → Nat
  | .lit (.string bytes) => bytes.length + 1
  | .lit _ => 1
  | .nil => 1
  | .ptr d => uptoBulk d + 1
  | .slice elems spare => uptoBulkAll elems + uptoBulkAll spare + 1
  | .agg parts => uptoBulkAll parts + 1
  | .iface _ d => uptoBulk d + 1
  | .map entries => uptoBulkEntries entries + 1
  | .held _ => 1
def uptoBulkAll {H : Type} : List (DataW H) → Nat
  | [] => 0
  | d :: r => uptoBulk d + uptoBulkAll r
def uptoBulkEntries {H : Type} : List (Lit × DataW H) → Nat
  | [] => 0
  | x :: r => uptoBulkEntry x + uptoBulkEntries r
def uptoBulkEntry {H : Type} : Lit × DataW H → Nat
  | (.string bytes, d) => bytes.length + uptoBulk d + 1
  | (_, d) => uptoBulk d + 1
 end
def uptoSmall : (H : Type) → List (DataW H) → Bool := fun _ ds => decide (uptoBulkAll ds ≤ 1048576)
def OpenSpec.upto (s : _root_.Go.ChangeSpec) : _root_.Go.OpenSpec := { _root_.Go.OpenSpec.ofChange s with cond := some uptoSmall }

/-- 'quaysidelaw34.HopEncodes', WHERE WHAT IT READS IS OF BULK AT MOST 1048576: true; the input reads as it did. -/
def hopEncodesUptoRow : OpenClaim := { program := "ytbfpjldincnihaa", sum := "4612c6c0ac377eb6b2f47409b019158c220c00a5b701d50e10ebd6a3d83edab9", func := "quayside/quaysidelaw34.HopEncodes", spec := "hopEncodes", unfollowed := true, recurses := true, apart := false, narrowed := true }
def HopEncodesUptoSaid : Prop := hopEncodesUptoRow.holds Try.pinned (OpenSpec.upto hopEncodesSpec)

/-- 'quaysidelaw34.HopBack', WHERE WHAT IT READS IS OF BULK AT MOST 1048576: true; the input reads as it did. -/
def hopBackUptoRow : OpenClaim := { program := "ytbfpjldincnihaa", sum := "4612c6c0ac377eb6b2f47409b019158c220c00a5b701d50e10ebd6a3d83edab9", func := "quayside/quaysidelaw34.HopBack", spec := "hopBack", unfollowed := true, recurses := true, apart := false, narrowed := true }
def HopBackUptoSaid : Prop := hopBackUptoRow.holds Try.pinned (OpenSpec.upto hopBackSpec)

/-- 'quaysidelaw34.HopDecodes', WHERE WHAT IT READS IS OF BULK AT MOST 1048576: true; the input reads as it did. -/
def hopDecodesUptoRow : OpenClaim := { program := "ytbfpjldincnihaa", sum := "4612c6c0ac377eb6b2f47409b019158c220c00a5b701d50e10ebd6a3d83edab9", func := "quayside/quaysidelaw34.HopDecodes", spec := "hopDecodes", unfollowed := true, recurses := true, apart := false, narrowed := true }
def HopDecodesUptoSaid : Prop := hopDecodesUptoRow.holds Try.pinned (OpenSpec.upto hopDecodesSpec)

/-- 'quaysidelaw34.HopRecords', WHERE WHAT IT READS IS OF BULK AT MOST 1048576: true; the input reads as it did. -/
def hopRecordsUptoRow : OpenClaim := { program := "ytbfpjldincnihaa", sum := "4612c6c0ac377eb6b2f47409b019158c220c00a5b701d50e10ebd6a3d83edab9", func := "quayside/quaysidelaw34.HopRecords", spec := "hopRecords", unfollowed := true, recurses := true, apart := false, narrowed := true }
def HopRecordsUptoSaid : Prop := hopRecordsUptoRow.holds Try.pinned (OpenSpec.upto hopRecordsSpec)

/-- 'quaysidelaw34.HopSpoiled', WHERE WHAT IT READS IS OF BULK AT MOST 1048576: true; the input reads as it did. -/
def hopSpoiledUptoRow : OpenClaim := { program := "ytbfpjldincnihaa", sum := "4612c6c0ac377eb6b2f47409b019158c220c00a5b701d50e10ebd6a3d83edab9", func := "quayside/quaysidelaw34.HopSpoiled", spec := "hopSpoiled", unfollowed := true, recurses := true, apart := false, narrowed := true }
def HopSpoiledUptoSaid : Prop := hopSpoiledUptoRow.holds Try.pinned (OpenSpec.upto hopSpoiledSpec)

/-- 'quaysidelaw34.HopCut', WHERE WHAT IT READS IS OF BULK AT MOST 1048576: true; the input reads as it did. -/
def hopCutUptoRow : OpenClaim := { program := "ytbfpjldincnihaa", sum := "4612c6c0ac377eb6b2f47409b019158c220c00a5b701d50e10ebd6a3d83edab9", func := "quayside/quaysidelaw34.HopCut", spec := "hopCut", unfollowed := true, recurses := true, apart := false, narrowed := true }
def HopCutUptoSaid : Prop := hopCutUptoRow.holds Try.pinned (OpenSpec.upto hopCutSpec)

/-- 'quaysidelaw34.HopUnused', WHERE WHAT IT READS IS OF BULK AT MOST 1048576: true; the input reads as it did. -/
def hopUnusedUptoRow : OpenClaim := { program := "ytbfpjldincnihaa", sum := "4612c6c0ac377eb6b2f47409b019158c220c00a5b701d50e10ebd6a3d83edab9", func := "quayside/quaysidelaw34.HopUnused", spec := "hopUnused", unfollowed := true, recurses := true, apart := false, narrowed := true }
def HopUnusedUptoSaid : Prop := hopUnusedUptoRow.holds Try.pinned (OpenSpec.upto hopUnusedSpec)

/-- 'quaysidelaw34.HopLimits', WHERE WHAT IT READS IS OF BULK AT MOST 1048576: true; the input reads as it did. -/
def hopLimitsUptoRow : OpenClaim := { program := "ytbfpjldincnihaa", sum := "4612c6c0ac377eb6b2f47409b019158c220c00a5b701d50e10ebd6a3d83edab9", func := "quayside/quaysidelaw34.HopLimits", spec := "hopLimits", unfollowed := true, recurses := true, apart := false, narrowed := true }
def HopLimitsUptoSaid : Prop := hopLimitsUptoRow.holds Try.pinned (OpenSpec.upto hopLimitsSpec)

/-- 'quaysidelaw34.HopSame', WHERE WHAT IT READS IS OF BULK AT MOST 1048576: true; the input reads as it did. -/
def hopSameUptoRow : OpenClaim := { program := "ytbfpjldincnihaa", sum := "4612c6c0ac377eb6b2f47409b019158c220c00a5b701d50e10ebd6a3d83edab9", func := "quayside/quaysidelaw34.HopSame", spec := "hopSame", unfollowed := true, recurses := true, apart := false, narrowed := true }
def HopSameUptoSaid : Prop := hopSameUptoRow.holds Try.pinned (OpenSpec.upto hopSameSpec)

end Rows
end Go.Proofs.Ytbfpjldincnihaa
