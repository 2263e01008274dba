/-
  No cell of these rows narrows 'for every input' (looked for: loops, veiled, ifaces, maps, wideKeys, modest, calm, conditions, laid).
  DERIVED. THE GIVEN ROWS OF THIS SEAT. 9 by the template 'for every input the law returns true; each argument reads behind the call as it read before'; 0 by the template 'total and deterministic' (their statements: YtdkaapkehmjepaaTotals.lean).
  GIVEN WITH THE SEED: the statements are not yours to turn. If you find one false, say at which input.
  Laid BY PROGRAM, IN A SANDBOX (cutbox-rows.mjs): the forced cells as the released guide's own fill.sh prints them over the translation bcd7383155326adf… (all of the seat's roots in one cut). By AI agents, Wed Nov 11 2026. No macro, syntax, notation, axiom, sorry.
-/
import Derived.Test.YtdkaapkehmjepaaChecked
import GoSem.Claim
import GoSem.ClaimJoined
import GoSem.ClaimMapViews
import Derived.JoinedTies
import Derived.KernelRfl
namespace Go.Proofs.Ytdkaapkehmjepaa
/- THE CELL 'sum', in the pinned program and in every row, IS THE sha256 OF THE DUMP (.gsa) THAT YtdkaapkehmjepaaProg.lean LOADS. Nothing in Lean hashes anything: it is a label: what it is worth is what the hold of that sum in a sandbox is worth. -/
noncomputable def Try.pinned : Pinned := { name := "ytdkaapkehmjepaa", sum := "bcd7383155326adf09233c7c20af898e2e7af7eb76aa9ef693676406f63db0ad", checked := Try.checked }
namespace Rows
def none {H : Type} : Left H := { results := [], args := [] }

/-- 'quaysidelaw51.UsageChecks': WHATEVER THE INPUT: true; the input reads as it did. -/
def usageChecksSpec : ChangeSpec := { name := "usageChecks", fn := fun _ => fun
  | [d] => { results := [.lit (.bool true)], args := [d] }
  | _ => none }
def usageChecksRow : OpenClaim := { program := "ytdkaapkehmjepaa", sum := "bcd7383155326adf09233c7c20af898e2e7af7eb76aa9ef693676406f63db0ad", func := "quayside/quaysidelaw51.UsageChecks", spec := "usageChecks", apart := false }
def UsageChecksSaid : Prop := usageChecksRow.holds Try.pinned (OpenSpec.ofChange usageChecksSpec)

/-- ITS FALSE NEIGHBOUR: 'it returns false'. Refute it at one input. -/
def usageChecksWrong : ChangeSpec := { name := "usageChecks", fn := fun _ => fun
  | [d] => { results := [.lit (.bool false)], args := [d] }
  | _ => none }
def UsageChecksWrongFalsely : Prop := usageChecksRow.holds Try.pinned (OpenSpec.ofChange usageChecksWrong)

/-- 'quaysidelaw51.UsageMeters': WHATEVER THE INPUT: true; the input reads as it did. -/
def usageMetersSpec : ChangeSpec := { name := "usageMeters", fn := fun _ => fun
  | [d1, d2, d3] => { results := [.lit (.bool true)], args := [d1, d2, d3] }
  | _ => none }
def usageMetersRow : OpenClaim := { program := "ytdkaapkehmjepaa", sum := "bcd7383155326adf09233c7c20af898e2e7af7eb76aa9ef693676406f63db0ad", func := "quayside/quaysidelaw51.UsageMeters", spec := "usageMeters", apart := false }
def UsageMetersSaid : Prop := usageMetersRow.holds Try.pinned (OpenSpec.ofChange usageMetersSpec)

/-- ITS FALSE NEIGHBOUR: 'it returns false'. Refute it at one input. -/
def usageMetersWrong : ChangeSpec := { name := "usageMeters", fn := fun _ => fun
  | [d1, d2, d3] => { results := [.lit (.bool false)], args := [d1, d2, d3] }
  | _ => none }
def UsageMetersWrongFalsely : Prop := usageMetersRow.holds Try.pinned (OpenSpec.ofChange usageMetersWrong)

/-- 'quaysidelaw51.UsageSums': WHATEVER THE INPUT: true; the input reads as it did. -/
def usageSumsSpec : ChangeSpec := { name := "usageSums", fn := fun _ => fun
  | [d1, d2, d3] => { results := [.lit (.bool true)], args := [d1, d2, d3] }
  | _ => none }
def usageSumsRow : OpenClaim := { program := "ytdkaapkehmjepaa", sum := "bcd7383155326adf09233c7c20af898e2e7af7eb76aa9ef693676406f63db0ad", func := "quayside/quaysidelaw51.UsageSums", spec := "usageSums", apart := false }
def UsageSumsSaid : Prop := usageSumsRow.holds Try.pinned (OpenSpec.ofChange usageSumsSpec)

/-- ITS FALSE NEIGHBOUR: 'it returns false'. Refute it at one input. -/
def usageSumsWrong : ChangeSpec := { name := "usageSums", fn := fun _ => fun
  | [d1, d2, d3] => { results := [.lit (.bool false)], args := [d1, d2, d3] }
  | _ => none }
def UsageSumsWrongFalsely : Prop := usageSumsRow.holds Try.pinned (OpenSpec.ofChange usageSumsWrong)

/-- 'quaysidelaw51.UsageNil': WHATEVER THE INPUT: true; the input reads as it did. -/
def usageNilSpec : ChangeSpec := { name := "usageNil", fn := fun _ => fun
  | [d1, d2] => { results := [.lit (.bool true)], args := [d1, d2] }
  | _ => none }
def usageNilRow : OpenClaim := { program := "ytdkaapkehmjepaa", sum := "bcd7383155326adf09233c7c20af898e2e7af7eb76aa9ef693676406f63db0ad", func := "quayside/quaysidelaw51.UsageNil", spec := "usageNil", apart := false }
def UsageNilSaid : Prop := usageNilRow.holds Try.pinned (OpenSpec.ofChange usageNilSpec)

/-- ITS FALSE NEIGHBOUR: 'it returns false'. Refute it at one input. -/
def usageNilWrong : ChangeSpec := { name := "usageNil", fn := fun _ => fun
  | [d1, d2] => { results := [.lit (.bool false)], args := [d1, d2] }
  | _ => none }
def UsageNilWrongFalsely : Prop := usageNilRow.holds Try.pinned (OpenSpec.ofChange usageNilWrong)

/-- 'quaysidelaw51.UsageEncodes': WHATEVER THE INPUT: true; the input reads as it did. -/
def usageEncodesSpec : ChangeSpec := { name := "usageEncodes", fn := fun _ => fun
  | [d] => { results := [.lit (.bool true)], args := [d] }
  | _ => none }
def usageEncodesRow : OpenClaim := { program := "ytdkaapkehmjepaa", sum := "bcd7383155326adf09233c7c20af898e2e7af7eb76aa9ef693676406f63db0ad", func := "quayside/quaysidelaw51.UsageEncodes", spec := "usageEncodes", apart := false }
def UsageEncodesSaid : Prop := usageEncodesRow.holds Try.pinned (OpenSpec.ofChange usageEncodesSpec)

/-- ITS FALSE NEIGHBOUR: 'it returns false'. Refute it at one input. -/
def usageEncodesWrong : ChangeSpec := { name := "usageEncodes", fn := fun _ => fun
  | [d] => { results := [.lit (.bool false)], args := [d] }
  | _ => none }
def UsageEncodesWrongFalsely : Prop := usageEncodesRow.holds Try.pinned (OpenSpec.ofChange usageEncodesWrong)

/-- 'quaysidelaw51.UsageTorn': WHATEVER THE INPUT: true; the input reads as it did. -/
def usageTornSpec : ChangeSpec := { name := "usageTorn", fn := fun _ => fun
  | [d1, d2] => { results := [.lit (.bool true)], args := [d1, d2] }
  | _ => none }
def usageTornRow : OpenClaim := { program := "ytdkaapkehmjepaa", sum := "bcd7383155326adf09233c7c20af898e2e7af7eb76aa9ef693676406f63db0ad", func := "quayside/quaysidelaw51.UsageTorn", spec := "usageTorn", apart := false }
def UsageTornSaid : Prop := usageTornRow.holds Try.pinned (OpenSpec.ofChange usageTornSpec)

/-- ITS FALSE NEIGHBOUR: 'it returns false'. Refute it at one input. -/
def usageTornWrong : ChangeSpec := { name := "usageTorn", fn := fun _ => fun
  | [d1, d2] => { results := [.lit (.bool false)], args := [d1, d2] }
  | _ => none }
def UsageTornWrongFalsely : Prop := usageTornRow.holds Try.pinned (OpenSpec.ofChange usageTornWrong)

/-- 'quaysidelaw51.UsageSpoiled': WHATEVER THE INPUT: true; the input reads as it did. -/
def usageSpoiledSpec : ChangeSpec := { name := "usageSpoiled", fn := fun _ => fun
  | [d1, d2, d3] => { results := [.lit (.bool true)], args := [d1, d2, d3] }
  | _ => none }
def usageSpoiledRow : OpenClaim := { program := "ytdkaapkehmjepaa", sum := "bcd7383155326adf09233c7c20af898e2e7af7eb76aa9ef693676406f63db0ad", func := "quayside/quaysidelaw51.UsageSpoiled", spec := "usageSpoiled", apart := false }
def UsageSpoiledSaid : Prop := usageSpoiledRow.holds Try.pinned (OpenSpec.ofChange usageSpoiledSpec)

/-- ITS FALSE NEIGHBOUR: 'it returns false'. Refute it at one input. -/
def usageSpoiledWrong : ChangeSpec := { name := "usageSpoiled", fn := fun _ => fun
  | [d1, d2, d3] => { results := [.lit (.bool false)], args := [d1, d2, d3] }
  | _ => none }
def UsageSpoiledWrongFalsely : Prop := usageSpoiledRow.holds Try.pinned (OpenSpec.ofChange usageSpoiledWrong)

/-- 'quaysidelaw51.UsageDecodes': WHATEVER THE INPUT: true; the input reads as it did. -/
def usageDecodesSpec : ChangeSpec := { name := "usageDecodes", fn := fun _ => fun
  | [d] => { results := [.lit (.bool true)], args := [d] }
  | _ => none }
def usageDecodesRow : OpenClaim := { program := "ytdkaapkehmjepaa", sum := "bcd7383155326adf09233c7c20af898e2e7af7eb76aa9ef693676406f63db0ad", func := "quayside/quaysidelaw51.UsageDecodes", spec := "usageDecodes", apart := false }
def UsageDecodesSaid : Prop := usageDecodesRow.holds Try.pinned (OpenSpec.ofChange usageDecodesSpec)

/-- ITS FALSE NEIGHBOUR: 'it returns false'. Refute it at one input. -/
def usageDecodesWrong : ChangeSpec := { name := "usageDecodes", fn := fun _ => fun
  | [d] => { results := [.lit (.bool false)], args := [d] }
  | _ => none }
def UsageDecodesWrongFalsely : Prop := usageDecodesRow.holds Try.pinned (OpenSpec.ofChange usageDecodesWrong)

/-- 'quaysidelaw51.UsageRecords': WHATEVER THE INPUT: true; the input reads as it did. -/
def usageRecordsSpec : ChangeSpec := { name := "usageRecords", fn := fun _ => fun
  | [d1, d2, d3, d4] => { results := [.lit (.bool true)], args := [d1, d2, d3, d4] }
  | _ => none }
def usageRecordsRow : OpenClaim := { program := "ytdkaapkehmjepaa", sum := "bcd7383155326adf09233c7c20af898e2e7af7eb76aa9ef693676406f63db0ad", func := "quayside/quaysidelaw51.UsageRecords", spec := "usageRecords", apart := false }
def UsageRecordsSaid : Prop := usageRecordsRow.holds Try.pinned (OpenSpec.ofChange usageRecordsSpec)

/-- ITS FALSE NEIGHBOUR: 'it returns false'. Refute it at one input. -/
def usageRecordsWrong : ChangeSpec := { name := "usageRecords", fn := fun _ => fun
  | [d1, d2, d3, d4] => { results := [.lit (.bool false)], args := [d1, d2, d3, d4] }
  | _ => none }
def UsageRecordsWrongFalsely : Prop := usageRecordsRow.holds Try.pinned (OpenSpec.ofChange usageRecordsWrong)

/- THE SECOND FORM. 'bulk': how many values and letters a reading holds, each counted each time it is reached (what is shared counts as often as it is met; a slice's spare places count too). A statement '..UptoSaid' is the law's where the arguments, and the package variables that the reading takes, are together of bulk at most 1048576: NARROWER than '..Said'. Prove '..Said' where nothing that the law and all that it calls make is longer than what came in: it says more and counts as full. Else prove '..UptoSaid'. A law counts once. -/
mutual
def uptoBulk {H : Type} : DataW H → Nat
  | .lit (.string bytes) => bytes.length + 1
  | .lit _ => 1
  | .nil => 1
  | .ptr d => uptoBulk d + 1
  | .slice elems spare => uptoBulkAll elems + uptoBulkAll spare + 1
  | .agg parts => uptoBulkAll parts + 1
  | .iface _ d => uptoBulk d + 1
  | .map entries => uptoBulkEntries entries + 1
  | .held _ => 1
def uptoBulkAll {H : Type} : List (DataW H) → Nat
  | [] => 0
  | d :: r => uptoBulk d + uptoBulkAll r
def uptoBulkEntries {H : Type} : List (Lit × DataW H) → Nat
  | [] => 0
  | x :: r => uptoBulkEntry x + uptoBulkEntries r
def uptoBulkEntry {H : Type} : Lit × DataW H → Nat
  | (.string bytes, d) => bytes.length + uptoBulk d + 1
  | (_, d) => uptoBulk d + 1
 end
def uptoSmall : (H : Type) → List (DataW H) → Bool := fun _ ds => decide (uptoBulkAll ds ≤ 1048576)
def OpenSpec.upto (s : _root_.Go.ChangeSpec) : _root_.Go.OpenSpec := { _root_.Go.OpenSpec.ofChange s with cond := some uptoSmall }

/-- 'quaysidelaw51.UsageChecks', WHERE WHAT IT READS IS OF BULK AT MOST 1048576: true; the input reads as it did. -/
def usageChecksUptoRow : OpenClaim := { program := "ytdkaapkehmjepaa", sum := "bcd7383155326adf09233c7c20af898e2e7af7eb76aa9ef693676406f63db0ad", func := "quayside/quaysidelaw51.UsageChecks", spec := "usageChecks", apart := false, narrowed := true }
def UsageChecksUptoSaid : Prop := usageChecksUptoRow.holds Try.pinned (OpenSpec.upto usageChecksSpec)

/-- 'quaysidelaw51.UsageMeters', WHERE WHAT IT READS IS OF BULK AT MOST 1048576: true; the input reads as it did. -/
def usageMetersUptoRow : OpenClaim := { program := "ytdkaapkehmjepaa", sum := "bcd7383155326adf09233c7c20af898e2e7af7eb76aa9ef693676406f63db0ad", func := "quayside/quaysidelaw51.UsageMeters", spec := "usageMeters", apart := false, narrowed := true }
def UsageMetersUptoSaid : Prop := usageMetersUptoRow.holds Try.pinned (OpenSpec.upto usageMetersSpec)

/-- 'quaysidelaw51.UsageSums', WHERE WHAT IT READS IS OF BULK AT MOST 1048576: true; the input reads as it did. -/
def usageSumsUptoRow : OpenClaim := { program := "ytdkaapkehmjepaa", sum := "bcd7383155326adf09233c7c20af898e2e7af7eb76aa9ef693676406f63db0ad", func := "quayside/quaysidelaw51.UsageSums", spec := "usageSums", apart := false, narrowed := true }
def UsageSumsUptoSaid : Prop := usageSumsUptoRow.holds Try.pinned (OpenSpec.upto usageSumsSpec)

/-- 'quaysidelaw51.UsageNil', WHERE WHAT IT READS IS OF BULK AT MOST 1048576: true; the input reads as it did. -/
def usageNilUptoRow : OpenClaim := { program := "ytdkaapkehmjepaa", sum := "bcd7383155326adf09233c7c20af898e2e7af7eb76aa9ef693676406f63db0ad", func := "quayside/quaysidelaw51.UsageNil", spec := "usageNil", apart := false, narrowed := true }
def UsageNilUptoSaid : Prop := usageNilUptoRow.holds Try.pinned (OpenSpec.upto usageNilSpec)

/-- 'quaysidelaw51.UsageEncodes', WHERE WHAT IT READS IS OF BULK AT MOST 1048576: true; the input reads as it did. -/
def usageEncodesUptoRow : OpenClaim := { program := "ytdkaapkehmjepaa", sum := "bcd7383155326adf09233c7c20af898e2e7af7eb76aa9ef693676406f63db0ad", func := "quayside/quaysidelaw51.UsageEncodes", spec := "usageEncodes", apart := false, narrowed := true }
def UsageEncodesUptoSaid : Prop := usageEncodesUptoRow.holds Try.pinned (OpenSpec.upto usageEncodesSpec)

/-- 'quaysidelaw51.UsageTorn', WHERE WHAT IT READS IS OF BULK AT MOST 1048576: true; the input reads as it did. -/
def usageTornUptoRow : OpenClaim := { program := "ytdkaapkehmjepaa", sum := "bcd7383155326adf09233c7c20af898e2e7af7eb76aa9ef693676406f63db0ad", func := "quayside/quaysidelaw51.UsageTorn", spec := "usageTorn", apart := false, narrowed := true }
def UsageTornUptoSaid : Prop := usageTornUptoRow.holds Try.pinned (OpenSpec.upto usageTornSpec)

/-- 'quaysidelaw51.UsageSpoiled', WHERE WHAT IT READS IS OF BULK AT MOST 1048576: true; the input reads as it did. -/
def usageSpoiledUptoRow : OpenClaim := { program := "ytdkaapkehmjepaa", sum := "bcd7383155326adf09233c7c20af898e2e7af7eb76aa9ef693676406f63db0ad", func := "quayside/quaysidelaw51.UsageSpoiled", spec := "usageSpoiled", apart := false, narrowed := true }
def UsageSpoiledUptoSaid : Prop := usageSpoiledUptoRow.holds Try.pinned (OpenSpec.upto usageSpoiledSpec)

/-- 'quaysidelaw51.UsageDecodes', WHERE WHAT IT READS IS OF BULK AT MOST 1048576: true; the input reads as it did. -/
def usageDecodesUptoRow : OpenClaim := { program := "ytdkaapkehmjepaa", sum := "bcd7383155326adf09233c7c20af898e2e7af7eb76aa9ef693676406f63db0ad", func := "quayside/quaysidelaw51.UsageDecodes", spec := "usageDecodes", apart := false, narrowed := true }
def UsageDecodesUptoSaid : Prop := usageDecodesUptoRow.holds Try.pinned (OpenSpec.upto usageDecodesSpec)

/-- 'quaysidelaw51.UsageRecords', WHERE WHAT IT READS IS OF BULK AT MOST 1048576: true; the input reads as it did. -/
def usageRecordsUptoRow : OpenClaim := { program := "ytdkaapkehmjepaa", sum := "bcd7383155326adf09233c7c20af898e2e7af7eb76aa9ef693676406f63db0ad", func := "quayside/quaysidelaw51.UsageRecords", spec := "usageRecords", apart := false, narrowed := true }
def UsageRecordsUptoSaid : Prop := usageRecordsUptoRow.holds Try.pinned (OpenSpec.upto usageRecordsSpec)

end Rows
end Go.Proofs.Ytdkaapkehmjepaa
