/-
  No cell of these rows narrows 'for every input' (looked for: loops, veiled, ifaces, maps, wideKeys, modest, calm, conditions, laid).
  DERIVED. THE GIVEN ROWS OF THIS SEAT. 10 by the template 'for every input the law returns true; each argument reads behind the call as it read before'; 0 by the template 'total and deterministic' (their statements: YtnieoaadhbcjiaaTotals.lean).
  GIVEN WITH THE SEED: the statements are not yours to turn. If you find one false, say at which input.
  Laid BY PROGRAM, IN A SANDBOX (cutbox-rows.mjs): the forced cells as the released guide's own fill.sh prints them over the translation 9c9bac17bc29290e… (all of the seat's roots in one cut). By AI agents, Wed Nov 11 2026. No macro, syntax, notation, axiom, sorry.
-/
import Derived.Test.YtnieoaadhbcjiaaChecked
import GoSem.Claim
import GoSem.ClaimJoined
import GoSem.ClaimMapViews
import Derived.JoinedTies
import Derived.KernelRfl
namespace Go.Proofs.Ytnieoaadhbcjiaa
/- THE CELL 'sum', in the pinned program and in every row, IS THE sha256 OF THE DUMP (.gsa) THAT YtnieoaadhbcjiaaProg.lean LOADS. Nothing in Lean hashes anything: it is a label: what it is worth is what the hold of that sum in a sandbox is worth. -/
noncomputable def Try.pinned : Pinned := { name := "ytnieoaadhbcjiaa", sum := "9c9bac17bc29290ea3ee4765676df9829c315ac8a4191ee3d4e587c540c54087", checked := Try.checked }
namespace Rows
def none {H : Type} : Left H := { results := [], args := [] }

/-- 'quaysidelaw22.RecordWrites': WHATEVER THE INPUT: true; the input reads as it did. -/
def recordWritesSpec : ChangeSpec := { name := "recordWrites", fn := fun _ => fun
  | [d1, d2] => { results := [.lit (.bool true)], args := [d1, d2] }
  | _ => none }
def recordWritesRow : OpenClaim := { program := "ytnieoaadhbcjiaa", sum := "9c9bac17bc29290ea3ee4765676df9829c315ac8a4191ee3d4e587c540c54087", func := "quayside/quaysidelaw22.RecordWrites", spec := "recordWrites", apart := false }
def RecordWritesSaid : Prop := recordWritesRow.holds Try.pinned (OpenSpec.ofChange recordWritesSpec)

/-- ITS FALSE NEIGHBOUR: 'it returns false'. Refute it at one input. -/
def recordWritesWrong : ChangeSpec := { name := "recordWrites", fn := fun _ => fun
  | [d1, d2] => { results := [.lit (.bool false)], args := [d1, d2] }
  | _ => none }
def RecordWritesWrongFalsely : Prop := recordWritesRow.holds Try.pinned (OpenSpec.ofChange recordWritesWrong)

/-- 'quaysidelaw22.RecordSums': WHATEVER THE INPUT: true; the input reads as it did. -/
def recordSumsSpec : ChangeSpec := { name := "recordSums", fn := fun _ => fun
  | [d1, d2] => { results := [.lit (.bool true)], args := [d1, d2] }
  | _ => none }
def recordSumsRow : OpenClaim := { program := "ytnieoaadhbcjiaa", sum := "9c9bac17bc29290ea3ee4765676df9829c315ac8a4191ee3d4e587c540c54087", func := "quayside/quaysidelaw22.RecordSums", spec := "recordSums", apart := false }
def RecordSumsSaid : Prop := recordSumsRow.holds Try.pinned (OpenSpec.ofChange recordSumsSpec)

/-- ITS FALSE NEIGHBOUR: 'it returns false'. Refute it at one input. -/
def recordSumsWrong : ChangeSpec := { name := "recordSums", fn := fun _ => fun
  | [d1, d2] => { results := [.lit (.bool false)], args := [d1, d2] }
  | _ => none }
def RecordSumsWrongFalsely : Prop := recordSumsRow.holds Try.pinned (OpenSpec.ofChange recordSumsWrong)

/-- 'quaysidelaw22.RecordEncodes': WHATEVER THE INPUT: true; the input reads as it did. -/
def recordEncodesSpec : ChangeSpec := { name := "recordEncodes", fn := fun _ => fun
  | [d1, d2, d3] => { results := [.lit (.bool true)], args := [d1, d2, d3] }
  | _ => none }
def recordEncodesRow : OpenClaim := { program := "ytnieoaadhbcjiaa", sum := "9c9bac17bc29290ea3ee4765676df9829c315ac8a4191ee3d4e587c540c54087", func := "quayside/quaysidelaw22.RecordEncodes", spec := "recordEncodes", apart := false }
def RecordEncodesSaid : Prop := recordEncodesRow.holds Try.pinned (OpenSpec.ofChange recordEncodesSpec)

/-- ITS FALSE NEIGHBOUR: 'it returns false'. Refute it at one input. -/
def recordEncodesWrong : ChangeSpec := { name := "recordEncodes", fn := fun _ => fun
  | [d1, d2, d3] => { results := [.lit (.bool false)], args := [d1, d2, d3] }
  | _ => none }
def RecordEncodesWrongFalsely : Prop := recordEncodesRow.holds Try.pinned (OpenSpec.ofChange recordEncodesWrong)

/-- 'quaysidelaw22.RecordReads': WHATEVER THE INPUT: true; the input reads as it did. -/
def recordReadsSpec : ChangeSpec := { name := "recordReads", fn := fun _ => fun
  | [d1, d2] => { results := [.lit (.bool true)], args := [d1, d2] }
  | _ => none }
def recordReadsRow : OpenClaim := { program := "ytnieoaadhbcjiaa", sum := "9c9bac17bc29290ea3ee4765676df9829c315ac8a4191ee3d4e587c540c54087", func := "quayside/quaysidelaw22.RecordReads", spec := "recordReads", apart := false }
def RecordReadsSaid : Prop := recordReadsRow.holds Try.pinned (OpenSpec.ofChange recordReadsSpec)

/-- ITS FALSE NEIGHBOUR: 'it returns false'. Refute it at one input. -/
def recordReadsWrong : ChangeSpec := { name := "recordReads", fn := fun _ => fun
  | [d1, d2] => { results := [.lit (.bool false)], args := [d1, d2] }
  | _ => none }
def RecordReadsWrongFalsely : Prop := recordReadsRow.holds Try.pinned (OpenSpec.ofChange recordReadsWrong)

/-- 'quaysidelaw22.RecordNone': WHATEVER THE INPUT: true; the input reads as it did. -/
def recordNoneSpec : ChangeSpec := { name := "recordNone", fn := fun _ => fun
  | [d] => { results := [.lit (.bool true)], args := [d] }
  | _ => none }
def recordNoneRow : OpenClaim := { program := "ytnieoaadhbcjiaa", sum := "9c9bac17bc29290ea3ee4765676df9829c315ac8a4191ee3d4e587c540c54087", func := "quayside/quaysidelaw22.RecordNone", spec := "recordNone", apart := false }
def RecordNoneSaid : Prop := recordNoneRow.holds Try.pinned (OpenSpec.ofChange recordNoneSpec)

/-- ITS FALSE NEIGHBOUR: 'it returns false'. Refute it at one input. -/
def recordNoneWrong : ChangeSpec := { name := "recordNone", fn := fun _ => fun
  | [d] => { results := [.lit (.bool false)], args := [d] }
  | _ => none }
def RecordNoneWrongFalsely : Prop := recordNoneRow.holds Try.pinned (OpenSpec.ofChange recordNoneWrong)

/-- 'quaysidelaw22.RecordReturns': WHATEVER THE INPUT: true; the input reads as it did. -/
def recordReturnsSpec : ChangeSpec := { name := "recordReturns", fn := fun _ => fun
  | [d] => { results := [.lit (.bool true)], args := [d] }
  | _ => none }
def recordReturnsRow : OpenClaim := { program := "ytnieoaadhbcjiaa", sum := "9c9bac17bc29290ea3ee4765676df9829c315ac8a4191ee3d4e587c540c54087", func := "quayside/quaysidelaw22.RecordReturns", spec := "recordReturns", apart := false }
def RecordReturnsSaid : Prop := recordReturnsRow.holds Try.pinned (OpenSpec.ofChange recordReturnsSpec)

/-- ITS FALSE NEIGHBOUR: 'it returns false'. Refute it at one input. -/
def recordReturnsWrong : ChangeSpec := { name := "recordReturns", fn := fun _ => fun
  | [d] => { results := [.lit (.bool false)], args := [d] }
  | _ => none }
def RecordReturnsWrongFalsely : Prop := recordReturnsRow.holds Try.pinned (OpenSpec.ofChange recordReturnsWrong)

/-- 'quaysidelaw22.RecordLarge': WHATEVER THE INPUT: true; the input reads as it did. -/
def recordLargeSpec : ChangeSpec := { name := "recordLarge", fn := fun _ => fun
  | [d] => { results := [.lit (.bool true)], args := [d] }
  | _ => none }
def recordLargeRow : OpenClaim := { program := "ytnieoaadhbcjiaa", sum := "9c9bac17bc29290ea3ee4765676df9829c315ac8a4191ee3d4e587c540c54087", func := "quayside/quaysidelaw22.RecordLarge", spec := "recordLarge", apart := false }
def RecordLargeSaid : Prop := recordLargeRow.holds Try.pinned (OpenSpec.ofChange recordLargeSpec)

/-- ITS FALSE NEIGHBOUR: 'it returns false'. Refute it at one input. -/
def recordLargeWrong : ChangeSpec := { name := "recordLarge", fn := fun _ => fun
  | [d] => { results := [.lit (.bool false)], args := [d] }
  | _ => none }
def RecordLargeWrongFalsely : Prop := recordLargeRow.holds Try.pinned (OpenSpec.ofChange recordLargeWrong)

/-- 'quaysidelaw22.RecordDecodes': WHATEVER THE INPUT: true; the input reads as it did. -/
def recordDecodesSpec : ChangeSpec := { name := "recordDecodes", fn := fun _ => fun
  | [d] => { results := [.lit (.bool true)], args := [d] }
  | _ => none }
def recordDecodesRow : OpenClaim := { program := "ytnieoaadhbcjiaa", sum := "9c9bac17bc29290ea3ee4765676df9829c315ac8a4191ee3d4e587c540c54087", func := "quayside/quaysidelaw22.RecordDecodes", spec := "recordDecodes", apart := false }
def RecordDecodesSaid : Prop := recordDecodesRow.holds Try.pinned (OpenSpec.ofChange recordDecodesSpec)

/-- ITS FALSE NEIGHBOUR: 'it returns false'. Refute it at one input. -/
def recordDecodesWrong : ChangeSpec := { name := "recordDecodes", fn := fun _ => fun
  | [d] => { results := [.lit (.bool false)], args := [d] }
  | _ => none }
def RecordDecodesWrongFalsely : Prop := recordDecodesRow.holds Try.pinned (OpenSpec.ofChange recordDecodesWrong)

/-- 'quaysidelaw22.RecordPrefixes': WHATEVER THE INPUT: true; the input reads as it did. -/
def recordPrefixesSpec : ChangeSpec := { name := "recordPrefixes", fn := fun _ => fun
  | [d1, d2, d3] => { results := [.lit (.bool true)], args := [d1, d2, d3] }
  | _ => none }
def recordPrefixesRow : OpenClaim := { program := "ytnieoaadhbcjiaa", sum := "9c9bac17bc29290ea3ee4765676df9829c315ac8a4191ee3d4e587c540c54087", func := "quayside/quaysidelaw22.RecordPrefixes", spec := "recordPrefixes", apart := false }
def RecordPrefixesSaid : Prop := recordPrefixesRow.holds Try.pinned (OpenSpec.ofChange recordPrefixesSpec)

/-- ITS FALSE NEIGHBOUR: 'it returns false'. Refute it at one input. -/
def recordPrefixesWrong : ChangeSpec := { name := "recordPrefixes", fn := fun _ => fun
  | [d1, d2, d3] => { results := [.lit (.bool false)], args := [d1, d2, d3] }
  | _ => none }
def RecordPrefixesWrongFalsely : Prop := recordPrefixesRow.holds Try.pinned (OpenSpec.ofChange recordPrefixesWrong)

/-- 'quaysidelaw22.RecordSpoilt': WHATEVER THE INPUT: true; the input reads as it did. -/
def recordSpoiltSpec : ChangeSpec := { name := "recordSpoilt", fn := fun _ => fun
  | [d1, d2, d3] => { results := [.lit (.bool true)], args := [d1, d2, d3] }
  | _ => none }
def recordSpoiltRow : OpenClaim := { program := "ytnieoaadhbcjiaa", sum := "9c9bac17bc29290ea3ee4765676df9829c315ac8a4191ee3d4e587c540c54087", func := "quayside/quaysidelaw22.RecordSpoilt", spec := "recordSpoilt", apart := false }
def RecordSpoiltSaid : Prop := recordSpoiltRow.holds Try.pinned (OpenSpec.ofChange recordSpoiltSpec)

/-- ITS FALSE NEIGHBOUR: 'it returns false'. Refute it at one input. -/
def recordSpoiltWrong : ChangeSpec := { name := "recordSpoilt", fn := fun _ => fun
  | [d1, d2, d3] => { results := [.lit (.bool false)], args := [d1, d2, d3] }
  | _ => none }
def RecordSpoiltWrongFalsely : Prop := recordSpoiltRow.holds Try.pinned (OpenSpec.ofChange recordSpoiltWrong)

/- THE SECOND FORM. 'bulk': how many values and letters a reading holds, each counted each time it is reached (what is shared counts as often as it is met; a slice's spare places count too). A statement '..UptoSaid' is the law's where the arguments, and the package variables that the reading takes, are together of bulk at most 1048576: NARROWER than '..Said'. Prove '..Said' where nothing that the law and all that it calls make is longer than what came in: it says more and counts as full. Else prove '..UptoSaid'. A law counts once. -/
mutual
def uptoBulk {H : Type} : DataW H → Nat
  | .lit (.string bytes) => bytes.length + 1
  | .lit _ => 1
  | .nil => 1
  | .ptr d => uptoBulk d + 1
  | .slice elems spare => uptoBulkAll elems + uptoBulkAll spare + 1
  | .agg parts => uptoBulkAll parts + 1
  | .iface _ d => uptoBulk d + 1
  | .map entries => uptoBulkEntries entries + 1
  | .held _ => 1
def uptoBulkAll {H : Type} : List (DataW H) → Nat
  | [] => 0
  | d :: r => uptoBulk d + uptoBulkAll r
def uptoBulkEntries {H : Type} : List (Lit × DataW H) → Nat
  | [] => 0
  | x :: r => uptoBulkEntry x + uptoBulkEntries r
def uptoBulkEntry {H : Type} : Lit × DataW H → Nat
  | (.string bytes, d) => bytes.length + uptoBulk d + 1
  | (_, d) => uptoBulk d + 1
 end
def uptoSmall : (H : Type) → List (DataW H) → Bool := fun _ ds => decide (uptoBulkAll ds ≤ 1048576)
def OpenSpec.upto (s : _root_.Go.ChangeSpec) : _root_.Go.OpenSpec := { _root_.Go.OpenSpec.ofChange s with cond := some uptoSmall }

/-- 'quaysidelaw22.RecordWrites', WHERE WHAT IT READS IS OF BULK AT MOST 1048576: true; the input reads as it did. -/
def recordWritesUptoRow : OpenClaim := { program := "ytnieoaadhbcjiaa", sum := "9c9bac17bc29290ea3ee4765676df9829c315ac8a4191ee3d4e587c540c54087", func := "quayside/quaysidelaw22.RecordWrites", spec := "recordWrites", apart := false, narrowed := true }
def RecordWritesUptoSaid : Prop := recordWritesUptoRow.holds Try.pinned (OpenSpec.upto recordWritesSpec)

/-- 'quaysidelaw22.RecordSums', WHERE WHAT IT READS IS OF BULK AT MOST 1048576: true; the input reads as it did. -/
def recordSumsUptoRow : OpenClaim := { program := "ytnieoaadhbcjiaa", sum := "9c9bac17bc29290ea3ee4765676df9829c315ac8a4191ee3d4e587c540c54087", func := "quayside/quaysidelaw22.RecordSums", spec := "recordSums", apart := false, narrowed := true }
def RecordSumsUptoSaid : Prop := recordSumsUptoRow.holds Try.pinned (OpenSpec.upto recordSumsSpec)

/-- 'quaysidelaw22.RecordEncodes', WHERE WHAT IT READS IS OF BULK AT MOST 1048576: true; the input reads as it did. -/
def recordEncodesUptoRow : OpenClaim := { program := "ytnieoaadhbcjiaa", sum := "9c9bac17bc29290ea3ee4765676df9829c315ac8a4191ee3d4e587c540c54087", func := "quayside/quaysidelaw22.RecordEncodes", spec := "recordEncodes", apart := false, narrowed := true }
def RecordEncodesUptoSaid : Prop := recordEncodesUptoRow.holds Try.pinned (OpenSpec.upto recordEncodesSpec)

/-- 'quaysidelaw22.RecordReads', WHERE WHAT IT READS IS OF BULK AT MOST 1048576: true; the input reads as it did. -/
def recordReadsUptoRow : OpenClaim := { program := "ytnieoaadhbcjiaa", sum := "9c9bac17bc29290ea3ee4765676df9829c315ac8a4191ee3d4e587c540c54087", func := "quayside/quaysidelaw22.RecordReads", spec := "recordReads", apart := false, narrowed := true }
def RecordReadsUptoSaid : Prop := recordReadsUptoRow.holds Try.pinned (OpenSpec.upto recordReadsSpec)

/-- 'quaysidelaw22.RecordNone', WHERE WHAT IT READS IS OF BULK AT MOST 1048576: true; the input reads as it did. -/
def recordNoneUptoRow : OpenClaim := { program := "ytnieoaadhbcjiaa", sum := "9c9bac17bc29290ea3ee4765676df9829c315ac8a4191ee3d4e587c540c54087", func := "quayside/quaysidelaw22.RecordNone", spec := "recordNone", apart := false, narrowed := true }
def RecordNoneUptoSaid : Prop := recordNoneUptoRow.holds Try.pinned (OpenSpec.upto recordNoneSpec)

/-- 'quaysidelaw22.RecordReturns', WHERE WHAT IT READS IS OF BULK AT MOST 1048576: true; the input reads as it did. -/
def recordReturnsUptoRow : OpenClaim := { program := "ytnieoaadhbcjiaa", sum := "9c9bac17bc29290ea3ee4765676df9829c315ac8a4191ee3d4e587c540c54087", func := "quayside/quaysidelaw22.RecordReturns", spec := "recordReturns", apart := false, narrowed := true }
def RecordReturnsUptoSaid : Prop := recordReturnsUptoRow.holds Try.pinned (OpenSpec.upto recordReturnsSpec)

/-- 'quaysidelaw22.RecordLarge', WHERE WHAT IT READS IS OF BULK AT MOST 1048576: true; the input reads as it did. -/
def recordLargeUptoRow : OpenClaim := { program := "ytnieoaadhbcjiaa", sum := "9c9bac17bc29290ea3ee4765676df9829c315ac8a4191ee3d4e587c540c54087", func := "quayside/quaysidelaw22.RecordLarge", spec := "recordLarge", apart := false, narrowed := true }
def RecordLargeUptoSaid : Prop := recordLargeUptoRow.holds Try.pinned (OpenSpec.upto recordLargeSpec)

/-- 'quaysidelaw22.RecordDecodes', WHERE WHAT IT READS IS OF BULK AT MOST 1048576: true; the input reads as it did. -/
def recordDecodesUptoRow : OpenClaim := { program := "ytnieoaadhbcjiaa", sum := "9c9bac17bc29290ea3ee4765676df9829c315ac8a4191ee3d4e587c540c54087", func := "quayside/quaysidelaw22.RecordDecodes", spec := "recordDecodes", apart := false, narrowed := true }
def RecordDecodesUptoSaid : Prop := recordDecodesUptoRow.holds Try.pinned (OpenSpec.upto recordDecodesSpec)

/-- 'quaysidelaw22.RecordPrefixes', WHERE WHAT IT READS IS OF BULK AT MOST 1048576: true; the input reads as it did. -/
def recordPrefixesUptoRow : OpenClaim := { program := "ytnieoaadhbcjiaa", sum := "9c9bac17bc29290ea3ee4765676df9829c315ac8a4191ee3d4e587c540c54087", func := "quayside/quaysidelaw22.RecordPrefixes", spec := "recordPrefixes", apart := false, narrowed := true }
def RecordPrefixesUptoSaid : Prop := recordPrefixesUptoRow.holds Try.pinned (OpenSpec.upto recordPrefixesSpec)

/-- 'quaysidelaw22.RecordSpoilt', WHERE WHAT IT READS IS OF BULK AT MOST 1048576: true; the input reads as it did. -/
def recordSpoiltUptoRow : OpenClaim := { program := "ytnieoaadhbcjiaa", sum := "9c9bac17bc29290ea3ee4765676df9829c315ac8a4191ee3d4e587c540c54087", func := "quayside/quaysidelaw22.RecordSpoilt", spec := "recordSpoilt", apart := false, narrowed := true }
def RecordSpoiltUptoSaid : Prop := recordSpoiltUptoRow.holds Try.pinned (OpenSpec.upto recordSpoiltSpec)

end Rows
end Go.Proofs.Ytnieoaadhbcjiaa
