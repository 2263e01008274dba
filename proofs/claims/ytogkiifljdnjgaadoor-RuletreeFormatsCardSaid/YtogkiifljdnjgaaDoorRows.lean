/-
  NARROWER THAN 'FOR EVERY INPUT', by the rows' own cells (each row's printed sentence says how): RuletreeSame: laid · RuletreeParens: laid · RuletreeFormats: laid · RuletreeReturns: laid · RuletreeErrors: laid.
  DERIVED. THE GIVEN ROWS OF THIS SEAT. 5 by the template 'for every input the law returns true; each argument reads behind the call as it read before'; 0 by the template 'total and deterministic' (their statements: YtogkiifljdnjgaaDoorTotals.lean).
  GIVEN WITH THE SEED: the statements are not yours to turn. If you find one false, say at which input.
  Laid BY PROGRAM, IN A SANDBOX (cutbox-rows.mjs): the forced cells as the released guide's own fill.sh prints them over the translation 52423ba221206b02… (all of the seat's roots in one cut). By AI agents, Wed Nov 11 2026. No macro, syntax, notation, axiom, sorry.
-/
import Derived.Test.YtogkiifljdnjgaaDoorChecked
import GoSem.Claim
import GoSem.ClaimJoined
import GoSem.ClaimMapViews
import Derived.JoinedTies
import Derived.KernelRfl
namespace Go.Proofs.YtogkiifljdnjgaaDoor
/- THE CELL 'sum', in the pinned program and in every row, IS THE sha256 OF THE DUMP (.gsa) THAT YtogkiifljdnjgaaDoorProg.lean LOADS. Nothing in Lean hashes anything: it is a label: what it is worth is what the hold of that sum in a sandbox is worth. -/
noncomputable def Tryd.pinned : Pinned := { name := "ytogkiifljdnjgaadoor", sum := "52423ba221206b02ed28cfa4ca4db0d44334be8f93525ec0b4504cf0036604a7", checked := Tryd.checked }
namespace Rows
def none {H : Type} : Left H := { results := [], args := [] }

/- WHAT THE LISTED PACKAGE-LEVEL VARIABLES READ AS WHEN THE CALL BEGINS. Each datum BY PROGRAM (the guide's laid-datum.mjs) off the statement by which the dump's own 'gosem.cut.vars' lays the variable. In a bare row this is a premise. The card (YtogkiifljdnjgaaDoorCards.lean) ties it to the program's text. -/
def laid_quayside_rulelex_keywords {H : Type} : DataW H := .slice [.lit (.string [105, 102]), .lit (.string [101, 108, 115, 101]), .lit (.string [108, 101, 116]), .lit (.string [118, 97, 114, 121]), .lit (.string [116, 97, 103]), .lit (.string [116, 116, 108]), .lit (.string [100, 101, 110, 121]), .lit (.string [112, 97, 115, 115]), .lit (.string [116, 111, 107, 101, 110]), .lit (.string [111, 114]), .lit (.string [97, 110, 100]), .lit (.string [110, 111, 116]), .lit (.string [115, 116, 97, 114, 116, 115]), .lit (.string [101, 110, 100, 115]), .lit (.string [99, 111, 110, 116, 97, 105, 110, 115]), .lit (.string [116, 114, 117, 101]), .lit (.string [102, 97, 108, 115, 101])] []

/-- 'quaysidelaw43.RuletreeSame': WHATEVER THE INPUT: true; the input reads as it did. -/
def ruletreeSameSpec : ChangeSpec := { name := "ruletreeSame", fn := fun _ => fun
  | [d1, d2, d3] => { results := [.lit (.bool true)], args := [d1, d2, d3] }
  | _ => none }
def ruletreeSameRow : OpenClaim := { program := "ytogkiifljdnjgaadoor", sum := "52423ba221206b02ed28cfa4ca4db0d44334be8f93525ec0b4504cf0036604a7", func := "quayside/quaysidelaw43.RuletreeSame", spec := "ruletreeSame", recurses := true, named := ["quayside/rulelex.keywords"], apart := false, laid := [("quayside/rulelex.keywords", laid_quayside_rulelex_keywords)] }
def RuletreeSameSaid : Prop := ruletreeSameRow.holds Tryd.pinned (OpenSpec.ofChange ruletreeSameSpec)

/-- ITS FALSE NEIGHBOUR: 'it returns false'. Refute it at one input. -/
def ruletreeSameWrong : ChangeSpec := { name := "ruletreeSame", fn := fun _ => fun
  | [d1, d2, d3] => { results := [.lit (.bool false)], args := [d1, d2, d3] }
  | _ => none }
def RuletreeSameWrongFalsely : Prop := ruletreeSameRow.holds Tryd.pinned (OpenSpec.ofChange ruletreeSameWrong)

/-- 'quaysidelaw43.RuletreeParens': WHATEVER THE INPUT: true; the input reads as it did. -/
def ruletreeParensSpec : ChangeSpec := { name := "ruletreeParens", fn := fun _ => fun
  | [d] => { results := [.lit (.bool true)], args := [d] }
  | _ => none }
def ruletreeParensRow : OpenClaim := { program := "ytogkiifljdnjgaadoor", sum := "52423ba221206b02ed28cfa4ca4db0d44334be8f93525ec0b4504cf0036604a7", func := "quayside/quaysidelaw43.RuletreeParens", spec := "ruletreeParens", recurses := true, named := ["quayside/rulelex.keywords"], apart := false, laid := [("quayside/rulelex.keywords", laid_quayside_rulelex_keywords)] }
def RuletreeParensSaid : Prop := ruletreeParensRow.holds Tryd.pinned (OpenSpec.ofChange ruletreeParensSpec)

/-- ITS FALSE NEIGHBOUR: 'it returns false'. Refute it at one input. -/
def ruletreeParensWrong : ChangeSpec := { name := "ruletreeParens", fn := fun _ => fun
  | [d] => { results := [.lit (.bool false)], args := [d] }
  | _ => none }
def RuletreeParensWrongFalsely : Prop := ruletreeParensRow.holds Tryd.pinned (OpenSpec.ofChange ruletreeParensWrong)

/-- 'quaysidelaw43.RuletreeFormats': WHATEVER THE INPUT: true; the input reads as it did. -/
def ruletreeFormatsSpec : ChangeSpec := { name := "ruletreeFormats", fn := fun _ => fun
  | [d] => { results := [.lit (.bool true)], args := [d] }
  | _ => none }
def ruletreeFormatsRow : OpenClaim := { program := "ytogkiifljdnjgaadoor", sum := "52423ba221206b02ed28cfa4ca4db0d44334be8f93525ec0b4504cf0036604a7", func := "quayside/quaysidelaw43.RuletreeFormats", spec := "ruletreeFormats", inPlace := ["internal/abi.NoEscape", "internal/bytealg.MakeNoZero"], recurses := true, named := ["quayside/rulelex.keywords"], apart := false, laid := [("quayside/rulelex.keywords", laid_quayside_rulelex_keywords)] }
def RuletreeFormatsSaid : Prop := ruletreeFormatsRow.holds Tryd.pinned (OpenSpec.ofChange ruletreeFormatsSpec)

/-- ITS FALSE NEIGHBOUR: 'it returns false'. Refute it at one input. -/
def ruletreeFormatsWrong : ChangeSpec := { name := "ruletreeFormats", fn := fun _ => fun
  | [d] => { results := [.lit (.bool false)], args := [d] }
  | _ => none }
def RuletreeFormatsWrongFalsely : Prop := ruletreeFormatsRow.holds Tryd.pinned (OpenSpec.ofChange ruletreeFormatsWrong)

/-- 'quaysidelaw43.RuletreeReturns': WHATEVER THE INPUT: true; the input reads as it did. -/
def ruletreeReturnsSpec : ChangeSpec := { name := "ruletreeReturns", fn := fun _ => fun
  | [d] => { results := [.lit (.bool true)], args := [d] }
  | _ => none }
def ruletreeReturnsRow : OpenClaim := { program := "ytogkiifljdnjgaadoor", sum := "52423ba221206b02ed28cfa4ca4db0d44334be8f93525ec0b4504cf0036604a7", func := "quayside/quaysidelaw43.RuletreeReturns", spec := "ruletreeReturns", inPlace := ["internal/abi.NoEscape", "internal/bytealg.MakeNoZero"], recurses := true, named := ["quayside/rulelex.keywords"], apart := false, laid := [("quayside/rulelex.keywords", laid_quayside_rulelex_keywords)] }
def RuletreeReturnsSaid : Prop := ruletreeReturnsRow.holds Tryd.pinned (OpenSpec.ofChange ruletreeReturnsSpec)

/-- ITS FALSE NEIGHBOUR: 'it returns false'. Refute it at one input. -/
def ruletreeReturnsWrong : ChangeSpec := { name := "ruletreeReturns", fn := fun _ => fun
  | [d] => { results := [.lit (.bool false)], args := [d] }
  | _ => none }
def RuletreeReturnsWrongFalsely : Prop := ruletreeReturnsRow.holds Tryd.pinned (OpenSpec.ofChange ruletreeReturnsWrong)

/-- 'quaysidelaw43.RuletreeErrors': WHATEVER THE INPUT: true; the input reads as it did. -/
def ruletreeErrorsSpec : ChangeSpec := { name := "ruletreeErrors", fn := fun _ => fun
  | [d] => { results := [.lit (.bool true)], args := [d] }
  | _ => none }
def ruletreeErrorsRow : OpenClaim := { program := "ytogkiifljdnjgaadoor", sum := "52423ba221206b02ed28cfa4ca4db0d44334be8f93525ec0b4504cf0036604a7", func := "quayside/quaysidelaw43.RuletreeErrors", spec := "ruletreeErrors", inPlace := ["internal/abi.NoEscape", "internal/bytealg.MakeNoZero"], recurses := true, named := ["quayside/rulelex.keywords"], apart := false, laid := [("quayside/rulelex.keywords", laid_quayside_rulelex_keywords)] }
def RuletreeErrorsSaid : Prop := ruletreeErrorsRow.holds Tryd.pinned (OpenSpec.ofChange ruletreeErrorsSpec)

/-- ITS FALSE NEIGHBOUR: 'it returns false'. Refute it at one input. -/
def ruletreeErrorsWrong : ChangeSpec := { name := "ruletreeErrors", fn := fun _ => fun
  | [d] => { results := [.lit (.bool false)], args := [d] }
  | _ => none }
def RuletreeErrorsWrongFalsely : Prop := ruletreeErrorsRow.holds Tryd.pinned (OpenSpec.ofChange ruletreeErrorsWrong)

/- THE SECOND FORM. 'bulk': how many values and letters a reading holds, each counted each time it is reached (what is shared counts as often as it is met; a slice's spare places count too). A statement '..UptoSaid' is the law's where the arguments, and the package variables that the reading takes, are together of bulk at most 1048576: NARROWER than '..Said'. Prove '..Said' where nothing that the law and all that it calls make is longer than what came in: it says more and counts as full. Else prove '..UptoSaid'. A law counts once. -/
mutual
def uptoBulk {H : Type} : DataW H → Nat
  | .lit (.string bytes) => bytes.length + 1
  | .lit _ => 1
  | .nil => 1
  | .ptr d => uptoBulk d + 1
  | .slice elems spare => uptoBulkAll elems + uptoBulkAll spare + 1
  | .agg parts => uptoBulkAll parts + 1
  | .iface _ d => uptoBulk d + 1
  | .map entries => uptoBulkEntries entries + 1
  | .held _ => 1
def uptoBulkAll {H : Type} : List (DataW H) → Nat
  | [] => 0
  | d :: r => uptoBulk d + uptoBulkAll r
def uptoBulkEntries {H : Type} : List (Lit × DataW H) → Nat
  | [] => 0
  | x :: r => uptoBulkEntry x + uptoBulkEntries r
def uptoBulkEntry {H : Type} : Lit × DataW H → Nat
  | (.string bytes, d) => bytes.length + uptoBulk d + 1
  | (_, d) => uptoBulk d + 1
 end
def uptoSmall : (H : Type) → List (DataW H) → Bool := fun _ ds => decide (uptoBulkAll ds ≤ 1048576)
def OpenSpec.upto (s : _root_.Go.ChangeSpec) : _root_.Go.OpenSpec := { _root_.Go.OpenSpec.ofChange s with cond := some uptoSmall }

/-- 'quaysidelaw43.RuletreeSame', WHERE WHAT IT READS IS OF BULK AT MOST 1048576: true; the input reads as it did. -/
def ruletreeSameUptoRow : OpenClaim := { program := "ytogkiifljdnjgaadoor", sum := "52423ba221206b02ed28cfa4ca4db0d44334be8f93525ec0b4504cf0036604a7", func := "quayside/quaysidelaw43.RuletreeSame", spec := "ruletreeSame", recurses := true, named := ["quayside/rulelex.keywords"], apart := false, laid := [("quayside/rulelex.keywords", laid_quayside_rulelex_keywords)], narrowed := true }
def RuletreeSameUptoSaid : Prop := ruletreeSameUptoRow.holds Tryd.pinned (OpenSpec.upto ruletreeSameSpec)

/-- 'quaysidelaw43.RuletreeParens', WHERE WHAT IT READS IS OF BULK AT MOST 1048576: true; the input reads as it did. -/
def ruletreeParensUptoRow : OpenClaim := { program := "ytogkiifljdnjgaadoor", sum := "52423ba221206b02ed28cfa4ca4db0d44334be8f93525ec0b4504cf0036604a7", func := "quayside/quaysidelaw43.RuletreeParens", spec := "ruletreeParens", recurses := true, named := ["quayside/rulelex.keywords"], apart := false, laid := [("quayside/rulelex.keywords", laid_quayside_rulelex_keywords)], narrowed := true }
def RuletreeParensUptoSaid : Prop := ruletreeParensUptoRow.holds Tryd.pinned (OpenSpec.upto ruletreeParensSpec)

/-- 'quaysidelaw43.RuletreeFormats', WHERE WHAT IT READS IS OF BULK AT MOST 1048576: true; the input reads as it did. -/
def ruletreeFormatsUptoRow : OpenClaim := { program := "ytogkiifljdnjgaadoor", sum := "52423ba221206b02ed28cfa4ca4db0d44334be8f93525ec0b4504cf0036604a7", func := "quayside/quaysidelaw43.RuletreeFormats", spec := "ruletreeFormats", inPlace := ["internal/abi.NoEscape", "internal/bytealg.MakeNoZero"], recurses := true, named := ["quayside/rulelex.keywords"], apart := false, laid := [("quayside/rulelex.keywords", laid_quayside_rulelex_keywords)], narrowed := true }
def RuletreeFormatsUptoSaid : Prop := ruletreeFormatsUptoRow.holds Tryd.pinned (OpenSpec.upto ruletreeFormatsSpec)

/-- 'quaysidelaw43.RuletreeReturns', WHERE WHAT IT READS IS OF BULK AT MOST 1048576: true; the input reads as it did. -/
def ruletreeReturnsUptoRow : OpenClaim := { program := "ytogkiifljdnjgaadoor", sum := "52423ba221206b02ed28cfa4ca4db0d44334be8f93525ec0b4504cf0036604a7", func := "quayside/quaysidelaw43.RuletreeReturns", spec := "ruletreeReturns", inPlace := ["internal/abi.NoEscape", "internal/bytealg.MakeNoZero"], recurses := true, named := ["quayside/rulelex.keywords"], apart := false, laid := [("quayside/rulelex.keywords", laid_quayside_rulelex_keywords)], narrowed := true }
def RuletreeReturnsUptoSaid : Prop := ruletreeReturnsUptoRow.holds Tryd.pinned (OpenSpec.upto ruletreeReturnsSpec)

/-- 'quaysidelaw43.RuletreeErrors', WHERE WHAT IT READS IS OF BULK AT MOST 1048576: true; the input reads as it did. -/
def ruletreeErrorsUptoRow : OpenClaim := { program := "ytogkiifljdnjgaadoor", sum := "52423ba221206b02ed28cfa4ca4db0d44334be8f93525ec0b4504cf0036604a7", func := "quayside/quaysidelaw43.RuletreeErrors", spec := "ruletreeErrors", inPlace := ["internal/abi.NoEscape", "internal/bytealg.MakeNoZero"], recurses := true, named := ["quayside/rulelex.keywords"], apart := false, laid := [("quayside/rulelex.keywords", laid_quayside_rulelex_keywords)], narrowed := true }
def RuletreeErrorsUptoSaid : Prop := ruletreeErrorsUptoRow.holds Tryd.pinned (OpenSpec.upto ruletreeErrorsSpec)

end Rows
end Go.Proofs.YtogkiifljdnjgaaDoor
