/-
  NARROWER THAN 'FOR EVERY INPUT', by the rows' own cells (each row's printed sentence says how): RulelexKeywords: laid.
  DERIVED. THE GIVEN ROWS OF THIS SEAT. 1 by the template 'for every input the law returns true; each argument reads behind the call as it read before'; 0 by the template 'total and deterministic' (their statements: YtobndhpfdaddaaaDoorTotals.lean).
  GIVEN WITH THE SEED: the statements are not yours to turn. If you find one false, say at which input.
  Laid BY PROGRAM, IN A SANDBOX (cutbox-rows.mjs): the forced cells as the released guide's own fill.sh prints them over the translation 2eaf465dfa352eeb… (all of the seat's roots in one cut). By AI agents, Wed Nov 11 2026. No macro, syntax, notation, axiom, sorry.
-/
import Derived.Test.YtobndhpfdaddaaaDoorChecked
import GoSem.Claim
import GoSem.ClaimJoined
import GoSem.ClaimMapViews
import Derived.JoinedTies
import Derived.KernelRfl
namespace Go.Proofs.YtobndhpfdaddaaaDoor
/- THE CELL 'sum', in the pinned program and in every row, IS THE sha256 OF THE DUMP (.gsa) THAT YtobndhpfdaddaaaDoorProg.lean LOADS. Nothing in Lean hashes anything: it is a label: what it is worth is what the hold of that sum in a sandbox is worth. -/
noncomputable def Tryd.pinned : Pinned := { name := "ytobndhpfdaddaaadoor", sum := "2eaf465dfa352eebe06cf56176fedb2d9ac43840211984023f7bfeac3890785e", checked := Tryd.checked }
namespace Rows
def none {H : Type} : Left H := { results := [], args := [] }

/- WHAT THE LISTED PACKAGE-LEVEL VARIABLES READ AS WHEN THE CALL BEGINS. Each datum BY PROGRAM (the guide's laid-datum.mjs) off the statement by which the dump's own 'gosem.cut.vars' lays the variable. In a bare row this is a premise. The card (YtobndhpfdaddaaaDoorCards.lean) ties it to the program's text. -/
def laid_quayside_rulelex_keywords {H : Type} : DataW H := .slice [.lit (.string [105, 102]), .lit (.string [101, 108, 115, 101]), .lit (.string [108, 101, 116]), .lit (.string [118, 97, 114, 121]), .lit (.string [116, 97, 103]), .lit (.string [116, 116, 108]), .lit (.string [100, 101, 110, 121]), .lit (.string [112, 97, 115, 115]), .lit (.string [116, 111, 107, 101, 110]), .lit (.string [111, 114]), .lit (.string [97, 110, 100]), .lit (.string [110, 111, 116]), .lit (.string [115, 116, 97, 114, 116, 115]), .lit (.string [101, 110, 100, 115]), .lit (.string [99, 111, 110, 116, 97, 105, 110, 115]), .lit (.string [116, 114, 117, 101]), .lit (.string [102, 97, 108, 115, 101])] []

/-- 'quaysidelaw42.RulelexKeywords': WHATEVER THE INPUT: true; the input reads as it did. -/
def rulelexKeywordsSpec : ChangeSpec := { name := "rulelexKeywords", fn := fun _ => fun
  | [d] => { results := [.lit (.bool true)], args := [d] }
  | _ => none }
def rulelexKeywordsRow : OpenClaim := { program := "ytobndhpfdaddaaadoor", sum := "2eaf465dfa352eebe06cf56176fedb2d9ac43840211984023f7bfeac3890785e", func := "quayside/quaysidelaw42.RulelexKeywords", spec := "rulelexKeywords", named := ["quayside/rulelex.keywords"], apart := false, laid := [("quayside/rulelex.keywords", laid_quayside_rulelex_keywords)] }
def RulelexKeywordsSaid : Prop := rulelexKeywordsRow.holds Tryd.pinned (OpenSpec.ofChange rulelexKeywordsSpec)

/-- ITS FALSE NEIGHBOUR: 'it returns false'. Refute it at one input. -/
def rulelexKeywordsWrong : ChangeSpec := { name := "rulelexKeywords", fn := fun _ => fun
  | [d] => { results := [.lit (.bool false)], args := [d] }
  | _ => none }
def RulelexKeywordsWrongFalsely : Prop := rulelexKeywordsRow.holds Tryd.pinned (OpenSpec.ofChange rulelexKeywordsWrong)

/- THE SECOND FORM. 'bulk': how many values and letters a reading holds, each counted each time it is reached (what is shared counts as often as it is met; a slice's spare places count too). A statement '..UptoSaid' is the law's where the arguments, and the package variables that the reading takes, are together of bulk at most 1048576: NARROWER than '..Said'. Prove '..Said' where nothing that the law and all that it calls make is longer than what came in: it says more and counts as full. Else prove '..UptoSaid'. A law counts once. -/
mutual
def uptoBulk {H : Type} : DataW H → Nat
  | .lit (.string bytes) => bytes.length + 1
  | .lit _ => 1
  | .nil => 1
  | .ptr d => uptoBulk d + 1
  | .slice elems spare => uptoBulkAll elems + uptoBulkAll spare + 1
  | .agg parts => uptoBulkAll parts + 1
  | .iface _ d => uptoBulk d + 1
  | .map entries => uptoBulkEntries entries + 1
  | .held _ => 1
def uptoBulkAll {H : Type} : List (DataW H) → Nat
  | [] => 0
  | d :: r => uptoBulk d + uptoBulkAll r
def uptoBulkEntries {H : Type} : List (Lit × DataW H) → Nat
  | [] => 0
  | x :: r => uptoBulkEntry x + uptoBulkEntries r
def uptoBulkEntry {H : Type} : Lit × DataW H → Nat
  | (.string bytes, d) => bytes.length + uptoBulk d + 1
  | (_, d) => uptoBulk d + 1
 end
def uptoSmall : (H : Type) → List (DataW H) → Bool := fun _ ds => decide (uptoBulkAll ds ≤ 1048576)
def OpenSpec.upto (s : _root_.Go.ChangeSpec) : _root_.Go.OpenSpec := { _root_.Go.OpenSpec.ofChange s with cond := some uptoSmall }

/-- 'quaysidelaw42.RulelexKeywords', WHERE WHAT IT READS IS OF BULK AT MOST 1048576: true; the input reads as it did. -/
def rulelexKeywordsUptoRow : OpenClaim := { program := "ytobndhpfdaddaaadoor", sum := "2eaf465dfa352eebe06cf56176fedb2d9ac43840211984023f7bfeac3890785e", func := "quayside/quaysidelaw42.RulelexKeywords", spec := "rulelexKeywords", named := ["quayside/rulelex.keywords"], apart := false, laid := [("quayside/rulelex.keywords", laid_quayside_rulelex_keywords)], narrowed := true }
def RulelexKeywordsUptoSaid : Prop := rulelexKeywordsUptoRow.holds Tryd.pinned (OpenSpec.upto rulelexKeywordsSpec)

end Rows
end Go.Proofs.YtobndhpfdaddaaaDoor
