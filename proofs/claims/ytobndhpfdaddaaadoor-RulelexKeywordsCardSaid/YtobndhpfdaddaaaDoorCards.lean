/-
  DERIVED. GIVEN WITH THE SEED: THE CARDS: each row of YtobndhpfdaddaaaDoorRows.lean that lists a variable, with what it lists TIED to the program's text (the seventh form; the later family's looks); each row that meets fmt, with fmt's text TOLD by the authors' own Lean function (tested against real Go, not proved from fmt's source: count such statements apart). THE CARD IS WHAT COUNTS. Prove the row's statement (the work); the ties are given (YtobndhpfdaddaaaDoorTie.lean); close each card by the builder's one call (the guide's Derived/Test/ToyasCard.lean, 'card_holds'). Laid BY PROGRAM, IN A SANDBOX (cutbox-door.mjs). By AI agents, Wed Nov 11 2026. No macro, syntax, notation, axiom, sorry.
-/
import Derived.Test.YtobndhpfdaddaaaDoorRows
import GoSem.ClaimSeven
namespace Go.Proofs.YtobndhpfdaddaaaDoor
namespace Rows

/-- THE TIED CARD OF 'quaysidelaw42.RulelexKeywords'. -/
def rulelexKeywordsCard : Claim7 := { stood := { row := rulelexKeywordsRow, standIns := [], harness := (true, "1a9627df9c7892f22d929cc90abc3854f6163334be935d652e6cb08538ec64c0"), looks := false }, kinds := [], alts := [], laidByText := true, laidKinds := [.widerDeep], laidTests := true, laidLooks := .later }
def RulelexKeywordsCardSaid : Prop := Claim7.holds Tryd.pinned (.plain (OpenSpec.ofChange rulelexKeywordsSpec)) rulelexKeywordsCard

/-- THE SECOND FORM's CARD OF 'quaysidelaw42.RulelexKeywords'. -/
def rulelexKeywordsUptoCard : Claim7 := { stood := { row := rulelexKeywordsUptoRow, standIns := [], harness := (true, "1a9627df9c7892f22d929cc90abc3854f6163334be935d652e6cb08538ec64c0"), looks := false }, kinds := [], alts := [], laidByText := true, laidKinds := [.widerDeep], laidTests := true, laidLooks := .later }
def RulelexKeywordsUptoCardSaid : Prop := Claim7.holds Tryd.pinned (.plain (OpenSpec.upto rulelexKeywordsSpec)) rulelexKeywordsUptoCard
end Rows
end Go.Proofs.YtobndhpfdaddaaaDoor
