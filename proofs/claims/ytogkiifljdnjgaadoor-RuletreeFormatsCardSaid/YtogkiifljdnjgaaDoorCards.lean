/-
  DERIVED. GIVEN WITH THE SEED: THE CARDS: each row of YtogkiifljdnjgaaDoorRows.lean that lists a variable, with what it lists TIED to the program's text (the seventh form; the later family's looks); each row that meets fmt, with fmt's text TOLD by the authors' own Lean function (tested against real Go, not proved from fmt's source: count such statements apart). THE CARD IS WHAT COUNTS. Prove the row's statement (the work); the ties are given (YtogkiifljdnjgaaDoorTie.lean); close each card by the builder's one call (the guide's Derived/Test/ToyasCard.lean, 'card_holds'). Laid BY PROGRAM, IN A SANDBOX (cutbox-door.mjs). By AI agents, Wed Nov 11 2026. No macro, syntax, notation, axiom, sorry.
-/
import Derived.Test.YtogkiifljdnjgaaDoorRows
import GoSem.ClaimSeven
namespace Go.Proofs.YtogkiifljdnjgaaDoor
namespace Rows

/-- THE TIED CARD OF 'quaysidelaw43.RuletreeSame'. -/
def ruletreeSameCard : Claim7 := { stood := { row := ruletreeSameRow, standIns := [], harness := (true, "425eed628b86ba3cca79b82dd44166e968c4b8e21aad7599f041e61b666715c1"), looks := true }, kinds := [], alts := [], laidByText := true, laidKinds := [.widerDeep], laidTests := true, laidLooks := .later }
def RuletreeSameCardSaid : Prop := Claim7.holds Tryd.pinned (.plain (OpenSpec.ofChange ruletreeSameSpec)) ruletreeSameCard

/-- THE TIED CARD OF 'quaysidelaw43.RuletreeParens'. -/
def ruletreeParensCard : Claim7 := { stood := { row := ruletreeParensRow, standIns := [], harness := (true, "425eed628b86ba3cca79b82dd44166e968c4b8e21aad7599f041e61b666715c1"), looks := true }, kinds := [], alts := [], laidByText := true, laidKinds := [.widerDeep], laidTests := true, laidLooks := .later }
def RuletreeParensCardSaid : Prop := Claim7.holds Tryd.pinned (.plain (OpenSpec.ofChange ruletreeParensSpec)) ruletreeParensCard

/-- THE TIED CARD OF 'quaysidelaw43.RuletreeFormats'. -/
def ruletreeFormatsCard : Claim7 := { stood := { row := ruletreeFormatsRow, standIns := [], harness := (true, "425eed628b86ba3cca79b82dd44166e968c4b8e21aad7599f041e61b666715c1"), looks := true }, kinds := [], alts := [], laidByText := true, laidKinds := [.widerDeep], laidTests := true, laidLooks := .later }
def RuletreeFormatsCardSaid : Prop := Claim7.holds Tryd.pinned (.plain (OpenSpec.ofChange ruletreeFormatsSpec)) ruletreeFormatsCard

/-- THE TIED CARD OF 'quaysidelaw43.RuletreeReturns'. -/
def ruletreeReturnsCard : Claim7 := { stood := { row := ruletreeReturnsRow, standIns := [], harness := (true, "425eed628b86ba3cca79b82dd44166e968c4b8e21aad7599f041e61b666715c1"), looks := true }, kinds := [], alts := [], laidByText := true, laidKinds := [.widerDeep], laidTests := true, laidLooks := .later }
def RuletreeReturnsCardSaid : Prop := Claim7.holds Tryd.pinned (.plain (OpenSpec.ofChange ruletreeReturnsSpec)) ruletreeReturnsCard

/-- THE TIED CARD OF 'quaysidelaw43.RuletreeErrors'. -/
def ruletreeErrorsCard : Claim7 := { stood := { row := ruletreeErrorsRow, standIns := [], harness := (true, "425eed628b86ba3cca79b82dd44166e968c4b8e21aad7599f041e61b666715c1"), looks := true }, kinds := [], alts := [], laidByText := true, laidKinds := [.widerDeep], laidTests := true, laidLooks := .later }
def RuletreeErrorsCardSaid : Prop := Claim7.holds Tryd.pinned (.plain (OpenSpec.ofChange ruletreeErrorsSpec)) ruletreeErrorsCard

/-- THE SECOND FORM's CARD OF 'quaysidelaw43.RuletreeSame'. -/
def ruletreeSameUptoCard : Claim7 := { stood := { row := ruletreeSameUptoRow, standIns := [], harness := (true, "425eed628b86ba3cca79b82dd44166e968c4b8e21aad7599f041e61b666715c1"), looks := true }, kinds := [], alts := [], laidByText := true, laidKinds := [.widerDeep], laidTests := true, laidLooks := .later }
def RuletreeSameUptoCardSaid : Prop := Claim7.holds Tryd.pinned (.plain (OpenSpec.upto ruletreeSameSpec)) ruletreeSameUptoCard

/-- THE SECOND FORM's CARD OF 'quaysidelaw43.RuletreeParens'. -/
def ruletreeParensUptoCard : Claim7 := { stood := { row := ruletreeParensUptoRow, standIns := [], harness := (true, "425eed628b86ba3cca79b82dd44166e968c4b8e21aad7599f041e61b666715c1"), looks := true }, kinds := [], alts := [], laidByText := true, laidKinds := [.widerDeep], laidTests := true, laidLooks := .later }
def RuletreeParensUptoCardSaid : Prop := Claim7.holds Tryd.pinned (.plain (OpenSpec.upto ruletreeParensSpec)) ruletreeParensUptoCard

/-- THE SECOND FORM's CARD OF 'quaysidelaw43.RuletreeFormats'. -/
def ruletreeFormatsUptoCard : Claim7 := { stood := { row := ruletreeFormatsUptoRow, standIns := [], harness := (true, "425eed628b86ba3cca79b82dd44166e968c4b8e21aad7599f041e61b666715c1"), looks := true }, kinds := [], alts := [], laidByText := true, laidKinds := [.widerDeep], laidTests := true, laidLooks := .later }
def RuletreeFormatsUptoCardSaid : Prop := Claim7.holds Tryd.pinned (.plain (OpenSpec.upto ruletreeFormatsSpec)) ruletreeFormatsUptoCard

/-- THE SECOND FORM's CARD OF 'quaysidelaw43.RuletreeReturns'. -/
def ruletreeReturnsUptoCard : Claim7 := { stood := { row := ruletreeReturnsUptoRow, standIns := [], harness := (true, "425eed628b86ba3cca79b82dd44166e968c4b8e21aad7599f041e61b666715c1"), looks := true }, kinds := [], alts := [], laidByText := true, laidKinds := [.widerDeep], laidTests := true, laidLooks := .later }
def RuletreeReturnsUptoCardSaid : Prop := Claim7.holds Tryd.pinned (.plain (OpenSpec.upto ruletreeReturnsSpec)) ruletreeReturnsUptoCard

/-- THE SECOND FORM's CARD OF 'quaysidelaw43.RuletreeErrors'. -/
def ruletreeErrorsUptoCard : Claim7 := { stood := { row := ruletreeErrorsUptoRow, standIns := [], harness := (true, "425eed628b86ba3cca79b82dd44166e968c4b8e21aad7599f041e61b666715c1"), looks := true }, kinds := [], alts := [], laidByText := true, laidKinds := [.widerDeep], laidTests := true, laidLooks := .later }
def RuletreeErrorsUptoCardSaid : Prop := Claim7.holds Tryd.pinned (.plain (OpenSpec.upto ruletreeErrorsSpec)) ruletreeErrorsUptoCard
end Rows
end Go.Proofs.YtogkiifljdnjgaaDoor
