/-
  DERIVED. GIVEN WITH THE SEED: THE CARDS: each row of YtjghmhcljhjmmaaDoorRows.lean that lists a variable, with what it lists TIED to the program's text (the seventh form; the later family's looks); each row that meets fmt, with fmt's text TOLD by the authors' own Lean function (tested against real Go, not proved from fmt's source: count such statements apart). THE CARD IS WHAT COUNTS. Prove the row's statement (the work); the ties are given (YtjghmhcljhjmmaaDoorTie.lean); close each card by the builder's one call (the guide's Derived/Test/ToyasCard.lean, 'card_holds'). Laid BY PROGRAM, IN A SANDBOX (cutbox-door.mjs). By AI agents, Wed Nov 11 2026. No macro, syntax, notation, axiom, sorry.
-/
import Derived.Test.YtjghmhcljhjmmaaDoorRows
import GoSem.ClaimSeven
namespace Go.Proofs.YtjghmhcljhjmmaaDoor
namespace Rows

/-- THE TIED CARD OF 'quaysidelaw48.DigestSums'. -/
def digestSumsCard : Claim7 := { stood := { row := digestSumsRow, standIns := [], harness := (true, "1fdc2bfd9a91010b8a586b451085b75cc4f5d3deb11a06fa69e349267a4ab7f0"), looks := true }, kinds := [], alts := [], laidByText := true, laidKinds := [.data], laidTests := true, laidLooks := .later }
def DigestSumsCardSaid : Prop := Claim7.holds Tryd.pinned (.plain (OpenSpec.ofChange digestSumsSpec)) digestSumsCard

/-- THE TIED CARD OF 'quaysidelaw48.DigestLengths'. -/
def digestLengthsCard : Claim7 := { stood := { row := digestLengthsRow, standIns := [], harness := (true, "1fdc2bfd9a91010b8a586b451085b75cc4f5d3deb11a06fa69e349267a4ab7f0"), looks := true }, kinds := [], alts := [], laidByText := true, laidKinds := [.data], laidTests := true, laidLooks := .later }
def DigestLengthsCardSaid : Prop := Claim7.holds Tryd.pinned (.plain (OpenSpec.ofChange digestLengthsSpec)) digestLengthsCard

/-- THE TIED CARD OF 'quaysidelaw48.DigestParts'. -/
def digestPartsCard : Claim7 := { stood := { row := digestPartsRow, standIns := [], harness := (true, "1fdc2bfd9a91010b8a586b451085b75cc4f5d3deb11a06fa69e349267a4ab7f0"), looks := true }, kinds := [], alts := [], laidByText := true, laidKinds := [.data], laidTests := true, laidLooks := .later }
def DigestPartsCardSaid : Prop := Claim7.holds Tryd.pinned (.plain (OpenSpec.ofChange digestPartsSpec)) digestPartsCard

/-- THE TIED CARD OF 'quaysidelaw48.DigestHmacs'. -/
def digestHmacsCard : Claim7 := { stood := { row := digestHmacsRow, standIns := [], harness := (true, "1fdc2bfd9a91010b8a586b451085b75cc4f5d3deb11a06fa69e349267a4ab7f0"), looks := true }, kinds := [], alts := [], laidByText := true, laidKinds := [.data], laidTests := true, laidLooks := .later }
def DigestHmacsCardSaid : Prop := Claim7.holds Tryd.pinned (.plain (OpenSpec.ofChange digestHmacsSpec)) digestHmacsCard

/-- THE TIED CARD OF 'quaysidelaw48.DigestKeys'. -/
def digestKeysCard : Claim7 := { stood := { row := digestKeysRow, standIns := [], harness := (true, "1fdc2bfd9a91010b8a586b451085b75cc4f5d3deb11a06fa69e349267a4ab7f0"), looks := true }, kinds := [], alts := [], laidByText := true, laidKinds := [.data], laidTests := true, laidLooks := .later }
def DigestKeysCardSaid : Prop := Claim7.holds Tryd.pinned (.plain (OpenSpec.ofChange digestKeysSpec)) digestKeysCard

/-- THE TIED CARD OF 'quaysidelaw48.DigestHex'. -/
def digestHexCard : Claim7 := { stood := { row := digestHexRow, standIns := [], harness := (true, "1fdc2bfd9a91010b8a586b451085b75cc4f5d3deb11a06fa69e349267a4ab7f0"), looks := true }, kinds := [], alts := [], laidByText := true, laidKinds := [.data], laidTests := true, laidLooks := .later }
def DigestHexCardSaid : Prop := Claim7.holds Tryd.pinned (.plain (OpenSpec.ofChange digestHexSpec)) digestHexCard

/-- THE TIED CARD OF 'quaysidelaw48.DigestUnhex'. -/
def digestUnhexCard : Claim7 := { stood := { row := digestUnhexRow, standIns := [], harness := (true, "1fdc2bfd9a91010b8a586b451085b75cc4f5d3deb11a06fa69e349267a4ab7f0"), looks := true }, kinds := [], alts := [], laidByText := true, laidKinds := [.data], laidTests := true, laidLooks := .later }
def DigestUnhexCardSaid : Prop := Claim7.holds Tryd.pinned (.plain (OpenSpec.ofChange digestUnhexSpec)) digestUnhexCard

/-- THE TIED CARD OF 'quaysidelaw48.DigestEqual'. -/
def digestEqualCard : Claim7 := { stood := { row := digestEqualRow, standIns := [], harness := (true, "1fdc2bfd9a91010b8a586b451085b75cc4f5d3deb11a06fa69e349267a4ab7f0"), looks := true }, kinds := [], alts := [], laidByText := true, laidKinds := [.data], laidTests := true, laidLooks := .later }
def DigestEqualCardSaid : Prop := Claim7.holds Tryd.pinned (.plain (OpenSpec.ofChange digestEqualSpec)) digestEqualCard

/-- THE SECOND FORM's CARD OF 'quaysidelaw48.DigestSums'. -/
def digestSumsUptoCard : Claim7 := { stood := { row := digestSumsUptoRow, standIns := [], harness := (true, "1fdc2bfd9a91010b8a586b451085b75cc4f5d3deb11a06fa69e349267a4ab7f0"), looks := true }, kinds := [], alts := [], laidByText := true, laidKinds := [.data], laidTests := true, laidLooks := .later }
def DigestSumsUptoCardSaid : Prop := Claim7.holds Tryd.pinned (.plain (OpenSpec.upto digestSumsSpec)) digestSumsUptoCard

/-- THE SECOND FORM's CARD OF 'quaysidelaw48.DigestLengths'. -/
def digestLengthsUptoCard : Claim7 := { stood := { row := digestLengthsUptoRow, standIns := [], harness := (true, "1fdc2bfd9a91010b8a586b451085b75cc4f5d3deb11a06fa69e349267a4ab7f0"), looks := true }, kinds := [], alts := [], laidByText := true, laidKinds := [.data], laidTests := true, laidLooks := .later }
def DigestLengthsUptoCardSaid : Prop := Claim7.holds Tryd.pinned (.plain (OpenSpec.upto digestLengthsSpec)) digestLengthsUptoCard

/-- THE SECOND FORM's CARD OF 'quaysidelaw48.DigestParts'. -/
def digestPartsUptoCard : Claim7 := { stood := { row := digestPartsUptoRow, standIns := [], harness := (true, "1fdc2bfd9a91010b8a586b451085b75cc4f5d3deb11a06fa69e349267a4ab7f0"), looks := true }, kinds := [], alts := [], laidByText := true, laidKinds := [.data], laidTests := true, laidLooks := .later }
def DigestPartsUptoCardSaid : Prop := Claim7.holds Tryd.pinned (.plain (OpenSpec.upto digestPartsSpec)) digestPartsUptoCard

/-- THE SECOND FORM's CARD OF 'quaysidelaw48.DigestHmacs'. -/
def digestHmacsUptoCard : Claim7 := { stood := { row := digestHmacsUptoRow, standIns := [], harness := (true, "1fdc2bfd9a91010b8a586b451085b75cc4f5d3deb11a06fa69e349267a4ab7f0"), looks := true }, kinds := [], alts := [], laidByText := true, laidKinds := [.data], laidTests := true, laidLooks := .later }
def DigestHmacsUptoCardSaid : Prop := Claim7.holds Tryd.pinned (.plain (OpenSpec.upto digestHmacsSpec)) digestHmacsUptoCard

/-- THE SECOND FORM's CARD OF 'quaysidelaw48.DigestKeys'. -/
def digestKeysUptoCard : Claim7 := { stood := { row := digestKeysUptoRow, standIns := [], harness := (true, "1fdc2bfd9a91010b8a586b451085b75cc4f5d3deb11a06fa69e349267a4ab7f0"), looks := true }, kinds := [], alts := [], laidByText := true, laidKinds := [.data], laidTests := true, laidLooks := .later }
def DigestKeysUptoCardSaid : Prop := Claim7.holds Tryd.pinned (.plain (OpenSpec.upto digestKeysSpec)) digestKeysUptoCard

/-- THE SECOND FORM's CARD OF 'quaysidelaw48.DigestHex'. -/
def digestHexUptoCard : Claim7 := { stood := { row := digestHexUptoRow, standIns := [], harness := (true, "1fdc2bfd9a91010b8a586b451085b75cc4f5d3deb11a06fa69e349267a4ab7f0"), looks := true }, kinds := [], alts := [], laidByText := true, laidKinds := [.data], laidTests := true, laidLooks := .later }
def DigestHexUptoCardSaid : Prop := Claim7.holds Tryd.pinned (.plain (OpenSpec.upto digestHexSpec)) digestHexUptoCard

/-- THE SECOND FORM's CARD OF 'quaysidelaw48.DigestUnhex'. -/
def digestUnhexUptoCard : Claim7 := { stood := { row := digestUnhexUptoRow, standIns := [], harness := (true, "1fdc2bfd9a91010b8a586b451085b75cc4f5d3deb11a06fa69e349267a4ab7f0"), looks := true }, kinds := [], alts := [], laidByText := true, laidKinds := [.data], laidTests := true, laidLooks := .later }
def DigestUnhexUptoCardSaid : Prop := Claim7.holds Tryd.pinned (.plain (OpenSpec.upto digestUnhexSpec)) digestUnhexUptoCard

/-- THE SECOND FORM's CARD OF 'quaysidelaw48.DigestEqual'. -/
def digestEqualUptoCard : Claim7 := { stood := { row := digestEqualUptoRow, standIns := [], harness := (true, "1fdc2bfd9a91010b8a586b451085b75cc4f5d3deb11a06fa69e349267a4ab7f0"), looks := true }, kinds := [], alts := [], laidByText := true, laidKinds := [.data], laidTests := true, laidLooks := .later }
def DigestEqualUptoCardSaid : Prop := Claim7.holds Tryd.pinned (.plain (OpenSpec.upto digestEqualSpec)) digestEqualUptoCard
end Rows
end Go.Proofs.YtjghmhcljhjmmaaDoor
