/-
  NARROWER THAN 'FOR EVERY INPUT', by the rows' own cells (each row's printed sentence says how): DigestSums: laid · DigestLengths: laid · DigestParts: laid · DigestHmacs: laid · DigestKeys: laid · DigestHex: laid · DigestUnhex: laid · DigestEqual: laid.
  DERIVED. THE GIVEN ROWS OF THIS SEAT. 8 by the template 'for every input the law returns true; each argument reads behind the call as it read before'; 0 by the template 'total and deterministic' (their statements: YtjghmhcljhjmmaaDoorTotals.lean).
  GIVEN WITH THE SEED: the statements are not yours to turn. If you find one false, say at which input.
  Laid BY PROGRAM, IN A SANDBOX (cutbox-rows.mjs): the forced cells as the released guide's own fill.sh prints them over the translation 42232e8d31e1a809… (all of the seat's roots in one cut). By AI agents, Wed Nov 11 2026. No macro, syntax, notation, axiom, sorry.
-/
import Derived.Test.YtjghmhcljhjmmaaDoorChecked
import GoSem.Claim
import GoSem.ClaimJoined
import GoSem.ClaimMapViews
import Derived.JoinedTies
import Derived.KernelRfl
namespace Go.Proofs.YtjghmhcljhjmmaaDoor
/- THE CELL 'sum', in the pinned program and in every row, IS THE sha256 OF THE DUMP (.gsa) THAT YtjghmhcljhjmmaaDoorProg.lean LOADS. Nothing in Lean hashes anything: it is a label: what it is worth is what the hold of that sum in a sandbox is worth. -/
noncomputable def Tryd.pinned : Pinned := { name := "ytjghmhcljhjmmaadoor", sum := "42232e8d31e1a80911b891dfbf29123120f9fdda11158ab449c16ea5cb0525e4", checked := Tryd.checked }
namespace Rows
def none {H : Type} : Left H := { results := [], args := [] }

/- WHAT THE LISTED PACKAGE-LEVEL VARIABLES READ AS WHEN THE CALL BEGINS. Each datum BY PROGRAM (the guide's laid-datum.mjs) off the statement by which the dump's own 'gosem.cut.vars' lays the variable. In a bare row this is a premise. The card (YtjghmhcljhjmmaaDoorCards.lean) ties it to the program's text. -/
def laid_quayside_digest_constants {H : Type} : DataW H := .agg [.lit (.int .u32 1116352408), .lit (.int .u32 1899447441), .lit (.int .u32 3049323471), .lit (.int .u32 3921009573), .lit (.int .u32 961987163), .lit (.int .u32 1508970993), .lit (.int .u32 2453635748), .lit (.int .u32 2870763221), .lit (.int .u32 3624381080), .lit (.int .u32 310598401), .lit (.int .u32 607225278), .lit (.int .u32 1426881987), .lit (.int .u32 1925078388), .lit (.int .u32 2162078206), .lit (.int .u32 2614888103), .lit (.int .u32 3248222580), .lit (.int .u32 3835390401), .lit (.int .u32 4022224774), .lit (.int .u32 264347078), .lit (.int .u32 604807628), .lit (.int .u32 770255983), .lit (.int .u32 1249150122), .lit (.int .u32 1555081692), .lit (.int .u32 1996064986), .lit (.int .u32 2554220882), .lit (.int .u32 2821834349), .lit (.int .u32 2952996808), .lit (.int .u32 3210313671), .lit (.int .u32 3336571891), .lit (.int .u32 3584528711), .lit (.int .u32 113926993), .lit (.int .u32 338241895), .lit (.int .u32 666307205), .lit (.int .u32 773529912), .lit (.int .u32 1294757372), .lit (.int .u32 1396182291), .lit (.int .u32 1695183700), .lit (.int .u32 1986661051), .lit (.int .u32 2177026350), .lit (.int .u32 2456956037), .lit (.int .u32 2730485921), .lit (.int .u32 2820302411), .lit (.int .u32 3259730800), .lit (.int .u32 3345764771), .lit (.int .u32 3516065817), .lit (.int .u32 3600352804), .lit (.int .u32 4094571909), .lit (.int .u32 275423344), .lit (.int .u32 430227734), .lit (.int .u32 506948616), .lit (.int .u32 659060556), .lit (.int .u32 883997877), .lit (.int .u32 958139571), .lit (.int .u32 1322822218), .lit (.int .u32 1537002063), .lit (.int .u32 1747873779), .lit (.int .u32 1955562222), .lit (.int .u32 2024104815), .lit (.int .u32 2227730452), .lit (.int .u32 2361852424), .lit (.int .u32 2428436474), .lit (.int .u32 2756734187), .lit (.int .u32 3204031479), .lit (.int .u32 3329325298)]

/-- 'quaysidelaw48.DigestSums': WHATEVER THE INPUT: true; the input reads as it did. -/
def digestSumsSpec : ChangeSpec := { name := "digestSums", fn := fun _ => fun
  | [d] => { results := [.lit (.bool true)], args := [d] }
  | _ => none }
def digestSumsRow : OpenClaim := { program := "ytjghmhcljhjmmaadoor", sum := "42232e8d31e1a80911b891dfbf29123120f9fdda11158ab449c16ea5cb0525e4", func := "quayside/quaysidelaw48.DigestSums", spec := "digestSums", named := ["quayside/digest.constants"], apart := false, laid := [("quayside/digest.constants", laid_quayside_digest_constants)] }
def DigestSumsSaid : Prop := digestSumsRow.holds Tryd.pinned (OpenSpec.ofChange digestSumsSpec)

/-- ITS FALSE NEIGHBOUR: 'it returns false'. Refute it at one input. -/
def digestSumsWrong : ChangeSpec := { name := "digestSums", fn := fun _ => fun
  | [d] => { results := [.lit (.bool false)], args := [d] }
  | _ => none }
def DigestSumsWrongFalsely : Prop := digestSumsRow.holds Tryd.pinned (OpenSpec.ofChange digestSumsWrong)

/-- 'quaysidelaw48.DigestLengths': WHATEVER THE INPUT: true; the input reads as it did. -/
def digestLengthsSpec : ChangeSpec := { name := "digestLengths", fn := fun _ => fun
  | [d1, d2] => { results := [.lit (.bool true)], args := [d1, d2] }
  | _ => none }
def digestLengthsRow : OpenClaim := { program := "ytjghmhcljhjmmaadoor", sum := "42232e8d31e1a80911b891dfbf29123120f9fdda11158ab449c16ea5cb0525e4", func := "quayside/quaysidelaw48.DigestLengths", spec := "digestLengths", named := ["quayside/digest.constants"], apart := false, laid := [("quayside/digest.constants", laid_quayside_digest_constants)] }
def DigestLengthsSaid : Prop := digestLengthsRow.holds Tryd.pinned (OpenSpec.ofChange digestLengthsSpec)

/-- ITS FALSE NEIGHBOUR: 'it returns false'. Refute it at one input. -/
def digestLengthsWrong : ChangeSpec := { name := "digestLengths", fn := fun _ => fun
  | [d1, d2] => { results := [.lit (.bool false)], args := [d1, d2] }
  | _ => none }
def DigestLengthsWrongFalsely : Prop := digestLengthsRow.holds Tryd.pinned (OpenSpec.ofChange digestLengthsWrong)

/-- 'quaysidelaw48.DigestParts': WHATEVER THE INPUT: true; the input reads as it did. -/
def digestPartsSpec : ChangeSpec := { name := "digestParts", fn := fun _ => fun
  | [d1, d2] => { results := [.lit (.bool true)], args := [d1, d2] }
  | _ => none }
def digestPartsRow : OpenClaim := { program := "ytjghmhcljhjmmaadoor", sum := "42232e8d31e1a80911b891dfbf29123120f9fdda11158ab449c16ea5cb0525e4", func := "quayside/quaysidelaw48.DigestParts", spec := "digestParts", named := ["quayside/digest.constants"], apart := false, laid := [("quayside/digest.constants", laid_quayside_digest_constants)] }
def DigestPartsSaid : Prop := digestPartsRow.holds Tryd.pinned (OpenSpec.ofChange digestPartsSpec)

/-- ITS FALSE NEIGHBOUR: 'it returns false'. Refute it at one input. -/
def digestPartsWrong : ChangeSpec := { name := "digestParts", fn := fun _ => fun
  | [d1, d2] => { results := [.lit (.bool false)], args := [d1, d2] }
  | _ => none }
def DigestPartsWrongFalsely : Prop := digestPartsRow.holds Tryd.pinned (OpenSpec.ofChange digestPartsWrong)

/-- 'quaysidelaw48.DigestHmacs': WHATEVER THE INPUT: true; the input reads as it did. -/
def digestHmacsSpec : ChangeSpec := { name := "digestHmacs", fn := fun _ => fun
  | [d1, d2] => { results := [.lit (.bool true)], args := [d1, d2] }
  | _ => none }
def digestHmacsRow : OpenClaim := { program := "ytjghmhcljhjmmaadoor", sum := "42232e8d31e1a80911b891dfbf29123120f9fdda11158ab449c16ea5cb0525e4", func := "quayside/quaysidelaw48.DigestHmacs", spec := "digestHmacs", named := ["quayside/digest.constants"], apart := false, laid := [("quayside/digest.constants", laid_quayside_digest_constants)] }
def DigestHmacsSaid : Prop := digestHmacsRow.holds Tryd.pinned (OpenSpec.ofChange digestHmacsSpec)

/-- ITS FALSE NEIGHBOUR: 'it returns false'. Refute it at one input. -/
def digestHmacsWrong : ChangeSpec := { name := "digestHmacs", fn := fun _ => fun
  | [d1, d2] => { results := [.lit (.bool false)], args := [d1, d2] }
  | _ => none }
def DigestHmacsWrongFalsely : Prop := digestHmacsRow.holds Tryd.pinned (OpenSpec.ofChange digestHmacsWrong)

/-- 'quaysidelaw48.DigestKeys': WHATEVER THE INPUT: true; the input reads as it did. -/
def digestKeysSpec : ChangeSpec := { name := "digestKeys", fn := fun _ => fun
  | [d1, d2, d3] => { results := [.lit (.bool true)], args := [d1, d2, d3] }
  | _ => none }
def digestKeysRow : OpenClaim := { program := "ytjghmhcljhjmmaadoor", sum := "42232e8d31e1a80911b891dfbf29123120f9fdda11158ab449c16ea5cb0525e4", func := "quayside/quaysidelaw48.DigestKeys", spec := "digestKeys", named := ["quayside/digest.constants"], apart := false, laid := [("quayside/digest.constants", laid_quayside_digest_constants)] }
def DigestKeysSaid : Prop := digestKeysRow.holds Tryd.pinned (OpenSpec.ofChange digestKeysSpec)

/-- ITS FALSE NEIGHBOUR: 'it returns false'. Refute it at one input. -/
def digestKeysWrong : ChangeSpec := { name := "digestKeys", fn := fun _ => fun
  | [d1, d2, d3] => { results := [.lit (.bool false)], args := [d1, d2, d3] }
  | _ => none }
def DigestKeysWrongFalsely : Prop := digestKeysRow.holds Tryd.pinned (OpenSpec.ofChange digestKeysWrong)

/-- 'quaysidelaw48.DigestHex': WHATEVER THE INPUT: true; the input reads as it did. -/
def digestHexSpec : ChangeSpec := { name := "digestHex", fn := fun _ => fun
  | [d] => { results := [.lit (.bool true)], args := [d] }
  | _ => none }
def digestHexRow : OpenClaim := { program := "ytjghmhcljhjmmaadoor", sum := "42232e8d31e1a80911b891dfbf29123120f9fdda11158ab449c16ea5cb0525e4", func := "quayside/quaysidelaw48.DigestHex", spec := "digestHex", inPlace := ["internal/bytealg.IndexByte"], named := ["quayside/digest.constants"], apart := false, laid := [("quayside/digest.constants", laid_quayside_digest_constants)] }
def DigestHexSaid : Prop := digestHexRow.holds Tryd.pinned (OpenSpec.ofChange digestHexSpec)

/-- ITS FALSE NEIGHBOUR: 'it returns false'. Refute it at one input. -/
def digestHexWrong : ChangeSpec := { name := "digestHex", fn := fun _ => fun
  | [d] => { results := [.lit (.bool false)], args := [d] }
  | _ => none }
def DigestHexWrongFalsely : Prop := digestHexRow.holds Tryd.pinned (OpenSpec.ofChange digestHexWrong)

/-- 'quaysidelaw48.DigestUnhex': WHATEVER THE INPUT: true; the input reads as it did. -/
def digestUnhexSpec : ChangeSpec := { name := "digestUnhex", fn := fun _ => fun
  | [d] => { results := [.lit (.bool true)], args := [d] }
  | _ => none }
def digestUnhexRow : OpenClaim := { program := "ytjghmhcljhjmmaadoor", sum := "42232e8d31e1a80911b891dfbf29123120f9fdda11158ab449c16ea5cb0525e4", func := "quayside/quaysidelaw48.DigestUnhex", spec := "digestUnhex", inPlace := ["internal/bytealg.IndexByte"], named := ["quayside/digest.constants"], apart := false, laid := [("quayside/digest.constants", laid_quayside_digest_constants)] }
def DigestUnhexSaid : Prop := digestUnhexRow.holds Tryd.pinned (OpenSpec.ofChange digestUnhexSpec)

/-- ITS FALSE NEIGHBOUR: 'it returns false'. Refute it at one input. -/
def digestUnhexWrong : ChangeSpec := { name := "digestUnhex", fn := fun _ => fun
  | [d] => { results := [.lit (.bool false)], args := [d] }
  | _ => none }
def DigestUnhexWrongFalsely : Prop := digestUnhexRow.holds Tryd.pinned (OpenSpec.ofChange digestUnhexWrong)

/-- 'quaysidelaw48.DigestEqual': WHATEVER THE INPUT: true; the input reads as it did. -/
def digestEqualSpec : ChangeSpec := { name := "digestEqual", fn := fun _ => fun
  | [d1, d2, d3] => { results := [.lit (.bool true)], args := [d1, d2, d3] }
  | _ => none }
def digestEqualRow : OpenClaim := { program := "ytjghmhcljhjmmaadoor", sum := "42232e8d31e1a80911b891dfbf29123120f9fdda11158ab449c16ea5cb0525e4", func := "quayside/quaysidelaw48.DigestEqual", spec := "digestEqual", named := ["quayside/digest.constants"], apart := false, laid := [("quayside/digest.constants", laid_quayside_digest_constants)] }
def DigestEqualSaid : Prop := digestEqualRow.holds Tryd.pinned (OpenSpec.ofChange digestEqualSpec)

/-- ITS FALSE NEIGHBOUR: 'it returns false'. Refute it at one input. -/
def digestEqualWrong : ChangeSpec := { name := "digestEqual", fn := fun _ => fun
  | [d1, d2, d3] => { results := [.lit (.bool false)], args := [d1, d2, d3] }
  | _ => none }
def DigestEqualWrongFalsely : Prop := digestEqualRow.holds Tryd.pinned (OpenSpec.ofChange digestEqualWrong)

/- THE SECOND FORM. 'bulk': how many values and letters a reading holds, each counted each time it is reached (what is shared counts as often as it is met; a slice's spare places count too). A statement '..UptoSaid' is the law's where the arguments, and the package variables that the reading takes, are together of bulk at most 1048576: NARROWER than '..Said'. Prove '..Said' where nothing that the law and all that it calls make is longer than what came in: it says more and counts as full. Else prove '..UptoSaid'. A law counts once. -/
mutual
def uptoBulk {H : Type} : DataW H → Nat
  | .lit (.string bytes) => bytes.length + 1
  | .lit _ => 1
  | .nil => 1
  | .ptr d => uptoBulk d + 1
  | .slice elems spare => uptoBulkAll elems + uptoBulkAll spare + 1
  | .agg parts => uptoBulkAll parts + 1
  | .iface _ d => uptoBulk d + 1
  | .map entries => uptoBulkEntries entries + 1
  | .held _ => 1
def uptoBulkAll {H : Type} : List (DataW H) → Nat
  | [] => 0
  | d :: r => uptoBulk d + uptoBulkAll r
def uptoBulkEntries {H : Type} : List (Lit × DataW H) → Nat
  | [] => 0
  | x :: r => uptoBulkEntry x + uptoBulkEntries r
def uptoBulkEntry {H : Type} : Lit × DataW H → Nat
  | (.string bytes, d) => bytes.length + uptoBulk d + 1
  | (_, d) => uptoBulk d + 1
 end
def uptoSmall : (H : Type) → List (DataW H) → Bool := fun _ ds => decide (uptoBulkAll ds ≤ 1048576)
def OpenSpec.upto (s : _root_.Go.ChangeSpec) : _root_.Go.OpenSpec := { _root_.Go.OpenSpec.ofChange s with cond := some uptoSmall }

/-- 'quaysidelaw48.DigestSums', WHERE WHAT IT READS IS OF BULK AT MOST 1048576: true; the input reads as it did. -/
def digestSumsUptoRow : OpenClaim := { program := "ytjghmhcljhjmmaadoor", sum := "42232e8d31e1a80911b891dfbf29123120f9fdda11158ab449c16ea5cb0525e4", func := "quayside/quaysidelaw48.DigestSums", spec := "digestSums", named := ["quayside/digest.constants"], apart := false, laid := [("quayside/digest.constants", laid_quayside_digest_constants)], narrowed := true }
def DigestSumsUptoSaid : Prop := digestSumsUptoRow.holds Tryd.pinned (OpenSpec.upto digestSumsSpec)

/-- 'quaysidelaw48.DigestLengths', WHERE WHAT IT READS IS OF BULK AT MOST 1048576: true; the input reads as it did. -/
def digestLengthsUptoRow : OpenClaim := { program := "ytjghmhcljhjmmaadoor", sum := "42232e8d31e1a80911b891dfbf29123120f9fdda11158ab449c16ea5cb0525e4", func := "quayside/quaysidelaw48.DigestLengths", spec := "digestLengths", named := ["quayside/digest.constants"], apart := false, laid := [("quayside/digest.constants", laid_quayside_digest_constants)], narrowed := true }
def DigestLengthsUptoSaid : Prop := digestLengthsUptoRow.holds Tryd.pinned (OpenSpec.upto digestLengthsSpec)

/-- 'quaysidelaw48.DigestParts', WHERE WHAT IT READS IS OF BULK AT MOST 1048576: true; the input reads as it did. -/
def digestPartsUptoRow : OpenClaim := { program := "ytjghmhcljhjmmaadoor", sum := "42232e8d31e1a80911b891dfbf29123120f9fdda11158ab449c16ea5cb0525e4", func := "quayside/quaysidelaw48.DigestParts", spec := "digestParts", named := ["quayside/digest.constants"], apart := false, laid := [("quayside/digest.constants", laid_quayside_digest_constants)], narrowed := true }
def DigestPartsUptoSaid : Prop := digestPartsUptoRow.holds Tryd.pinned (OpenSpec.upto digestPartsSpec)

/-- 'quaysidelaw48.DigestHmacs', WHERE WHAT IT READS IS OF BULK AT MOST 1048576: true; the input reads as it did. -/
def digestHmacsUptoRow : OpenClaim := { program := "ytjghmhcljhjmmaadoor", sum := "42232e8d31e1a80911b891dfbf29123120f9fdda11158ab449c16ea5cb0525e4", func := "quayside/quaysidelaw48.DigestHmacs", spec := "digestHmacs", named := ["quayside/digest.constants"], apart := false, laid := [("quayside/digest.constants", laid_quayside_digest_constants)], narrowed := true }
def DigestHmacsUptoSaid : Prop := digestHmacsUptoRow.holds Tryd.pinned (OpenSpec.upto digestHmacsSpec)

/-- 'quaysidelaw48.DigestKeys', WHERE WHAT IT READS IS OF BULK AT MOST 1048576: true; the input reads as it did. -/
def digestKeysUptoRow : OpenClaim := { program := "ytjghmhcljhjmmaadoor", sum := "42232e8d31e1a80911b891dfbf29123120f9fdda11158ab449c16ea5cb0525e4", func := "quayside/quaysidelaw48.DigestKeys", spec := "digestKeys", named := ["quayside/digest.constants"], apart := false, laid := [("quayside/digest.constants", laid_quayside_digest_constants)], narrowed := true }
def DigestKeysUptoSaid : Prop := digestKeysUptoRow.holds Tryd.pinned (OpenSpec.upto digestKeysSpec)

/-- 'quaysidelaw48.DigestHex', WHERE WHAT IT READS IS OF BULK AT MOST 1048576: true; the input reads as it did. -/
def digestHexUptoRow : OpenClaim := { program := "ytjghmhcljhjmmaadoor", sum := "42232e8d31e1a80911b891dfbf29123120f9fdda11158ab449c16ea5cb0525e4", func := "quayside/quaysidelaw48.DigestHex", spec := "digestHex", inPlace := ["internal/bytealg.IndexByte"], named := ["quayside/digest.constants"], apart := false, laid := [("quayside/digest.constants", laid_quayside_digest_constants)], narrowed := true }
def DigestHexUptoSaid : Prop := digestHexUptoRow.holds Tryd.pinned (OpenSpec.upto digestHexSpec)

/-- 'quaysidelaw48.DigestUnhex', WHERE WHAT IT READS IS OF BULK AT MOST 1048576: true; the input reads as it did. -/
def digestUnhexUptoRow : OpenClaim := { program := "ytjghmhcljhjmmaadoor", sum := "42232e8d31e1a80911b891dfbf29123120f9fdda11158ab449c16ea5cb0525e4", func := "quayside/quaysidelaw48.DigestUnhex", spec := "digestUnhex", inPlace := ["internal/bytealg.IndexByte"], named := ["quayside/digest.constants"], apart := false, laid := [("quayside/digest.constants", laid_quayside_digest_constants)], narrowed := true }
def DigestUnhexUptoSaid : Prop := digestUnhexUptoRow.holds Tryd.pinned (OpenSpec.upto digestUnhexSpec)

/-- 'quaysidelaw48.DigestEqual', WHERE WHAT IT READS IS OF BULK AT MOST 1048576: true; the input reads as it did. -/
def digestEqualUptoRow : OpenClaim := { program := "ytjghmhcljhjmmaadoor", sum := "42232e8d31e1a80911b891dfbf29123120f9fdda11158ab449c16ea5cb0525e4", func := "quayside/quaysidelaw48.DigestEqual", spec := "digestEqual", named := ["quayside/digest.constants"], apart := false, laid := [("quayside/digest.constants", laid_quayside_digest_constants)], narrowed := true }
def DigestEqualUptoSaid : Prop := digestEqualUptoRow.holds Tryd.pinned (OpenSpec.upto digestEqualSpec)

end Rows
end Go.Proofs.YtjghmhcljhjmmaaDoor
