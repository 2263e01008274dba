/-
  No cell of these rows narrows 'for every input' (looked for: loops, veiled, ifaces, maps, wideKeys, modest, calm, conditions, laid).
  DERIVED. THE GIVEN ROWS OF THIS SEAT. 6 by the template 'for every input the law returns true; each argument reads behind the call as it read before'; 0 by the template 'total and deterministic' (their statements: YtobndhpfdaddaaaTotals.lean).
  GIVEN WITH THE SEED: the statements are not yours to turn. If you find one false, say at which input.
  Laid BY PROGRAM, IN A SANDBOX (cutbox-rows.mjs): the forced cells as the released guide's own fill.sh prints them over the translation b7579d04b96449a6… (all of the seat's roots in one cut). By AI agents, Wed Nov 11 2026. No macro, syntax, notation, axiom, sorry.
-/
import Derived.Test.YtobndhpfdaddaaaChecked
import GoSem.Claim
import GoSem.ClaimJoined
import GoSem.ClaimMapViews
import Derived.JoinedTies
import Derived.KernelRfl
namespace Go.Proofs.Ytobndhpfdaddaaa
/- THE CELL 'sum', in the pinned program and in every row, IS THE sha256 OF THE DUMP (.gsa) THAT YtobndhpfdaddaaaProg.lean LOADS. Nothing in Lean hashes anything: it is a label: what it is worth is what the hold of that sum in a sandbox is worth. -/
noncomputable def Try.pinned : Pinned := { name := "ytobndhpfdaddaaa", sum := "b7579d04b96449a6b3a0ab4a79834afbaf091bcc7570ef78509ca279851a5ab0", checked := Try.checked }
namespace Rows
def none {H : Type} : Left H := { results := [], args := [] }

/-- 'quaysidelaw42.RulelexSplits': WHATEVER THE INPUT: true; the input reads as it did. -/
def rulelexSplitsSpec : ChangeSpec := { name := "rulelexSplits", fn := fun _ => fun
  | [d] => { results := [.lit (.bool true)], args := [d] }
  | _ => none }
def rulelexSplitsRow : OpenClaim := { program := "ytobndhpfdaddaaa", sum := "b7579d04b96449a6b3a0ab4a79834afbaf091bcc7570ef78509ca279851a5ab0", func := "quayside/quaysidelaw42.RulelexSplits", spec := "rulelexSplits", apart := false }
def RulelexSplitsSaid : Prop := rulelexSplitsRow.holds Try.pinned (OpenSpec.ofChange rulelexSplitsSpec)

/-- ITS FALSE NEIGHBOUR: 'it returns false'. Refute it at one input. -/
def rulelexSplitsWrong : ChangeSpec := { name := "rulelexSplits", fn := fun _ => fun
  | [d] => { results := [.lit (.bool false)], args := [d] }
  | _ => none }
def RulelexSplitsWrongFalsely : Prop := rulelexSplitsRow.holds Try.pinned (OpenSpec.ofChange rulelexSplitsWrong)

/-- 'quaysidelaw42.RulelexNumbers': WHATEVER THE INPUT: true; the input reads as it did. -/
def rulelexNumbersSpec : ChangeSpec := { name := "rulelexNumbers", fn := fun _ => fun
  | [d1, d2] => { results := [.lit (.bool true)], args := [d1, d2] }
  | _ => none }
def rulelexNumbersRow : OpenClaim := { program := "ytobndhpfdaddaaa", sum := "b7579d04b96449a6b3a0ab4a79834afbaf091bcc7570ef78509ca279851a5ab0", func := "quayside/quaysidelaw42.RulelexNumbers", spec := "rulelexNumbers", apart := false }
def RulelexNumbersSaid : Prop := rulelexNumbersRow.holds Try.pinned (OpenSpec.ofChange rulelexNumbersSpec)

/-- ITS FALSE NEIGHBOUR: 'it returns false'. Refute it at one input. -/
def rulelexNumbersWrong : ChangeSpec := { name := "rulelexNumbers", fn := fun _ => fun
  | [d1, d2] => { results := [.lit (.bool false)], args := [d1, d2] }
  | _ => none }
def RulelexNumbersWrongFalsely : Prop := rulelexNumbersRow.holds Try.pinned (OpenSpec.ofChange rulelexNumbersWrong)

/-- 'quaysidelaw42.RulelexLimits': WHATEVER THE INPUT: true; the input reads as it did. -/
def rulelexLimitsSpec : ChangeSpec := { name := "rulelexLimits", fn := fun _ => fun
  | [d] => { results := [.lit (.bool true)], args := [d] }
  | _ => none }
def rulelexLimitsRow : OpenClaim := { program := "ytobndhpfdaddaaa", sum := "b7579d04b96449a6b3a0ab4a79834afbaf091bcc7570ef78509ca279851a5ab0", func := "quayside/quaysidelaw42.RulelexLimits", spec := "rulelexLimits", apart := false }
def RulelexLimitsSaid : Prop := rulelexLimitsRow.holds Try.pinned (OpenSpec.ofChange rulelexLimitsSpec)

/-- ITS FALSE NEIGHBOUR: 'it returns false'. Refute it at one input. -/
def rulelexLimitsWrong : ChangeSpec := { name := "rulelexLimits", fn := fun _ => fun
  | [d] => { results := [.lit (.bool false)], args := [d] }
  | _ => none }
def RulelexLimitsWrongFalsely : Prop := rulelexLimitsRow.holds Try.pinned (OpenSpec.ofChange rulelexLimitsWrong)

/-- 'quaysidelaw42.RulelexJoins': WHATEVER THE INPUT: true; the input reads as it did. -/
def rulelexJoinsSpec : ChangeSpec := { name := "rulelexJoins", fn := fun _ => fun
  | [d1, d2] => { results := [.lit (.bool true)], args := [d1, d2] }
  | _ => none }
def rulelexJoinsRow : OpenClaim := { program := "ytobndhpfdaddaaa", sum := "b7579d04b96449a6b3a0ab4a79834afbaf091bcc7570ef78509ca279851a5ab0", func := "quayside/quaysidelaw42.RulelexJoins", spec := "rulelexJoins", apart := false }
def RulelexJoinsSaid : Prop := rulelexJoinsRow.holds Try.pinned (OpenSpec.ofChange rulelexJoinsSpec)

/-- ITS FALSE NEIGHBOUR: 'it returns false'. Refute it at one input. -/
def rulelexJoinsWrong : ChangeSpec := { name := "rulelexJoins", fn := fun _ => fun
  | [d1, d2] => { results := [.lit (.bool false)], args := [d1, d2] }
  | _ => none }
def RulelexJoinsWrongFalsely : Prop := rulelexJoinsRow.holds Try.pinned (OpenSpec.ofChange rulelexJoinsWrong)

/-- 'quaysidelaw42.RulelexPlaces': WHATEVER THE INPUT: true; the input reads as it did. -/
def rulelexPlacesSpec : ChangeSpec := { name := "rulelexPlaces", fn := fun _ => fun
  | [d] => { results := [.lit (.bool true)], args := [d] }
  | _ => none }
def rulelexPlacesRow : OpenClaim := { program := "ytobndhpfdaddaaa", sum := "b7579d04b96449a6b3a0ab4a79834afbaf091bcc7570ef78509ca279851a5ab0", func := "quayside/quaysidelaw42.RulelexPlaces", spec := "rulelexPlaces", apart := false }
def RulelexPlacesSaid : Prop := rulelexPlacesRow.holds Try.pinned (OpenSpec.ofChange rulelexPlacesSpec)

/-- ITS FALSE NEIGHBOUR: 'it returns false'. Refute it at one input. -/
def rulelexPlacesWrong : ChangeSpec := { name := "rulelexPlaces", fn := fun _ => fun
  | [d] => { results := [.lit (.bool false)], args := [d] }
  | _ => none }
def RulelexPlacesWrongFalsely : Prop := rulelexPlacesRow.holds Try.pinned (OpenSpec.ofChange rulelexPlacesWrong)

/-- 'quaysidelaw42.RulelexStrings': WHATEVER THE INPUT: true; the input reads as it did. -/
def rulelexStringsSpec : ChangeSpec := { name := "rulelexStrings", fn := fun _ => fun
  | [d] => { results := [.lit (.bool true)], args := [d] }
  | _ => none }
def rulelexStringsRow : OpenClaim := { program := "ytobndhpfdaddaaa", sum := "b7579d04b96449a6b3a0ab4a79834afbaf091bcc7570ef78509ca279851a5ab0", func := "quayside/quaysidelaw42.RulelexStrings", spec := "rulelexStrings", apart := false }
def RulelexStringsSaid : Prop := rulelexStringsRow.holds Try.pinned (OpenSpec.ofChange rulelexStringsSpec)

/-- ITS FALSE NEIGHBOUR: 'it returns false'. Refute it at one input. -/
def rulelexStringsWrong : ChangeSpec := { name := "rulelexStrings", fn := fun _ => fun
  | [d] => { results := [.lit (.bool false)], args := [d] }
  | _ => none }
def RulelexStringsWrongFalsely : Prop := rulelexStringsRow.holds Try.pinned (OpenSpec.ofChange rulelexStringsWrong)

/- THE SECOND FORM. 'bulk': how many values and letters a reading holds, each counted each time it is reached (what is shared counts as often as it is met; a slice's spare places count too). A statement '..UptoSaid' is the law's where the arguments, and the package variables that the reading takes, are together of bulk at most 1048576: NARROWER than '..Said'. Prove '..Said' where nothing that the law and all that it calls make is longer than what came in: it says more and counts as full. Else prove '..UptoSaid'. A law counts once. -/
mutual
def uptoBulk {H : Type} : DataW H → Nat
  | .lit (.string bytes) => bytes.length + 1
  | .lit _ => 1
  | .nil => 1
  | .ptr d => uptoBulk d + 1
  | .slice elems spare => uptoBulkAll elems + uptoBulkAll spare + 1
  | .agg parts => uptoBulkAll parts + 1
  | .iface _ d => uptoBulk d + 1
  | .map entries => uptoBulkEntries entries + 1
  | .held _ => 1
def uptoBulkAll {H : Type} : List (DataW H) → Nat
  | [] => 0
  | d :: r => uptoBulk d + uptoBulkAll r
def uptoBulkEntries {H : Type} : List (Lit × DataW H) → Nat
  | [] => 0
  | x :: r => uptoBulkEntry x + uptoBulkEntries r
def uptoBulkEntry {H : Type} : Lit × DataW H → Nat
  | (.string bytes, d) => bytes.length + uptoBulk d + 1
  | (_, d) => uptoBulk d + 1
 end
def uptoSmall : (H : Type) → List (DataW H) → Bool := fun _ ds => decide (uptoBulkAll ds ≤ 1048576)
def OpenSpec.upto (s : _root_.Go.ChangeSpec) : _root_.Go.OpenSpec := { _root_.Go.OpenSpec.ofChange s with cond := some uptoSmall }

/-- 'quaysidelaw42.RulelexSplits', WHERE WHAT IT READS IS OF BULK AT MOST 1048576: true; the input reads as it did. -/
def rulelexSplitsUptoRow : OpenClaim := { program := "ytobndhpfdaddaaa", sum := "b7579d04b96449a6b3a0ab4a79834afbaf091bcc7570ef78509ca279851a5ab0", func := "quayside/quaysidelaw42.RulelexSplits", spec := "rulelexSplits", apart := false, narrowed := true }
def RulelexSplitsUptoSaid : Prop := rulelexSplitsUptoRow.holds Try.pinned (OpenSpec.upto rulelexSplitsSpec)

/-- 'quaysidelaw42.RulelexNumbers', WHERE WHAT IT READS IS OF BULK AT MOST 1048576: true; the input reads as it did. -/
def rulelexNumbersUptoRow : OpenClaim := { program := "ytobndhpfdaddaaa", sum := "b7579d04b96449a6b3a0ab4a79834afbaf091bcc7570ef78509ca279851a5ab0", func := "quayside/quaysidelaw42.RulelexNumbers", spec := "rulelexNumbers", apart := false, narrowed := true }
def RulelexNumbersUptoSaid : Prop := rulelexNumbersUptoRow.holds Try.pinned (OpenSpec.upto rulelexNumbersSpec)

/-- 'quaysidelaw42.RulelexLimits', WHERE WHAT IT READS IS OF BULK AT MOST 1048576: true; the input reads as it did. -/
def rulelexLimitsUptoRow : OpenClaim := { program := "ytobndhpfdaddaaa", sum := "b7579d04b96449a6b3a0ab4a79834afbaf091bcc7570ef78509ca279851a5ab0", func := "quayside/quaysidelaw42.RulelexLimits", spec := "rulelexLimits", apart := false, narrowed := true }
def RulelexLimitsUptoSaid : Prop := rulelexLimitsUptoRow.holds Try.pinned (OpenSpec.upto rulelexLimitsSpec)

/-- 'quaysidelaw42.RulelexJoins', WHERE WHAT IT READS IS OF BULK AT MOST 1048576: true; the input reads as it did. -/
def rulelexJoinsUptoRow : OpenClaim := { program := "ytobndhpfdaddaaa", sum := "b7579d04b96449a6b3a0ab4a79834afbaf091bcc7570ef78509ca279851a5ab0", func := "quayside/quaysidelaw42.RulelexJoins", spec := "rulelexJoins", apart := false, narrowed := true }
def RulelexJoinsUptoSaid : Prop := rulelexJoinsUptoRow.holds Try.pinned (OpenSpec.upto rulelexJoinsSpec)

/-- 'quaysidelaw42.RulelexPlaces', WHERE WHAT IT READS IS OF BULK AT MOST 1048576: true; the input reads as it did. -/
def rulelexPlacesUptoRow : OpenClaim := { program := "ytobndhpfdaddaaa", sum := "b7579d04b96449a6b3a0ab4a79834afbaf091bcc7570ef78509ca279851a5ab0", func := "quayside/quaysidelaw42.RulelexPlaces", spec := "rulelexPlaces", apart := false, narrowed := true }
def RulelexPlacesUptoSaid : Prop := rulelexPlacesUptoRow.holds Try.pinned (OpenSpec.upto rulelexPlacesSpec)

/-- 'quaysidelaw42.RulelexStrings', WHERE WHAT IT READS IS OF BULK AT MOST 1048576: true; the input reads as it did. -/
def rulelexStringsUptoRow : OpenClaim := { program := "ytobndhpfdaddaaa", sum := "b7579d04b96449a6b3a0ab4a79834afbaf091bcc7570ef78509ca279851a5ab0", func := "quayside/quaysidelaw42.RulelexStrings", spec := "rulelexStrings", apart := false, narrowed := true }
def RulelexStringsUptoSaid : Prop := rulelexStringsUptoRow.holds Try.pinned (OpenSpec.upto rulelexStringsSpec)

end Rows
end Go.Proofs.Ytobndhpfdaddaaa
