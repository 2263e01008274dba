/- The fixed example of the chapter: it holds wherever the constants lie as the program's text lays them. -/
import Derived.Test.YtjghmhcljhjmmaaDoorSum
import Derived.Test.YtjghmhcljhjmmaaDoorHexW
import Derived.Lib.SlBytesConst
namespace Go.Proofs.YtjghmhcljhjmmaaDoor
open Go.RowKit
set_option linter.unusedVariables false
set_option linter.unusedSimpArgs false

/-- The row of a constant's bytes. -/
theorem IsB.row (w : World) (fr : Nat × Nat) (l : List UInt8) (h0 : l ≠ []) (hl : l.length ≤ 1000) : IsB (w.alloc (.cells (l.map bcell).toArray 5 fr)) (.slice (some ⟨w.heap.size, 0, none⟩) l.length l.length) l := by
  refine .inr ⟨h0, w.heap.size, 0, l.length, rfl, Nat.le_refl _, by unfold maxLen; omega, fun i e hi => ?_⟩
  have : (w.alloc (.cells (l.map bcell).toArray 5 fr)).heap[w.heap.size]? = some (.cells (l.map bcell).toArray 5 fr) := heap_alloc_new w _
  simp only [World.cell?, this]
  simp [hi, bcell]
theorem IsB.abc (w : World) (fr : Nat × Nat) : IsB (w.alloc (.cells #[.int .u8 97, .int .u8 98, .int .u8 99] 5 fr)) (.slice (some ⟨w.heap.size, 0, none⟩) 3 3) [97, 98, 99] := IsB.row w fr [97, 98, 99] (by simp) (by simp)
theorem sha_len (l : List UInt8) : (shaP l).length = 32 := rfl
theorem hex_abc (v : Value) (w : World) (hv : IsB w v (shaP [97, 98, 99])) : Calls Tryd.prog 21 #[v] w fun e w' => e = .returned (.string ⟨#[98, 97, 55, 56, 49, 54, 98, 102, 56, 102, 48, 49, 99, 102, 101, 97, 52, 49, 52, 49, 52, 48, 100, 101, 53, 100, 97, 101, 50, 50, 50, 51, 98, 48, 48, 51, 54, 49, 97, 51, 57, 54, 49, 55, 55, 97, 57, 99, 98, 52, 49, 48, 102, 102, 54, 49, 102, 50, 48, 48, 49, 53, 97, 100]⟩) ∧ Below w.heap.size w w' := by
  refine (hex_any v _ w hv (by rw [sha_len]; omega)).mono ?_
  rintro e w' ⟨rfl, hb⟩
  rw [abc_sha]
  exact ⟨rfl, hb⟩
set_option maxRecDepth 20000 in
set_option maxHeartbeats 2000000 in
theorem awake_any (w : World) (hk : KW w) : Calls Tryd.prog 11 #[] w fun e w' => e = .returned (.bool true) ∧ Below w.heap.size w w' := by
  have HK := Lib.hid hk
  clear hk
  have kc := fun (w : World) (C : Array Value) (n c : Nat) => Lib.run_convert_bytes_const (P := Tryd.prog) w 22 5 C n c Tryd.underlying22 Tryd.underlying5
  go_enter Tryd.func11, Tryd.ntmps11
  go_wp2_with (first | (go_at_call 12; refine (sum_any _ [97, 98, 99] _ (HK.out.step (bel_new w _)) (IsB.abc w _) (by simp)).mono ?_; rintro e w1 ⟨v1, rfl, h1, hb1⟩; have H1 := Lib.hid h1.isB; have HB1 := Lib.hid (bel_step (bel_new w _) hb1); clear h1 hb1) | (go_at_call 21; refine (hex_abc v1 w1 H1.out).mono ?_; rintro e w2 ⟨rfl, hb2⟩; have HB2 := Lib.hid (bel_step HB1.out hb2); clear hb2))
  go_ret
  exact ⟨rfl, HB2.out⟩
end Go.Proofs.YtjghmhcljhjmmaaDoor
