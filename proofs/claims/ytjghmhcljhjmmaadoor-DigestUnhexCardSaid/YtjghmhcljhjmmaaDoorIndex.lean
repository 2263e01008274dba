/- The walk of bytes.IndexByte over the digits. No condition. -/
import Derived.Test.YtjghmhcljhjmmaaDoorHex
import Derived.Test.YtjghmhcljhjmmaaDoorBlk
import Derived.Lib.Strings
import Derived.Lib.Walk
import Derived.Lib.BytesEntry
namespace Go.Proofs.YtjghmhcljhjmmaaDoor
open Go.RowKit
set_option linter.unusedVariables false
set_option linter.unusedSimpArgs false

/-- The place of a digit, as the program has it. -/
def digI (c : UInt8) : Int := match digN c with | some q => (q : Int) | none => -1
theorem index_of (l : List UInt8) (c : UInt8) : Lib.indexByte l c = match l.findIdx? (· == c) with | some q => (q : Int) | none => -1 := by
  induction l with
  | nil => rfl
  | cons b l ih =>
    rw [Lib.indexByte, List.findIdx?_cons, ih]
    by_cases h : (b == c) = true
    · simp [h]
    · simp only [h]
      cases hf : l.findIdx? (· == c) with
      | none => simp
      | some q =>
        simp
theorem index_dig (c : UInt8) : Lib.indexByte digL c = digI c := index_of digL c
theorem dig_num : ∀ i, i < 16 → ((digL.getD i 0).toNat : Int) = (digL.map fun c => (c.toNat : Int)).getD i 0 := by decide
/-- A block that holds the digits. -/
def DRow (w : World) (g : Nat) : Prop := ∀ i, i < 16 → w.cell? ⟨g, i, none⟩ = some (.int .u8 ((digL.getD i 0).toNat : Int))
theorem DRow.row (w : World) (fr : Nat × Nat) : DRow (w.alloc (.cells (digL.map bcell).toArray 5 fr)) w.heap.size := by
  intro i hi
  have : (w.alloc (.cells (digL.map bcell).toArray 5 fr)).heap[w.heap.size]? = some (.cells (digL.map bcell).toArray 5 fr) := heap_alloc_new w _
  have hc : (w.alloc (.cells (digL.map bcell).toArray 5 fr)).cell? ⟨w.heap.size, i, none⟩ = (digL.map bcell)[i]? := by
    generalize digL.map bcell = D at *
    simp only [World.cell?, this]
    simp
  rw [hc, List.getElem?_map]
  have h : digL[i]? = some (digL.getD i 0) := by rw [List.getElem?_eq_getElem (show i < digL.length from hi)]; simp [List.getD, List.getElem?_eq_getElem (show i < digL.length from hi)]
  rw [h]
  rfl
theorem DRow.step {w w' : World} {g : Nat} (h : DRow w g) (hb : Below w.heap.size w w') : DRow w' g := fun i hi => keep_at hb (h i hi)
set_option maxHeartbeats 1000000 in
set_option maxRecDepth 100000 in
theorem indexb_any (g : Nat) (c : UInt8) (w : World) (hg : DRow w g) : Calls Tryd.prog 31 #[.slice (some ⟨g, 0, none⟩) 16 16, .int .u8 (c.toNat : Int)] w fun e w' => e = .returned (.int .i64 (digI c)) ∧ w = w' := by
  have hrun := Lib.run_indexByteSlice (P := Tryd.prog) w g 0 16 16 (digL.map fun c => (c.toNat : Int)) (by rfl) (fun i hi => by
    rw [Nat.zero_add, hg i hi]
    congr 2
    exact dig_num i hi) (c.toNat : Int)
  have hb : Lib.bytesOf (digL.map fun c => (c.toNat : Int)) = digL := by decide
  rw [hb, show ((c.toNat : Int)).toNat.toUInt8 = c by simp, index_dig] at hrun
  clear hg hb
  go_enter Tryd.func31, Tryd.ntmps31
  go_wp2
  rw [run_callFunc_extern Tryd.func39 (by kernel_rfl) (by kernel_rfl) (by kernel_rfl) (e := Extern.BytealgIndexByte.indexByte) (by kernel_rfl), hrun]
  simp only [Result.andThen]
  rw [Oper.upon_value]
  go_wp2
  go_ret
  exact ⟨rfl, rfl⟩
end Go.Proofs.YtjghmhcljhjmmaaDoor
