/- invoice's Check, Charge and Bill at a tariff of one tier and of unit 1. -/
import Derived.Test.YthhooocckfljaaaMoney
namespace Go.Proofs.Ythhooocckfljaaa
open Go.RowKit Go.Shelf
set_option linter.unusedVariables false
set_option linter.unusedSimpArgs false

set_option maxRecDepth 100000 in
set_option maxHeartbeats 2000000 in
theorem tcheck_run (g : Nat) (pr hit : Int) (hp : 0 ≤ pr ∧ pr ≤ 1099511627776) (hh : 0 ≤ hit ∧ hit ≤ 1099511627776) (w : World) (c0 : w.cell? ⟨g, 0, none⟩ = some (.int .i64 0)) (c1 : w.cell? ⟨g, 1, none⟩ = some (.int .i64 pr)) :
    Calls Try.prog 30 #[.agg #[.slice (some ⟨g, 0, none⟩) 1 1, .int .i64 1, .int .i64 hit, .int .i64 0]] w fun e w' => e = .returned .nilIface ∧ Below w.heap.size w w' := by
  have P0 := Lib.hid (fun W => price_run 0 (by omega) (by omega) W)
  have PH := Lib.hid (fun W => price_run hit hh.1 hh.2 W)
  have PP := Lib.hid (fun W => price_run pr hp.1 hp.2 W)
  have hn1 := bel_new w (.cells #[.slice (some ⟨g, 0, none⟩) 1 1, .int .i64 1, .int .i64 hit, .int .i64 0] 62)
  have d0 := keep_at hn1 c0
  have d1 := keep_at hn1 c1
  have HN1 := Lib.hid hn1
  have hgl : g < w.heap.size := block_lt_of_cell c0
  clear c0 c1 hn1
  go_enter Try.func30, Try.ntmps30
  go_upto_region 6 with (first | (go_at_call 45; with_reducible refine (PH.out _).mono ?_; rintro e w' ⟨rfl, rfl⟩) | (go_at_call 45; with_reducible refine (P0.out _).mono ?_; rintro e w' ⟨rfl, rfl⟩) | fail)
  generalize w.alloc (.cells #[.slice (some ⟨g, 0, none⟩) 1 1, .int .i64 1, .int .i64 hit, .int .i64 0] 62) = W1 at *
  go_loopw [4, 43] (fun bl i wr => ∃ k : Nat, i = .int .i64 k ∧ k ≤ 1 ∧ bl = .int .i64 0 ∧ Below W1.heap.size W1 wr) (fun _ i _ => 1 - (intOf i).toNat)
  case atStart => exact ⟨0, rfl, by omega, rfl, Below.refl _ _⟩
  case round =>
    obtain ⟨k, rfl, hk, rfl, hB⟩ := hrel
    have HB := Lib.hid hB
    have e0 := keep_at hB d0
    have e1 := keep_at hB d1
    clear hB d0 d1
    have hk2 : k = 0 ∨ k = 1 := by omega
    rcases hk2 with rfl | rfl
    · have HN := Lib.hid (bel_step HB.out (bel_new wr (.cells #[.int .i64 0, .int .i64 pr] 59)))
      go_wp2_with (first | (go_at_call 45; with_reducible refine (PP.out _).mono ?_; rintro e w' ⟨rfl, rfl⟩) | (go_at_call 45; with_reducible refine (P0.out _).mono ?_; rintro e w' ⟨rfl, rfl⟩) | fail)
      go_roundw
      case rel => exact ⟨1, by go_num, by omega, rfl, HN.out⟩
      case measure => simp [intOf]
    · go_wp2_with fail
      go_ret
      exact ⟨rfl, bel_step HN1.out HB.out⟩

/-- Block n holds a wide number. -/
def WB (w : World) (n : Nat) (a b : Int) : Prop := w.heap[n]? = some (.cells #[.int .u64 a, .int .u64 b] 126 (0, 0))
theorem WB.facts {w : World} {n : Nat} {a b : Int} (h : WB w n a b) : (w.cell? ⟨n, 0, none⟩ = some (.int .u64 a) ∧ w.cell? ⟨n, 1, none⟩ = some (.int .u64 b)) ∧ w.frozen? ⟨n, 0, none⟩ = false ∧ w.frozen? ⟨n, 1, none⟩ = false := by
  unfold WB at h
  simp [World.cell?, World.frozen?, h]
theorem WB.lt {w : World} {n : Nat} {a b : Int} (h : WB w n a b) : n < w.heap.size := (Array.getElem?_eq_some_iff.1 h).1
theorem WB.bel {w w' : World} {n : Nat} {a b : Int} (h : WB w n a b) (hb : Below w.heap.size w w') : WB w' n a b := (hb.block n h.lt).trans h
theorem WB.drew {w : World} {n : Nat} {a b : Int} (h : WB w n a b) : WB w.drew n a b := h
theorem WB.new (w : World) (a b : Int) : WB (w.alloc (.cells #[.int .u64 a, .int .u64 b] 126)) w.heap.size a b := heap_alloc_new w _
theorem WB.set {w : World} {n : Nat} {a b : Int} (h : WB w n a b) (x y : Int) : WB ((w.setCell ⟨n, 0, none⟩ (.int .u64 x)).setCell ⟨n, 1, none⟩ (.int .u64 y)) n x y :=
  Joins.block_setCell (i := 1) (Joins.block_setCell (i := 0) h (.int .u64 x)) (.int .u64 y)

end Go.Proofs.Ythhooocckfljaaa
