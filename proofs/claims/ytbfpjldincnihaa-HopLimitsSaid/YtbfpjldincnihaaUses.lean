/- The walk of hop.uses. No condition. -/
import Derived.Test.YtbfpjldincnihaaBytes
namespace Go.Proofs.Ytbfpjldincnihaa
open Go.RowKit
set_option linter.unusedVariables false
set_option linter.unusedSimpArgs false

/-- The fields that a kind uses. -/
structure Flds where
  id : Bool
  num : Bool
  tot : Bool
  off : Bool
  txt : Bool
  lst : Bool
  dat : Bool
def usesF (k : Int) : Flds :=
  if k = 1 then ⟨true, true, false, false, true, true, false⟩ else if k = 2 then ⟨true, true, true, false, true, false, false⟩
  else if k = 3 then ⟨true, false, false, true, false, false, true⟩ else if k = 4 then ⟨true, false, false, false, false, false, false⟩
  else if k = 5 ∨ k = 7 ∨ k = 11 then ⟨true, true, false, false, false, false, false⟩ else if k = 6 then ⟨true, false, false, false, true, false, false⟩
  else if k = 8 then ⟨false, true, true, false, false, true, false⟩ else if k = 9 ∨ k = 10 then ⟨false, true, false, false, false, false, false⟩
  else if k = 12 then ⟨true, true, true, false, false, false, false⟩ else ⟨false, false, false, false, false, false, false⟩
def okK (k : Int) : Bool := decide (1 ≤ k ∧ k ≤ 12)
def Flds.val (f : Flds) : Value := .agg #[.bool f.id, .bool f.num, .bool f.tot, .bool f.off, .bool f.txt, .bool f.lst, .bool f.dat]

set_option maxHeartbeats 4000000 in
theorem uses_any (k : Int) (w : World) : Calls Try.prog 27 #[.int .i64 k] w fun e w' => e = .returned (.tuple #[(usesF k).val, .bool (okK k)]) ∧ Below w.heap.size w w' := by
  have hk : k = 1 ∨ k = 2 ∨ k = 3 ∨ k = 4 ∨ k = 5 ∨ k = 6 ∨ k = 7 ∨ k = 8 ∨ k = 9 ∨ k = 10 ∨ k = 11 ∨ k = 12 ∨ (¬ k = 1 ∧ ¬ k = 2 ∧ ¬ k = 3 ∧ ¬ k = 4 ∧ ¬ k = 5 ∧ ¬ k = 7 ∧ ¬ k = 11 ∧ ¬ k = 6 ∧ ¬ k = 8 ∧ ¬ k = 9 ∧ ¬ k = 10 ∧ ¬ k = 12) := by omega
  rcases hk with rfl | rfl | rfl | rfl | rfl | rfl | rfl | rfl | rfl | rfl | rfl | rfl | ⟨h1, h2, h3, h4, h5, h7, h11, h6, h8, h9, h10, h12⟩
  · go_enter Try.func27, Try.ntmps27
    go_wp2
    exact bodyPost_ret (v := .tuple #[(usesF 1).val, .bool (okK 1)]) (by simp [results, Try.results27, go_sem, usesF, Flds.val, okK]) rfl ⟨rfl, bel_new _ _⟩
  · go_enter Try.func27, Try.ntmps27
    go_wp2
    exact bodyPost_ret (v := .tuple #[(usesF 2).val, .bool (okK 2)]) (by simp [results, Try.results27, go_sem, usesF, Flds.val, okK]) rfl ⟨rfl, bel_new _ _⟩
  · go_enter Try.func27, Try.ntmps27
    go_wp2
    exact bodyPost_ret (v := .tuple #[(usesF 3).val, .bool (okK 3)]) (by simp [results, Try.results27, go_sem, usesF, Flds.val, okK]) rfl ⟨rfl, bel_new _ _⟩
  · go_enter Try.func27, Try.ntmps27
    go_wp2
    exact bodyPost_ret (v := .tuple #[(usesF 4).val, .bool (okK 4)]) (by simp [results, Try.results27, go_sem, usesF, Flds.val, okK]) rfl ⟨rfl, bel_new _ _⟩
  · go_enter Try.func27, Try.ntmps27
    go_wp2
    exact bodyPost_ret (v := .tuple #[(usesF 5).val, .bool (okK 5)]) (by simp [results, Try.results27, go_sem, usesF, Flds.val, okK]) rfl ⟨rfl, bel_new _ _⟩
  · go_enter Try.func27, Try.ntmps27
    go_wp2
    exact bodyPost_ret (v := .tuple #[(usesF 6).val, .bool (okK 6)]) (by simp [results, Try.results27, go_sem, usesF, Flds.val, okK]) rfl ⟨rfl, bel_new _ _⟩
  · go_enter Try.func27, Try.ntmps27
    go_wp2
    exact bodyPost_ret (v := .tuple #[(usesF 7).val, .bool (okK 7)]) (by simp [results, Try.results27, go_sem, usesF, Flds.val, okK]) rfl ⟨rfl, bel_new _ _⟩
  · go_enter Try.func27, Try.ntmps27
    go_wp2
    exact bodyPost_ret (v := .tuple #[(usesF 8).val, .bool (okK 8)]) (by simp [results, Try.results27, go_sem, usesF, Flds.val, okK]) rfl ⟨rfl, bel_new _ _⟩
  · go_enter Try.func27, Try.ntmps27
    go_wp2
    exact bodyPost_ret (v := .tuple #[(usesF 9).val, .bool (okK 9)]) (by simp [results, Try.results27, go_sem, usesF, Flds.val, okK]) rfl ⟨rfl, bel_new _ _⟩
  · go_enter Try.func27, Try.ntmps27
    go_wp2
    exact bodyPost_ret (v := .tuple #[(usesF 10).val, .bool (okK 10)]) (by simp [results, Try.results27, go_sem, usesF, Flds.val, okK]) rfl ⟨rfl, bel_new _ _⟩
  · go_enter Try.func27, Try.ntmps27
    go_wp2
    exact bodyPost_ret (v := .tuple #[(usesF 11).val, .bool (okK 11)]) (by simp [results, Try.results27, go_sem, usesF, Flds.val, okK]) rfl ⟨rfl, bel_new _ _⟩
  · go_enter Try.func27, Try.ntmps27
    go_wp2
    exact bodyPost_ret (v := .tuple #[(usesF 12).val, .bool (okK 12)]) (by simp [results, Try.results27, go_sem, usesF, Flds.val, okK]) rfl ⟨rfl, bel_new _ _⟩
  · have hok : okK k = false := by simp only [okK, decide_eq_false_iff_not]; omega
    have hu : usesF k = ⟨false, false, false, false, false, false, false⟩ := by
      unfold usesF
      rw [if_neg h1, if_neg h2, if_neg h3, if_neg h4, if_neg (by omega), if_neg h6, if_neg h8, if_neg (by omega), if_neg h12]
    rw [hok, hu]
    clear hok hu
    go_enter Try.func27, Try.ntmps27
    go_wp2
    exact bodyPost_ret (v := .tuple #[(Flds.mk false false false false false false false).val, .bool false]) (by simp [results, Try.results27, go_sem, Flds.val]) rfl ⟨rfl, bel_new _ _⟩
end Go.Proofs.Ytbfpjldincnihaa
