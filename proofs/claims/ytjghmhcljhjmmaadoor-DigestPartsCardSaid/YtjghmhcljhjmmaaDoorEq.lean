/- The walk of Equal: the bytes' texts compared. No condition. -/
import Derived.Test.YtjghmhcljhjmmaaDoorStep
namespace Go.Proofs.YtjghmhcljhjmmaaDoor
open Go.RowKit
set_option linter.unusedVariables false
set_option linter.unusedSimpArgs false

set_option maxRecDepth 20000 in
set_option maxHeartbeats 1000000 in
theorem bequal_any (u v : Value) (a b : List UInt8) (w : World) (ha : IsB w u a) (hb : IsB w v b) :
    Calls Tryd.prog 33 #[u, v] w fun e w' => e = .returned (.bool (decide (a = b))) ∧ w = w' := by
  have h1 := run_str w u a ha
  have h2 := run_str w v b hb
  clear ha hb
  go_enter Tryd.func33, Tryd.ntmps33
  go_wp2_with fail
  go_ret
  refine ⟨?_, rfl⟩
  have : (a == b) = decide (a = b) := by rw [Bool.eq_iff_iff]; simp
  simp [this]
set_option maxRecDepth 20000 in
set_option maxHeartbeats 1000000 in
theorem equal_any (u v : Value) (a b : List UInt8) (w : World) (ha : IsB w u a) (hb : IsB w v b) :
    Calls Tryd.prog 25 #[u, v] w fun e w' => e = .returned (.bool (decide (a = b))) ∧ w = w' := by
  have h1 := bequal_any u v a b w ha hb
  generalize decide (a = b) = R at *
  clear ha hb
  go_enter Tryd.func25, Tryd.ntmps25
  go_wp2_with ((go_at_call 33; refine h1.mono ?_; rintro e w' ⟨rfl, rfl⟩))
  go_ret
  exact ⟨rfl, rfl⟩
set_option maxRecDepth 20000 in
set_option maxHeartbeats 1000000 in
theorem bytes_any (u v : Value) (a b : List UInt8) (w : World) (ha : IsB w u a) (hb : IsB w v b) :
    Calls Tryd.prog 13 #[u, v] w fun e w' => e = .returned (.bool (decide (a = b))) ∧ w = w' := by
  have h1 := run_str w u a ha
  have h2 := run_str w v b hb
  clear ha hb
  go_enter Tryd.func13, Tryd.ntmps13
  go_wp2_with fail
  go_ret
  refine ⟨?_, rfl⟩
  have : (a == b) = decide (a = b) := by rw [Bool.eq_iff_iff]; simp
  simp [this]
end Go.Proofs.YtjghmhcljhjmmaaDoor
