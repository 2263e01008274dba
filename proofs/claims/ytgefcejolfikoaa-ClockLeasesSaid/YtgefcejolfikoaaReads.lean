/- The walks of the laws ClockReads and ClockWithin: each returns true. No condition. -/
import Derived.Test.YtgefcejolfikoaaLaws
namespace Go.Proofs.Ytgefcejolfikoaa
open Go.ChangeShapes Go.WideShapes Go.ChangeAt Go.RowKit
set_option linter.unusedVariables false
set_option linter.unusedSimpArgs false

set_option maxHeartbeats 1000000 in
theorem reads_walk (o n d t : Int) (w : World) : Calls Try.prog 5 #[.agg #[.int .i64 o, .int .i64 n, .int .i64 d], .int .i64 t] w fun e w' => e = .returned (.bool true) ∧ Below w.heap.size w w' := by
  go_enter Try.func5, Try.ntmps5
  go_wp2_with (first | (go_at_call 15; refine (awake_any _).mono ?_; rintro e w' ⟨rfl, rfl⟩) | (go_at_call 21; refine (clock_any _ _ _ _).mono ?_; rintro e w' ⟨rfl, rfl⟩))
  refine (read_any _ _ _ _ _).mono ?_
  rintro e w1 ⟨rfl, hb⟩
  have hc := below_cells hb
  go_wp2_with fail
  refine (readRef_any _ _ _ _ _).mono ?_
  rintro e w2 ⟨rfl, hb2⟩
  clear hc
  have hBelow : Below w.heap.size w w2 := ((by repeat (first | exact Below.refl _ _ | refine Below.alloc ?_ (by simp <;> omega) _) : Below w.heap.size w _).trans (hb.mono (by simp; omega))).trans (hb2.mono (by have := hb.size; simp at this; omega))
  clear hb hb2
  go_wp2_with (go_at_call 23; refine (num_read _ _ _ _ _).mono ?_; rintro e w' ⟨rfl, rfl⟩)
  go_ret
  exact ⟨rfl, hBelow⟩

set_option maxHeartbeats 1000000 in
theorem within_walk (o n d p : Int) (w : World) : Calls Try.prog 6 #[.agg #[.int .i64 o, .int .i64 n, .int .i64 d], .int .i64 p] w fun e w' => e = .returned (.bool true) ∧ Below w.heap.size w w' := by
  go_enter Try.func6, Try.ntmps6
  go_wp2_with (go_at_call 15; refine (awake_any _).mono ?_; rintro e w' ⟨rfl, rfl⟩)
  go_region_held3 (fun w' => w'.cell? ⟨w.heap.size, 0, none⟩ = some (.int .i64 o) ∧ w'.cell? ⟨w.heap.size, 1, none⟩ = some (.int .i64 n) ∧ w'.cell? ⟨w.heap.size, 2, none⟩ = some (.int .i64 d)) (first | (simp [go_sem]; done) | (simp [below_cells hb, go_sem]; done) | (go_split_ands; refine ⟨?_, ?_, ?_⟩ <;> (rw [below_cells hb2 _ _ (by have := hb.size; simp at this; omega)]; assumption))) (first | (go_at_call 21; refine (clock_any _ _ _ _).mono ?_; rintro e w' ⟨rfl, rfl⟩) | (go_at_call 24; refine (within_any _ _ _ _ _).mono ?_; rintro e w1 ⟨rfl, hb⟩) | (go_at_call 25; refine (withinRef_any _ _ _ _ _).mono ?_; rintro e w2 ⟨rfl, hb2⟩))
  have hBelow : Below w.heap.size w w2 := ((by repeat (first | exact Below.refl _ _ | refine Below.drew ?_ | refine Below.alloc ?_ (by simp <;> omega) _) : Below w.heap.size w _).trans (hb.mono (by simp; omega))).trans (hb2.mono (by have := hb.size; simp at this; omega))
  clear hb hb2
  go_wp2
  go_ret
  exact ⟨rfl, hBelow⟩
end Go.Proofs.Ytgefcejolfikoaa
