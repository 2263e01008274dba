/- The walks of the laws AgeBounds and AgeFields: each returns true. No condition. -/
import Derived.Test.YtgefcejolfikoaaAge2
import Derived.Deep.RegionHeld3

namespace Go.Proofs.Ytgefcejolfikoaa
open Go.RowKit
set_option linter.unusedVariables false
set_option linter.unusedSimpArgs false

set_option maxHeartbeats 1000000 in
theorem bounds_walk (s r a n p : Int) (w : World) : Calls Try.prog 10 #[.agg #[.int .i64 s, .int .i64 r, .int .i64 a], .agg #[.int .i64 n, .int .i64 p]] w fun e w' => e = .returned (.bool true) ∧ Below w.heap.size w w' := by
  go_enter Try.func10, Try.ntmps10
  go_wp2_with fail
  refine (ageAwake_any _).mono ?_
  rintro e w0 ⟨rfl, hb⟩
  have c0 := keep_at hb (b := w.heap.size) (o := 0) (v := .int .i64 s) (by simp [go_sem])
  have c1 := keep_at hb (b := w.heap.size) (o := 1) (v := .int .i64 r) (by simp [go_sem])
  have c2 := keep_at hb (b := w.heap.size) (o := 2) (v := .int .i64 a) (by simp [go_sem])
  have c3 := keep_at hb (b := w.heap.size + 1) (o := 0) (v := .int .i64 n) (by simp [go_sem])
  have c4 := keep_at hb (b := w.heap.size + 1) (o := 1) (v := .int .i64 p) (by simp [go_sem])
  have hB : Below w.heap.size w w0 := bel_step (bel_alloc (bel_alloc (Below.refl _ _))) hb
  clear hb
  go_wp2_with fail
  go_region_held3 (fun w' => w'.cell? ⟨w.heap.size, 0, none⟩ = some (.int .i64 s) ∧ w'.cell? ⟨w.heap.size, 1, none⟩ = some (.int .i64 r) ∧ w'.cell? ⟨w.heap.size, 2, none⟩ = some (.int .i64 a) ∧ w'.cell? ⟨w.heap.size + 1, 0, none⟩ = some (.int .i64 n) ∧ w'.cell? ⟨w.heap.size + 1, 1, none⟩ = some (.int .i64 p))
    ((go_split_ands; refine ⟨?_, ?_, ?_, ?_, ?_⟩ <;> (repeat (with_reducible (first | assumption | refine keep_drew ?_ | refine keep_alloc ?_ | refine keep_at hb ?_)))))
    (first | (go_at_call 32; refine (times_any _ _ _ _).mono ?_; rintro e w' ⟨rfl, rfl⟩) | (go_at_call 31; refine (at_any _ _ _ _ _ _).mono ?_; rintro e w1 ⟨rfl, hb⟩))
  go_split_ands
  have hB : Below w.heap.size w w1 := bel_step (bel_drew (bel_alloc (bel_alloc hB))) hb
  clear hb
  go_wp2_with fail
  refine (atRef_any _ _ _ _ _ _).mono ?_
  rintro e w2 ⟨rfl, hb⟩
  have hB : Below w.heap.size w w2 := bel_step hB hb
  clear hb
  go_wp2_with (go_at_call 23; refine (num_at _ _ _ _).mono ?_; rintro e w' ⟨rfl, rfl⟩)
  go_ret
  exact ⟨rfl, hB⟩

set_option maxHeartbeats 1000000 in
theorem fields_walk (s r a n p : Int) (w : World) : Calls Try.prog 13 #[.agg #[.int .i64 s, .int .i64 r, .int .i64 a], .agg #[.int .i64 n, .int .i64 p]] w fun e w' => e = .returned (.bool true) ∧ Below w.heap.size w w' := by
  have hh := atHi_bd s r a n p
  go_enter Try.func13, Try.ntmps13
  go_wp2_with fail
  refine (ageAwake_any _).mono ?_
  rintro e w0 ⟨rfl, hb⟩
  have c0 := keep_at hb (b := w.heap.size) (o := 0) (v := .int .i64 s) (by simp [go_sem])
  have c1 := keep_at hb (b := w.heap.size) (o := 1) (v := .int .i64 r) (by simp [go_sem])
  have c2 := keep_at hb (b := w.heap.size) (o := 2) (v := .int .i64 a) (by simp [go_sem])
  have c3 := keep_at hb (b := w.heap.size + 1) (o := 0) (v := .int .i64 n) (by simp [go_sem])
  have c4 := keep_at hb (b := w.heap.size + 1) (o := 1) (v := .int .i64 p) (by simp [go_sem])
  have hB : Below w.heap.size w w0 := bel_step (bel_alloc (bel_alloc (Below.refl _ _))) hb
  clear hb
  go_wp2_with fail
  go_region_held3 (fun w' => w'.cell? ⟨w.heap.size, 0, none⟩ = some (.int .i64 s) ∧ w'.cell? ⟨w.heap.size, 1, none⟩ = some (.int .i64 r) ∧ w'.cell? ⟨w.heap.size, 2, none⟩ = some (.int .i64 a) ∧ w'.cell? ⟨w.heap.size + 1, 0, none⟩ = some (.int .i64 n) ∧ w'.cell? ⟨w.heap.size + 1, 1, none⟩ = some (.int .i64 p))
    ((go_split_ands; refine ⟨?_, ?_, ?_, ?_, ?_⟩ <;> (repeat (with_reducible (first | assumption | refine keep_drew ?_ | refine keep_alloc ?_ | refine keep_at hb ?_)))))
    (first | (go_at_call 32; refine (times_any _ _ _ _).mono ?_; rintro e w' ⟨rfl, rfl⟩) | (go_at_call 34; refine (field_any _ _ _ _ _ _).mono ?_; rintro e w1 ⟨rfl, hb⟩))
  go_split_ands
  have hB : Below w.heap.size w w1 := bel_step (bel_drew (bel_alloc (bel_alloc hB))) hb
  clear hb
  go_wp2_with fail
  refine (atRef_any _ _ _ _ _ _).mono ?_
  rintro e w2 ⟨rfl, hb⟩
  have hB : Below w.heap.size w w2 := bel_step hB hb
  clear hb
  go_wp2_with (go_at_call 23; refine (num_at _ _ _ _).mono ?_; rintro e w' ⟨rfl, rfl⟩)
  go_ret
  exact ⟨rfl, hB⟩
end Go.Proofs.Ytgefcejolfikoaa
