/- make([]byte, 0, n), n a variable: own bytes, none yet. No condition but Go's own limit. -/
import Derived.Test.YtjghmhcljhjmmaaDoorStep
import Derived.Deep.OwnRows
namespace Go.Proofs.YtjghmhcljhjmmaaDoor
open Go.RowKit
set_option linter.unusedVariables false
set_option linter.unusedSimpArgs false

theorem make_own (n : Nat) (h : n ≤ 140737488355328) (w : World) : ∃ v, (Instr.makeSlice 22 (.int .i64 0) (.int .i64 (n : Int))).run Tryd.prog w = .ok v (w.alloc (.cells (madeCells #[.int .u8 0] n) 5)) ∧ OwnB (w.alloc (.cells (madeCells #[.int .u8 0] n) 5)) w.heap.size v [] := by
  obtain ⟨i, hi, hzz⟩ := Option.map_eq_some_iff.1 info5
  simp only [Prod.mk.injEq] at hzz
  obtain ⟨hz, hs, hb⟩ := hzz
  have hr := run_make (P := Tryd.prog) w 22 5 i (.int .u8 0) Tryd.underlying22 hi hz .i64 .i64 0 n (Int.le_refl _) (by omega) (by rw [hb]; omega) (by omega)
  simp only [Int.toNat_natCast, hs, Nat.mul_one] at hr
  refine ⟨_, hr, ?_⟩
  exact World.ownsRow_made w _ n (Nat.le_refl _) (by unfold maxLen; omega) (by simp [madeCells, Value.cells])
end Go.Proofs.YtjghmhcljhjmmaaDoor
