/- The walks of the functions that read a clock, and of those that make an error's number. No condition. -/
import Derived.Test.YtgefcejolfikoabBase
import Derived.Deep.QuietTactic
import Derived.BigQuiet
import Derived.Deep.RegionWith
import Derived.Deep.RegionHeld3
namespace Go.Proofs.Ytgefcejolfikoab
open Go.RowKit

/-- Draws leave what lies below a block. -/
theorem below_draws {B : Nat} {a w : World} (h : Below B a w) (n : Nat) : Below B a (w.drewN n) :=
  { os := h.os, tape := h.tape, output := h.output, size := h.size, block := h.block }

/-- A callee that leaves the world alone is quiet. -/
theorem still_quiet {P : Program} {f : FuncId} {args : Array Value} {w : World} {n : Nat} {v : Value} (h : Calls P f args (w.drewN n) fun e w' => e = .returned v ∧ w.drewN n = w') :
    Calls P f args (w.drewN n) fun e w' => e = .returned v ∧ ∃ m, w' = w.drewN m :=
  h.mono fun _ _ x => ⟨x.1, n, x.2.symm⟩

def rangeB (o n d t : Int) : Bool := rateB n d && decide (0 ≤ o ∧ o ≤ 1099511627776 ∧ 0 ≤ t ∧ t ≤ 1099511627776)

theorem assert_errno (n : Int) (w : World) : (Instr.typeAssert (.iface 50 (.int .i64 n)) 32 50 true).run Try.prog w = .ok (.tuple #[.int .i64 n, .bool true]) w := by kernel_rfl

theorem num_nil (w : World) : Calls Try.prog 27 #[.nilIface] w fun e w' => e = .returned (.int .i64 0) ∧ w = w' := by
  go_enter Try.func27, Try.ntmps27
  go_wp2
  go_ret
  exact ⟨rfl, rfl⟩
theorem num_err (n : Int) (w : World) : Calls Try.prog 27 #[.iface 50 (.int .i64 n)] w fun e w' => e = .returned (.int .i64 n) ∧ w = w' := by
  have ha := assert_errno n
  go_enter Try.func27, Try.ntmps27
  go_wp2
  go_ret
  exact ⟨rfl, rfl⟩
/-- What lies below reads as it did. -/
theorem below_cells {W w' : World} (h : Below W.heap.size W w') : ∀ b o, b < W.heap.size → w'.cell? ⟨b, o, none⟩ = W.cell? ⟨b, o, none⟩ :=
  fun b o hb => h.cell (p := ⟨b, o, none⟩) hb

theorem read_yes (o n d t : Int) (w : World) (h : rangeB o n d t = true) : Calls Try.prog 19 #[.agg #[.int .i64 o, .int .i64 n, .int .i64 d], .int .i64 t] w fun e w' => e = .returned (.tuple #[.int .i64 (o + t * n / d), .nilIface]) ∧ Below w.heap.size w w' := by
  have h' := h
  simp only [rangeB, rateB, Bool.and_eq_true, decide_eq_true_eq] at h'
  have hr : rateB n d = true := by simp [rateB]; omega
  have ha : 0 ≤ t * n := Int.mul_nonneg (by omega) (by omega)
  have hb : t * n ≤ t * 1048576 := Int.mul_le_mul_of_nonneg_left (by omega) (by omega)
  have hc : 0 ≤ t * n / d := Int.ediv_nonneg ha (by omega)
  have hd : t * n / d ≤ t * n := Int.ediv_le_self _ ha
  obtain ⟨⟨h1, h2, h3, h4⟩, h5, h6, h7, h8⟩ := h'
  clear h
  go_enter Try.func19, Try.ntmps19
  go_wp2_with (go_at_call 28; refine (rate_any _ _ _ _).mono ?_; rintro e w' ⟨rfl, rfl⟩)
  go_quiet (fail)
  go_wp2
  go_ret2
  exact ⟨rfl, below_draws (((Below.refl _ _).alloc (Nat.le_refl _) _).alloc (by simp) _) _⟩

theorem read_no (o n d t : Int) (w : World) (h : rangeB o n d t = false) : Calls Try.prog 19 #[.agg #[.int .i64 o, .int .i64 n, .int .i64 d], .int .i64 t] w fun e w' => e = .returned (.tuple #[.int .i64 0, .iface 50 (.int .i64 1)]) ∧ Below w.heap.size w w' := by
  have h' := h
  rw [rangeB, Bool.and_eq_false_iff] at h'
  clear h
  by_cases hr : rateB n d = true
  · have hq : ¬ (0 ≤ o ∧ o ≤ 1099511627776 ∧ 0 ≤ t ∧ t ≤ 1099511627776) := by simpa [hr] using h'
    clear h'
    go_enter Try.func19, Try.ntmps19
    go_wp2_with (go_at_call 28; refine (rate_any _ _ _ _).mono ?_; rintro e w' ⟨rfl, rfl⟩)
    all_goals
      go_ret2
      exact ⟨rfl, ((Below.refl _ _).alloc (Nat.le_refl _) _).alloc (by simp) _⟩
  · simp only [Bool.not_eq_true] at hr
    clear h'
    go_enter Try.func19, Try.ntmps19
    go_wp2_with (go_at_call 28; refine (rate_any _ _ _ _).mono ?_; rintro e w' ⟨rfl, rfl⟩)
    go_ret2
    exact ⟨rfl, ((Below.refl _ _).alloc (Nat.le_refl _) _).alloc (by simp) _⟩

def readV (o n d t : Int) : Int := if rangeB o n d t then o + t * n / d else 0
def readE (o n d t : Int) : Value := if rangeB o n d t then .nilIface else .iface 50 (.int .i64 1)
def readN (o n d t : Int) : Int := if rangeB o n d t then 0 else 1

theorem read_any (o n d t : Int) (w : World) : Calls Try.prog 19 #[.agg #[.int .i64 o, .int .i64 n, .int .i64 d], .int .i64 t] w fun e w' => e = .returned (.tuple #[.int .i64 (readV o n d t), readE o n d t]) ∧ Below w.heap.size w w' := by
  cases h : rangeB o n d t
  · refine (read_no o n d t w h).mono fun e w' ⟨he, hb⟩ => ⟨?_, hb⟩
    rw [he, readV, readE, h]; rfl
  · refine (read_yes o n d t w h).mono fun e w' ⟨he, hb⟩ => ⟨?_, hb⟩
    rw [he, readV, readE, h]; rfl

theorem num_read (o n d t : Int) (w : World) : Calls Try.prog 27 #[readE o n d t] w fun e w' => e = .returned (.int .i64 (readN o n d t)) ∧ w = w' := by
  cases h : rangeB o n d t
  · rw [readE, readN, h]; exact num_err 1 w
  · rw [readE, readN, h]; exact num_nil w

def withinB (n d p : Int) : Bool := rateB n d && decide ((if n - d < d - n then d - n else n - d) * 1000000 ≤ lim p 100000 * d)

/-- The clock that the statements make out of a bound, a part of it and a sign. -/
def nearN (p k : Int) (slow : Bool) : Int := if slow then -(lim p 100000 * 1024 / 1000000 * k / 255) else lim p 100000 * 1024 / 1000000 * k / 255
end Go.Proofs.Ytgefcejolfikoab
