/- The walks of the small functions that the statements about clocks and ages call. No condition. -/
import Derived.Test.YtgefcejolfikoabRows
import Derived.WalkKit
import Derived.WalkSpells
import Derived.WalkLawsBesides
namespace Go.Proofs.Ytgefcejolfikoab
open Go.RowKit

def lim (n m : Int) : Int := max 0 (min n m)
def clipI (n a b : Int) : Int := max a (min n b)
theorem lim_bd (n m : Int) (h : 0 ≤ m) : 0 ≤ lim n m ∧ lim n m ≤ m := by unfold lim; omega
theorem clip_bd (n a b : Int) (h : a ≤ b) : a ≤ clipI n a b ∧ clipI n a b ≤ b := by unfold clipI; omega
theorem clip_lim (n m : Int) : clipI n 0 m = lim n m := rfl
theorem ret_int {k : IntKind} {a b : Int} (h : a = b) : Ending.returned (.int k a) = .returned (.int k b) := by rw [h]
theorem ret_bool {a b : Bool} (h : a = b) : Ending.returned (.bool a) = .returned (.bool b) := by rw [h]
theorem ret_int2 {k l : IntKind} {a b c d : Int} (h : a = b) (g : c = d) : Ending.returned (.tuple #[.int k a, .int l c]) = .returned (.tuple #[.int k b, .int l d]) := by rw [h, g]

theorem limited_any (n m : Int) (w : World) : Calls Try.prog 29 #[.int .i64 n, .int .i64 m] w fun e w' => e = .returned (.int .i64 (lim n m)) ∧ w = w' := by
  go_enter Try.func29, Try.ntmps29
  go_wp2
  all_goals
    go_ret
    exact ⟨ret_int (by unfold lim; omega), rfl⟩

theorem clip_any (n a b : Int) (w : World) : Calls Try.prog 24 #[.int .i64 n, .int .i64 a, .int .i64 b] w fun e w' => e = .returned (.int .i64 (clipI n a b)) ∧ w = w' := by
  go_enter Try.func24, Try.ntmps24
  go_wp2
  all_goals
    go_ret
    exact ⟨ret_int (by unfold clipI; omega), rfl⟩

theorem time_any (n : Int) (w : World) : Calls Try.prog 15 #[.int .i64 n] w fun e w' => e = .returned (.int .i64 (lim n 1099511627776)) ∧ w = w' := by
  go_enter Try.func15, Try.ntmps15
  go_wp2_with (go_at_call 24; refine (clip_any _ _ _ _).mono ?_; rintro e w' ⟨rfl, rfl⟩)
  go_ret
  exact ⟨rfl, rfl⟩

theorem ppm_any (n : Int) (w : World) : Calls Try.prog 18 #[.int .i64 n] w fun e w' => e = .returned (.int .i64 (lim n 100000)) ∧ w = w' := by
  go_enter Try.func18, Try.ntmps18
  go_wp2_with (go_at_call 24; refine (clip_any _ _ _ _).mono ?_; rintro e w' ⟨rfl, rfl⟩)
  go_ret
  exact ⟨rfl, rfl⟩

theorem ageclip_any (n : Int) (w : World) : Calls Try.prog 20 #[.int .i64 n] w fun e w' => e = .returned (.int .i64 (lim n 1099511627776)) ∧ w = w' := by
  go_enter Try.func20, Try.ntmps20
  go_wp2
  all_goals
    go_ret
    exact ⟨ret_int (by unfold lim; omega), rfl⟩

theorem up_any (a b : Int) (w : World) (h0 : 0 ≤ a) (h1 : a ≤ 4611686018427387904) (h2 : 1 ≤ b) (h3 : b ≤ 2000000) : Calls Try.prog 30 #[.int .i64 a, .int .i64 b] w fun e w' => e = .returned (.int .i64 ((a + b - 1) / b)) ∧ w = w' := by
  have hq : 0 ≤ (a + b - 1) / b := Int.ediv_nonneg (by omega) (by omega)
  have hr : (a + b - 1) / b ≤ a + b - 1 := Int.ediv_le_self _ (by omega)
  go_enter Try.func30, Try.ntmps30
  go_wp2
  go_ret
  exact ⟨rfl, rfl⟩

def possB (d t p : Int) : Bool := decide (0 ≤ t ∧ t * (1000000 + p) > (d - 1) * 1000000 ∧ t * (1000000 - p) < (d + 1) * 1000000)

def elo (d p : Int) : Int := if 0 < d then (d - 1) * 1000000 / (1000000 + p) + 1 else 0
def ehi (d p : Int) : Int := ((d + 1) * 1000000 + (1000000 - p) - 1) / (1000000 - p) - 1

theorem elapsed_any (d p : Int) (w : World) : Calls Try.prog 21 #[.int .i64 d, .int .i64 p] w fun e w' => e = .returned (.tuple #[.int .i64 (elo (lim d 1099511627776) (lim p 100000)), .int .i64 (ehi (lim d 1099511627776) (lim p 100000))]) ∧ w = w' := by
  have hd := lim_bd d 1099511627776 (by omega)
  have hp := lim_bd p 100000 (by omega)
  have hu : 0 ≤ ((lim d 1099511627776 + 1) * 1000000 + (1000000 - lim p 100000) - 1) / (1000000 - lim p 100000) := Int.ediv_nonneg (by omega) (by omega)
  have hv : ((lim d 1099511627776 + 1) * 1000000 + (1000000 - lim p 100000) - 1) / (1000000 - lim p 100000) ≤ ((lim d 1099511627776 + 1) * 1000000 + (1000000 - lim p 100000) - 1) := Int.ediv_le_self _ (by omega)
  by_cases h : 0 < lim d 1099511627776
  · have ha : 0 ≤ (lim d 1099511627776 - 1) * 1000000 / (1000000 + lim p 100000) := Int.ediv_nonneg (by omega) (by omega)
    have hb : (lim d 1099511627776 - 1) * 1000000 / (1000000 + lim p 100000) ≤ (lim d 1099511627776 - 1) * 1000000 := Int.ediv_le_self _ (by omega)
    go_enter Try.func21, Try.ntmps21
    go_wp2_with (first | (go_at_call 29; refine (limited_any _ _ _).mono ?_; rintro e w' ⟨rfl, rfl⟩) | (go_at_call 30; refine (up_any _ _ _ (by omega) (by omega) (by omega) (by omega)).mono ?_; rintro e w' ⟨rfl, rfl⟩))
    go_ret2
    exact ⟨ret_int2 (by rw [elo, if_pos h]) rfl, rfl⟩
  · go_enter Try.func21, Try.ntmps21
    go_wp2_with (first | (go_at_call 29; refine (limited_any _ _ _).mono ?_; rintro e w' ⟨rfl, rfl⟩) | (go_at_call 30; refine (up_any _ _ _ (by omega) (by omega) (by omega) (by omega)).mono ?_; rintro e w' ⟨rfl, rfl⟩))
    go_ret2
    exact ⟨ret_int2 (by rw [elo, if_neg (by omega)]) rfl, rfl⟩

def hold (l p : Int) : Int := l * (1000000 - p) / 1000000
def wait (l p : Int) : Int := if l = 0 then 0 else ((l - 1) * (1000000 + p) + 1000000 - 1) / 1000000 + 1

def rateB (n d : Int) : Bool := decide (1 ≤ n ∧ n ≤ 1048576 ∧ 1 ≤ d ∧ d ≤ 1048576)
theorem rate_any (o n d : Int) (w : World) : Calls Try.prog 28 #[.agg #[.int .i64 o, .int .i64 n, .int .i64 d]] w fun e w' => e = .returned (.bool (rateB n d)) ∧ w.alloc (.cells #[.int .i64 o, .int .i64 n, .int .i64 d] 53) = w' := by
  go_enter Try.func28, Try.ntmps28
  go_wp2
  all_goals
    go_ret
    exact ⟨ret_bool (by simp [rateB, *] <;> omega), rfl⟩
end Go.Proofs.Ytgefcejolfikoab
