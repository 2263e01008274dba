/- invoice's price, times, scaled, plus; Div64 where the high word is nought; Up. -/
import Derived.Test.YthhooocckfljaaaShelfB
import Derived.Test.YthhooocckfljaaaTorn
import Derived.Deep.RegionHeld3
import Derived.Laws.Externs
namespace Go.Proofs.Ythhooocckfljaaa
open Go.RowKit Go.Shelf
set_option linter.unusedVariables false
set_option linter.unusedSimpArgs false

theorem price_run (n : Int) (h0 : 0 ≤ n) (h1 : n ≤ 1099511627776) (w : World) : Calls Try.prog 45 #[.int .i64 n] w fun e w' => e = .returned (.bool true) ∧ w = w' := by
  go_enter Try.func45, Try.ntmps45
  go_wp2_with fail
  go_ret
  exact ⟨by simp, rfl⟩
theorem mul_small (x y : Nat) (h : x * y < 4611686018427387904) (hx : x < 18446744073709551616) (hy : y < 18446744073709551616) (w : World) :
    Calls Try.prog 55 #[.int .u64 x, .int .u64 y] w fun e w' => e = .returned (.tuple #[.int .u64 0, .int .u64 ((x * y : Nat) : Int)]) ∧ w = w' :=
  (Try.bits_Mul64 x y hx hy w).mono fun e w' ⟨he, hw⟩ => ⟨by rw [he, Nat.div_eq_of_lt (by omega), Nat.mod_eq_of_lt (by omega)]; rfl, hw.symm⟩
theorem times_run (x y : Nat) (h : x * y < 4611686018427387904) (hx : x ≤ 9223372036854775807) (hy : y ≤ 9223372036854775807) (w : World) :
    Calls Try.prog 46 #[.int .i64 x, .int .i64 y] w fun e w' => e = .returned (.agg #[.int .u64 0, .int .u64 ((x * y : Nat) : Int)]) ∧ Below w.heap.size w w' := by
  have HM := Lib.hid (fun W => mul_small x y h (by omega) (by omega) W)
  have hx0 : (0 : Int) ≤ (x : Int) := by omega
  have hx1 : (x : Int) ≤ 9223372036854775807 := by omega
  have hy0 : (0 : Int) ≤ (y : Int) := by omega
  have hy1 : (y : Int) ≤ 9223372036854775807 := by omega
  have hn := bel_new w (.cells #[.int .u64 0, .int .u64 ((x * y : Nat) : Int)] 126)
  have hg := heap_alloc_new w (.cells #[.int .u64 0, .int .u64 ((x * y : Nat) : Int)] 126)
  have HN := Lib.hid hn
  have HG := Lib.hid hg
  clear hn hg
  generalize ((x * y : Nat) : Int) = z at *
  generalize (x : Int) = a at *
  generalize (y : Int) = b at *
  clear h
  go_enter Try.func46, Try.ntmps46
  go_wp2_with (go_at_call 55; refine (HM.out _).mono ?_; rintro e w' ⟨rfl, rfl⟩)
  refine bodyPost_ret (results_cell_row rfl _ _ w.heap.size 126 #[.int .u64 0, .int .u64 z] (0, 0) _ rfl HG.out Try.underlying126 rfl (by kernel_rfl)) rfl ?_
  exact ⟨rfl, HN.out⟩
set_option maxRecDepth 1000000 in
set_option maxHeartbeats 2000000 in
theorem div_small (x y : Nat) (hy : 0 < y) (hx : x < 18446744073709551616) (hy1 : y < 18446744073709551616) (w : World) :
    Calls Try.prog 49 #[.int .u64 0, .int .u64 x, .int .u64 y] w fun e w' => e = .returned (.tuple #[.int .u64 ((x / y : Nat) : Int), .int .u64 ((x % y : Nat) : Int)]) ∧ Below w.heap.size w w' := by
  have hx0 : (0 : Int) ≤ (x : Int) := by omega
  have hx1 : (x : Int) < 18446744073709551616 := by omega
  have hy0 : (0 : Int) < (y : Int) := by omega
  have hyn : ¬ (y : Int) = 0 := by omega
  have hy2 : (y : Int) < 18446744073709551616 := by omega
  have HQ := Lib.hid (show ((x / y : Nat) : Int) = (x : Int) / (y : Int) from Int.natCast_ediv x y)
  have HR := Lib.hid (show ((x % y : Nat) : Int) = (x : Int) % (y : Int) from Int.natCast_emod x y)
  clear hx hy hy1
  generalize ((x / y : Nat) : Int) = q at *
  generalize ((x % y : Nat) : Int) = r at *
  generalize (x : Int) = a at *
  generalize (y : Int) = b at *
  have hq1 : a.tdiv b = q := by rw [Int.tdiv_eq_ediv_of_nonneg hx0, HQ.out]
  have hr1 : a.tmod b = r := by rw [Int.tmod_eq_emod_of_nonneg hx0, HR.out]
  have hq2 : IntKind.u64.wrap (a.tdiv b) = q := by
    have h1 : 0 ≤ q := by rw [HQ.out]; exact Int.ediv_nonneg hx0 (by omega)
    have h2 : q ≤ a := by rw [HQ.out]; exact Int.ediv_le_self b hx0
    rw [hq1]
    simp [IntKind.wrap, IntKind.bits, IntKind.signed]
    omega
  have HQ2 := Lib.hid hq2
  have HR1 := Lib.hid hr1
  clear hq1 hr1 hq2 HQ HR
  go_enter Try.func49, Try.ntmps49
  go_upto_region 6 with fail
  go_region_held3 (fun w' => True) (trivial) (fail)
  go_wp2_with fail
  go_ret2
  exact ⟨by rw [← HQ2.out, ← HR1.out]; rfl, bel_drew (Below.refl _ _)⟩
/-- bits.Add64 (in place) in a call of its own: nothing. -/
theorem scaled_run (x : Nat) (hx : x < 4611686018427387904) (w : World) :
    Calls Try.prog 47 #[.agg #[.int .u64 0, .int .u64 x], .int .i64 1] w fun e w' => e = .returned (.agg #[.int .u64 0, .int .u64 x]) ∧ Below w.heap.size w w' := by
  have HM := Lib.hid (fun W => mul_small x 1 (by omega) (by omega) (by omega) W)
  have hx0 : (0 : Int) ≤ (x : Int) := by omega
  have hx1 : (x : Int) ≤ 9223372036854775807 := by omega
  have hn1 := bel_new w (.cells #[.int .u64 0, .int .u64 x] 126)
  have hn2 := bel_step hn1 (bel_new (w.alloc (.cells #[.int .u64 0, .int .u64 x] 126)) (.cells #[.int .u64 0, .int .u64 x] 126))
  have hg := heap_alloc_new (w.alloc (.cells #[.int .u64 0, .int .u64 x] 126)) (.cells #[.int .u64 0, .int .u64 x] 126)
  rw [World.size_alloc] at hg
  have HN := Lib.hid hn2
  have HG := Lib.hid hg
  rw [Nat.mul_one] at HM
  clear hn1 hn2 hg hx
  change Hid (∀ W, Calls Try.prog 55 #[.int .u64 (x : Int), .int .u64 1] W _) at HM
  generalize (x : Int) = a at *
  go_enter Try.func47, Try.ntmps47
  go_wp2_with (go_at_call 55; refine (HM.out _).mono ?_; rintro e w' ⟨rfl, rfl⟩)
  refine bodyPost_ret (results_cell_row rfl _ _ (w.heap.size + 1) 126 #[.int .u64 0, .int .u64 a] (0, 0) _ rfl HG.out Try.underlying126 rfl (by kernel_rfl)) rfl ?_
  exact ⟨rfl, HN.out⟩
theorem add_law (x y : Int) (hx : 0 ≤ x) (hy : 0 ≤ y) (h : x + y < 4611686018427387904) (w : World) :
    (callFunc 56 #[.int .u64 x, .int .u64 y, .int .u64 0]).run Try.prog w = .ok (.value (.tuple #[.int .u64 (x + y), .int .u64 0])) w := by
  rw [run_callFunc_extern Try.func56 (by kernel_rfl) (by kernel_rfl) (by kernel_rfl) (e := add64Entry) (by kernel_rfl), run_add64 x y 0 hx hy (by omega) (by omega)]
  simp only [Result.andThen]
  rw [show (x + y + 0) % 18446744073709551616 = x + y by omega, show (x + y + 0) / 18446744073709551616 = 0 by omega]
theorem plus128_run (x y : Int) (hx : 0 ≤ x) (hy : 0 ≤ y) (h : x + y < 4611686018427387904) (w : World) :
    Calls Try.prog 48 #[.agg #[.int .u64 0, .int .u64 x], .agg #[.int .u64 0, .int .u64 y]] w fun e w' => e = .returned (.agg #[.int .u64 0, .int .u64 (x + y)]) ∧ Below w.heap.size w w' := by
  have a1 := fun W => add_law x y hx hy h W
  have a2 := fun W => add_law 0 0 (by omega) (by omega) (by omega) W
  simp only [Int.add_zero] at a2
  have hn1 := bel_new w (.cells #[.int .u64 0, .int .u64 x] 126)
  have hn2 := bel_step hn1 (bel_new (w.alloc (.cells #[.int .u64 0, .int .u64 x] 126)) (.cells #[.int .u64 0, .int .u64 y] 126))
  have hn3 := bel_step hn2 (bel_new ((w.alloc (.cells #[.int .u64 0, .int .u64 x] 126)).alloc (.cells #[.int .u64 0, .int .u64 y] 126)) (.cells #[.int .u64 0, .int .u64 (x + y)] 126))
  have hg := heap_alloc_new ((w.alloc (.cells #[.int .u64 0, .int .u64 x] 126)).alloc (.cells #[.int .u64 0, .int .u64 y] 126)) (.cells #[.int .u64 0, .int .u64 (x + y)] 126)
  rw [World.size_alloc, World.size_alloc] at hg
  have HN := Lib.hid hn3
  have HG := Lib.hid hg
  clear hn1 hn2 hn3 hg h
  go_enter Try.func48, Try.ntmps48
  go_wp2_with fail
  refine bodyPost_ret (results_cell_row rfl _ _ (w.heap.size + 1 + 1) 126 #[.int .u64 0, .int .u64 (x + y)] (0, 0) _ rfl HG.out Try.underlying126 rfl (by kernel_rfl)) rfl ?_
  exact ⟨rfl, HN.out⟩
/-- A quotient, rounded up. -/
def upP (a b : Nat) : Nat := a / b + if a % b = 0 then 0 else 1
theorem up_int (a b q r : Int) (hq : a / b = q) (hr : q * b = a - r) (ha : 0 ≤ a) (ha1 : a < 4611686018427387904) (hb : 0 < b) (hq0 : 0 ≤ q) (hq1 : q ≤ a) (hr0 : 0 ≤ r) (hr1 : r ≤ a) (w : World) :
    Calls Try.prog 16 #[.int .i64 a, .int .i64 b] w fun e w' => e = .returned (.int .i64 (if r = 0 then q else q + 1)) ∧ w = w' := by
  have h1 : wrap64 q = q := by unfold wrap64; omega
  have h2 : wrap64 (a - r) = a - r := by unfold wrap64; omega
  have h3 : wrap64 (q + 1) = q + 1 := by unfold wrap64; omega
  have hbn : ¬ b = 0 := by omega
  clear hq0 hq1
  by_cases h : r = 0
  · subst h
    rw [if_pos rfl]
    rw [Int.sub_zero] at hr h2
    go_enter Try.func16, Try.ntmps16
    go_wp2_with fail
    go_ret
    exact ⟨by rw [← hq]; rfl, rfl⟩
  · rw [if_neg h]
    have hlt : a - r < a := by omega
    go_enter Try.func16, Try.ntmps16
    go_wp2_with fail
    go_ret
    exact ⟨by show Ending.returned (Value.int .i64 (wrap64 (q + 1))) = _; rw [h3], rfl⟩
theorem up_run (x y : Nat) (hy : 0 < y) (hx : x < 4611686018427387904) (w : World) : Calls Try.prog 16 #[.int .i64 x, .int .i64 y] w fun e w' => e = .returned (.int .i64 (upP x y)) ∧ w = w' := by
  have hd := Nat.div_add_mod x y
  have hlt := Nat.mod_le x y
  have hle : x / y ≤ x := Nat.div_le_self x y
  have e3 : (((x / y : Nat) : Int)) * (y : Int) = ((x : Int)) - ((x % y : Nat) : Int) := by
    rw [← Int.natCast_mul, Nat.mul_comm]; omega
  refine (up_int x y ((x / y : Nat) : Int) ((x % y : Nat) : Int) (Int.natCast_ediv x y).symm e3 (by omega) (by omega) (by omega) (Int.natCast_nonneg _) (Int.ofNat_le.2 hle) (Int.natCast_nonneg _) (Int.ofNat_le.2 hlt) w).mono ?_
  rintro e w' ⟨rfl, rfl⟩
  refine ⟨?_, rfl⟩
  unfold upP
  by_cases h : x % y = 0
  · rw [if_pos (by omega), if_pos h]; rfl
  · rw [if_neg (by omega), if_neg h]; rfl
end Go.Proofs.Ythhooocckfljaaa
