/- invoice's Charge at a tariff of one tier and of unit 1, where the counts are not nought and the sum is small. -/
import Derived.Test.YthhooocckfljaaaLastOp
namespace Go.Proofs.Ythhooocckfljaaa
open Go.RowKit Go.Shelf Go.Sort
set_option linter.unusedVariables false
set_option linter.unusedSimpArgs false

/-- A number's way through a loop of one round. -/
def OneR (wr : World) (n : Nat) (A C : Int) (bl : Value) (k : Nat) : Prop := (k = 0 ∧ bl = .int .i64 0 ∧ WB wr n 0 A) ∨ (k = 1 ∧ WB wr n 0 C)

set_option maxRecDepth 100000 in
set_option maxHeartbeats 4000000 in
theorem charge_run (g : Nat) (pr hit hits bytes : Nat) (hp : pr ≤ 1099511627776) (hh : hit ≤ 1099511627776) (hi : hits ≤ 1099511627776) (hy : bytes ≤ 1099511627776) (hne : 1 ≤ hits) (ht : hit * hits + pr * bytes < 1000000000000000000)
    (w : World) (c0 : w.cell? ⟨g, 0, none⟩ = some (.int .i64 0)) (c1 : w.cell? ⟨g, 1, none⟩ = some (.int .i64 pr)) :
    Calls Try.prog 32 #[.agg #[.slice (some ⟨g, 0, none⟩) 1 1, .int .i64 1, .int .i64 hit, .int .i64 0], .int .i64 hits, .int .i64 bytes] w fun e w' => e = .returned (.tuple #[.int .i64 (upP (hit * hits + pr * bytes) 1000000), .nilIface]) ∧ Below w.heap.size w w' := by
  have hn1 := bel_new w (.cells #[.slice (some ⟨g, 0, none⟩) 1 1, .int .i64 1, .int .i64 hit, .int .i64 0] 62)
  have d0 := keep_at hn1 c0
  have d1 := keep_at hn1 c1
  have HN1 := Lib.hid hn1
  have hgl : g < w.heap.size := block_lt_of_cell c0
  have HTC := Lib.hid (tcheck_run g pr hit (by omega) (by omega) (w.alloc (.cells #[.slice (some ⟨g, 0, none⟩) 1 1, .int .i64 1, .int .i64 hit, .int .i64 0] 62)) d0 d1)
  have b0 : (w.alloc (.cells #[.slice (some ⟨g, 0, none⟩) 1 1, .int .i64 1, .int .i64 hit, .int .i64 0] 62)).cell? ⟨w.heap.size, 0, none⟩ = some (.slice (some ⟨g, 0, none⟩) 1 1) := by simp [go_sem]
  have b1 : (w.alloc (.cells #[.slice (some ⟨g, 0, none⟩) 1 1, .int .i64 1, .int .i64 hit, .int .i64 0] 62)).cell? ⟨w.heap.size, 1, none⟩ = some (.int .i64 1) := by simp [go_sem]
  have b2 : (w.alloc (.cells #[.slice (some ⟨g, 0, none⟩) 1 1, .int .i64 1, .int .i64 hit, .int .i64 0] 62)).cell? ⟨w.heap.size, 2, none⟩ = some (.int .i64 hit) := by simp [go_sem]
  have b3 : (w.alloc (.cells #[.slice (some ⟨g, 0, none⟩) 1 1, .int .i64 1, .int .i64 hit, .int .i64 0] 62)).cell? ⟨w.heap.size, 3, none⟩ = some (.int .i64 0) := by simp [go_sem]
  have hz : w.heap.size < (w.alloc (.cells #[.slice (some ⟨g, 0, none⟩) 1 1, .int .i64 1, .int .i64 hit, .int .i64 0] 62)).heap.size := by simp
  have T1 := Lib.hid (fun W => times_run hit hits (by omega) (by omega) (by omega) W)
  have T2 := Lib.hid (fun W => times_run pr bytes (by omega) (by omega) (by omega) W)
  have T3 := Lib.hid (fun W => scaled_run (hit * hits) (by omega) W)
  have hA : (((hit * hits : Nat) : Int) + ((pr * bytes : Nat) : Int)) = ((hit * hits + pr * bytes : Nat) : Int) := by omega
  have T4 := Lib.hid (fun W => plus128_run ((hit * hits : Nat) : Int) ((pr * bytes : Nat) : Int) (by omega) (by omega) (by omega) W)
  have T5 := Lib.hid (show ∀ W, Calls Try.prog 49 #[.int .u64 0, .int .u64 ((hit * hits + pr * bytes : Nat) : Int), .int .u64 1000000] W fun e w' => e = .returned (.tuple #[.int .u64 (((hit * hits + pr * bytes) / 1000000 : Nat) : Int), .int .u64 (((hit * hits + pr * bytes) % 1000000 : Nat) : Int)]) ∧ Below W.heap.size W w' from fun W => div_small (hit * hits + pr * bytes) 1000000 (by omega) (by omega) (by omega) W)
  rw [hA] at T4
  have hq0 : (0 : Int) ≤ (((hit * hits + pr * bytes) / 1000000 : Nat) : Int) := Int.natCast_nonneg _
  have hq1 : (((hit * hits + pr * bytes) / 1000000 : Nat) : Int) ≤ 1000000000000 := by omega
  have hr0 : (0 : Int) ≤ (((hit * hits + pr * bytes) % 1000000 : Nat) : Int) := Int.natCast_nonneg _
  have hU : (((hit * hits + pr * bytes) % 1000000 : Nat) : Int) = 0 ∧ ((upP (hit * hits + pr * bytes) 1000000 : Nat) : Int) = (((hit * hits + pr * bytes) / 1000000 : Nat) : Int) ∨ ¬ (((hit * hits + pr * bytes) % 1000000 : Nat) : Int) = 0 ∧ ((upP (hit * hits + pr * bytes) 1000000 : Nat) : Int) = (((hit * hits + pr * bytes) / 1000000 : Nat) : Int) + 1 := by
    unfold upP
    by_cases h : (hit * hits + pr * bytes) % 1000000 = 0
    · exact .inl ⟨by omega, by rw [if_pos h]; rfl⟩
    · exact .inr ⟨by omega, by rw [if_neg h]; rfl⟩
  have HU := Lib.hid hU
  clear hU
  generalize ((upP (hit * hits + pr * bytes) 1000000 : Nat) : Int) = U at *
  generalize (((hit * hits + pr * bytes) / 1000000 : Nat) : Int) = q at *
  generalize (((hit * hits + pr * bytes) % 1000000 : Nat) : Int) = r at *
  generalize ((hit * hits + pr * bytes : Nat) : Int) = C at *
  generalize ((pr * bytes : Nat) : Int) = B at *
  generalize ((hit * hits : Nat) : Int) = A at *
  clear hA c0 c1 hn1
  go_enter Try.func32, Try.ntmps32
  go_upto_region 1 with fail
  generalize w.alloc (.cells #[.slice (some ⟨g, 0, none⟩) 1 1, .int .i64 1, .int .i64 hit, .int .i64 0] 62) = W1 at *
  go_upto_region 2 with (go_at_call 30; refine (HTC.out).mono ?_; rintro r W2 ⟨rfl, hb2⟩)
  have k0 := keep_at hb2 d0
  have k1 := keep_at hb2 d1
  have q0 := keep_at hb2 b0
  have q1 := keep_at hb2 b1
  have q2 := keep_at hb2 b2
  have q3 := keep_at hb2 b3
  have HB2 := Lib.hid (bel_step HN1.out hb2)
  have hz2 : w.heap.size < W2.heap.size := Nat.lt_of_lt_of_le hz hb2.size
  have hgz : g < W2.heap.size := Nat.lt_trans hgl hz2
  clear d0 d1 b0 b1 b2 b3 hb2 HTC HN1 hz
  have hi0 : (1 : Int) ≤ (hits : Int) := by omega
  have hi2 : ¬ (hits : Int) = 0 := by omega
  have hi1 : (hits : Int) ≤ 1099511627776 := by omega
  have hy0 : (0 : Int) ≤ (bytes : Int) := by omega
  have hy1 : (bytes : Int) ≤ 1099511627776 := by omega
  go_upto_region 9 with fail
  have hzw : w.heap.size ≠ W2.heap.size := Nat.ne_of_lt hz2
  have hzg : g ≠ W2.heap.size := Nat.ne_of_lt hgz
  go_cut [9, 10] (fun p9 p10 wx => p10 = .int .i64 0 ∧ ∃ n6, p9 = .pointer (some ⟨n6, 0, none⟩) ∧ w.heap.size < n6 ∧ Below w.heap.size w wx ∧ WB wx n6 0 A ∧ wx.cell? ⟨g, 0, none⟩ = some (.int .i64 0) ∧ wx.cell? ⟨g, 1, none⟩ = some (.int .i64 pr) ∧ wx.cell? ⟨w.heap.size, 0, none⟩ = some (.slice (some ⟨g, 0, none⟩) 1 1) ∧ wx.cell? ⟨w.heap.size, 1, none⟩ = some (.int .i64 1) ∧ wx.cell? ⟨w.heap.size, 2, none⟩ = some (.int .i64 hit) ∧ wx.cell? ⟨w.heap.size, 3, none⟩ = some (.int .i64 0))
  case first =>
    go_region_held3 (fun w' => w'.cell? ⟨g, 0, none⟩ = some (.int .i64 0) ∧ w'.cell? ⟨g, 1, none⟩ = some (.int .i64 pr) ∧ w'.cell? ⟨w.heap.size, 0, none⟩ = some (.slice (some ⟨g, 0, none⟩) 1 1) ∧ w'.cell? ⟨w.heap.size, 1, none⟩ = some (.int .i64 1) ∧ w'.cell? ⟨w.heap.size, 2, none⟩ = some (.int .i64 hit) ∧ w'.cell? ⟨w.heap.size, 3, none⟩ = some (.int .i64 0))
      ((go_split_ands; refine ⟨?_, ?_, ?_, ?_, ?_, ?_⟩ <;> (repeat (with_reducible (first | assumption | refine keep_set hzw ?_ | refine keep_set hzg ?_ | refine keep_set hzw4 ?_ | refine keep_set hzg4 ?_ | refine keep_drew ?_ | refine keep_alloc ?_ | refine keep_at hb5 ?_ | refine keep_at hb4 ?_)))))
      (first
        | (go_at_call 46; refine (T1.out _).mono ?_; rintro r W4 ⟨rfl, hb4⟩; (with_reducible have hz4 := WB.bel (WB.drew (WB.new W2 0 0)) hb4); have hzw4 : w.heap.size ≠ W4.heap.size := (by have := hb4.size; simp [go_sem] at this; omega); have hzg4 : g ≠ W4.heap.size := (by have := hb4.size; simp [go_sem] at this; omega))
        | (go_at_call 46; refine (T1.out _).mono ?_; rintro r W4 ⟨rfl, hb4⟩; have hzw4 : w.heap.size ≠ W4.heap.size := (by have := hb4.size; simp [go_sem] at this; omega); have hzg4 : g ≠ W4.heap.size := (by have := hb4.size; simp [go_sem] at this; omega))
        | (go_at_call 47; refine (T3.out _).mono ?_; rintro r W5 ⟨rfl, hb5⟩; have hz5 := WB.bel hz4 hb5; obtain ⟨⟨z0, z1⟩, f0, f1⟩ := hz5.facts)
        | (go_at_call 47; refine (T3.out _).mono ?_; rintro r W5 ⟨rfl, hb5⟩; (with_reducible have hz5 := WB.bel (WB.new W4 0 0) hb5); obtain ⟨⟨z0, z1⟩, f0, f1⟩ := hz5.facts)
        | (go_at_call 47; refine (T3.out _).mono ?_; rintro r W5 ⟨rfl, hb5⟩)
        | fail)
    · rename_i hH
      have s4 : W2.heap.size ≤ W4.heap.size := hb4.size
      have s5 : W4.heap.size ≤ W5.heap.size := hb5.size
      have HB6 := Lib.hid (show Below w.heap.size w (W5.alloc (.cells #[.int .u64 0, .int .u64 A] 126)) from bel_alloc (bel_step (bel_step (bel_drew HB2.out) hb4) hb5))
      have HH := Lib.hid hH
      go_wp2_with fail
      go_meet
      exact ⟨rfl, _, rfl, by omega, HB6.out, WB.new W5 0 A, HH.out⟩
    · rename_i hH
      have s4 : W2.heap.size ≤ W4.heap.size := hb4.size
      have s5 : W4.heap.size ≤ W5.heap.size := Nat.le_trans (by simp) hb5.size
      have hB5 : Below w.heap.size w W5 := bel_step (bel_alloc (bel_step (bel_drew HB2.out) hb4)) hb5
      have hGS := (Only.set (b := W4.heap.size) (k := 0) (w := W5) (u := .int .u64 0)).trans (Only.set (k := 1) (u := .int .u64 A))
      have HB6 := Lib.hid (hB5.grown hGS hB5.size (fun k hk => by cases hk; omega))
      have HWB := Lib.hid (hz5.set 0 A)
      have HH := Lib.hid hH
      clear hB5 hGS hz5 z0 z1 f0 f1
      go_wp2_with fail
      go_meet
      exact ⟨rfl, _, rfl, by omega, HB6.out, HWB.out, HH.out⟩
    · rename_i hH
      have s4 : W2.heap.size ≤ W4.heap.size := Nat.le_trans (show W2.heap.size ≤ (W2.alloc (.cells #[.int .u64 0, .int .u64 0] 126)).heap.size by simp) hb4.size
      have s5 : W4.heap.size ≤ W5.heap.size := hb5.size
      have hB5 : Below w.heap.size w W5 := bel_step (bel_step (bel_drew (bel_alloc HB2.out)) hb4) hb5
      have hGS := (Only.set (b := W2.heap.size) (k := 0) (w := W5) (u := .int .u64 0)).trans (Only.set (k := 1) (u := .int .u64 A))
      have HB6 := Lib.hid (hB5.grown hGS hB5.size (fun k hk => by cases hk; omega))
      have HWB := Lib.hid (hz5.set 0 A)
      have HH := Lib.hid hH
      clear hB5 hGS hz4 hz5 z0 z1 f0 f1
      go_wp2_with fail
      go_meet
      exact ⟨rfl, _, rfl, by omega, HB6.out, HWB.out, HH.out⟩
  case rest =>
    obtain ⟨rfl, n6, rfl, n6w, hB6, hwb6, l0, l1, r0, r1, r2, r3⟩ := hcut
    have HB6 := Lib.hid hB6
    have HWB := Lib.hid hwb6
    have n6g : g < n6 := Nat.lt_trans hgl n6w
    clear hB6 hwb6 k0 k1 q0 q1 q2 q3 HB2 hzw hzg hgz hz2
    have hmx : max (0 : Int) (bytes : Int) = (bytes : Int) := by omega
    have hmx2 : max (bytes : Int) (0 : Int) = (bytes : Int) := by omega
    have hw0 : wrap64 (bytes : Int) = (bytes : Int) := by unfold wrap64; omega
    go_upto_region 11 with fail
    go_loopw [10, 49] (fun bl i wr => ∃ k : Nat, i = .int .i64 k ∧ OneR wr n6 A C bl k ∧ Only n6 wc wr) (fun _ i _ => 1 - (intOf i).toNat)
    case atStart => exact ⟨0, rfl, .inl ⟨rfl, rfl, HWB.out⟩, Only.refl _ _⟩
    case round =>
      obtain ⟨k, rfl, hk, hon⟩ := hrel
      have hnw : some w.heap.size ≠ some n6 := by simp; omega
      have hng : some g ≠ some n6 := by simp; omega
      have g0 := keep_grown hon hng l0
      have g1 := keep_grown hon hng l1
      have p0 := keep_grown hon hnw r0
      have p1 := keep_grown hon hnw r1
      have p2 := keep_grown hon hnw r2
      have p3 := keep_grown hon hnw r3
      have HON := Lib.hid hon
      clear hon l0 l1 r0 r1 r2 r3
      unfold OneR at hk
      rcases hk with ⟨rfl, rfl, hwb⟩ | ⟨rfl, hwb⟩
      · go_upto_region 13 with fail
        have hbl7 := bel_new wr (.cells #[.int .i64 0, .int .i64 pr] 59)
        have x0 : (wr.alloc (.cells #[.int .i64 0, .int .i64 pr] 59)).cell? ⟨wr.heap.size, 0, none⟩ = some (.int .i64 0) := by simp [go_sem]
        have x1 : (wr.alloc (.cells #[.int .i64 0, .int .i64 pr] 59)).cell? ⟨wr.heap.size, 1, none⟩ = some (.int .i64 pr) := by simp [go_sem]
        have s0 := keep_at hbl7 p0
        have hw7 := hwb.bel hbl7
        have hn6 : n6 ≠ wr.heap.size := Nat.ne_of_lt hwb.lt
        have HO7 := Lib.hid (HON.out.bel2 hbl7 HON.out.size)
        clear hbl7 p0 p1 p2 p3 g0 g1 HON hwb
        generalize wr.alloc (.cells #[.int .i64 0, .int .i64 pr] 59) = W7 at *
        go_upto_region 16 with fail
        obtain ⟨⟨m0, m1⟩, f0, f1⟩ := hw7.facts
        have HW7 := Lib.hid hw7
        clear hw7 x0 s0 f0 f1
        have R1 := fun d os => cell_regrown m0 d os
        have R2 := fun d os => cell_regrown m1 d os
        have R3 := fun d os => cell_regrown x1 d os
        refine wp_region_last_below (by kernel_rfl) (by kernel_rfl) (by kernel_rfl) (by kernel_rfl) (by kernel_rfl) (by kernel_rfl) ?_
        dsimp only [idleLast, lastOf, idle]
        repeat (go_big_quiet_step (first | (go_at_call 46; (with_reducible refine Calls.regrown_of (T2.out _))) | (go_at_call 48; (with_reducible refine Calls.regrown_of (T4.out _))) | fail))
        clear R1 R2 R3 m0 m1 x1
        refine wpQuiet_nil ?_
        intro w9 hw9
        have hb9 : Below W7.heap.size W7 w9 := by obtain ⟨p, rfl⟩ := hw9; exact below_regrown _ p.d p.os
        have hw9' := HW7.out.bel hb9
        obtain ⟨⟨m0, m1⟩, f0, f1⟩ := hw9'.facts
        have HS9 := Lib.hid (hw9'.set 0 C)
        have HO9 := Lib.hid (((HO7.out.bel2 hb9 HO7.out.size).trans (Only.set (b := n6) (k := 0) (w := w9) (u := .int .u64 0))).trans (Only.set (k := 1) (u := .int .u64 C)))
        clear hw9 hw9' hb9
        refine wpList_plain rfl fun K hK => ?_
        go_simp
        refine hK _ _ ?_
        clear hK K
        generalize (w9.setCell ⟨n6, 0, none⟩ (.int .u64 0)).setCell ⟨n6, 1, none⟩ (.int .u64 C) = W9 at *
        go_wp2_with fail
        go_roundw
        case rel => exact ⟨1, by go_num, .inr ⟨rfl, HS9.out⟩, HO9.out⟩
        case measure => simp [intOf]
      · obtain ⟨⟨m0, m1⟩, f0, f1⟩ := hwb.facts
        have HBR := Lib.hid (HB6.out.grown HON.out HB6.out.size (fun k hk => by cases hk; omega))
        clear hwb HON
        clear hi0 hi1 hi2 hy0 hy1 hmx hmx2 hw0 hp hh hi hy hne ht g0 g1 p0 p2 hnw hng n6w n6g hgl
        rw [show ((1 : Nat) : Int) = (1 : Int) from rfl]
        have w1 : wrap64 q = q := by unfold wrap64; omega
        have x1 : max q 0 = q := by omega
        have x2 : max 0 q = q := by omega
        have w2 : wrap64 (q + 1) = q + 1 := by unfold wrap64; omega
        have x3 : max (q + 1) 0 = q + 1 := by omega
        have x4 : max 0 (q + 1) = q + 1 := by omega
        have w3 : IntKind.u64.wrap (q + 1) = q + 1 := by simp [IntKind.wrap, IntKind.bits, IntKind.signed]; omega
        have hq2 : ¬ (1125899906842624 < q) := by omega
        have hq3 : ¬ (1125899906842624 < q + 1) := by omega
        rcases HU.out with ⟨hr, hu⟩ | ⟨hr, hu⟩
        · subst hr hu
          go_wp2_with (go_at_call 49; refine (T5.out _).mono ?_; rintro rr W10 ⟨rfl, hb10⟩; have p30 := keep_at hb10 p3)
          go_ret2
          exact ⟨rfl, bel_step HBR.out hb10⟩
        · subst hu
          have hr1 : 0 < r := by omega
          go_wp2_with (go_at_call 49; refine (T5.out _).mono ?_; rintro rr W10 ⟨rfl, hb10⟩; have p30 := keep_at hb10 p3)
          go_ret2
          exact ⟨rfl, bel_step HBR.out hb10⟩
end Go.Proofs.Ythhooocckfljaaa
