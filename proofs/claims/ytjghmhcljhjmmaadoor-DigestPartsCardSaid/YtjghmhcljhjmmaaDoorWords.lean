/- The walks of the rotations. No condition. -/
import Derived.Test.YtjghmhcljhjmmaaDoorOwnO
namespace Go.Proofs.YtjghmhcljhjmmaaDoor
open Go.RowKit
set_option linter.unusedVariables false
set_option linter.unusedSimpArgs false


theorem rotl_17 (x : W32) (w : World) : Calls Tryd.prog 40 #[wV x, .int .i64 (-17)] w fun e w' => e = .returned (wV (rr x 17)) ∧ w = w' := by
  have hb : bits BinOp.and IntKind.u64 (IntKind.u64.wrap (-17)) 31 = 15 := by decide
  have h1 : bits .or .u32 ((wn x : Int) * 32768 % 4294967296) ((wn x : Int) / 131072) = (wn (rr x 17) : Int) := by
    have h1 : (wn x : Int) * (32768 : Int) % (4294967296 : Int) = (wn (x <<< (15 : Nat)) : Int) := shlI x 15
    have h2 : (wn x : Int) / (131072 : Int) = (wn (x >>> (17 : Nat)) : Int) := shrI x 17
    rw [h1, h2, or_w]
    rfl
  unfold wV
  go_enter Tryd.func40, Tryd.ntmps40
  go_wp2
  go_ret
  exact ⟨rfl, rfl⟩
theorem rotr_17 (x : W32) (w : World) : Calls Tryd.prog 38 #[wV x, .int .i64 17] w fun e w' => e = .returned (wV (rr x 17)) ∧ w = w' := by
  have HX := Lib.hid (rotl_17 x)
  unfold wV at *
  go_enter Tryd.func38, Tryd.ntmps38
  go_wp2_with (go_at_call 40; refine (HX.out _).mono ?_; rintro e w' ⟨rfl, rfl⟩)
  go_ret
  exact ⟨rfl, rfl⟩
theorem rrot_17 (x : W32) (w : World) (m : Nat) : Calls Tryd.prog 35 #[wV x, .int .i64 17] (w.drewN m) fun e w' => e = .returned (wV (rr x 17)) ∧ ∃ k, w' = w.drewN k := by
  have h3 : bits .or .u32 ((wn x : Int) / 131072) ((wn x : Int) * 32768 % 4294967296) = (wn (rr x 17) : Int) := by
    have h1 : (wn x : Int) * (32768 : Int) % (4294967296 : Int) = (wn (x <<< (15 : Nat)) : Int) := shlI x 15
    have h2 : (wn x : Int) / (131072 : Int) = (wn (x >>> (17 : Nat)) : Int) := shrI x 17
    rw [h1, h2, or_w, BitVec.or_comm]
    rfl
  unfold wV
  go_enter Tryd.func35, Tryd.ntmps35
  go_wp2
  go_quiet (fail)
  go_wp2
  go_ret
  exact ⟨rfl, _, drewN_two _ _ _⟩
theorem rotl_19 (x : W32) (w : World) : Calls Tryd.prog 40 #[wV x, .int .i64 (-19)] w fun e w' => e = .returned (wV (rr x 19)) ∧ w = w' := by
  have hb : bits BinOp.and IntKind.u64 (IntKind.u64.wrap (-19)) 31 = 13 := by decide
  have h1 : bits .or .u32 ((wn x : Int) * 8192 % 4294967296) ((wn x : Int) / 524288) = (wn (rr x 19) : Int) := by
    have h1 : (wn x : Int) * (8192 : Int) % (4294967296 : Int) = (wn (x <<< (13 : Nat)) : Int) := shlI x 13
    have h2 : (wn x : Int) / (524288 : Int) = (wn (x >>> (19 : Nat)) : Int) := shrI x 19
    rw [h1, h2, or_w]
    rfl
  unfold wV
  go_enter Tryd.func40, Tryd.ntmps40
  go_wp2
  go_ret
  exact ⟨rfl, rfl⟩
theorem rotr_19 (x : W32) (w : World) : Calls Tryd.prog 38 #[wV x, .int .i64 19] w fun e w' => e = .returned (wV (rr x 19)) ∧ w = w' := by
  have HX := Lib.hid (rotl_19 x)
  unfold wV at *
  go_enter Tryd.func38, Tryd.ntmps38
  go_wp2_with (go_at_call 40; refine (HX.out _).mono ?_; rintro e w' ⟨rfl, rfl⟩)
  go_ret
  exact ⟨rfl, rfl⟩
theorem rrot_19 (x : W32) (w : World) (m : Nat) : Calls Tryd.prog 35 #[wV x, .int .i64 19] (w.drewN m) fun e w' => e = .returned (wV (rr x 19)) ∧ ∃ k, w' = w.drewN k := by
  have h3 : bits .or .u32 ((wn x : Int) / 524288) ((wn x : Int) * 8192 % 4294967296) = (wn (rr x 19) : Int) := by
    have h1 : (wn x : Int) * (8192 : Int) % (4294967296 : Int) = (wn (x <<< (13 : Nat)) : Int) := shlI x 13
    have h2 : (wn x : Int) / (524288 : Int) = (wn (x >>> (19 : Nat)) : Int) := shrI x 19
    rw [h1, h2, or_w, BitVec.or_comm]
    rfl
  unfold wV
  go_enter Tryd.func35, Tryd.ntmps35
  go_wp2
  go_quiet (fail)
  go_wp2
  go_ret
  exact ⟨rfl, _, drewN_two _ _ _⟩
theorem rotl_7 (x : W32) (w : World) : Calls Tryd.prog 40 #[wV x, .int .i64 (-7)] w fun e w' => e = .returned (wV (rr x 7)) ∧ w = w' := by
  have hb : bits BinOp.and IntKind.u64 (IntKind.u64.wrap (-7)) 31 = 25 := by decide
  have h1 : bits .or .u32 ((wn x : Int) * 33554432 % 4294967296) ((wn x : Int) / 128) = (wn (rr x 7) : Int) := by
    have h1 : (wn x : Int) * (33554432 : Int) % (4294967296 : Int) = (wn (x <<< (25 : Nat)) : Int) := shlI x 25
    have h2 : (wn x : Int) / (128 : Int) = (wn (x >>> (7 : Nat)) : Int) := shrI x 7
    rw [h1, h2, or_w]
    rfl
  unfold wV
  go_enter Tryd.func40, Tryd.ntmps40
  go_wp2
  go_ret
  exact ⟨rfl, rfl⟩
theorem rotr_7 (x : W32) (w : World) : Calls Tryd.prog 38 #[wV x, .int .i64 7] w fun e w' => e = .returned (wV (rr x 7)) ∧ w = w' := by
  have HX := Lib.hid (rotl_7 x)
  unfold wV at *
  go_enter Tryd.func38, Tryd.ntmps38
  go_wp2_with (go_at_call 40; refine (HX.out _).mono ?_; rintro e w' ⟨rfl, rfl⟩)
  go_ret
  exact ⟨rfl, rfl⟩
theorem rrot_7 (x : W32) (w : World) (m : Nat) : Calls Tryd.prog 35 #[wV x, .int .i64 7] (w.drewN m) fun e w' => e = .returned (wV (rr x 7)) ∧ ∃ k, w' = w.drewN k := by
  have h3 : bits .or .u32 ((wn x : Int) / 128) ((wn x : Int) * 33554432 % 4294967296) = (wn (rr x 7) : Int) := by
    have h1 : (wn x : Int) * (33554432 : Int) % (4294967296 : Int) = (wn (x <<< (25 : Nat)) : Int) := shlI x 25
    have h2 : (wn x : Int) / (128 : Int) = (wn (x >>> (7 : Nat)) : Int) := shrI x 7
    rw [h1, h2, or_w, BitVec.or_comm]
    rfl
  unfold wV
  go_enter Tryd.func35, Tryd.ntmps35
  go_wp2
  go_quiet (fail)
  go_wp2
  go_ret
  exact ⟨rfl, _, drewN_two _ _ _⟩
theorem rotl_18 (x : W32) (w : World) : Calls Tryd.prog 40 #[wV x, .int .i64 (-18)] w fun e w' => e = .returned (wV (rr x 18)) ∧ w = w' := by
  have hb : bits BinOp.and IntKind.u64 (IntKind.u64.wrap (-18)) 31 = 14 := by decide
  have h1 : bits .or .u32 ((wn x : Int) * 16384 % 4294967296) ((wn x : Int) / 262144) = (wn (rr x 18) : Int) := by
    have h1 : (wn x : Int) * (16384 : Int) % (4294967296 : Int) = (wn (x <<< (14 : Nat)) : Int) := shlI x 14
    have h2 : (wn x : Int) / (262144 : Int) = (wn (x >>> (18 : Nat)) : Int) := shrI x 18
    rw [h1, h2, or_w]
    rfl
  unfold wV
  go_enter Tryd.func40, Tryd.ntmps40
  go_wp2
  go_ret
  exact ⟨rfl, rfl⟩
theorem rotr_18 (x : W32) (w : World) : Calls Tryd.prog 38 #[wV x, .int .i64 18] w fun e w' => e = .returned (wV (rr x 18)) ∧ w = w' := by
  have HX := Lib.hid (rotl_18 x)
  unfold wV at *
  go_enter Tryd.func38, Tryd.ntmps38
  go_wp2_with (go_at_call 40; refine (HX.out _).mono ?_; rintro e w' ⟨rfl, rfl⟩)
  go_ret
  exact ⟨rfl, rfl⟩
theorem rrot_18 (x : W32) (w : World) (m : Nat) : Calls Tryd.prog 35 #[wV x, .int .i64 18] (w.drewN m) fun e w' => e = .returned (wV (rr x 18)) ∧ ∃ k, w' = w.drewN k := by
  have h3 : bits .or .u32 ((wn x : Int) / 262144) ((wn x : Int) * 16384 % 4294967296) = (wn (rr x 18) : Int) := by
    have h1 : (wn x : Int) * (16384 : Int) % (4294967296 : Int) = (wn (x <<< (14 : Nat)) : Int) := shlI x 14
    have h2 : (wn x : Int) / (262144 : Int) = (wn (x >>> (18 : Nat)) : Int) := shrI x 18
    rw [h1, h2, or_w, BitVec.or_comm]
    rfl
  unfold wV
  go_enter Tryd.func35, Tryd.ntmps35
  go_wp2
  go_quiet (fail)
  go_wp2
  go_ret
  exact ⟨rfl, _, drewN_two _ _ _⟩
theorem rotl_6 (x : W32) (w : World) : Calls Tryd.prog 40 #[wV x, .int .i64 (-6)] w fun e w' => e = .returned (wV (rr x 6)) ∧ w = w' := by
  have hb : bits BinOp.and IntKind.u64 (IntKind.u64.wrap (-6)) 31 = 26 := by decide
  have h1 : bits .or .u32 ((wn x : Int) * 67108864 % 4294967296) ((wn x : Int) / 64) = (wn (rr x 6) : Int) := by
    have h1 : (wn x : Int) * (67108864 : Int) % (4294967296 : Int) = (wn (x <<< (26 : Nat)) : Int) := shlI x 26
    have h2 : (wn x : Int) / (64 : Int) = (wn (x >>> (6 : Nat)) : Int) := shrI x 6
    rw [h1, h2, or_w]
    rfl
  unfold wV
  go_enter Tryd.func40, Tryd.ntmps40
  go_wp2
  go_ret
  exact ⟨rfl, rfl⟩
theorem rotr_6 (x : W32) (w : World) : Calls Tryd.prog 38 #[wV x, .int .i64 6] w fun e w' => e = .returned (wV (rr x 6)) ∧ w = w' := by
  have HX := Lib.hid (rotl_6 x)
  unfold wV at *
  go_enter Tryd.func38, Tryd.ntmps38
  go_wp2_with (go_at_call 40; refine (HX.out _).mono ?_; rintro e w' ⟨rfl, rfl⟩)
  go_ret
  exact ⟨rfl, rfl⟩
theorem rrot_6 (x : W32) (w : World) (m : Nat) : Calls Tryd.prog 35 #[wV x, .int .i64 6] (w.drewN m) fun e w' => e = .returned (wV (rr x 6)) ∧ ∃ k, w' = w.drewN k := by
  have h3 : bits .or .u32 ((wn x : Int) / 64) ((wn x : Int) * 67108864 % 4294967296) = (wn (rr x 6) : Int) := by
    have h1 : (wn x : Int) * (67108864 : Int) % (4294967296 : Int) = (wn (x <<< (26 : Nat)) : Int) := shlI x 26
    have h2 : (wn x : Int) / (64 : Int) = (wn (x >>> (6 : Nat)) : Int) := shrI x 6
    rw [h1, h2, or_w, BitVec.or_comm]
    rfl
  unfold wV
  go_enter Tryd.func35, Tryd.ntmps35
  go_wp2
  go_quiet (fail)
  go_wp2
  go_ret
  exact ⟨rfl, _, drewN_two _ _ _⟩
theorem rotl_11 (x : W32) (w : World) : Calls Tryd.prog 40 #[wV x, .int .i64 (-11)] w fun e w' => e = .returned (wV (rr x 11)) ∧ w = w' := by
  have hb : bits BinOp.and IntKind.u64 (IntKind.u64.wrap (-11)) 31 = 21 := by decide
  have h1 : bits .or .u32 ((wn x : Int) * 2097152 % 4294967296) ((wn x : Int) / 2048) = (wn (rr x 11) : Int) := by
    have h1 : (wn x : Int) * (2097152 : Int) % (4294967296 : Int) = (wn (x <<< (21 : Nat)) : Int) := shlI x 21
    have h2 : (wn x : Int) / (2048 : Int) = (wn (x >>> (11 : Nat)) : Int) := shrI x 11
    rw [h1, h2, or_w]
    rfl
  unfold wV
  go_enter Tryd.func40, Tryd.ntmps40
  go_wp2
  go_ret
  exact ⟨rfl, rfl⟩
theorem rotr_11 (x : W32) (w : World) : Calls Tryd.prog 38 #[wV x, .int .i64 11] w fun e w' => e = .returned (wV (rr x 11)) ∧ w = w' := by
  have HX := Lib.hid (rotl_11 x)
  unfold wV at *
  go_enter Tryd.func38, Tryd.ntmps38
  go_wp2_with (go_at_call 40; refine (HX.out _).mono ?_; rintro e w' ⟨rfl, rfl⟩)
  go_ret
  exact ⟨rfl, rfl⟩
theorem rrot_11 (x : W32) (w : World) (m : Nat) : Calls Tryd.prog 35 #[wV x, .int .i64 11] (w.drewN m) fun e w' => e = .returned (wV (rr x 11)) ∧ ∃ k, w' = w.drewN k := by
  have h3 : bits .or .u32 ((wn x : Int) / 2048) ((wn x : Int) * 2097152 % 4294967296) = (wn (rr x 11) : Int) := by
    have h1 : (wn x : Int) * (2097152 : Int) % (4294967296 : Int) = (wn (x <<< (21 : Nat)) : Int) := shlI x 21
    have h2 : (wn x : Int) / (2048 : Int) = (wn (x >>> (11 : Nat)) : Int) := shrI x 11
    rw [h1, h2, or_w, BitVec.or_comm]
    rfl
  unfold wV
  go_enter Tryd.func35, Tryd.ntmps35
  go_wp2
  go_quiet (fail)
  go_wp2
  go_ret
  exact ⟨rfl, _, drewN_two _ _ _⟩
theorem rotl_25 (x : W32) (w : World) : Calls Tryd.prog 40 #[wV x, .int .i64 (-25)] w fun e w' => e = .returned (wV (rr x 25)) ∧ w = w' := by
  have hb : bits BinOp.and IntKind.u64 (IntKind.u64.wrap (-25)) 31 = 7 := by decide
  have h1 : bits .or .u32 ((wn x : Int) * 128 % 4294967296) ((wn x : Int) / 33554432) = (wn (rr x 25) : Int) := by
    have h1 : (wn x : Int) * (128 : Int) % (4294967296 : Int) = (wn (x <<< (7 : Nat)) : Int) := shlI x 7
    have h2 : (wn x : Int) / (33554432 : Int) = (wn (x >>> (25 : Nat)) : Int) := shrI x 25
    rw [h1, h2, or_w]
    rfl
  unfold wV
  go_enter Tryd.func40, Tryd.ntmps40
  go_wp2
  go_ret
  exact ⟨rfl, rfl⟩
theorem rotr_25 (x : W32) (w : World) : Calls Tryd.prog 38 #[wV x, .int .i64 25] w fun e w' => e = .returned (wV (rr x 25)) ∧ w = w' := by
  have HX := Lib.hid (rotl_25 x)
  unfold wV at *
  go_enter Tryd.func38, Tryd.ntmps38
  go_wp2_with (go_at_call 40; refine (HX.out _).mono ?_; rintro e w' ⟨rfl, rfl⟩)
  go_ret
  exact ⟨rfl, rfl⟩
theorem rrot_25 (x : W32) (w : World) (m : Nat) : Calls Tryd.prog 35 #[wV x, .int .i64 25] (w.drewN m) fun e w' => e = .returned (wV (rr x 25)) ∧ ∃ k, w' = w.drewN k := by
  have h3 : bits .or .u32 ((wn x : Int) / 33554432) ((wn x : Int) * 128 % 4294967296) = (wn (rr x 25) : Int) := by
    have h1 : (wn x : Int) * (128 : Int) % (4294967296 : Int) = (wn (x <<< (7 : Nat)) : Int) := shlI x 7
    have h2 : (wn x : Int) / (33554432 : Int) = (wn (x >>> (25 : Nat)) : Int) := shrI x 25
    rw [h1, h2, or_w, BitVec.or_comm]
    rfl
  unfold wV
  go_enter Tryd.func35, Tryd.ntmps35
  go_wp2
  go_quiet (fail)
  go_wp2
  go_ret
  exact ⟨rfl, _, drewN_two _ _ _⟩
theorem rotl_2 (x : W32) (w : World) : Calls Tryd.prog 40 #[wV x, .int .i64 (-2)] w fun e w' => e = .returned (wV (rr x 2)) ∧ w = w' := by
  have hb : bits BinOp.and IntKind.u64 (IntKind.u64.wrap (-2)) 31 = 30 := by decide
  have h1 : bits .or .u32 ((wn x : Int) * 1073741824 % 4294967296) ((wn x : Int) / 4) = (wn (rr x 2) : Int) := by
    have h1 : (wn x : Int) * (1073741824 : Int) % (4294967296 : Int) = (wn (x <<< (30 : Nat)) : Int) := shlI x 30
    have h2 : (wn x : Int) / (4 : Int) = (wn (x >>> (2 : Nat)) : Int) := shrI x 2
    rw [h1, h2, or_w]
    rfl
  unfold wV
  go_enter Tryd.func40, Tryd.ntmps40
  go_wp2
  go_ret
  exact ⟨rfl, rfl⟩
theorem rotr_2 (x : W32) (w : World) : Calls Tryd.prog 38 #[wV x, .int .i64 2] w fun e w' => e = .returned (wV (rr x 2)) ∧ w = w' := by
  have HX := Lib.hid (rotl_2 x)
  unfold wV at *
  go_enter Tryd.func38, Tryd.ntmps38
  go_wp2_with (go_at_call 40; refine (HX.out _).mono ?_; rintro e w' ⟨rfl, rfl⟩)
  go_ret
  exact ⟨rfl, rfl⟩
theorem rrot_2 (x : W32) (w : World) (m : Nat) : Calls Tryd.prog 35 #[wV x, .int .i64 2] (w.drewN m) fun e w' => e = .returned (wV (rr x 2)) ∧ ∃ k, w' = w.drewN k := by
  have h3 : bits .or .u32 ((wn x : Int) / 4) ((wn x : Int) * 1073741824 % 4294967296) = (wn (rr x 2) : Int) := by
    have h1 : (wn x : Int) * (1073741824 : Int) % (4294967296 : Int) = (wn (x <<< (30 : Nat)) : Int) := shlI x 30
    have h2 : (wn x : Int) / (4 : Int) = (wn (x >>> (2 : Nat)) : Int) := shrI x 2
    rw [h1, h2, or_w, BitVec.or_comm]
    rfl
  unfold wV
  go_enter Tryd.func35, Tryd.ntmps35
  go_wp2
  go_quiet (fail)
  go_wp2
  go_ret
  exact ⟨rfl, _, drewN_two _ _ _⟩
theorem rotl_13 (x : W32) (w : World) : Calls Tryd.prog 40 #[wV x, .int .i64 (-13)] w fun e w' => e = .returned (wV (rr x 13)) ∧ w = w' := by
  have hb : bits BinOp.and IntKind.u64 (IntKind.u64.wrap (-13)) 31 = 19 := by decide
  have h1 : bits .or .u32 ((wn x : Int) * 524288 % 4294967296) ((wn x : Int) / 8192) = (wn (rr x 13) : Int) := by
    have h1 : (wn x : Int) * (524288 : Int) % (4294967296 : Int) = (wn (x <<< (19 : Nat)) : Int) := shlI x 19
    have h2 : (wn x : Int) / (8192 : Int) = (wn (x >>> (13 : Nat)) : Int) := shrI x 13
    rw [h1, h2, or_w]
    rfl
  unfold wV
  go_enter Tryd.func40, Tryd.ntmps40
  go_wp2
  go_ret
  exact ⟨rfl, rfl⟩
theorem rotr_13 (x : W32) (w : World) : Calls Tryd.prog 38 #[wV x, .int .i64 13] w fun e w' => e = .returned (wV (rr x 13)) ∧ w = w' := by
  have HX := Lib.hid (rotl_13 x)
  unfold wV at *
  go_enter Tryd.func38, Tryd.ntmps38
  go_wp2_with (go_at_call 40; refine (HX.out _).mono ?_; rintro e w' ⟨rfl, rfl⟩)
  go_ret
  exact ⟨rfl, rfl⟩
theorem rrot_13 (x : W32) (w : World) (m : Nat) : Calls Tryd.prog 35 #[wV x, .int .i64 13] (w.drewN m) fun e w' => e = .returned (wV (rr x 13)) ∧ ∃ k, w' = w.drewN k := by
  have h3 : bits .or .u32 ((wn x : Int) / 8192) ((wn x : Int) * 524288 % 4294967296) = (wn (rr x 13) : Int) := by
    have h1 : (wn x : Int) * (524288 : Int) % (4294967296 : Int) = (wn (x <<< (19 : Nat)) : Int) := shlI x 19
    have h2 : (wn x : Int) / (8192 : Int) = (wn (x >>> (13 : Nat)) : Int) := shrI x 13
    rw [h1, h2, or_w, BitVec.or_comm]
    rfl
  unfold wV
  go_enter Tryd.func35, Tryd.ntmps35
  go_wp2
  go_quiet (fail)
  go_wp2
  go_ret
  exact ⟨rfl, _, drewN_two _ _ _⟩
theorem rotl_22 (x : W32) (w : World) : Calls Tryd.prog 40 #[wV x, .int .i64 (-22)] w fun e w' => e = .returned (wV (rr x 22)) ∧ w = w' := by
  have hb : bits BinOp.and IntKind.u64 (IntKind.u64.wrap (-22)) 31 = 10 := by decide
  have h1 : bits .or .u32 ((wn x : Int) * 1024 % 4294967296) ((wn x : Int) / 4194304) = (wn (rr x 22) : Int) := by
    have h1 : (wn x : Int) * (1024 : Int) % (4294967296 : Int) = (wn (x <<< (10 : Nat)) : Int) := shlI x 10
    have h2 : (wn x : Int) / (4194304 : Int) = (wn (x >>> (22 : Nat)) : Int) := shrI x 22
    rw [h1, h2, or_w]
    rfl
  unfold wV
  go_enter Tryd.func40, Tryd.ntmps40
  go_wp2
  go_ret
  exact ⟨rfl, rfl⟩
theorem rotr_22 (x : W32) (w : World) : Calls Tryd.prog 38 #[wV x, .int .i64 22] w fun e w' => e = .returned (wV (rr x 22)) ∧ w = w' := by
  have HX := Lib.hid (rotl_22 x)
  unfold wV at *
  go_enter Tryd.func38, Tryd.ntmps38
  go_wp2_with (go_at_call 40; refine (HX.out _).mono ?_; rintro e w' ⟨rfl, rfl⟩)
  go_ret
  exact ⟨rfl, rfl⟩
theorem rrot_22 (x : W32) (w : World) (m : Nat) : Calls Tryd.prog 35 #[wV x, .int .i64 22] (w.drewN m) fun e w' => e = .returned (wV (rr x 22)) ∧ ∃ k, w' = w.drewN k := by
  have h3 : bits .or .u32 ((wn x : Int) / 4194304) ((wn x : Int) * 1024 % 4294967296) = (wn (rr x 22) : Int) := by
    have h1 : (wn x : Int) * (1024 : Int) % (4294967296 : Int) = (wn (x <<< (10 : Nat)) : Int) := shlI x 10
    have h2 : (wn x : Int) / (4194304 : Int) = (wn (x >>> (22 : Nat)) : Int) := shrI x 22
    rw [h1, h2, or_w, BitVec.or_comm]
    rfl
  unfold wV
  go_enter Tryd.func35, Tryd.ntmps35
  go_wp2
  go_quiet (fail)
  go_wp2
  go_ret
  exact ⟨rfl, _, drewN_two _ _ _⟩
end Go.Proofs.YtjghmhcljhjmmaaDoor
