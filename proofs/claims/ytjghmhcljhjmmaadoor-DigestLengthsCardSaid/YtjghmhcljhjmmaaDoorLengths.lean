/- The walk of the law DigestLengths: it returns true wherever the constants lie as the program's text lays them. -/
import Derived.Test.YtjghmhcljhjmmaaDoorSums
import Derived.Test.YtjghmhcljhjmmaaDoorMessage
namespace Go.Proofs.YtjghmhcljhjmmaaDoor
open Go.RowKit
set_option linter.unusedVariables false
set_option linter.unusedSimpArgs false

theorem u16_of {n : Int} (h : (Lit.int .u16 n).wf = true) : ∃ c : Nat, n = (c : Int) ∧ c < 65536 := by
  have hr : 0 ≤ n ∧ n < 65536 := by
    simp [Lit.wf] at h
    have e1 : IntKind.u16.min = 0 := by decide
    have e2 : IntKind.u16.max = 65535 := by decide
    omega
  exact ⟨n.toNat, by omega, by omega⟩
set_option maxRecDepth 20000 in
set_option maxHeartbeats 2000000 in
theorem lengths_walk (n : Nat) (s : Int) (w : World) (hk : KW w) (hn : n < 65536) : Calls Tryd.prog 4 #[.int .u16 (n : Int), .int .u8 s] w fun e w' => e = .returned (.bool true) ∧ Below w.heap.size w w' := by
  have HK := Lib.hid hk
  clear hk
  go_enter Tryd.func4, Tryd.ntmps4
  go_wp2_with (first | (go_at_call 11; refine (awake_any _ HK.out).mono ?_; rintro e w1 ⟨rfl, hb1⟩; have HB1 := Lib.hid hb1; clear hb1) | (go_at_call 15; refine (message_any n s _ hn).mono ?_; rintro e w2 ⟨v2, l, rfl, h2, hl, hb2⟩; have HV2 := Lib.hid h2; have HB2 := Lib.hid (bel_step HB1.out hb2); have HL := Lib.hid hl; clear h2 hb2 hl) | (go_at_call 12; refine (sum_any v2 l _ (HK.out.step HB2.out) HV2.out (by have := HL.out; omega)).mono ?_; rintro e w4 ⟨v4, rfl, ho4, hb4⟩; have HO4 := Lib.hid ho4.isB; have HV4 := Lib.hid (HV2.out.step hb4); have HB4 := Lib.hid (bel_step HB2.out hb4); clear ho4 hb4) | (go_at_call 14; refine (rsum_any v2 l _ HV4.out (by have := HL.out; omega)).mono ?_; rintro e w5 ⟨v5, rfl, ho5, hb5⟩; have HO5 := Lib.hid ho5.isB; have HO45 := Lib.hid (HO4.out.step hb5); have HB5 := Lib.hid (bel_step HB4.out hb5); clear ho5 hb5) | (go_at_call 13; refine (bytes_same v4 v5 _ _ HO45.out HO5.out).mono ?_; rintro e w6 ⟨rfl, rfl⟩))
  go_ret
  exact ⟨rfl, HB5.out⟩
end Go.Proofs.YtjghmhcljhjmmaaDoor
