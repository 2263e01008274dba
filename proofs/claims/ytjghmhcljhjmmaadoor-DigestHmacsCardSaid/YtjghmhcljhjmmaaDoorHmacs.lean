/- The walk of the law DigestHmacs: it returns true wherever the constants lie as the program's text lays them. -/
import Derived.Test.YtjghmhcljhjmmaaDoorSums
import Derived.Test.YtjghmhcljhjmmaaDoorRHmac
namespace Go.Proofs.YtjghmhcljhjmmaaDoor
open Go.RowKit
set_option linter.unusedVariables false
set_option linter.unusedSimpArgs false

set_option maxRecDepth 20000 in
set_option maxHeartbeats 2000000 in
theorem hmacs_walk (u v : Value) (key b : List UInt8) (w : World) (hk : KW w) (hu : IsB w u key) (hv : IsB w v b) (hku : key.length ≤ 140737488351232) (hkv : b.length ≤ 140737488351232) : Calls Tryd.prog 6 #[u, v] w fun e w' => e = .returned (.bool true) ∧ Below w.heap.size w w' := by
  have HK := Lib.hid hk
  have HU := Lib.hid hu
  have HV := Lib.hid hv
  obtain ⟨a, cap, rfl, h1, h2, _⟩ := hu.shape
  obtain ⟨a', cap', rfl, h1', h2', _⟩ := hv.shape
  have h3 : (key.length : Int) ≤ 140737488355328 := by omega
  have h4 : (b.length : Int) ≤ 140737488355328 := by omega
  clear hk hv hu
  by_cases hlt : key.length + b.length ≤ 1500
  · have HL := Lib.hid (show key.length + b.length ≤ 1099511620000 by omega)
    have hli : ¬ (1500 : Int) < (key.length : Int) + (b.length : Int) := by omega
    go_enter Tryd.func6, Tryd.ntmps6
    go_upto_region 3 with (go_at_call 11; refine (awake_any _ HK.out).mono ?_; rintro e w1 ⟨rfl, hb1⟩; have HB1 := Lib.hid hb1; clear hb1)
    generalize Value.slice a key.length cap = u at *
    generalize Value.slice a' b.length cap' = v at *
    go_wp2_with (first | (go_at_call 19; refine (hmac_any u v key b _ (HK.out.step HB1.out) (HU.out.step HB1.out) (HV.out.step HB1.out) (by have := HL.out; omega)).mono ?_; rintro e w4 ⟨v4, rfl, ho4, hb4⟩; have HO4 := Lib.hid ho4.isB; have HB4 := Lib.hid (bel_step HB1.out hb4); clear ho4 hb4) | (go_at_call 20; refine (rhmac_any u v key b _ (HU.out.step HB4.out) (HV.out.step HB4.out) HL.out).mono ?_; rintro e w5 ⟨v5, rfl, ho5, hb5⟩; have HO5 := Lib.hid ho5.isB; have HO45 := Lib.hid (HO4.out.step hb5); have HB5 := Lib.hid (bel_step HB4.out hb5); clear ho5 hb5) | (go_at_call 13; refine (bytes_same v4 v5 _ _ HO45.out HO5.out).mono ?_; rintro e w6 ⟨rfl, rfl⟩))
    go_ret
    exact ⟨rfl, HB5.out⟩
  · have hli : (1500 : Int) < (key.length : Int) + (b.length : Int) := by omega
    go_enter Tryd.func6, Tryd.ntmps6
    go_wp2_with (first | (go_at_call 11; with_reducible refine (awake_any w HK.out).mono ?_; rintro e w1 ⟨rfl, hb1⟩; have HB1 := Lib.hid hb1; clear hb1) | (go_at_call 11; refine (awake_any _ (HK.out.step HB1.out)).mono ?_; rintro e w2 ⟨rfl, hb2⟩; have HB2 := Lib.hid (bel_step HB1.out hb2); clear hb2))
    go_ret
    exact ⟨rfl, HB2.out⟩
end Go.Proofs.YtjghmhcljhjmmaaDoor
