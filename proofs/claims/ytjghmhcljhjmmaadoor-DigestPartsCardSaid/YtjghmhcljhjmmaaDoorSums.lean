/- The walk of the law DigestSums: it returns true wherever the constants lie as the program's text lays them. -/
import Derived.Test.YtjghmhcljhjmmaaDoorAwake
import Derived.Test.YtjghmhcljhjmmaaDoorRSum
import Derived.Test.YtjghmhcljhjmmaaDoorEq
namespace Go.Proofs.YtjghmhcljhjmmaaDoor
open Go.RowKit
set_option linter.unusedVariables false
set_option linter.unusedSimpArgs false

theorem bytes_same (u v : Value) (a : List UInt8) (w : World) (ha : IsB w u a) (hb : IsB w v a) : Calls Tryd.prog 13 #[u, v] w fun e w' => e = .returned (.bool true) ∧ w = w' := by
  have := bytes_any u v a a w ha hb
  rwa [decide_eq_true rfl] at this
set_option maxRecDepth 20000 in
set_option maxHeartbeats 2000000 in
theorem sums_walk (v : Value) (l : List UInt8) (w : World) (hk : KW w) (hv : IsB w v l) : Calls Tryd.prog 3 #[v] w fun e w' => e = .returned (.bool true) ∧ Below w.heap.size w w' := by
  have HK := Lib.hid hk
  have HV := Lib.hid hv
  obtain ⟨a, cap, rfl, h1, h2, _⟩ := hv.shape
  have h3 : (l.length : Int) ≤ 9223372036854775807 := by unfold maxLen at h2; omega
  clear hk hv
  by_cases hlt : l.length ≤ 2000
  · go_enter Tryd.func3, Tryd.ntmps3
    go_upto_region 3 with (go_at_call 11; refine (awake_any _ HK.out).mono ?_; rintro e w1 ⟨rfl, hb1⟩; have HB1 := Lib.hid hb1; clear hb1)
    generalize Value.slice a l.length cap = v at *
    have HV1 := Lib.hid (HV.out.step HB1.out)
    have HO := Lib.hid (OwnB.made w1 w1.heap.size (Nat.le_refl _))
    have HV2 := Lib.hid (HV1.out.step (bel_new w1 (.cells #[] 5)))
    have HB2 := Lib.hid (bel_step HB1.out (bel_new w1 (.cells #[] 5)))
    have hlb : 0 + l.length ≤ 140737488355328 := by omega
    have hbs : w1.heap.size ≤ (w1.alloc (.cells #[] 5)).heap.size := by simp [go_sem]
    go_wp2_with (first | (at_builtin; refine wpList_app rfl (.tmp 13) (.tmp 14) rfl w1.heap.size _ [] rfl HO.out _ l rfl HV2.out hlb hbs ?_; intro v3 w3 ho3 hb3 hs3 hn3; have HO3 := Lib.hid (show OwnB w3 w1.heap.size v3 l from ho3); have HB3 := Lib.hid (HB2.out.trans (hb3.mono HB1.out.size)); clear ho3 hb3 hs3 hn3) | (go_at_call 12; refine (sum_any v3 l _ (HK.out.step HB3.out) HO3.out.isB (by omega)).mono ?_; rintro e w4 ⟨v4, rfl, ho4, hb4⟩; have HO4 := Lib.hid ho4.isB; have HO34 := Lib.hid (HO3.out.isB.step hb4); have HB4 := Lib.hid (bel_step HB3.out hb4); clear ho4 hb4) | (go_at_call 14; refine (rsum_any v l _ (HV.out.step HB4.out) (by omega)).mono ?_; rintro e w5 ⟨v5, rfl, ho5, hb5⟩; have HO5 := Lib.hid ho5.isB; have HO45 := Lib.hid (HO4.out.step hb5); have HO35 := Lib.hid (HO34.out.step hb5); have HB5 := Lib.hid (bel_step HB4.out hb5); clear ho5 hb5) | (go_at_call 13; with_reducible refine (bytes_same v4 v5 _ _ HO45.out HO5.out).mono ?_; rintro e w6 ⟨rfl, rfl⟩) | (go_at_call 13; with_reducible refine (bytes_same v3 v _ _ HO35.out (HV.out.step HB5.out)).mono ?_; rintro e w6 ⟨rfl, rfl⟩))
    go_ret
    exact ⟨rfl, HB5.out⟩
  · go_enter Tryd.func3, Tryd.ntmps3
    go_wp2_with (first | (go_at_call 11; with_reducible refine (awake_any w HK.out).mono ?_; rintro e w1 ⟨rfl, hb1⟩; have HB1 := Lib.hid hb1; clear hb1) | (go_at_call 11; refine (awake_any _ (HK.out.step HB1.out)).mono ?_; rintro e w2 ⟨rfl, hb2⟩; have HB2 := Lib.hid (bel_step HB1.out hb2); clear hb2))
    go_ret
    exact ⟨rfl, HB2.out⟩
end Go.Proofs.YtjghmhcljhjmmaaDoor
