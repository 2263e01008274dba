/- The walk of the law DigestHex: it returns true wherever the constants lie as the program's text lays them. -/
import Derived.Test.YtjghmhcljhjmmaaDoorSums
import Derived.Test.YtjghmhcljhjmmaaDoorUnhexW
import Derived.Test.YtjghmhcljhjmmaaDoorRHex
namespace Go.Proofs.YtjghmhcljhjmmaaDoor
open Go.RowKit
set_option linter.unusedVariables false
set_option linter.unusedSimpArgs false

set_option maxRecDepth 20000 in
set_option maxHeartbeats 2000000 in
theorem hexlaw_walk (v : Value) (l : List UInt8) (w : World) (hk : KW w) (hv : IsB w v l) : Calls Tryd.prog 8 #[v] w fun e w' => e = .returned (.bool true) ∧ Below w.heap.size w w' := by
  have HK := Lib.hid hk
  have HV := Lib.hid hv
  obtain ⟨a, cap, rfl, h1, h2, _⟩ := hv.shape
  have h3 : (l.length : Int) ≤ 9223372036854775807 := by unfold maxLen at h2; omega
  clear hk hv
  by_cases hlt : l.length ≤ 500
  · have HU := Lib.hid (fun (W : World) => show Calls Tryd.prog 22 #[.string ⟨(hexP l).toArray⟩] W (UnR W (some l)) by
      have h := unhex_any ⟨(hexP l).toArray⟩ W (by rw [mk_size, hex_len]; omega)
      have e : (⟨(hexP l).toArray⟩ : ByteArray).data.toList = hexP l := by simp
      rwa [e, unhex_hex] at h)
    have HH := Lib.hid (fun (u : Value) (W : World) (h : IsB W u l) => hex_any u l W h (by omega))
    have HG := Lib.hid (fun (u : Value) (W : World) (h : IsB W u l) => rhex_any u l W h (by omega))
    generalize (⟨(hexP l).toArray⟩ : ByteArray) = S at *
    go_enter Tryd.func8, Tryd.ntmps8
    go_upto_region 3 with (go_at_call 11; refine (awake_any _ HK.out).mono ?_; rintro e w1 ⟨rfl, hb1⟩; have HB1 := Lib.hid hb1; clear hb1)
    generalize Value.slice a l.length cap = v at *
    go_wp2_with (first | (go_at_call 21; refine (HH.out v _ (HV.out.step HB1.out)).mono ?_; rintro e w2 ⟨rfl, hb2⟩; have HB2 := Lib.hid (bel_step HB1.out hb2); clear hb2) | (go_at_call 22; refine (HU.out _).mono ?_; rintro e w3 ⟨v3, rfl, ho3, hb3⟩; have HO3 := Lib.hid ho3.isB; have HB3 := Lib.hid (bel_step HB2.out hb3); clear ho3 hb3) | (go_at_call 23; refine (HG.out v _ (HV.out.step HB3.out)).mono ?_; rintro e w4 ⟨rfl, hb4⟩; have HO4 := Lib.hid (HO3.out.step hb4); have HB4 := Lib.hid (bel_step HB3.out hb4); clear hb4) | (go_at_call 13; refine (bytes_same v3 v l _ HO4.out (HV.out.step HB4.out)).mono ?_; rintro e w6 ⟨rfl, rfl⟩))
    go_ret
    exact ⟨rfl, HB4.out⟩
  · go_enter Tryd.func8, Tryd.ntmps8
    go_wp2_with (first | (go_at_call 11; with_reducible refine (awake_any w HK.out).mono ?_; rintro e w1 ⟨rfl, hb1⟩; have HB1 := Lib.hid hb1; clear hb1) | (go_at_call 11; refine (awake_any _ (HK.out.step HB1.out)).mono ?_; rintro e w2 ⟨rfl, hb2⟩; have HB2 := Lib.hid (bel_step HB1.out hb2); clear hb2))
    go_ret
    exact ⟨rfl, HB2.out⟩
end Go.Proofs.YtjghmhcljhjmmaaDoor
