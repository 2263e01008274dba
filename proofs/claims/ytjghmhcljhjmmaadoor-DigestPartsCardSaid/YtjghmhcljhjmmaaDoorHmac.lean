/- The walk of Hmac. The one condition beyond the sizes: the constants lie as the program's text lays them. -/
import Derived.Test.YtjghmhcljhjmmaaDoorMask
namespace Go.Proofs.YtjghmhcljhjmmaaDoor
open Go.RowKit
set_option linter.unusedVariables false
set_option linter.unusedSimpArgs false

theorem sha32 (l : List UInt8) : (shaP l).length = 32 := rfl
set_option maxRecDepth 20000 in
set_option maxHeartbeats 4000000 in
theorem hmac_any (u v : Value) (key b : List UInt8) (w : World) (hk : KW w) (hu : IsB w u key) (hv : IsB w v b) (hl : key.length + b.length ≤ 1099511627000) :
    Calls Tryd.prog 19 #[u, v] w (OwnR w (hmacP key b)) := by
  have HK := Lib.hid hk
  have HU := Lib.hid hu
  have HV := Lib.hid hv
  have HL := Lib.hid hl
  have HR := Lib.hid (show hmacP key b = shaP (maskP key 92 ++ shaP (maskP key 54 ++ b)) from rfl)
  generalize hmacP key b = R at *
  have HM1 := Lib.hid (maskP_len key 54)
  have HM2 := Lib.hid (maskP_len key 92)
  have HMA := Lib.hid (fun (W : World) (h1 : KW W) (h2 : IsB W u key) => show Calls Tryd.prog 30 #[u, .int .u8 54] W (OwnR W (maskP key 54)) from mask_any u key 54 W h1 h2 (by omega))
  have HMB := Lib.hid (fun (W : World) (h1 : KW W) (h2 : IsB W u key) => show Calls Tryd.prog 30 #[u, .int .u8 92] W (OwnR W (maskP key 92)) from mask_any u key 92 W h1 h2 (by omega))
  have HP := Lib.hid hk.pos
  clear hk hu hv hl
  generalize maskP key 54 = A at *
  generalize maskP key 92 = B at *
  have hAl : ([] ++ A ++ b).length ≤ 1099511627776 := by simp only [List.nil_append, List.length_append, HM1.out]; have := HL.out; omega
  have hAb : A.length + b.length ≤ 1099511627776 := by rw [HM1.out]; have := HL.out; omega
  have HAL := Lib.hid hAl
  have HAB := Lib.hid hAb
  clear hAl hAb
  go_enter Tryd.func19, Tryd.ntmps19
  go_wp2_with (first | (go_at_call 16; refine (new_hash w).mono ?_; rintro e w1 ⟨rfl, h1, hb1⟩; have H1 := Lib.hid h1; have HB1 := Lib.hid hb1; have tok1 : True := trivial; clear h1 hb1) | (go_at_call 30; refine (HMA.out _ (HK.out.step HB1.out) (HU.out.step HB1.out)).mono ?_; rintro e w2 ⟨v2, rfl, ho2, hb2⟩; have HO2 := Lib.hid ho2.isB; have H2 := Lib.hid (H1.out.keep hb2); have HB2 := Lib.hid (bel_step HB1.out hb2); clear ho2 hb2 HMA) | (go_at_call 17; have _t := tok1; clear tok1; refine (write_hash w.heap.size _ _ _ v2 A _ (HK.out.step HB2.out) HP.out HB2.out.size H2.out HO2.out (by simp [HM1.out])).mono ?_; rintro e w3 ⟨ob3, rfl, h3, hb3, hf3⟩; have H3 := Lib.hid h3; have HB3 := Lib.hid (HB2.out.trans hb3); clear h3 hb3 hf3) | (go_at_call 17; refine (write_hash w.heap.size _ _ _ v b _ (HK.out.step HB3.out) HP.out HB3.out.size H3.out (HV.out.step HB3.out) HAB.out).mono ?_; rintro e w4 ⟨ob4, rfl, h4, hb4, hf4⟩; have H4 := Lib.hid h4; have HB4 := Lib.hid (HB3.out.trans hb4); clear h4 hb4 hf4) | (go_at_call 30; refine (HMB.out _ (HK.out.step HB4.out) (HU.out.step HB4.out)).mono ?_; rintro e w5 ⟨v5, rfl, ho5, hb5⟩; have HO5 := Lib.hid ho5; have H5 := Lib.hid (H4.out.keep hb5); have HB5 := Lib.hid (bel_step HB4.out hb5); clear ho5 hb5) | (go_at_call 18; refine (hsum_hash _ _ _ _ _ (HK.out.step HB5.out) H5.out HAL.out).mono ?_; rintro e w6 ⟨v6, rfl, ho6, hb6⟩; have HO6 := Lib.hid ho6.isB; have HO56 := Lib.hid ((HO5.out.mono HB4.out.size).step hb6); have HB6 := Lib.hid (bel_step HB5.out hb6); clear ho6 hb6) | (at_builtin; refine wpList_app rfl (.tmp 15) (.tmp 17) rfl w.heap.size _ B rfl HO56.out _ _ rfl HO6.out (by rw [HM2.out, sha32]; decide) HB6.out.size ?_; intro v7 w7 hO7 hB7 hs7 hn7; have HO7 := Lib.hid hO7.isB; have HB7 := Lib.hid (HB6.out.trans hB7); clear hO7 hB7 hs7 hn7) | (go_at_call 12; refine (sum_any v7 _ _ (HK.out.step HB7.out) HO7.out (by rw [List.length_append, HM2.out, sha32]; decide)).mono ?_; rintro e w8 ⟨v8, rfl, ho8, hb8⟩; have HO8 := Lib.hid (ho8.mono HB7.out.size); have HB8 := Lib.hid (bel_step HB7.out hb8); clear ho8 hb8))
  go_ret
  exact ⟨_, rfl, by rw [HR.out]; exact HO8.out, HB8.out⟩
end Go.Proofs.YtjghmhcljhjmmaaDoor
