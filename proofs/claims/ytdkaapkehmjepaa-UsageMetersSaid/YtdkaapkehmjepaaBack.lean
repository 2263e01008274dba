/- The walk of the law UsageDecodes. No condition. -/
import Derived.Test.YtdkaapkehmjepaaLists
namespace Go.Proofs.Ytdkaapkehmjepaa
open Go.RowKit
set_option linter.unusedVariables false
set_option linter.unusedSimpArgs false

theorem fit_ok {e : Ent} (h : codeE e = 0) : FitE e := by
  obtain ⟨h0, h1⟩ := codeE_ok h
  have := (named_short h0).2
  obtain ⟨_, g, _⟩ := h1
  unfold inR at g
  unfold FitE
  omega
theorem encsB_ok {es : List Ent} (h : ∀ e ∈ es, codeE e = 0) : encsB es = es.flatMap recE := by
  unfold encsB
  rw [if_pos (encsC_all es h)]

set_option maxRecDepth 20000 in
set_option maxHeartbeats 2000000 in
theorem usageDecodes_walk (v : Value) (l : List UInt8) (w : World) (h : IsB w v l) :
    Calls Try.prog 10 #[v] w fun r w' => r = .returned (.bool true) ∧ Below w.heap.size w w' := by
  obtain ⟨a, cap, rfl, hc1, hc2, hc3⟩ := h.shape
  have H := Lib.hid h
  clear h hc2 hc3
  by_cases hl : 5000 < l.length
  · have hl' : (5000 : Int) < (l.length : Int) := by omega
    clear hc1 hl
    go_enter Try.func10, Try.ntmps10
    go_wp2_with (go_at_call 12; refine (awake_any _).mono ?_; rintro r w1 ⟨rfl, hb1⟩)
    go_ret
    exact ⟨rfl, hb1⟩
  · have hl' : (l.length : Int) ≤ 5000 := by omega
    obtain ⟨h1, h2, h3, h4⟩ := decs_canon l.length l (Nat.le_refl _)
    have hd0 := decsP_none h4
    have HA := Lib.hid h1
    have H2 := Lib.hid h2
    have H0 := Lib.hid hd0
    have HD := Lib.hid (fun v W (h : IsB W v l) => decs_any v l W h (by omega))
    have hlen : (decsP l).1.length ≤ 5000 := by
      have g : ∀ es : List Ent, es.length ≤ (es.flatMap recE).length := by
        intro es
        induction es with
        | nil => simp
        | cons e es ih =>
          have : 5 ≤ (recE e).length := by unfold recE; rw [encP_len]; have := numB_ne e.seq.toNat; have h1 := List.length_pos_iff.2 this; have := List.length_pos_iff.2 (numB_ne (payE e).length); omega
          simp only [List.flatMap_cons, List.length_append, List.length_cons]
          omega
      have := g (decsP l).1
      rw [h2, List.length_take] at this
      omega
    have hcode := encsC_all _ h1
    have hbytes := encsB_ok h1
    rw [h2] at hbytes
    have HE := Lib.hid (fun v W h => encs_any v (decsP l).1 W h (fun e he => fit_ok (h1 e he)) (by omega))
    rw [hcode, hbytes, show errV 0 = .nilIface from rfl] at HE
    clear h1 h2 h4 hd0 hlen hcode hbytes hl
    generalize (decsP l).2 = n at *
    generalize (decsP l).1 = es at *
    have hn0 : (0 : Int) ≤ (n : Int) := by omega
    have hn1 : (n : Int) ≤ (l.length : Int) := by omega
    have hn2 : (n : Int) ≤ (cap : Int) := by omega
    go_enter Try.func10, Try.ntmps10
    go_upto_region 3 with (go_at_call 12; refine (awake_any _).mono ?_; rintro r w1 ⟨rfl, hb1⟩)
    have HB1 := Lib.hid hb1
    clear hb1
    go_upto_region 4 with (go_at_call 29; refine (HD.out _ _ (H.out.step HB1.out)).mono ?_; rintro r w2 ⟨u2, rfl, ho2, hb2⟩)
    have HB2 := Lib.hid (bel_step HB1.out hb2)
    have HI2 := Lib.hid ho2.isE
    clear hb2 ho2 HB1
    go_upto_region 5 with (go_at_call 24; refine (HE.out _ _ HI2.out).mono ?_; rintro r w3 ⟨u3, rfl, ho3, hb3⟩)
    have HB3 := Lib.hid (bel_step HB2.out hb3)
    have HI3 := Lib.hid ho3.isB
    have HL3 := Lib.hid (H.out.step HB3.out)
    clear hb3 ho3 HB2
    go_upto_region 7 with (go_at_call 26; refine (bytes_any _ _ _ _ _ HI3.out (HL3.out.upto n h3)).mono ?_; rintro r w4 ⟨rfl, rfl⟩; simp only [beq_self_eq_true])
    have HD2 := Lib.hid (fun v W (h : IsB W v (l.drop n)) => decs_any v (l.drop n) W h (by rw [List.length_drop]; omega))
    rw [H0.out] at HD2
    by_cases hcq : cap = n
    · have HR := Lib.hid (HL3.out.back n h3 hcq)
      go_wp2_with (go_at_call 29; with_reducible refine (HD2.out _ _ HR.out).mono ?_; rintro r w5 ⟨u5, rfl, ho5, hb5⟩; obtain ⟨a5, c5, rfl⟩ := ho5.shape)
      go_ret
      exact ⟨by simp, bel_step HB3.out hb5⟩
    · have HR := Lib.hid (HL3.out.cut1 n h3)
      go_wp2_with (go_at_call 29; with_reducible refine (HD2.out _ _ HR.out).mono ?_; rintro r w5 ⟨u5, rfl, ho5, hb5⟩; obtain ⟨a5, c5, rfl⟩ := ho5.shape)
      go_ret
      exact ⟨by simp, bel_step HB3.out hb5⟩
end Go.Proofs.Ytdkaapkehmjepaa
