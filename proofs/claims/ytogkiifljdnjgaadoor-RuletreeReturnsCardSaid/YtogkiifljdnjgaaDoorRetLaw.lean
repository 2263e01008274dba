/- The walk of the law RuletreeReturns. No condition beyond the keywords' variable. -/
import Derived.Test.YtogkiifljdnjgaaDoorRound
namespace Go.Proofs.YtogkiifljdnjgaaDoor
open Go.RowKit
set_option linter.unusedVariables false
set_option linter.unusedSimpArgs false

set_option maxRecDepth 20000 in
set_option maxHeartbeats 4000000 in
theorem returns_walk (w : World) (v : Value) (l : List SeedP) (hk : KW w) (ha : ArgS w v l) : Calls Tryd.prog 6 #[v] w fun e w' => e = .returned (.bool true) ∧ Below w.heap.size w w' := by
  have HK := Lib.hid hk
  have HA := Lib.hid ha
  clear hk ha
  have hsg : sizeT (growP l) ≤ 1000000 := Nat.le_trans (growP_size l) (by decide)
  have hsh := growP_short l
  have HSG := Lib.hid hsg
  have HFF := Lib.hid (fun W F v (ht : IsT W F (growP l) v) hW => format_any (growP l) F W v ht hW (by omega) hsh)
  have HVF := Lib.hid (fun W F v (ht : IsT W F (growP l) v) hW => valid_any (growP l) F W v ht hW (by omega) hsh)
  rcases fmt_cases (growP l) with ⟨x, hx⟩ | hx | ⟨hx, hv⟩
  · obtain ⟨u, hu1, hu2, hu3⟩ := fmt_round hx
    have hvu := parse_valid hu1
    have hsu := valid_size hvu.1
    have HSM := Lib.hid (fun W F G a b (hta : IsT W F u a) (htb : IsT W G (growP l) b) => (show Calls Tryd.prog 12 #[a, b] W fun e w' => e = .returned (.bool true) ∧ Below W.heap.size W w' by have h := same_any u (growP l) F G W a b hta htb (by omega); rw [hu3] at h; exact h))
    have HP : Hid (∀ W, KW W → Calls Tryd.prog 18 #[.string ⟨x.toArray⟩] W fun e w' => PostP W w' (u, 0, 0) e) := Lib.hid (fun W hW => by have h := parse_any ⟨x.toArray⟩ W hW; rw [show (ByteArray.mk x.toArray).data.toList = x by simp, hu1] at h; exact h)
    have HFU := Lib.hid (fun W F v (ht : IsT W F u v) hW => format_any u F W v ht hW (by omega) hvu.2.1)
    rw [hx] at HFF
    rw [hu2] at HFU
    clear hx hu1 hu2 hu3 hvu hsu hsh hsg HVF
    go_enter Tryd.func6, Tryd.ntmps6
    go_upto_region 4 with (first | (go_at_call 8; (with_reducible refine (awake_any _ HK.out).mono ?_); rintro e w1 ⟨rfl, hb1⟩; have HB1 := Lib.hid hb1; clear hb1) | (go_at_call 9; (with_reducible refine (grow_any _ _ l (HA.out.step HB1.out)).mono ?_); rintro e w2 ⟨⟨v2, rfl, ht2⟩, hb2⟩; obtain ⟨k2, x2, a2, m2, c2, l2, rfl⟩ := isT_shape ht2; have HB2 := Lib.hid (HB1.out.trans (hb2.mono HB1.out.size)); have HT2 := Lib.hid ht2; clear ht2 hb2) | (go_at_call 11; (with_reducible refine (of_any (growP l) _ _ _ HT2.out HSG.out).mono ?_); rintro e w3 ⟨⟨v3, rfl, ht3⟩, hb3⟩; obtain ⟨k3, x3, a3, m3, c3, l3, rfl⟩ := isT_shape ht3; have HB3 := Lib.hid (HB2.out.trans (hb3.mono HB2.out.size)); have HT3 := Lib.hid ht3; clear ht3 hb3))
    have HB4 := Lib.hid (HB3.out.trans ((bel_new w3 (.cells #[.int .i64 k3, .string ⟨x3.toArray⟩, .slice a3 m3 c3, .int .i64 l3] 32)).mono HB3.out.size))
    have HX4 := Lib.hid (heap_alloc_new w3 (.cells #[.int .i64 k3, .string ⟨x3.toArray⟩, .slice a3 m3 c3, .int .i64 l3] 32))
    have HT4 := Lib.hid (HT3.out.step (bel_new w3 (.cells #[.int .i64 k3, .string ⟨x3.toArray⟩, .slice a3 m3 c3, .int .i64 l3] 32)))
    obtain ⟨r0, r1, r2, r3, q0, q1, q2, q3⟩ := box4 HX4.out
    go_wp2_with (first | (go_at_call 19; (with_reducible refine (HFF.out _ _ _ HT4.out (HK.out.step HB4.out)).mono ?_); rintro e w4 ⟨rfl, hb⟩; have HB5 := Lib.hid (HB4.out.trans (hb.mono HB4.out.size)); have HX5 := Lib.hid (keep_blk hb HX4.out); have HT5 := Lib.hid (HT4.out.step hb); obtain ⟨s0, s1, s2, s3, z0, z1, z2, z3⟩ := box4 HX5.out; first | rw [errV0] | rw [errV5] | rw [errV2]; clear hb) | (go_at_call 18; (with_reducible refine (HP.out _ (HK.out.step HB5.out)).mono ?_); intro e w5 hps; obtain ⟨k5, x5, a5, m5, c5, l5, rfl, ht, hb⟩ := postP_open hps; have HB6 := Lib.hid (HB5.out.trans (hb.mono HB5.out.size)); have HB7 := Lib.hid (HB6.out.trans ((bel_new w5 (.cells #[.int .i64 k5, .string ⟨x5.toArray⟩, .slice a5 m5 c5, .int .i64 l5] 32)).mono HB6.out.size)); have HX7 := Lib.hid (new_blk (y := (.cells #[.int .i64 k5, .string ⟨x5.toArray⟩, .slice a5 m5 c5, .int .i64 l5] 32)) (keep_blk hb HX5.out)); have HY7 := Lib.hid (heap_alloc_new w5 (.cells #[.int .i64 k5, .string ⟨x5.toArray⟩, .slice a5 m5 c5, .int .i64 l5] 32)); have HT7 := Lib.hid ((HT5.out.step hb).step (bel_new w5 (.cells #[.int .i64 k5, .string ⟨x5.toArray⟩, .slice a5 m5 c5, .int .i64 l5] 32))); have HU7 := Lib.hid (ht.step (bel_new w5 (.cells #[.int .i64 k5, .string ⟨x5.toArray⟩, .slice a5 m5 c5, .int .i64 l5] 32))); obtain ⟨t0, t1, t2, t3, v0, v1, v2, v3⟩ := box4 HX7.out; obtain ⟨f0, f1, f2, f3, g0, g1, g2, g3⟩ := box4 HY7.out; rw [errV0]; clear hps ht hb) | (go_at_call 19; (with_reducible refine (HFU.out _ _ _ HU7.out (HK.out.step HB7.out)).mono ?_); rintro e w6 ⟨rfl, hb⟩; have HB8 := Lib.hid (HB7.out.trans (hb.mono HB7.out.size)); have HX8 := Lib.hid (keep_blk hb HX7.out); have HY8 := Lib.hid (keep_blk hb HY7.out); have HT8 := Lib.hid (HT7.out.step hb); have HU8 := Lib.hid (HU7.out.step hb); obtain ⟨h0, h1, h2, h3, i0, i1, i2, i3⟩ := box4 HX8.out; obtain ⟨j0, j1, j2, j3, p0, p1, p2, p3⟩ := box4 HY8.out; rw [errV0]; clear hb) | (go_at_call 12; (with_reducible refine (HSM.out _ _ _ _ _ HU8.out HT8.out).mono ?_); rintro e w7 ⟨rfl, hb⟩; have HB9 := Lib.hid (HB8.out.trans (hb.mono HB8.out.size)); clear hb))
    go_ret
    exact ⟨rfl, HB9.out⟩
  · rw [hx] at HFF
    clear hx hsh hsg HVF
    go_enter Tryd.func6, Tryd.ntmps6
    go_upto_region 4 with (first | (go_at_call 8; (with_reducible refine (awake_any _ HK.out).mono ?_); rintro e w1 ⟨rfl, hb1⟩; have HB1 := Lib.hid hb1; clear hb1) | (go_at_call 9; (with_reducible refine (grow_any _ _ l (HA.out.step HB1.out)).mono ?_); rintro e w2 ⟨⟨v2, rfl, ht2⟩, hb2⟩; obtain ⟨k2, x2, a2, m2, c2, l2, rfl⟩ := isT_shape ht2; have HB2 := Lib.hid (HB1.out.trans (hb2.mono HB1.out.size)); have HT2 := Lib.hid ht2; clear ht2 hb2) | (go_at_call 11; (with_reducible refine (of_any (growP l) _ _ _ HT2.out HSG.out).mono ?_); rintro e w3 ⟨⟨v3, rfl, ht3⟩, hb3⟩; obtain ⟨k3, x3, a3, m3, c3, l3, rfl⟩ := isT_shape ht3; have HB3 := Lib.hid (HB2.out.trans (hb3.mono HB2.out.size)); have HT3 := Lib.hid ht3; clear ht3 hb3))
    have HB4 := Lib.hid (HB3.out.trans ((bel_new w3 (.cells #[.int .i64 k3, .string ⟨x3.toArray⟩, .slice a3 m3 c3, .int .i64 l3] 32)).mono HB3.out.size))
    have HX4 := Lib.hid (heap_alloc_new w3 (.cells #[.int .i64 k3, .string ⟨x3.toArray⟩, .slice a3 m3 c3, .int .i64 l3] 32))
    have HT4 := Lib.hid (HT3.out.step (bel_new w3 (.cells #[.int .i64 k3, .string ⟨x3.toArray⟩, .slice a3 m3 c3, .int .i64 l3] 32)))
    obtain ⟨r0, r1, r2, r3, q0, q1, q2, q3⟩ := box4 HX4.out
    go_wp2_with (first | (go_at_call 19; (with_reducible refine (HFF.out _ _ _ HT4.out (HK.out.step HB4.out)).mono ?_); rintro e w4 ⟨rfl, hb⟩; have HB5 := Lib.hid (HB4.out.trans (hb.mono HB4.out.size)); have HX5 := Lib.hid (keep_blk hb HX4.out); have HT5 := Lib.hid (HT4.out.step hb); obtain ⟨s0, s1, s2, s3, z0, z1, z2, z3⟩ := box4 HX5.out; first | rw [errV0] | rw [errV5] | rw [errV2]; clear hb) | (go_at_call 22; (with_reducible refine (isn_yes 5 (by decide) _).mono ?_); rintro e wi ⟨rfl, rfl⟩))
    go_ret
    exact ⟨rfl, HB5.out⟩
  · rw [hx] at HFF
    rw [hv] at HVF
    have HIS := Lib.hid (fun W => (show Calls Tryd.prog 22 #[.iface 52 (.int .i64 2), .int .i64 5] W fun e w' => e = .returned (.bool false) ∧ W = w' from is_err 2 5 W))
    clear hx hv hsh hsg
    go_enter Tryd.func6, Tryd.ntmps6
    go_upto_region 4 with (first | (go_at_call 8; (with_reducible refine (awake_any _ HK.out).mono ?_); rintro e w1 ⟨rfl, hb1⟩; have HB1 := Lib.hid hb1; clear hb1) | (go_at_call 9; (with_reducible refine (grow_any _ _ l (HA.out.step HB1.out)).mono ?_); rintro e w2 ⟨⟨v2, rfl, ht2⟩, hb2⟩; obtain ⟨k2, x2, a2, m2, c2, l2, rfl⟩ := isT_shape ht2; have HB2 := Lib.hid (HB1.out.trans (hb2.mono HB1.out.size)); have HT2 := Lib.hid ht2; clear ht2 hb2) | (go_at_call 11; (with_reducible refine (of_any (growP l) _ _ _ HT2.out HSG.out).mono ?_); rintro e w3 ⟨⟨v3, rfl, ht3⟩, hb3⟩; obtain ⟨k3, x3, a3, m3, c3, l3, rfl⟩ := isT_shape ht3; have HB3 := Lib.hid (HB2.out.trans (hb3.mono HB2.out.size)); have HT3 := Lib.hid ht3; clear ht3 hb3))
    have HB4 := Lib.hid (HB3.out.trans ((bel_new w3 (.cells #[.int .i64 k3, .string ⟨x3.toArray⟩, .slice a3 m3 c3, .int .i64 l3] 32)).mono HB3.out.size))
    have HX4 := Lib.hid (heap_alloc_new w3 (.cells #[.int .i64 k3, .string ⟨x3.toArray⟩, .slice a3 m3 c3, .int .i64 l3] 32))
    have HT4 := Lib.hid (HT3.out.step (bel_new w3 (.cells #[.int .i64 k3, .string ⟨x3.toArray⟩, .slice a3 m3 c3, .int .i64 l3] 32)))
    obtain ⟨r0, r1, r2, r3, q0, q1, q2, q3⟩ := box4 HX4.out
    go_wp2_with (first | (go_at_call 19; (with_reducible refine (HFF.out _ _ _ HT4.out (HK.out.step HB4.out)).mono ?_); rintro e w4 ⟨rfl, hb⟩; have HB5 := Lib.hid (HB4.out.trans (hb.mono HB4.out.size)); have HX5 := Lib.hid (keep_blk hb HX4.out); have HT5 := Lib.hid (HT4.out.step hb); obtain ⟨s0, s1, s2, s3, z0, z1, z2, z3⟩ := box4 HX5.out; first | rw [errV0] | rw [errV5] | rw [errV2]; clear hb) | (go_at_call 22; (with_reducible refine (isn_yes 2 (by decide) _).mono ?_); rintro e wj ⟨rfl, rfl⟩) | (go_at_call 22; (with_reducible refine (HIS.out _).mono ?_); rintro e wi ⟨rfl, rfl⟩) | (go_at_call 16; (with_reducible refine (HVF.out _ _ _ HT5.out (HK.out.step HB5.out)).mono ?_); rintro e w5 ⟨rfl, hb⟩; have HB6 := Lib.hid (HB5.out.trans (hb.mono HB5.out.size)); clear hb))
    go_ret
    exact ⟨rfl, HB6.out⟩
end Go.Proofs.YtogkiifljdnjgaaDoor
