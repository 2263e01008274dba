/- The walk of the law RuletreeParens. No condition beyond the keywords' variable. -/
import Derived.Test.YtogkiifljdnjgaaDoorRVal
import Derived.Test.YtogkiifljdnjgaaDoorFull
import Derived.Test.YtogkiifljdnjgaaDoorRoundP
import Derived.Test.YtogkiifljdnjgaaDoorShort
namespace Go.Proofs.YtogkiifljdnjgaaDoor
open Go.RowKit
set_option linter.unusedVariables false
set_option linter.unusedSimpArgs false

theorem growP_parts (l : List SeedP) : ∃ ks, growP l = .node 1 [] ks 1 := ⟨_, rfl⟩
set_option maxRecDepth 20000 in
set_option maxHeartbeats 4000000 in
theorem parens_walk (w : World) (v : Value) (l : List SeedP) (hk : KW w) (ha : ArgS w v l) : Calls Tryd.prog 4 #[v] w fun e w' => e = .returned (.bool true) ∧ Below w.heap.size w w' := by
  have HK := Lib.hid hk
  have HA := Lib.hid ha
  clear hk ha
  have hsg : sizeT (growP l) ≤ 1000000 := Nat.le_trans (growP_size l) (by decide)
  have hsh := growP_short l
  have HSG := Lib.hid hsg
  have HRV := Lib.hid (fun W F v (ht : IsT W F (growP l) v) hW => rvalid_any (growP l) F W v ht hW (by omega) hsh)
  cases hv : validP (growP l) with
  | false =>
    have HVF := Lib.hid (fun W F v (ht : IsT W F (growP l) v) hW => valid_any (growP l) F W v ht hW (by omega) hsh)
    rw [hv] at HVF HRV
    clear hv hsh hsg
    go_enter Tryd.func4, Tryd.ntmps4
    go_upto_region 4 with (first | (go_at_call 8; (with_reducible refine (awake_any _ HK.out).mono ?_); rintro e w1 ⟨rfl, hb1⟩; have HB1 := Lib.hid hb1; clear hb1) | (go_at_call 9; (with_reducible refine (grow_any _ _ l (HA.out.step HB1.out)).mono ?_); rintro e w2 ⟨⟨v2, rfl, ht2⟩, hb2⟩; obtain ⟨k2, x2, a2, m2, c2, l2, rfl⟩ := isT_shape ht2; have HB2 := Lib.hid (HB1.out.trans (hb2.mono HB1.out.size)); have HT2 := Lib.hid ht2; clear ht2 hb2))
    have HB3 := Lib.hid (HB2.out.trans ((bel_new w2 (.cells #[.int .i64 k2, .string ⟨x2.toArray⟩, .slice a2 m2 c2, .int .i64 l2] 26)).mono HB2.out.size))
    have HX3 := Lib.hid (heap_alloc_new w2 (.cells #[.int .i64 k2, .string ⟨x2.toArray⟩, .slice a2 m2 c2, .int .i64 l2] 26))
    have HT3 := Lib.hid (HT2.out.step (bel_new w2 (.cells #[.int .i64 k2, .string ⟨x2.toArray⟩, .slice a2 m2 c2, .int .i64 l2] 26)))
    obtain ⟨r0, r1, r2, r3, q0, q1, q2, q3⟩ := box4 HX3.out
    go_wp2_with (first | (go_at_call 15; (with_reducible refine (HRV.out _ _ _ HT3.out (HK.out.step HB3.out)).mono ?_); rintro e w4 ⟨rfl, hb⟩; have HB4 := Lib.hid (HB3.out.trans (hb.mono HB3.out.size)); have HX4 := Lib.hid (keep_blk hb HX3.out); have HT4 := Lib.hid (HT3.out.step hb); obtain ⟨s0, s1, s2, s3, z0, z1, z2, z3⟩ := box4 HX4.out; clear hb) | (go_at_call 11; (with_reducible refine (of_any (growP l) _ _ _ HT4.out HSG.out).mono ?_); rintro e w5 ⟨⟨v5, rfl, ht5⟩, hb5⟩; obtain ⟨k5, x5, a5, m5, c5, l5, rfl⟩ := isT_shape ht5; have HB5 := Lib.hid (HB4.out.trans (hb5.mono HB4.out.size)); have HT5 := Lib.hid ht5; clear ht5 hb5) | (go_at_call 16; (with_reducible refine (HVF.out _ _ _ HT5.out (HK.out.step HB5.out)).mono ?_); rintro e w6 ⟨rfl, hb⟩; have HB6 := Lib.hid (HB5.out.trans (hb.mono HB5.out.size)); clear hb))
    go_ret
    exact ⟨rfl, HB6.out⟩
  | true =>
    obtain ⟨v1, v2, v3, v4, v5⟩ := validP_parts hv
    have hw := fulls_ws (growP l).kids v5
    obtain ⟨ks, hks⟩ := growP_parts l
    have HFA := Lib.hid (fun (t : Tree) (F : Nat → Prop) (W : World) (x : Value) (h1 : IsT W F t x) (h2 : sizeT t ≤ 1000) (h3 : shortT t) (h4 : stOK t = true) => full_any t F W x h1 h2 h3 h4)
    rw [hv] at HRV
    rw [hks] at v3 v5 hw hsh hsg HRV
    have hval : validP (.node 1 [] ks 1) = true := by rw [← hks]; exact hv
    rw [sizeT_node] at v3
    rw [shortT_node] at hsh
    have hlen := fullsP_len ks hsh.2
    have hl : ks.length ≤ 1000 := by have := len_le_size ks; omega
    have HS := Lib.hid v3
    have HSH := Lib.hid hsh.2
    have HOK := Lib.hid (show stsOK ks = true from v5)
    have HLN := Lib.hid (show (fullsP ks).length ≤ 703000000 by omega)
    have HPT := Lib.hid (fun (h : (fullsP ks).length ≤ 4096) => parse_text hval hw h)
    have HGT := Lib.hid hks
    clear hv v1 v2 v3 v4 v5 hw hks hval hsh hsg hlen
    go_enter Tryd.func4, Tryd.ntmps4
    go_upto_region 4 with (first | (go_at_call 8; (with_reducible refine (awake_any _ HK.out).mono ?_); rintro e w1 ⟨rfl, hb1⟩; have HB1 := Lib.hid hb1; clear hb1) | (go_at_call 9; (with_reducible refine (grow_any _ _ l (HA.out.step HB1.out)).mono ?_); rintro e w2 ⟨⟨v2, rfl, ht2⟩, hb2⟩; rw [HGT.out] at ht2; obtain ⟨kv2, rfl, hks2⟩ := isT_node.1 ht2; obtain ⟨a2, c2, rfl⟩ : ∃ a c, kv2 = .slice a ks.length c := (by obtain ⟨a, c, hv, _⟩ := hks2; exact ⟨a, c, hv⟩); have HB2 := Lib.hid (HB1.out.trans (hb2.mono HB1.out.size)); have HT2 := Lib.hid ht2; have HKS2 := Lib.hid hks2; clear ht2 hb2 hks2))
    have HB3 := Lib.hid (HB2.out.trans ((bel_new w2 (.cells #[.int .i64 1, .string ⟨#[]⟩, .slice a2 ks.length c2, .int .i64 1] 26)).mono HB2.out.size))
    have HX3 := Lib.hid (heap_alloc_new w2 (.cells #[.int .i64 1, .string ⟨#[]⟩, .slice a2 ks.length c2, .int .i64 1] 26))
    have HT3 := Lib.hid (HT2.out.step (bel_new w2 (.cells #[.int .i64 1, .string ⟨#[]⟩, .slice a2 ks.length c2, .int .i64 1] 26)))
    have HK3 := Lib.hid (HKS2.out.step (bel_new w2 (.cells #[.int .i64 1, .string ⟨#[]⟩, .slice a2 ks.length c2, .int .i64 1] 26)))
    obtain ⟨r0, r1, r2, r3, q0, q1, q2, q3⟩ := box4 HX3.out
    go_wp2_with (first | (go_at_call 15; (with_reducible refine (HRV.out _ _ _ HT3.out (HK.out.step HB3.out)).mono ?_); rintro e w4 ⟨rfl, hb⟩; have HB4 := Lib.hid (HB3.out.trans (hb.mono HB3.out.size)); have HX4 := Lib.hid (keep_blk hb HX3.out); have HT4 := Lib.hid (HT3.out.step hb); have HK4 := Lib.hid (HK3.out.step hb); obtain ⟨s0, s1, s2, s3, z0, z1, z2, z3⟩ := box4 HX4.out; clear hb))
    have HSL := Lib.hid (sameT_er)
    go_loopw [4, 24] (fun x i wr => ∃ q : Nat, ∃ X : ByteArray, i = .int .i64 q ∧ q ≤ ks.length ∧ x = .string X ∧ X = ⟨(fullsP (ks.take q)).toArray⟩ ∧ Below w4.heap.size w4 wr) (fun _ i _ => ks.length - (intOf i).toNat)
    case atStart => exact ⟨0, ⟨#[]⟩, rfl, Nat.zero_le _, rfl, by rw [List.take_zero, fullsP_nil], Below.refl _ _⟩
    case round =>
      obtain ⟨q, X, rfl, hq, rfl, hX, hb⟩ := hrel
      have HB := Lib.hid hb
      have hXs : X.size ≤ 703000000 := by
        rw [hX]
        refine size_of_list _ _ ?_
        have h1 := fullsP_append (ks.take q) (ks.drop q)
        rw [List.take_append_drop] at h1
        have h2 := congrArg List.length h1
        rw [List.length_append] at h2
        have := HLN.out
        omega
      have HX := Lib.hid hX
      have HBX := Lib.hid (keep_blk hb HX4.out)
      clear hb hX
      by_cases hlt : q < ks.length
      · obtain ⟨t', ht'⟩ : ∃ t', ks[q]? = some t' := ⟨_, List.getElem?_eq_getElem hlt⟩
        obtain ⟨b, off, cap, k0, x0, a0, m0, n0, l0, hv, c0, c1, c2', c3, hT⟩ := IsKids.at (HK4.out.step HB.out) ht'
        simp only [Value.slice.injEq] at hv
        obtain ⟨rfl, -, rfl⟩ := hv
        have h4 := sizeT_mem (List.mem_of_getElem? ht')
        have h5 := shortT_at HSH.out ht'
        have h6 := stOK_at HOK.out ht'
        have h7 := fullP_len t' h5
        have HT := Lib.hid hT
        have HTK := Lib.hid (fullsP_take ht')
        have HCC := Lib.hid (fun F W (hW : IsT W F t' (.agg #[.int .i64 k0, .string ⟨x0.toArray⟩, .slice a0 m0 n0, .int .i64 l0])) => HFA.out t' F W _ hW (by have := HS.out; omega) h5 h6)
        obtain ⟨S, hS⟩ : ∃ S : ByteArray, S = ⟨(fullP t').toArray⟩ := ⟨_, rfl⟩
        have hSs : S.size ≤ 703000000 := by rw [hS]; exact size_of_list _ _ (by have := HS.out; omega)
        rw [← hS] at HCC
        have HS2 := Lib.hid hS
        have hlti : (q : Int) < (ks.length : Int) := by omega
        clear h4 h5 h6 h7 hT ht' hS
        go_wp2_with (first | (go_at_call 17; (with_reducible refine (HCC.out _ _ (HT.out.step (bel_new _ _))).mono ?_); rintro e w5 ⟨rfl, hb1⟩; have HB5 := Lib.hid ((bel_new wr (.cells #[.int .i64 k0, .string ⟨x0.toArray⟩, .slice a0 m0 n0, .int .i64 l0] 26)).trans (hb1.mono (by simp))); clear hb1))
        go_roundw
        case rel => exact ⟨q + 1, _, by go_num, by omega, rfl, by rw [HTK.out, HX.out, HS2.out]; exact ba_of_list (by simp [ByteArray.data_append]), HB.out.trans (HB5.out.mono HB.out.size)⟩
        case measure => simp [intOf]; omega
      · have hq2 : q = ks.length := by omega
        subst hq2
        rw [List.take_length] at HX
        have HBB := Lib.hid (HB4.out.trans (HB.out.mono HB4.out.size))
        by_cases hln : (fullsP ks).length ≤ 4096
        rotate_left
        · have hXi : (4096 : Int) < (X.size : Int) := by rw [HX.out]; show (4096 : Int) < ((fullsP ks).toArray.size : Int); simp; omega
          go_wp2_with fail
          go_ret
          exact ⟨rfl, HBB.out⟩
        · have hXi : ¬ (4096 : Int) < (X.size : Int) := by rw [HX.out]; show ¬ (4096 : Int) < ((fullsP ks).toArray.size : Int); simp; omega
          obtain ⟨u, hu1, hu2⟩ := HPT.out hln
          have hu3 : parseF (fullsP ks) = (u, 0, 0) := hu1
          have hvu := parse_valid hu1
          have hsu := vsize hvu.1
          have hsm := sameT_er u _ hu2
          have HP : Hid (∀ W, KW W → Calls Tryd.prog 18 #[.string X] W fun e w' => PostP W w' (u, 0, 0) e) := Lib.hid (fun W hW => by have h := parse_any X W hW; rw [HX.out, show (ByteArray.mk (fullsP ks).toArray).data.toList = fullsP ks by simp, hu3] at h; rw [HX.out]; exact h)
          have HSM := Lib.hid (fun W F G a b (hta : IsT W F u a) (htb : IsT W G (.node 1 [] ks 1) b) => (show Calls Tryd.prog 12 #[a, b] W fun e w' => e = .returned (.bool true) ∧ Below W.heap.size W w' by have h := same_any u (.node 1 [] ks 1) F G W a b hta htb (by omega); rw [hsm] at h; exact h))
          have HOF := Lib.hid (fun W F a (hta : IsT W F (.node 1 [] ks 1) a) => of_any (.node 1 [] ks 1) F W a hta (by rw [sizeT_node]; have := HS.out; omega))
          have HTB := Lib.hid (HT4.out.step HB.out)
          obtain ⟨t0, t1, t2, t3, y0, y1, y2, y3⟩ := box4 HBX.out
          clear hu1 hu2 hu3 hvu hsu hsm hln
          go_upto_region 15 with (first | (go_at_call 18; (with_reducible refine (HP.out _ (HK.out.step HBB.out)).mono ?_); intro e w5 hps; obtain ⟨k6, x6, a6, m6, c6, l6, rfl, ht, hb⟩ := postP_parts hps; have HB6 := Lib.hid (HBB.out.trans (hb.mono HBB.out.size)); have HU5 := Lib.hid ht; have HX5 := Lib.hid (keep_blk hb HBX.out); have HT5 := Lib.hid (HTB.out.step hb); rw [errV0]; clear hps ht hb))
          have HB7 := Lib.hid (HB6.out.trans ((bel_new w5 (.cells #[.int .i64 k6, .string ⟨x6.toArray⟩, .slice a6 m6 c6, .int .i64 l6] 32)).mono HB6.out.size))
          have HX7 := Lib.hid (new_blk (y := (.cells #[.int .i64 k6, .string ⟨x6.toArray⟩, .slice a6 m6 c6, .int .i64 l6] 32)) HX5.out)
          have HY7 := Lib.hid (heap_alloc_new w5 (.cells #[.int .i64 k6, .string ⟨x6.toArray⟩, .slice a6 m6 c6, .int .i64 l6] 32))
          have HT7 := Lib.hid (HT5.out.step (bel_new w5 (.cells #[.int .i64 k6, .string ⟨x6.toArray⟩, .slice a6 m6 c6, .int .i64 l6] 32)))
          have HU7 := Lib.hid (HU5.out.step (bel_new w5 (.cells #[.int .i64 k6, .string ⟨x6.toArray⟩, .slice a6 m6 c6, .int .i64 l6] 32)))
          have hne : ¬ w5.heap.size = w2.heap.size := by have := block_lt HX5.out; omega
          generalize hub : w5.heap.size = ub at *
          generalize w2.heap.size = tb at *
          generalize w5.alloc (.cells #[.int .i64 k6, .string ⟨x6.toArray⟩, .slice a6 m6 c6, .int .i64 l6] 32) = W at *
          have HKS := Lib.hid (show ∀ V, Below W.heap.size W V → (V.cell? ⟨tb, 0, none⟩ = some (.int .i64 1) ∧ V.cell? ⟨tb, 1, none⟩ = some (.string ⟨#[]⟩) ∧ V.cell? ⟨tb, 2, none⟩ = some (.slice a2 ks.length c2) ∧ V.cell? ⟨tb, 3, none⟩ = some (.int .i64 1) ∧ V.cell? ⟨ub, 0, none⟩ = some (.int .i64 k6) ∧ V.cell? ⟨ub, 1, none⟩ = some (.string ⟨x6.toArray⟩) ∧ V.cell? ⟨ub, 2, none⟩ = some (.slice a6 m6 c6) ∧ V.cell? ⟨ub, 3, none⟩ = some (.int .i64 l6)) from fun V hV => by
            obtain ⟨a0', a1', a2', a3', _⟩ := box4 (keep_blk hV HX7.out)
            obtain ⟨b0', b1', b2', b3', _⟩ := box4 (keep_blk hV HY7.out)
            exact ⟨a0', a1', a2', a3', b0', b1', b2', b3'⟩)
          go_region_held3 (fun w' => w'.cell? ⟨tb, 0, none⟩ = some (.int .i64 1) ∧ w'.cell? ⟨tb, 1, none⟩ = some (.string ⟨#[]⟩) ∧ w'.cell? ⟨tb, 2, none⟩ = some (.slice a2 ks.length c2) ∧ w'.cell? ⟨tb, 3, none⟩ = some (.int .i64 1) ∧ w'.cell? ⟨ub, 0, none⟩ = some (.int .i64 k6) ∧ w'.cell? ⟨ub, 1, none⟩ = some (.string ⟨x6.toArray⟩) ∧ w'.cell? ⟨ub, 2, none⟩ = some (.slice a6 m6 c6) ∧ w'.cell? ⟨ub, 3, none⟩ = some (.int .i64 l6)) ((first | exact HKS.out _ (Below.refl _ _).drew | exact HKS.out _ HB9.out | exact HKS.out _ HB8.out)) (first | (go_at_call 11; (with_reducible refine (HOF.out _ _ _ (HT7.out.step ((Below.refl W.heap.size W).drew))).mono ?_); rintro e w8 ⟨⟨v8, rfl, ht8⟩, hb8⟩; obtain ⟨k8, x8, a8, m8, c8, l8, rfl⟩ := isT_shape ht8; have HB8 := Lib.hid (((Below.refl W.heap.size W).drew).trans (hb8.mono ((Below.refl W.heap.size W).drew).size)); have HT8 := Lib.hid ht8; clear ht8 hb8) | (go_at_call 12; (with_reducible refine (HSM.out _ _ _ _ _ (HU7.out.step HB8.out) HT8.out).mono ?_); rintro e w9 ⟨rfl, hb9⟩; have HB9 := Lib.hid (HB8.out.trans (hb9.mono HB8.out.size)); clear hb9))
          go_wp2_with fail
          go_ret
          exact ⟨rfl, HB7.out.trans (HB9.out.mono HB7.out.size)⟩
end Go.Proofs.YtogkiifljdnjgaaDoor
