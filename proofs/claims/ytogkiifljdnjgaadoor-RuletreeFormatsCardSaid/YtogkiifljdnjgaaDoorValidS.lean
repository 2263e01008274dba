/- The walk of stated. Conditions: bounds on size and texts. -/
import Derived.Test.YtogkiifljdnjgaaDoorValidB
namespace Go.Proofs.YtogkiifljdnjgaaDoor
open Go.RowKit
set_option linter.unusedVariables false
set_option linter.unusedSimpArgs false

set_option maxRecDepth 20000 in
set_option maxHeartbeats 4000000 in
theorem stated_ok (n : Nat) (HC : OkC 28 stOK n) (HCB : OkC 43 blOK n) : OkC 28 stOK (n + 1) := by
  have HCS := Lib.hid HC
  have HCBl := Lib.hid HCB
  have HCE := Lib.hid (expr_all n)
  clear HC HCB
  intro t F w v ht hw hd hs hsh
  obtain ⟨k, tx, ks, l⟩ := t
  obtain ⟨kv, rfl, hks⟩ := isT_node.1 ht
  rw [depthT_node] at hd
  rw [sizeT_node] at hs
  rw [shortT_node] at hsh
  obtain ⟨htx, hshl⟩ := hsh
  obtain ⟨R, hR⟩ : ∃ R, stOK (.node k tx ks l) = R := ⟨_, rfl⟩
  rw [hR]
  have HR := Lib.hid hR
  have HW := Lib.hid hw
  have HK := Lib.hid hks
  have HD := Lib.hid hd
  have HTX := Lib.hid htx
  have HSH := Lib.hid hshl
  have HSZ := Lib.hid hs
  obtain ⟨a, c, rfl⟩ : ∃ a c, kv = .slice a ks.length c := by
    obtain ⟨a, c, hv, _⟩ := hks
    exact ⟨a, c, hv⟩
  have hl : ks.length ≤ 1000000000 := by have := len_le_size ks; omega
  have hl0 : (0 : Int) ≤ (ks.length : Int) := by omega
  have HB0 := Lib.hid (bel_new w (.cells #[.int .i64 k, .string ⟨tx.toArray⟩, .slice a ks.length c, .int .i64 l] 32))
  have HX0 := Lib.hid (heap_alloc_new w (.cells #[.int .i64 k, .string ⟨tx.toArray⟩, .slice a ks.length c, .int .i64 l] 32))
  clear ht hd hs hks hR hw htx hshl
  obtain ⟨N, hN⟩ : ∃ N, ks.length = N := ⟨_, rfl⟩
  rw [hN] at HB0 HX0 HK hl hl0 ⊢
  have HSL := Lib.hid (show (⟨tx.toArray⟩ : ByteArray).size ≤ 100000 from by show tx.toArray.size ≤ 100000; simpa using HTX.out)
  obtain ⟨r0, r1, r2, r3, q0, q1, q2, q3⟩ := box4 HX0.out
  by_cases h2 : k = 2
  · subst h2
    rcases tx with _ | ⟨y, r⟩
    rotate_left
    · have HQ := Lib.hid (show false = R by rw [← HR.out]; rcases ks with _ | ⟨e, _ | ⟨b, _ | ⟨x, _ | ⟨z, t⟩⟩⟩⟩; rw [stOK_0]; simp [head0]; rw [stOK_1]; simp [head1]; rw [stOK_2]; simp [headI]; rw [stOK_3]; simp [headI]; rw [stOK_4 (by simp)])
      go_enter Tryd.func28, Tryd.ntmps28
      go_wp2_with fail
      go_ret
      exact ⟨by rw [← HQ.out] <;> rfl, HB0.out⟩
    by_cases hlt : N < 2
    · have hlti : (N : Int) < 2 := by omega
      have HQ := Lib.hid (show false = R by rw [← HR.out]; rcases ks with _ | ⟨e, _ | ⟨b, r⟩⟩; rw [stOK_0]; simp [head0]; rw [stOK_1]; simp [head1]; (simp at hN; omega))
      go_enter Tryd.func28, Tryd.ntmps28
      go_wp2_with fail
      go_ret
      exact ⟨by rw [← HQ.out] <;> rfl, HB0.out⟩
    by_cases hgt : 3 < N
    · have hlti : ¬ (N : Int) < 2 := by omega
      have hgti : 3 < (N : Int) := by omega
      have HQ := Lib.hid (show false = R by rw [← HR.out, stOK_4 (by omega)])
      go_enter Tryd.func28, Tryd.ntmps28
      go_wp2_with fail
      go_ret
      exact ⟨by rw [← HQ.out] <;> rfl, HB0.out⟩
    by_cases h22 : N = 2
    · subst h22
      obtain ⟨e, b, rfl⟩ : ∃ e b, ks = [e, b] := by
        rcases ks with _ | ⟨e, _ | ⟨b, _ | ⟨x, _ | ⟨y, r⟩⟩⟩⟩ <;> first | exact ⟨e, b, rfl⟩ | (simp at hN)
      have hks0 : ∃ ks0, [e, b] = ks0 := ⟨_, rfl⟩
      obtain ⟨ks0, hks0⟩ := hks0
      have HD' := HD
      have HSZ' := HSZ
      rw [hks0] at HD HSZ
      symm at hks0
      have hd0 : depthT e ≤ n := by have := HD.out; have := depthT_mem (ks := ks0) (t := e) (by rw [hks0]; simp); omega
      have hs0 : sizeT e ≤ 1000000000 := by have := HSZ.out; have := sizeT_mem (ks := ks0) (t := e) (by rw [hks0]; simp); omega
      have hh0 : shortT e := shortT_at (q := 0) HSH.out rfl
      have hd1 : depthT b ≤ n := by have := HD.out; have := depthT_mem (ks := ks0) (t := b) (by rw [hks0]; simp); omega
      have hs1 : sizeT b ≤ 1000000000 := by have := HSZ.out; have := sizeT_mem (ks := ks0) (t := b) (by rw [hks0]; simp); omega
      have hh1 : shortT b := shortT_at (q := 1) HSH.out rfl
      rw [hks0] at HD HSZ
      clear HD HSZ HD' HSZ' hks0
      obtain ⟨bk0, off0, cap0, k00, x00, a00, m00, n00, l00, hv0, c00, c01, c02, c03, hT0⟩ := IsKids.at HK.out (k := 0) (t := e) rfl
      simp only [Value.slice.injEq] at hv0
      obtain ⟨rfl, -, rfl⟩ := hv0
      simp only [Nat.zero_mul, Nat.add_zero, Nat.one_mul, Nat.reduceMul, Nat.add_assoc, Nat.reduceAdd] at c00 c01 c02 c03
      have HT0 := Lib.hid hT0
      clear hT0
      obtain ⟨bk1, off1, cap1, k10, x10, a10, m10, n10, l10, hv1, c10, c11, c12, c13, hT1⟩ := IsKids.at HK.out (k := 1) (t := b) rfl
      simp only [Value.slice.injEq, Option.some.injEq, Addr.mk.injEq, and_true] at hv1
      obtain ⟨⟨rfl, rfl⟩, -, -⟩ := hv1
      simp only [Nat.zero_mul, Nat.add_zero, Nat.one_mul, Nat.reduceMul, Nat.add_assoc, Nat.reduceAdd] at c10 c11 c12 c13
      have HT1 := Lib.hid hT1
      clear hT1
      have d00 := keep_at HB0.out c00
      have d01 := keep_at HB0.out c01
      have d02 := keep_at HB0.out c02
      have d03 := keep_at HB0.out c03
      have d10 := keep_at HB0.out c10
      have d11 := keep_at HB0.out c11
      have d12 := keep_at HB0.out c12
      have d13 := keep_at HB0.out c13
      have HR1 := Lib.hid (show (exprOK e && blOK b) = R by rw [← HR.out, stOK_2]; simp [headI])
      cases gHE : exprOK e with
      | false =>
        have HE := Lib.hid (fun W (hW : IsT W F e (.agg #[.int .i64 k00, .string ⟨x00.toArray⟩, .slice a00 m00 n00, .int .i64 l00])) (hK : KW W) => show Calls Tryd.prog 42 _ W fun e w' => e = .returned (.bool false) ∧ Below W.heap.size W w' by rw [← gHE]; exact HCE.out e F W _ hW hK hd0 hs0 hh0)
        have HQ := Lib.hid (show false = R by rw [← HR1.out, gHE]; rfl)
        clear gHE
        go_enter Tryd.func28, Tryd.ntmps28
        go_wp2_with (first | (go_at_call 42; (with_reducible refine (HE.out _ (HT0.out.step HB0.out) (HW.out.step HB0.out)).mono ?_); rintro e w1 ⟨rfl, hb⟩; have HB1 := Lib.hid (HB0.out.trans (hb.mono HB0.out.size)); have HX1 := Lib.hid (keep_blk hb HX0.out); obtain ⟨s10, s11, s12, s13, s14, s15, s16, s17⟩ := box4 HX1.out; have d00_1 := keep_at HB1.out c00; have d01_1 := keep_at HB1.out c01; have d02_1 := keep_at HB1.out c02; have d03_1 := keep_at HB1.out c03; have d10_1 := keep_at HB1.out c10; have d11_1 := keep_at HB1.out c11; have d12_1 := keep_at HB1.out c12; have d13_1 := keep_at HB1.out c13; clear hb))
        go_ret
        exact ⟨by rw [← HQ.out] <;> rfl, HB1.out⟩
      | true =>
        have HE := Lib.hid (fun W (hW : IsT W F e (.agg #[.int .i64 k00, .string ⟨x00.toArray⟩, .slice a00 m00 n00, .int .i64 l00])) (hK : KW W) => show Calls Tryd.prog 42 _ W fun e w' => e = .returned (.bool true) ∧ Below W.heap.size W w' by rw [← gHE]; exact HCE.out e F W _ hW hK hd0 hs0 hh0)
        cases gHBb : blOK b with
        | false =>
          have HBb := Lib.hid (fun W (hW : IsT W F b (.agg #[.int .i64 k10, .string ⟨x10.toArray⟩, .slice a10 m10 n10, .int .i64 l10])) (hK : KW W) => show Calls Tryd.prog 43 _ W fun e w' => e = .returned (.bool false) ∧ Below W.heap.size W w' by rw [← gHBb]; exact HCBl.out b F W _ hW hK hd1 hs1 hh1)
          have HQ := Lib.hid (show false = R by rw [← HR1.out, gHE, gHBb]; rfl)
          clear gHE gHBb
          go_enter Tryd.func28, Tryd.ntmps28
          go_wp2_with (first | (go_at_call 42; (with_reducible refine (HE.out _ (HT0.out.step HB0.out) (HW.out.step HB0.out)).mono ?_); rintro e w1 ⟨rfl, hb⟩; have HB1 := Lib.hid (HB0.out.trans (hb.mono HB0.out.size)); have HX1 := Lib.hid (keep_blk hb HX0.out); obtain ⟨s10, s11, s12, s13, s14, s15, s16, s17⟩ := box4 HX1.out; have d00_1 := keep_at HB1.out c00; have d01_1 := keep_at HB1.out c01; have d02_1 := keep_at HB1.out c02; have d03_1 := keep_at HB1.out c03; have d10_1 := keep_at HB1.out c10; have d11_1 := keep_at HB1.out c11; have d12_1 := keep_at HB1.out c12; have d13_1 := keep_at HB1.out c13; clear hb) | (go_at_call 43; (with_reducible refine (HBb.out _ (HT1.out.step HB1.out) (HW.out.step HB1.out)).mono ?_); rintro e w2 ⟨rfl, hb⟩; have HB2 := Lib.hid (HB1.out.trans (hb.mono HB1.out.size)); have HX2 := Lib.hid (keep_blk hb HX1.out); obtain ⟨s20, s21, s22, s23, s24, s25, s26, s27⟩ := box4 HX2.out; have d00_2 := keep_at HB2.out c00; have d01_2 := keep_at HB2.out c01; have d02_2 := keep_at HB2.out c02; have d03_2 := keep_at HB2.out c03; have d10_2 := keep_at HB2.out c10; have d11_2 := keep_at HB2.out c11; have d12_2 := keep_at HB2.out c12; have d13_2 := keep_at HB2.out c13; clear hb))
          go_ret
          exact ⟨by rw [← HQ.out] <;> rfl, HB2.out⟩
        | true =>
          have HBb := Lib.hid (fun W (hW : IsT W F b (.agg #[.int .i64 k10, .string ⟨x10.toArray⟩, .slice a10 m10 n10, .int .i64 l10])) (hK : KW W) => show Calls Tryd.prog 43 _ W fun e w' => e = .returned (.bool true) ∧ Below W.heap.size W w' by rw [← gHBb]; exact HCBl.out b F W _ hW hK hd1 hs1 hh1)
          have HQ := Lib.hid (show true = R by rw [← HR1.out, gHE, gHBb]; rfl)
          clear gHE gHBb
          go_enter Tryd.func28, Tryd.ntmps28
          go_wp2_with (first | (go_at_call 42; (with_reducible refine (HE.out _ (HT0.out.step HB0.out) (HW.out.step HB0.out)).mono ?_); rintro e w1 ⟨rfl, hb⟩; have HB1 := Lib.hid (HB0.out.trans (hb.mono HB0.out.size)); have HX1 := Lib.hid (keep_blk hb HX0.out); obtain ⟨s10, s11, s12, s13, s14, s15, s16, s17⟩ := box4 HX1.out; have d00_1 := keep_at HB1.out c00; have d01_1 := keep_at HB1.out c01; have d02_1 := keep_at HB1.out c02; have d03_1 := keep_at HB1.out c03; have d10_1 := keep_at HB1.out c10; have d11_1 := keep_at HB1.out c11; have d12_1 := keep_at HB1.out c12; have d13_1 := keep_at HB1.out c13; clear hb) | (go_at_call 43; (with_reducible refine (HBb.out _ (HT1.out.step HB1.out) (HW.out.step HB1.out)).mono ?_); rintro e w2 ⟨rfl, hb⟩; have HB2 := Lib.hid (HB1.out.trans (hb.mono HB1.out.size)); have HX2 := Lib.hid (keep_blk hb HX1.out); obtain ⟨s20, s21, s22, s23, s24, s25, s26, s27⟩ := box4 HX2.out; have d00_2 := keep_at HB2.out c00; have d01_2 := keep_at HB2.out c01; have d02_2 := keep_at HB2.out c02; have d03_2 := keep_at HB2.out c03; have d10_2 := keep_at HB2.out c10; have d11_2 := keep_at HB2.out c11; have d12_2 := keep_at HB2.out c12; have d13_2 := keep_at HB2.out c13; clear hb))
          go_ret
          exact ⟨by rw [← HQ.out] <;> rfl, HB2.out⟩
    · obtain rfl : N = 3 := by omega
      obtain ⟨e, b, x, rfl⟩ : ∃ e b x, ks = [e, b, x] := by
        rcases ks with _ | ⟨e, _ | ⟨b, _ | ⟨x, _ | ⟨y, r⟩⟩⟩⟩ <;> first | exact ⟨e, b, x, rfl⟩ | (simp at hN)
      have hks0 : ∃ ks0, [e, b, x] = ks0 := ⟨_, rfl⟩
      obtain ⟨ks0, hks0⟩ := hks0
      have HD' := HD
      have HSZ' := HSZ
      rw [hks0] at HD HSZ
      symm at hks0
      have hd0 : depthT e ≤ n := by have := HD.out; have := depthT_mem (ks := ks0) (t := e) (by rw [hks0]; simp); omega
      have hs0 : sizeT e ≤ 1000000000 := by have := HSZ.out; have := sizeT_mem (ks := ks0) (t := e) (by rw [hks0]; simp); omega
      have hh0 : shortT e := shortT_at (q := 0) HSH.out rfl
      have hd1 : depthT b ≤ n := by have := HD.out; have := depthT_mem (ks := ks0) (t := b) (by rw [hks0]; simp); omega
      have hs1 : sizeT b ≤ 1000000000 := by have := HSZ.out; have := sizeT_mem (ks := ks0) (t := b) (by rw [hks0]; simp); omega
      have hh1 : shortT b := shortT_at (q := 1) HSH.out rfl
      have hd2 : depthT x ≤ n := by have := HD.out; have := depthT_mem (ks := ks0) (t := x) (by rw [hks0]; simp); omega
      have hs2 : sizeT x ≤ 1000000000 := by have := HSZ.out; have := sizeT_mem (ks := ks0) (t := x) (by rw [hks0]; simp); omega
      have hh2 : shortT x := shortT_at (q := 2) HSH.out rfl
      rw [hks0] at HD HSZ
      clear HD HSZ HD' HSZ' hks0
      obtain ⟨bk0, off0, cap0, k00, x00, a00, m00, n00, l00, hv0, c00, c01, c02, c03, hT0⟩ := IsKids.at HK.out (k := 0) (t := e) rfl
      simp only [Value.slice.injEq] at hv0
      obtain ⟨rfl, -, rfl⟩ := hv0
      simp only [Nat.zero_mul, Nat.add_zero, Nat.one_mul, Nat.reduceMul, Nat.add_assoc, Nat.reduceAdd] at c00 c01 c02 c03
      have HT0 := Lib.hid hT0
      clear hT0
      obtain ⟨bk1, off1, cap1, k10, x10, a10, m10, n10, l10, hv1, c10, c11, c12, c13, hT1⟩ := IsKids.at HK.out (k := 1) (t := b) rfl
      simp only [Value.slice.injEq, Option.some.injEq, Addr.mk.injEq, and_true] at hv1
      obtain ⟨⟨rfl, rfl⟩, -, -⟩ := hv1
      simp only [Nat.zero_mul, Nat.add_zero, Nat.one_mul, Nat.reduceMul, Nat.add_assoc, Nat.reduceAdd] at c10 c11 c12 c13
      have HT1 := Lib.hid hT1
      clear hT1
      obtain ⟨bk2, off2, cap2, k20, x20, a20, m20, n20, l20, hv2, c20, c21, c22, c23, hT2⟩ := IsKids.at HK.out (k := 2) (t := x) rfl
      simp only [Value.slice.injEq, Option.some.injEq, Addr.mk.injEq, and_true] at hv2
      obtain ⟨⟨rfl, rfl⟩, -, -⟩ := hv2
      simp only [Nat.zero_mul, Nat.add_zero, Nat.one_mul, Nat.reduceMul, Nat.add_assoc, Nat.reduceAdd] at c20 c21 c22 c23
      have HT2 := Lib.hid hT2
      clear hT2
      have d00 := keep_at HB0.out c00
      have d01 := keep_at HB0.out c01
      have d02 := keep_at HB0.out c02
      have d03 := keep_at HB0.out c03
      have d10 := keep_at HB0.out c10
      have d11 := keep_at HB0.out c11
      have d12 := keep_at HB0.out c12
      have d13 := keep_at HB0.out c13
      have d20 := keep_at HB0.out c20
      have d21 := keep_at HB0.out c21
      have d22 := keep_at HB0.out c22
      have d23 := keep_at HB0.out c23
      have HR1 := Lib.hid (show (exprOK e && (blOK b && (blOK x || (decide (x.kind = 2) && stOK x)))) = R by rw [← HR.out, stOK_3]; simp [headI])
      cases gHE : exprOK e with
      | false =>
        have HE := Lib.hid (fun W (hW : IsT W F e (.agg #[.int .i64 k00, .string ⟨x00.toArray⟩, .slice a00 m00 n00, .int .i64 l00])) (hK : KW W) => show Calls Tryd.prog 42 _ W fun e w' => e = .returned (.bool false) ∧ Below W.heap.size W w' by rw [← gHE]; exact HCE.out e F W _ hW hK hd0 hs0 hh0)
        have HQ := Lib.hid (show false = R by rw [← HR1.out, gHE]; rfl)
        clear gHE
        go_enter Tryd.func28, Tryd.ntmps28
        go_wp2_with (first | (go_at_call 42; (with_reducible refine (HE.out _ (HT0.out.step HB0.out) (HW.out.step HB0.out)).mono ?_); rintro e w1 ⟨rfl, hb⟩; have HB1 := Lib.hid (HB0.out.trans (hb.mono HB0.out.size)); have HX1 := Lib.hid (keep_blk hb HX0.out); obtain ⟨s10, s11, s12, s13, s14, s15, s16, s17⟩ := box4 HX1.out; have d00_1 := keep_at HB1.out c00; have d01_1 := keep_at HB1.out c01; have d02_1 := keep_at HB1.out c02; have d03_1 := keep_at HB1.out c03; have d10_1 := keep_at HB1.out c10; have d11_1 := keep_at HB1.out c11; have d12_1 := keep_at HB1.out c12; have d13_1 := keep_at HB1.out c13; have d20_1 := keep_at HB1.out c20; have d21_1 := keep_at HB1.out c21; have d22_1 := keep_at HB1.out c22; have d23_1 := keep_at HB1.out c23; clear hb))
        go_ret
        exact ⟨by rw [← HQ.out] <;> rfl, HB1.out⟩
      | true =>
        have HE := Lib.hid (fun W (hW : IsT W F e (.agg #[.int .i64 k00, .string ⟨x00.toArray⟩, .slice a00 m00 n00, .int .i64 l00])) (hK : KW W) => show Calls Tryd.prog 42 _ W fun e w' => e = .returned (.bool true) ∧ Below W.heap.size W w' by rw [← gHE]; exact HCE.out e F W _ hW hK hd0 hs0 hh0)
        cases gHBb : blOK b with
        | false =>
          have HBb := Lib.hid (fun W (hW : IsT W F b (.agg #[.int .i64 k10, .string ⟨x10.toArray⟩, .slice a10 m10 n10, .int .i64 l10])) (hK : KW W) => show Calls Tryd.prog 43 _ W fun e w' => e = .returned (.bool false) ∧ Below W.heap.size W w' by rw [← gHBb]; exact HCBl.out b F W _ hW hK hd1 hs1 hh1)
          have HQ := Lib.hid (show false = R by rw [← HR1.out, gHE, gHBb]; rfl)
          clear gHE gHBb
          go_enter Tryd.func28, Tryd.ntmps28
          go_wp2_with (first | (go_at_call 42; (with_reducible refine (HE.out _ (HT0.out.step HB0.out) (HW.out.step HB0.out)).mono ?_); rintro e w1 ⟨rfl, hb⟩; have HB1 := Lib.hid (HB0.out.trans (hb.mono HB0.out.size)); have HX1 := Lib.hid (keep_blk hb HX0.out); obtain ⟨s10, s11, s12, s13, s14, s15, s16, s17⟩ := box4 HX1.out; have d00_1 := keep_at HB1.out c00; have d01_1 := keep_at HB1.out c01; have d02_1 := keep_at HB1.out c02; have d03_1 := keep_at HB1.out c03; have d10_1 := keep_at HB1.out c10; have d11_1 := keep_at HB1.out c11; have d12_1 := keep_at HB1.out c12; have d13_1 := keep_at HB1.out c13; have d20_1 := keep_at HB1.out c20; have d21_1 := keep_at HB1.out c21; have d22_1 := keep_at HB1.out c22; have d23_1 := keep_at HB1.out c23; clear hb) | (go_at_call 43; (with_reducible refine (HBb.out _ (HT1.out.step HB1.out) (HW.out.step HB1.out)).mono ?_); rintro e w2 ⟨rfl, hb⟩; have HB2 := Lib.hid (HB1.out.trans (hb.mono HB1.out.size)); have HX2 := Lib.hid (keep_blk hb HX1.out); obtain ⟨s20, s21, s22, s23, s24, s25, s26, s27⟩ := box4 HX2.out; have d00_2 := keep_at HB2.out c00; have d01_2 := keep_at HB2.out c01; have d02_2 := keep_at HB2.out c02; have d03_2 := keep_at HB2.out c03; have d10_2 := keep_at HB2.out c10; have d11_2 := keep_at HB2.out c11; have d12_2 := keep_at HB2.out c12; have d13_2 := keep_at HB2.out c13; have d20_2 := keep_at HB2.out c20; have d21_2 := keep_at HB2.out c21; have d22_2 := keep_at HB2.out c22; have d23_2 := keep_at HB2.out c23; clear hb))
          go_ret
          exact ⟨by rw [← HQ.out] <;> rfl, HB2.out⟩
        | true =>
          have HBb := Lib.hid (fun W (hW : IsT W F b (.agg #[.int .i64 k10, .string ⟨x10.toArray⟩, .slice a10 m10 n10, .int .i64 l10])) (hK : KW W) => show Calls Tryd.prog 43 _ W fun e w' => e = .returned (.bool true) ∧ Below W.heap.size W w' by rw [← gHBb]; exact HCBl.out b F W _ hW hK hd1 hs1 hh1)
          cases gHBx : blOK x with
          | true =>
            have HBx := Lib.hid (fun W (hW : IsT W F x (.agg #[.int .i64 k20, .string ⟨x20.toArray⟩, .slice a20 m20 n20, .int .i64 l20])) (hK : KW W) => show Calls Tryd.prog 43 _ W fun e w' => e = .returned (.bool true) ∧ Below W.heap.size W w' by rw [← gHBx]; exact HCBl.out x F W _ hW hK hd2 hs2 hh2)
            have HQ := Lib.hid (show true = R by rw [← HR1.out, gHE, gHBb, gHBx]; rfl)
            clear gHE gHBb gHBx
            go_enter Tryd.func28, Tryd.ntmps28
            go_wp2_with (first | (go_at_call 42; (with_reducible refine (HE.out _ (HT0.out.step HB0.out) (HW.out.step HB0.out)).mono ?_); rintro e w1 ⟨rfl, hb⟩; have HB1 := Lib.hid (HB0.out.trans (hb.mono HB0.out.size)); have HX1 := Lib.hid (keep_blk hb HX0.out); obtain ⟨s10, s11, s12, s13, s14, s15, s16, s17⟩ := box4 HX1.out; have d00_1 := keep_at HB1.out c00; have d01_1 := keep_at HB1.out c01; have d02_1 := keep_at HB1.out c02; have d03_1 := keep_at HB1.out c03; have d10_1 := keep_at HB1.out c10; have d11_1 := keep_at HB1.out c11; have d12_1 := keep_at HB1.out c12; have d13_1 := keep_at HB1.out c13; have d20_1 := keep_at HB1.out c20; have d21_1 := keep_at HB1.out c21; have d22_1 := keep_at HB1.out c22; have d23_1 := keep_at HB1.out c23; clear hb) | (go_at_call 43; (with_reducible refine (HBb.out _ (HT1.out.step HB1.out) (HW.out.step HB1.out)).mono ?_); rintro e w2 ⟨rfl, hb⟩; have HB2 := Lib.hid (HB1.out.trans (hb.mono HB1.out.size)); have HX2 := Lib.hid (keep_blk hb HX1.out); obtain ⟨s20, s21, s22, s23, s24, s25, s26, s27⟩ := box4 HX2.out; have d00_2 := keep_at HB2.out c00; have d01_2 := keep_at HB2.out c01; have d02_2 := keep_at HB2.out c02; have d03_2 := keep_at HB2.out c03; have d10_2 := keep_at HB2.out c10; have d11_2 := keep_at HB2.out c11; have d12_2 := keep_at HB2.out c12; have d13_2 := keep_at HB2.out c13; have d20_2 := keep_at HB2.out c20; have d21_2 := keep_at HB2.out c21; have d22_2 := keep_at HB2.out c22; have d23_2 := keep_at HB2.out c23; clear hb) | (go_at_call 43; (with_reducible refine (HBx.out _ (HT2.out.step HB2.out) (HW.out.step HB2.out)).mono ?_); rintro e w3 ⟨rfl, hb⟩; have HB3 := Lib.hid (HB2.out.trans (hb.mono HB2.out.size)); have HX3 := Lib.hid (keep_blk hb HX2.out); obtain ⟨s30, s31, s32, s33, s34, s35, s36, s37⟩ := box4 HX3.out; have d00_3 := keep_at HB3.out c00; have d01_3 := keep_at HB3.out c01; have d02_3 := keep_at HB3.out c02; have d03_3 := keep_at HB3.out c03; have d10_3 := keep_at HB3.out c10; have d11_3 := keep_at HB3.out c11; have d12_3 := keep_at HB3.out c12; have d13_3 := keep_at HB3.out c13; have d20_3 := keep_at HB3.out c20; have d21_3 := keep_at HB3.out c21; have d22_3 := keep_at HB3.out c22; have d23_3 := keep_at HB3.out c23; clear hb))
            go_ret
            exact ⟨by rw [← HQ.out] <;> rfl, HB3.out⟩
          | false =>
            have HBx := Lib.hid (fun W (hW : IsT W F x (.agg #[.int .i64 k20, .string ⟨x20.toArray⟩, .slice a20 m20 n20, .int .i64 l20])) (hK : KW W) => show Calls Tryd.prog 43 _ W fun e w' => e = .returned (.bool false) ∧ Below W.heap.size W w' by rw [← gHBx]; exact HCBl.out x F W _ hW hK hd2 hs2 hh2)
            have hkx := isT_kindOf HT2.out
            by_cases hk2 : k20 = 2
            rotate_left
            · have hk2b : (k20 == 2) = false := beq_eq_false_iff_ne.2 hk2
              have HQ := Lib.hid (show false = R by rw [← HR1.out, gHE, gHBb, gHBx, ← hkx]; simp [hk2])
              clear gHE gHBb gHBx hkx
              go_enter Tryd.func28, Tryd.ntmps28
              go_wp2_with (first | (go_at_call 42; (with_reducible refine (HE.out _ (HT0.out.step HB0.out) (HW.out.step HB0.out)).mono ?_); rintro e w1 ⟨rfl, hb⟩; have HB1 := Lib.hid (HB0.out.trans (hb.mono HB0.out.size)); have HX1 := Lib.hid (keep_blk hb HX0.out); obtain ⟨s10, s11, s12, s13, s14, s15, s16, s17⟩ := box4 HX1.out; have d00_1 := keep_at HB1.out c00; have d01_1 := keep_at HB1.out c01; have d02_1 := keep_at HB1.out c02; have d03_1 := keep_at HB1.out c03; have d10_1 := keep_at HB1.out c10; have d11_1 := keep_at HB1.out c11; have d12_1 := keep_at HB1.out c12; have d13_1 := keep_at HB1.out c13; have d20_1 := keep_at HB1.out c20; have d21_1 := keep_at HB1.out c21; have d22_1 := keep_at HB1.out c22; have d23_1 := keep_at HB1.out c23; clear hb) | (go_at_call 43; (with_reducible refine (HBb.out _ (HT1.out.step HB1.out) (HW.out.step HB1.out)).mono ?_); rintro e w2 ⟨rfl, hb⟩; have HB2 := Lib.hid (HB1.out.trans (hb.mono HB1.out.size)); have HX2 := Lib.hid (keep_blk hb HX1.out); obtain ⟨s20, s21, s22, s23, s24, s25, s26, s27⟩ := box4 HX2.out; have d00_2 := keep_at HB2.out c00; have d01_2 := keep_at HB2.out c01; have d02_2 := keep_at HB2.out c02; have d03_2 := keep_at HB2.out c03; have d10_2 := keep_at HB2.out c10; have d11_2 := keep_at HB2.out c11; have d12_2 := keep_at HB2.out c12; have d13_2 := keep_at HB2.out c13; have d20_2 := keep_at HB2.out c20; have d21_2 := keep_at HB2.out c21; have d22_2 := keep_at HB2.out c22; have d23_2 := keep_at HB2.out c23; clear hb) | (go_at_call 43; (with_reducible refine (HBx.out _ (HT2.out.step HB2.out) (HW.out.step HB2.out)).mono ?_); rintro e w3 ⟨rfl, hb⟩; have HB3 := Lib.hid (HB2.out.trans (hb.mono HB2.out.size)); have HX3 := Lib.hid (keep_blk hb HX2.out); obtain ⟨s30, s31, s32, s33, s34, s35, s36, s37⟩ := box4 HX3.out; have d00_3 := keep_at HB3.out c00; have d01_3 := keep_at HB3.out c01; have d02_3 := keep_at HB3.out c02; have d03_3 := keep_at HB3.out c03; have d10_3 := keep_at HB3.out c10; have d11_3 := keep_at HB3.out c11; have d12_3 := keep_at HB3.out c12; have d13_3 := keep_at HB3.out c13; have d20_3 := keep_at HB3.out c20; have d21_3 := keep_at HB3.out c21; have d22_3 := keep_at HB3.out c22; have d23_3 := keep_at HB3.out c23; clear hb))
              go_ret
              exact ⟨by rw [← HQ.out] <;> rfl, HB3.out⟩
            · subst hk2
              cases gHSx : stOK x with
              | false =>
                have HSx := Lib.hid (fun W (hW : IsT W F x (.agg #[.int .i64 2, .string ⟨x20.toArray⟩, .slice a20 m20 n20, .int .i64 l20])) (hK : KW W) => show Calls Tryd.prog 28 _ W fun e w' => e = .returned (.bool false) ∧ Below W.heap.size W w' by rw [← gHSx]; exact HCS.out x F W _ hW hK hd2 hs2 hh2)
                have HQ := Lib.hid (show false = R by rw [← HR1.out, gHE, gHBb, gHBx, ← hkx, gHSx]; rfl)
                clear gHE gHBb gHBx hkx gHSx
                go_enter Tryd.func28, Tryd.ntmps28
                go_wp2_with (first | (go_at_call 42; (with_reducible refine (HE.out _ (HT0.out.step HB0.out) (HW.out.step HB0.out)).mono ?_); rintro e w1 ⟨rfl, hb⟩; have HB1 := Lib.hid (HB0.out.trans (hb.mono HB0.out.size)); have HX1 := Lib.hid (keep_blk hb HX0.out); obtain ⟨s10, s11, s12, s13, s14, s15, s16, s17⟩ := box4 HX1.out; have d00_1 := keep_at HB1.out c00; have d01_1 := keep_at HB1.out c01; have d02_1 := keep_at HB1.out c02; have d03_1 := keep_at HB1.out c03; have d10_1 := keep_at HB1.out c10; have d11_1 := keep_at HB1.out c11; have d12_1 := keep_at HB1.out c12; have d13_1 := keep_at HB1.out c13; have d20_1 := keep_at HB1.out c20; have d21_1 := keep_at HB1.out c21; have d22_1 := keep_at HB1.out c22; have d23_1 := keep_at HB1.out c23; clear hb) | (go_at_call 43; (with_reducible refine (HBb.out _ (HT1.out.step HB1.out) (HW.out.step HB1.out)).mono ?_); rintro e w2 ⟨rfl, hb⟩; have HB2 := Lib.hid (HB1.out.trans (hb.mono HB1.out.size)); have HX2 := Lib.hid (keep_blk hb HX1.out); obtain ⟨s20, s21, s22, s23, s24, s25, s26, s27⟩ := box4 HX2.out; have d00_2 := keep_at HB2.out c00; have d01_2 := keep_at HB2.out c01; have d02_2 := keep_at HB2.out c02; have d03_2 := keep_at HB2.out c03; have d10_2 := keep_at HB2.out c10; have d11_2 := keep_at HB2.out c11; have d12_2 := keep_at HB2.out c12; have d13_2 := keep_at HB2.out c13; have d20_2 := keep_at HB2.out c20; have d21_2 := keep_at HB2.out c21; have d22_2 := keep_at HB2.out c22; have d23_2 := keep_at HB2.out c23; clear hb) | (go_at_call 43; (with_reducible refine (HBx.out _ (HT2.out.step HB2.out) (HW.out.step HB2.out)).mono ?_); rintro e w3 ⟨rfl, hb⟩; have HB3 := Lib.hid (HB2.out.trans (hb.mono HB2.out.size)); have HX3 := Lib.hid (keep_blk hb HX2.out); obtain ⟨s30, s31, s32, s33, s34, s35, s36, s37⟩ := box4 HX3.out; have d00_3 := keep_at HB3.out c00; have d01_3 := keep_at HB3.out c01; have d02_3 := keep_at HB3.out c02; have d03_3 := keep_at HB3.out c03; have d10_3 := keep_at HB3.out c10; have d11_3 := keep_at HB3.out c11; have d12_3 := keep_at HB3.out c12; have d13_3 := keep_at HB3.out c13; have d20_3 := keep_at HB3.out c20; have d21_3 := keep_at HB3.out c21; have d22_3 := keep_at HB3.out c22; have d23_3 := keep_at HB3.out c23; clear hb) | (go_at_call 28; (with_reducible refine (HSx.out _ (HT2.out.step HB3.out) (HW.out.step HB3.out)).mono ?_); rintro e w4 ⟨rfl, hb⟩; have HB4 := Lib.hid (HB3.out.trans (hb.mono HB3.out.size)); have HX4 := Lib.hid (keep_blk hb HX3.out); obtain ⟨s40, s41, s42, s43, s44, s45, s46, s47⟩ := box4 HX4.out; have d00_4 := keep_at HB4.out c00; have d01_4 := keep_at HB4.out c01; have d02_4 := keep_at HB4.out c02; have d03_4 := keep_at HB4.out c03; have d10_4 := keep_at HB4.out c10; have d11_4 := keep_at HB4.out c11; have d12_4 := keep_at HB4.out c12; have d13_4 := keep_at HB4.out c13; have d20_4 := keep_at HB4.out c20; have d21_4 := keep_at HB4.out c21; have d22_4 := keep_at HB4.out c22; have d23_4 := keep_at HB4.out c23; clear hb))
                go_ret
                exact ⟨by rw [← HQ.out] <;> rfl, HB4.out⟩
              | true =>
                have HSx := Lib.hid (fun W (hW : IsT W F x (.agg #[.int .i64 2, .string ⟨x20.toArray⟩, .slice a20 m20 n20, .int .i64 l20])) (hK : KW W) => show Calls Tryd.prog 28 _ W fun e w' => e = .returned (.bool true) ∧ Below W.heap.size W w' by rw [← gHSx]; exact HCS.out x F W _ hW hK hd2 hs2 hh2)
                have HQ := Lib.hid (show true = R by rw [← HR1.out, gHE, gHBb, gHBx, ← hkx, gHSx]; rfl)
                clear gHE gHBb gHBx hkx gHSx
                go_enter Tryd.func28, Tryd.ntmps28
                go_wp2_with (first | (go_at_call 42; (with_reducible refine (HE.out _ (HT0.out.step HB0.out) (HW.out.step HB0.out)).mono ?_); rintro e w1 ⟨rfl, hb⟩; have HB1 := Lib.hid (HB0.out.trans (hb.mono HB0.out.size)); have HX1 := Lib.hid (keep_blk hb HX0.out); obtain ⟨s10, s11, s12, s13, s14, s15, s16, s17⟩ := box4 HX1.out; have d00_1 := keep_at HB1.out c00; have d01_1 := keep_at HB1.out c01; have d02_1 := keep_at HB1.out c02; have d03_1 := keep_at HB1.out c03; have d10_1 := keep_at HB1.out c10; have d11_1 := keep_at HB1.out c11; have d12_1 := keep_at HB1.out c12; have d13_1 := keep_at HB1.out c13; have d20_1 := keep_at HB1.out c20; have d21_1 := keep_at HB1.out c21; have d22_1 := keep_at HB1.out c22; have d23_1 := keep_at HB1.out c23; clear hb) | (go_at_call 43; (with_reducible refine (HBb.out _ (HT1.out.step HB1.out) (HW.out.step HB1.out)).mono ?_); rintro e w2 ⟨rfl, hb⟩; have HB2 := Lib.hid (HB1.out.trans (hb.mono HB1.out.size)); have HX2 := Lib.hid (keep_blk hb HX1.out); obtain ⟨s20, s21, s22, s23, s24, s25, s26, s27⟩ := box4 HX2.out; have d00_2 := keep_at HB2.out c00; have d01_2 := keep_at HB2.out c01; have d02_2 := keep_at HB2.out c02; have d03_2 := keep_at HB2.out c03; have d10_2 := keep_at HB2.out c10; have d11_2 := keep_at HB2.out c11; have d12_2 := keep_at HB2.out c12; have d13_2 := keep_at HB2.out c13; have d20_2 := keep_at HB2.out c20; have d21_2 := keep_at HB2.out c21; have d22_2 := keep_at HB2.out c22; have d23_2 := keep_at HB2.out c23; clear hb) | (go_at_call 43; (with_reducible refine (HBx.out _ (HT2.out.step HB2.out) (HW.out.step HB2.out)).mono ?_); rintro e w3 ⟨rfl, hb⟩; have HB3 := Lib.hid (HB2.out.trans (hb.mono HB2.out.size)); have HX3 := Lib.hid (keep_blk hb HX2.out); obtain ⟨s30, s31, s32, s33, s34, s35, s36, s37⟩ := box4 HX3.out; have d00_3 := keep_at HB3.out c00; have d01_3 := keep_at HB3.out c01; have d02_3 := keep_at HB3.out c02; have d03_3 := keep_at HB3.out c03; have d10_3 := keep_at HB3.out c10; have d11_3 := keep_at HB3.out c11; have d12_3 := keep_at HB3.out c12; have d13_3 := keep_at HB3.out c13; have d20_3 := keep_at HB3.out c20; have d21_3 := keep_at HB3.out c21; have d22_3 := keep_at HB3.out c22; have d23_3 := keep_at HB3.out c23; clear hb) | (go_at_call 28; (with_reducible refine (HSx.out _ (HT2.out.step HB3.out) (HW.out.step HB3.out)).mono ?_); rintro e w4 ⟨rfl, hb⟩; have HB4 := Lib.hid (HB3.out.trans (hb.mono HB3.out.size)); have HX4 := Lib.hid (keep_blk hb HX3.out); obtain ⟨s40, s41, s42, s43, s44, s45, s46, s47⟩ := box4 HX4.out; have d00_4 := keep_at HB4.out c00; have d01_4 := keep_at HB4.out c01; have d02_4 := keep_at HB4.out c02; have d03_4 := keep_at HB4.out c03; have d10_4 := keep_at HB4.out c10; have d11_4 := keep_at HB4.out c11; have d12_4 := keep_at HB4.out c12; have d13_4 := keep_at HB4.out c13; have d20_4 := keep_at HB4.out c20; have d21_4 := keep_at HB4.out c21; have d22_4 := keep_at HB4.out c22; have d23_4 := keep_at HB4.out c23; clear hb))
                go_ret
                exact ⟨by rw [← HQ.out] <;> rfl, HB4.out⟩
  by_cases h6 : k = 6
  · subst h6
    cases gHN : tx.all okB with
    | false =>
      have HN := Lib.hid (fun W (hK : KW W) => show Calls Tryd.prog 44 #[.string ⟨tx.toArray⟩] W fun e w' => e = .returned (.bool false) ∧ Below W.heap.size W w' by rw [← gHN]; exact printable_any ⟨tx.toArray⟩ W HSL.out)
      have HQ := Lib.hid (show false = R by rw [← HR.out, stOK_not2 (by decide)]; rcases ks with _ | ⟨e, _ | ⟨b, r⟩⟩; simp [head0, gHN]; simp [head1, gHN]; rfl)
      go_enter Tryd.func28, Tryd.ntmps28
      go_wp2_with (first | (go_at_call 44; (with_reducible refine (HN.out _ (HW.out.step HB0.out)).mono ?_); rintro e w1 ⟨rfl, hb⟩; have HB1 := Lib.hid (HB0.out.trans (hb.mono HB0.out.size)); have HX1 := Lib.hid (keep_blk hb HX0.out); obtain ⟨s10, s11, s12, s13, s14, s15, s16, s17⟩ := box4 HX1.out; clear hb))
      go_ret
      exact ⟨by rw [← HQ.out] <;> rfl, HB1.out⟩
    | true =>
      have HN := Lib.hid (fun W (hK : KW W) => show Calls Tryd.prog 44 #[.string ⟨tx.toArray⟩] W fun e w' => e = .returned (.bool true) ∧ Below W.heap.size W w' by rw [← gHN]; exact printable_any ⟨tx.toArray⟩ W HSL.out)
      by_cases h1 : N = 0
      · subst h1
        have HQ := Lib.hid (show true = R by rw [← HR.out]; obtain rfl : ks = [] := List.length_eq_zero_iff.1 hN; rw [stOK_0]; simp [head0, gHN])
        go_enter Tryd.func28, Tryd.ntmps28
        go_wp2_with (first | (go_at_call 44; (with_reducible refine (HN.out _ (HW.out.step HB0.out)).mono ?_); rintro e w1 ⟨rfl, hb⟩; have HB1 := Lib.hid (HB0.out.trans (hb.mono HB0.out.size)); have HX1 := Lib.hid (keep_blk hb HX0.out); obtain ⟨s10, s11, s12, s13, s14, s15, s16, s17⟩ := box4 HX1.out; clear hb))
        go_ret
        exact ⟨by rw [← HQ.out] <;> rfl, HB1.out⟩
      · have h1i : ((N : Int) == 0) = false := beq_eq_false_iff_ne.2 (by omega)
        have h1j : ¬ (N : Int) = 0 := by omega
        have HQ := Lib.hid (show false = R by rw [← HR.out, stOK_not2 (by decide)]; rcases ks with _ | ⟨e, _ | ⟨b, r⟩⟩; (simp at hN; omega); simp [head1]; rfl)
        go_enter Tryd.func28, Tryd.ntmps28
        go_wp2_with (first | (go_at_call 44; (with_reducible refine (HN.out _ (HW.out.step HB0.out)).mono ?_); rintro e w1 ⟨rfl, hb⟩; have HB1 := Lib.hid (HB0.out.trans (hb.mono HB0.out.size)); have HX1 := Lib.hid (keep_blk hb HX0.out); obtain ⟨s10, s11, s12, s13, s14, s15, s16, s17⟩ := box4 HX1.out; clear hb))
        go_ret
        exact ⟨by rw [← HQ.out] <;> rfl, HB1.out⟩
  by_cases h10 : k = 10
  · subst h10
    rcases tx with _ | ⟨y, r⟩
    rotate_left
    · have HQ := Lib.hid (show false = R by rw [← HR.out, stOK_not2 (by decide)]; rcases ks with _ | ⟨e, _ | ⟨b, t⟩⟩; simp [head0]; simp [head1]; rfl)
      go_enter Tryd.func28, Tryd.ntmps28
      go_wp2_with fail
      go_ret
      exact ⟨by rw [← HQ.out] <;> rfl, HB0.out⟩
    by_cases h1 : N = 0
    · subst h1
      have HQ := Lib.hid (show true = R by rw [← HR.out]; obtain rfl : ks = [] := List.length_eq_zero_iff.1 hN; rw [stOK_0]; simp [head0, List.nil_eq])
      go_enter Tryd.func28, Tryd.ntmps28
      go_wp2_with fail
      go_ret
      exact ⟨by rw [← HQ.out] <;> rfl, HB0.out⟩
    · have h1i : ((N : Int) == 0) = false := beq_eq_false_iff_ne.2 (by omega)
      have h1j : ¬ (N : Int) = 0 := by omega
      have HQ := Lib.hid (show false = R by rw [← HR.out, stOK_not2 (by decide)]; rcases ks with _ | ⟨e, _ | ⟨b, r⟩⟩; (simp at hN; omega); simp [head1]; rfl)
      go_enter Tryd.func28, Tryd.ntmps28
      go_wp2_with fail
      go_ret
      exact ⟨by rw [← HQ.out] <;> rfl, HB0.out⟩
  by_cases h11 : k = 11
  · subst h11
    rcases tx with _ | ⟨y, r⟩
    rotate_left
    · have HQ := Lib.hid (show false = R by rw [← HR.out, stOK_not2 (by decide)]; rcases ks with _ | ⟨e, _ | ⟨b, t⟩⟩; simp [head0]; simp [head1]; rfl)
      go_enter Tryd.func28, Tryd.ntmps28
      go_wp2_with fail
      go_ret
      exact ⟨by rw [← HQ.out] <;> rfl, HB0.out⟩
    by_cases h1 : N = 0
    · subst h1
      have HQ := Lib.hid (show true = R by rw [← HR.out]; obtain rfl : ks = [] := List.length_eq_zero_iff.1 hN; rw [stOK_0]; simp [head0, List.nil_eq])
      go_enter Tryd.func28, Tryd.ntmps28
      go_wp2_with fail
      go_ret
      exact ⟨by rw [← HQ.out] <;> rfl, HB0.out⟩
    · have h1i : ((N : Int) == 0) = false := beq_eq_false_iff_ne.2 (by omega)
      have h1j : ¬ (N : Int) = 0 := by omega
      have HQ := Lib.hid (show false = R by rw [← HR.out, stOK_not2 (by decide)]; rcases ks with _ | ⟨e, _ | ⟨b, r⟩⟩; (simp at hN; omega); simp [head1]; rfl)
      go_enter Tryd.func28, Tryd.ntmps28
      go_wp2_with fail
      go_ret
      exact ⟨by rw [← HQ.out] <;> rfl, HB0.out⟩
  by_cases h3 : k = 3
  · subst h3
    cases gHN : namedP tx with
    | false =>
      have HN := Lib.hid (fun W (hK : KW W) => show Calls Tryd.prog 45 #[.string ⟨tx.toArray⟩] W fun e w' => e = .returned (.bool false) ∧ Below W.heap.size W w' by rw [← gHN]; exact named_any ⟨tx.toArray⟩ W hK)
      have HQ := Lib.hid (show false = R by rw [← HR.out, stOK_not2 (by decide)]; rcases ks with _ | ⟨e, _ | ⟨b, r⟩⟩; simp [head0, gHN]; simp [head1, gHN]; rfl)
      go_enter Tryd.func28, Tryd.ntmps28
      go_wp2_with (first | (go_at_call 45; (with_reducible refine (HN.out _ (HW.out.step HB0.out)).mono ?_); rintro e w1 ⟨rfl, hb⟩; have HB1 := Lib.hid (HB0.out.trans (hb.mono HB0.out.size)); have HX1 := Lib.hid (keep_blk hb HX0.out); obtain ⟨s10, s11, s12, s13, s14, s15, s16, s17⟩ := box4 HX1.out; clear hb))
      go_ret
      exact ⟨by rw [← HQ.out] <;> rfl, HB1.out⟩
    | true =>
      have HN := Lib.hid (fun W (hK : KW W) => show Calls Tryd.prog 45 #[.string ⟨tx.toArray⟩] W fun e w' => e = .returned (.bool true) ∧ Below W.heap.size W w' by rw [← gHN]; exact named_any ⟨tx.toArray⟩ W hK)
      by_cases h1 : N = 1
      rotate_left
      · have h1i : ((N : Int) == 1) = false := beq_eq_false_iff_ne.2 (by omega)
        have h1j : ¬ (N : Int) = 1 := by omega
        have HQ := Lib.hid (show false = R by rw [← HR.out, stOK_not2 (by decide)]; rcases ks with _ | ⟨e, _ | ⟨b, r⟩⟩; simp [head0, gHN]; (simp at hN; omega); rfl)
        go_enter Tryd.func28, Tryd.ntmps28
        go_wp2_with (first | (go_at_call 45; (with_reducible refine (HN.out _ (HW.out.step HB0.out)).mono ?_); rintro e w1 ⟨rfl, hb⟩; have HB1 := Lib.hid (HB0.out.trans (hb.mono HB0.out.size)); have HX1 := Lib.hid (keep_blk hb HX0.out); obtain ⟨s10, s11, s12, s13, s14, s15, s16, s17⟩ := box4 HX1.out; clear hb))
        go_ret
        exact ⟨by rw [← HQ.out] <;> rfl, HB1.out⟩
      · subst h1
        obtain ⟨e, rfl⟩ : ∃ e, ks = [e] := by
          rcases ks with _ | ⟨e, _ | ⟨b, _ | ⟨x, _ | ⟨y, r⟩⟩⟩⟩ <;> first | exact ⟨e, rfl⟩ | (simp at hN)
        have hks0 : ∃ ks0, [e] = ks0 := ⟨_, rfl⟩
        obtain ⟨ks0, hks0⟩ := hks0
        have HD' := HD
        have HSZ' := HSZ
        rw [hks0] at HD HSZ
        symm at hks0
        have hd0 : depthT e ≤ n := by have := HD.out; have := depthT_mem (ks := ks0) (t := e) (by rw [hks0]; simp); omega
        have hs0 : sizeT e ≤ 1000000000 := by have := HSZ.out; have := sizeT_mem (ks := ks0) (t := e) (by rw [hks0]; simp); omega
        have hh0 : shortT e := shortT_at (q := 0) HSH.out rfl
        rw [hks0] at HD HSZ
        clear HD HSZ HD' HSZ' hks0
        obtain ⟨bk0, off0, cap0, k00, x00, a00, m00, n00, l00, hv0, c00, c01, c02, c03, hT0⟩ := IsKids.at HK.out (k := 0) (t := e) rfl
        simp only [Value.slice.injEq] at hv0
        obtain ⟨rfl, -, rfl⟩ := hv0
        simp only [Nat.zero_mul, Nat.add_zero, Nat.one_mul, Nat.reduceMul, Nat.add_assoc, Nat.reduceAdd] at c00 c01 c02 c03
        have HT0 := Lib.hid hT0
        clear hT0
        have d00 := keep_at HB0.out c00
        have d01 := keep_at HB0.out c01
        have d02 := keep_at HB0.out c02
        have d03 := keep_at HB0.out c03
        have HR1 := Lib.hid (show exprOK e = R by rw [← HR.out, stOK_1]; simp [head1, gHN])
        cases gHE : exprOK e with
        | false =>
          have HE := Lib.hid (fun W (hW : IsT W F e (.agg #[.int .i64 k00, .string ⟨x00.toArray⟩, .slice a00 m00 n00, .int .i64 l00])) (hK : KW W) => show Calls Tryd.prog 42 _ W fun e w' => e = .returned (.bool false) ∧ Below W.heap.size W w' by rw [← gHE]; exact HCE.out e F W _ hW hK hd0 hs0 hh0)
          have HQ := Lib.hid (show false = R by rw [← HR1.out, gHE])
          clear gHE
          go_enter Tryd.func28, Tryd.ntmps28
          go_wp2_with (first | (go_at_call 45; (with_reducible refine (HN.out _ (HW.out.step HB0.out)).mono ?_); rintro e w1 ⟨rfl, hb⟩; have HB1 := Lib.hid (HB0.out.trans (hb.mono HB0.out.size)); have HX1 := Lib.hid (keep_blk hb HX0.out); obtain ⟨s10, s11, s12, s13, s14, s15, s16, s17⟩ := box4 HX1.out; have d00_1 := keep_at HB1.out c00; have d01_1 := keep_at HB1.out c01; have d02_1 := keep_at HB1.out c02; have d03_1 := keep_at HB1.out c03; clear hb) | (go_at_call 42; (with_reducible refine (HE.out _ (HT0.out.step HB1.out) (HW.out.step HB1.out)).mono ?_); rintro e w2 ⟨rfl, hb⟩; have HB2 := Lib.hid (HB1.out.trans (hb.mono HB1.out.size)); have HX2 := Lib.hid (keep_blk hb HX1.out); obtain ⟨s20, s21, s22, s23, s24, s25, s26, s27⟩ := box4 HX2.out; have d00_2 := keep_at HB2.out c00; have d01_2 := keep_at HB2.out c01; have d02_2 := keep_at HB2.out c02; have d03_2 := keep_at HB2.out c03; clear hb))
          go_ret
          exact ⟨by rw [← HQ.out] <;> rfl, HB2.out⟩
        | true =>
          have HE := Lib.hid (fun W (hW : IsT W F e (.agg #[.int .i64 k00, .string ⟨x00.toArray⟩, .slice a00 m00 n00, .int .i64 l00])) (hK : KW W) => show Calls Tryd.prog 42 _ W fun e w' => e = .returned (.bool true) ∧ Below W.heap.size W w' by rw [← gHE]; exact HCE.out e F W _ hW hK hd0 hs0 hh0)
          have HQ := Lib.hid (show true = R by rw [← HR1.out, gHE])
          clear gHE
          go_enter Tryd.func28, Tryd.ntmps28
          go_wp2_with (first | (go_at_call 45; (with_reducible refine (HN.out _ (HW.out.step HB0.out)).mono ?_); rintro e w1 ⟨rfl, hb⟩; have HB1 := Lib.hid (HB0.out.trans (hb.mono HB0.out.size)); have HX1 := Lib.hid (keep_blk hb HX0.out); obtain ⟨s10, s11, s12, s13, s14, s15, s16, s17⟩ := box4 HX1.out; have d00_1 := keep_at HB1.out c00; have d01_1 := keep_at HB1.out c01; have d02_1 := keep_at HB1.out c02; have d03_1 := keep_at HB1.out c03; clear hb) | (go_at_call 42; (with_reducible refine (HE.out _ (HT0.out.step HB1.out) (HW.out.step HB1.out)).mono ?_); rintro e w2 ⟨rfl, hb⟩; have HB2 := Lib.hid (HB1.out.trans (hb.mono HB1.out.size)); have HX2 := Lib.hid (keep_blk hb HX1.out); obtain ⟨s20, s21, s22, s23, s24, s25, s26, s27⟩ := box4 HX2.out; have d00_2 := keep_at HB2.out c00; have d01_2 := keep_at HB2.out c01; have d02_2 := keep_at HB2.out c02; have d03_2 := keep_at HB2.out c03; clear hb))
          go_ret
          exact ⟨by rw [← HQ.out] <;> rfl, HB2.out⟩
  by_cases h4 : k = 4
  · subst h4
    by_cases t1 : tx = [112, 97, 116, 104]
    · subst t1
      by_cases h1 : N = 1
      rotate_left
      · have h1i : ((N : Int) == 1) = false := beq_eq_false_iff_ne.2 (by omega)
        have h1j : ¬ (N : Int) = 1 := by omega
        have HQ := Lib.hid (show false = R by rw [← HR.out, stOK_not2 (by decide)]; rcases ks with _ | ⟨e, _ | ⟨b, r⟩⟩; simp [head0, head1]; (simp at hN; omega); rfl)
        go_enter Tryd.func28, Tryd.ntmps28
        go_wp2_with fail
        go_ret
        exact ⟨by rw [← HQ.out] <;> rfl, HB0.out⟩
      · subst h1
        obtain ⟨e, rfl⟩ : ∃ e, ks = [e] := by
          rcases ks with _ | ⟨e, _ | ⟨b, _ | ⟨x, _ | ⟨y, r⟩⟩⟩⟩ <;> first | exact ⟨e, rfl⟩ | (simp at hN)
        have hks0 : ∃ ks0, [e] = ks0 := ⟨_, rfl⟩
        obtain ⟨ks0, hks0⟩ := hks0
        have HD' := HD
        have HSZ' := HSZ
        rw [hks0] at HD HSZ
        symm at hks0
        have hd0 : depthT e ≤ n := by have := HD.out; have := depthT_mem (ks := ks0) (t := e) (by rw [hks0]; simp); omega
        have hs0 : sizeT e ≤ 1000000000 := by have := HSZ.out; have := sizeT_mem (ks := ks0) (t := e) (by rw [hks0]; simp); omega
        have hh0 : shortT e := shortT_at (q := 0) HSH.out rfl
        rw [hks0] at HD HSZ
        clear HD HSZ HD' HSZ' hks0
        obtain ⟨bk0, off0, cap0, k00, x00, a00, m00, n00, l00, hv0, c00, c01, c02, c03, hT0⟩ := IsKids.at HK.out (k := 0) (t := e) rfl
        simp only [Value.slice.injEq] at hv0
        obtain ⟨rfl, -, rfl⟩ := hv0
        simp only [Nat.zero_mul, Nat.add_zero, Nat.one_mul, Nat.reduceMul, Nat.add_assoc, Nat.reduceAdd] at c00 c01 c02 c03
        have HT0 := Lib.hid hT0
        clear hT0
        have d00 := keep_at HB0.out c00
        have d01 := keep_at HB0.out c01
        have d02 := keep_at HB0.out c02
        have d03 := keep_at HB0.out c03
        have HR1 := Lib.hid (show exprOK e = R by rw [← HR.out, stOK_1]; simp [head1, head1])
        cases gHE : exprOK e with
        | false =>
          have HE := Lib.hid (fun W (hW : IsT W F e (.agg #[.int .i64 k00, .string ⟨x00.toArray⟩, .slice a00 m00 n00, .int .i64 l00])) (hK : KW W) => show Calls Tryd.prog 42 _ W fun e w' => e = .returned (.bool false) ∧ Below W.heap.size W w' by rw [← gHE]; exact HCE.out e F W _ hW hK hd0 hs0 hh0)
          have HQ := Lib.hid (show false = R by rw [← HR1.out, gHE])
          clear gHE
          go_enter Tryd.func28, Tryd.ntmps28
          go_wp2_with (first | (go_at_call 42; (with_reducible refine (HE.out _ (HT0.out.step HB0.out) (HW.out.step HB0.out)).mono ?_); rintro e w1 ⟨rfl, hb⟩; have HB1 := Lib.hid (HB0.out.trans (hb.mono HB0.out.size)); have HX1 := Lib.hid (keep_blk hb HX0.out); obtain ⟨s10, s11, s12, s13, s14, s15, s16, s17⟩ := box4 HX1.out; have d00_1 := keep_at HB1.out c00; have d01_1 := keep_at HB1.out c01; have d02_1 := keep_at HB1.out c02; have d03_1 := keep_at HB1.out c03; clear hb))
          go_ret
          exact ⟨by rw [← HQ.out] <;> rfl, HB1.out⟩
        | true =>
          have HE := Lib.hid (fun W (hW : IsT W F e (.agg #[.int .i64 k00, .string ⟨x00.toArray⟩, .slice a00 m00 n00, .int .i64 l00])) (hK : KW W) => show Calls Tryd.prog 42 _ W fun e w' => e = .returned (.bool true) ∧ Below W.heap.size W w' by rw [← gHE]; exact HCE.out e F W _ hW hK hd0 hs0 hh0)
          have HQ := Lib.hid (show true = R by rw [← HR1.out, gHE])
          clear gHE
          go_enter Tryd.func28, Tryd.ntmps28
          go_wp2_with (first | (go_at_call 42; (with_reducible refine (HE.out _ (HT0.out.step HB0.out) (HW.out.step HB0.out)).mono ?_); rintro e w1 ⟨rfl, hb⟩; have HB1 := Lib.hid (HB0.out.trans (hb.mono HB0.out.size)); have HX1 := Lib.hid (keep_blk hb HX0.out); obtain ⟨s10, s11, s12, s13, s14, s15, s16, s17⟩ := box4 HX1.out; have d00_1 := keep_at HB1.out c00; have d01_1 := keep_at HB1.out c01; have d02_1 := keep_at HB1.out c02; have d03_1 := keep_at HB1.out c03; clear hb))
          go_ret
          exact ⟨by rw [← HQ.out] <;> rfl, HB1.out⟩
    by_cases t2 : tx = [113, 117, 101, 114, 121]
    · subst t2
      by_cases h1 : N = 1
      rotate_left
      · have h1i : ((N : Int) == 1) = false := beq_eq_false_iff_ne.2 (by omega)
        have h1j : ¬ (N : Int) = 1 := by omega
        have HQ := Lib.hid (show false = R by rw [← HR.out, stOK_not2 (by decide)]; rcases ks with _ | ⟨e, _ | ⟨b, r⟩⟩; simp [head0, head1]; (simp at hN; omega); rfl)
        go_enter Tryd.func28, Tryd.ntmps28
        go_wp2_with fail
        go_ret
        exact ⟨by rw [← HQ.out] <;> rfl, HB0.out⟩
      · subst h1
        obtain ⟨e, rfl⟩ : ∃ e, ks = [e] := by
          rcases ks with _ | ⟨e, _ | ⟨b, _ | ⟨x, _ | ⟨y, r⟩⟩⟩⟩ <;> first | exact ⟨e, rfl⟩ | (simp at hN)
        have hks0 : ∃ ks0, [e] = ks0 := ⟨_, rfl⟩
        obtain ⟨ks0, hks0⟩ := hks0
        have HD' := HD
        have HSZ' := HSZ
        rw [hks0] at HD HSZ
        symm at hks0
        have hd0 : depthT e ≤ n := by have := HD.out; have := depthT_mem (ks := ks0) (t := e) (by rw [hks0]; simp); omega
        have hs0 : sizeT e ≤ 1000000000 := by have := HSZ.out; have := sizeT_mem (ks := ks0) (t := e) (by rw [hks0]; simp); omega
        have hh0 : shortT e := shortT_at (q := 0) HSH.out rfl
        rw [hks0] at HD HSZ
        clear HD HSZ HD' HSZ' hks0
        obtain ⟨bk0, off0, cap0, k00, x00, a00, m00, n00, l00, hv0, c00, c01, c02, c03, hT0⟩ := IsKids.at HK.out (k := 0) (t := e) rfl
        simp only [Value.slice.injEq] at hv0
        obtain ⟨rfl, -, rfl⟩ := hv0
        simp only [Nat.zero_mul, Nat.add_zero, Nat.one_mul, Nat.reduceMul, Nat.add_assoc, Nat.reduceAdd] at c00 c01 c02 c03
        have HT0 := Lib.hid hT0
        clear hT0
        have d00 := keep_at HB0.out c00
        have d01 := keep_at HB0.out c01
        have d02 := keep_at HB0.out c02
        have d03 := keep_at HB0.out c03
        have HR1 := Lib.hid (show exprOK e = R by rw [← HR.out, stOK_1]; simp [head1, head1])
        cases gHE : exprOK e with
        | false =>
          have HE := Lib.hid (fun W (hW : IsT W F e (.agg #[.int .i64 k00, .string ⟨x00.toArray⟩, .slice a00 m00 n00, .int .i64 l00])) (hK : KW W) => show Calls Tryd.prog 42 _ W fun e w' => e = .returned (.bool false) ∧ Below W.heap.size W w' by rw [← gHE]; exact HCE.out e F W _ hW hK hd0 hs0 hh0)
          have HQ := Lib.hid (show false = R by rw [← HR1.out, gHE])
          clear gHE
          go_enter Tryd.func28, Tryd.ntmps28
          go_wp2_with (first | (go_at_call 42; (with_reducible refine (HE.out _ (HT0.out.step HB0.out) (HW.out.step HB0.out)).mono ?_); rintro e w1 ⟨rfl, hb⟩; have HB1 := Lib.hid (HB0.out.trans (hb.mono HB0.out.size)); have HX1 := Lib.hid (keep_blk hb HX0.out); obtain ⟨s10, s11, s12, s13, s14, s15, s16, s17⟩ := box4 HX1.out; have d00_1 := keep_at HB1.out c00; have d01_1 := keep_at HB1.out c01; have d02_1 := keep_at HB1.out c02; have d03_1 := keep_at HB1.out c03; clear hb))
          go_ret
          exact ⟨by rw [← HQ.out] <;> rfl, HB1.out⟩
        | true =>
          have HE := Lib.hid (fun W (hW : IsT W F e (.agg #[.int .i64 k00, .string ⟨x00.toArray⟩, .slice a00 m00 n00, .int .i64 l00])) (hK : KW W) => show Calls Tryd.prog 42 _ W fun e w' => e = .returned (.bool true) ∧ Below W.heap.size W w' by rw [← gHE]; exact HCE.out e F W _ hW hK hd0 hs0 hh0)
          have HQ := Lib.hid (show true = R by rw [← HR1.out, gHE])
          clear gHE
          go_enter Tryd.func28, Tryd.ntmps28
          go_wp2_with (first | (go_at_call 42; (with_reducible refine (HE.out _ (HT0.out.step HB0.out) (HW.out.step HB0.out)).mono ?_); rintro e w1 ⟨rfl, hb⟩; have HB1 := Lib.hid (HB0.out.trans (hb.mono HB0.out.size)); have HX1 := Lib.hid (keep_blk hb HX0.out); obtain ⟨s10, s11, s12, s13, s14, s15, s16, s17⟩ := box4 HX1.out; have d00_1 := keep_at HB1.out c00; have d01_1 := keep_at HB1.out c01; have d02_1 := keep_at HB1.out c02; have d03_1 := keep_at HB1.out c03; clear hb))
          go_ret
          exact ⟨by rw [← HQ.out] <;> rfl, HB1.out⟩
    have b1 : (tx != [112, 97, 116, 104]) = true := bne_iff_ne.2 t1
    have b2 : (tx != [113, 117, 101, 114, 121]) = true := bne_iff_ne.2 t2
    have b3 : (tx == [112, 97, 116, 104]) = false := beq_eq_false_iff_ne.2 t1
    have b4 : (tx == [113, 117, 101, 114, 121]) = false := beq_eq_false_iff_ne.2 t2
    have HQ := Lib.hid (show false = R by rw [← HR.out, stOK_not2 (by decide)]; rcases ks with _ | ⟨e, _ | ⟨b, r⟩⟩; simp [head0]; simp [head1, t1, t2]; rfl)
    go_enter Tryd.func28, Tryd.ntmps28
    go_wp2_with fail
    go_ret
    exact ⟨by rw [← HQ.out] <;> rfl, HB0.out⟩
  by_cases h5 : k = 5
  · subst h5
    cases gHN : tx.all okB with
    | false =>
      have HN := Lib.hid (fun W (hK : KW W) => show Calls Tryd.prog 44 #[.string ⟨tx.toArray⟩] W fun e w' => e = .returned (.bool false) ∧ Below W.heap.size W w' by rw [← gHN]; exact printable_any ⟨tx.toArray⟩ W HSL.out)
      have HQ := Lib.hid (show false = R by rw [← HR.out, stOK_not2 (by decide)]; rcases ks with _ | ⟨e, _ | ⟨b, r⟩⟩; simp [head0, gHN]; simp [head1, gHN]; rfl)
      go_enter Tryd.func28, Tryd.ntmps28
      go_wp2_with (first | (go_at_call 44; (with_reducible refine (HN.out _ (HW.out.step HB0.out)).mono ?_); rintro e w1 ⟨rfl, hb⟩; have HB1 := Lib.hid (HB0.out.trans (hb.mono HB0.out.size)); have HX1 := Lib.hid (keep_blk hb HX0.out); obtain ⟨s10, s11, s12, s13, s14, s15, s16, s17⟩ := box4 HX1.out; clear hb))
      go_ret
      exact ⟨by rw [← HQ.out] <;> rfl, HB1.out⟩
    | true =>
      have HN := Lib.hid (fun W (hK : KW W) => show Calls Tryd.prog 44 #[.string ⟨tx.toArray⟩] W fun e w' => e = .returned (.bool true) ∧ Below W.heap.size W w' by rw [← gHN]; exact printable_any ⟨tx.toArray⟩ W HSL.out)
      by_cases h1 : N = 1
      rotate_left
      · have h1i : ((N : Int) == 1) = false := beq_eq_false_iff_ne.2 (by omega)
        have h1j : ¬ (N : Int) = 1 := by omega
        have HQ := Lib.hid (show false = R by rw [← HR.out, stOK_not2 (by decide)]; rcases ks with _ | ⟨e, _ | ⟨b, r⟩⟩; simp [head0, gHN]; (simp at hN; omega); rfl)
        go_enter Tryd.func28, Tryd.ntmps28
        go_wp2_with (first | (go_at_call 44; (with_reducible refine (HN.out _ (HW.out.step HB0.out)).mono ?_); rintro e w1 ⟨rfl, hb⟩; have HB1 := Lib.hid (HB0.out.trans (hb.mono HB0.out.size)); have HX1 := Lib.hid (keep_blk hb HX0.out); obtain ⟨s10, s11, s12, s13, s14, s15, s16, s17⟩ := box4 HX1.out; clear hb))
        go_ret
        exact ⟨by rw [← HQ.out] <;> rfl, HB1.out⟩
      · subst h1
        obtain ⟨e, rfl⟩ : ∃ e, ks = [e] := by
          rcases ks with _ | ⟨e, _ | ⟨b, _ | ⟨x, _ | ⟨y, r⟩⟩⟩⟩ <;> first | exact ⟨e, rfl⟩ | (simp at hN)
        have hks0 : ∃ ks0, [e] = ks0 := ⟨_, rfl⟩
        obtain ⟨ks0, hks0⟩ := hks0
        have HD' := HD
        have HSZ' := HSZ
        rw [hks0] at HD HSZ
        symm at hks0
        have hd0 : depthT e ≤ n := by have := HD.out; have := depthT_mem (ks := ks0) (t := e) (by rw [hks0]; simp); omega
        have hs0 : sizeT e ≤ 1000000000 := by have := HSZ.out; have := sizeT_mem (ks := ks0) (t := e) (by rw [hks0]; simp); omega
        have hh0 : shortT e := shortT_at (q := 0) HSH.out rfl
        rw [hks0] at HD HSZ
        clear HD HSZ HD' HSZ' hks0
        obtain ⟨bk0, off0, cap0, k00, x00, a00, m00, n00, l00, hv0, c00, c01, c02, c03, hT0⟩ := IsKids.at HK.out (k := 0) (t := e) rfl
        simp only [Value.slice.injEq] at hv0
        obtain ⟨rfl, -, rfl⟩ := hv0
        simp only [Nat.zero_mul, Nat.add_zero, Nat.one_mul, Nat.reduceMul, Nat.add_assoc, Nat.reduceAdd] at c00 c01 c02 c03
        have HT0 := Lib.hid hT0
        clear hT0
        have d00 := keep_at HB0.out c00
        have d01 := keep_at HB0.out c01
        have d02 := keep_at HB0.out c02
        have d03 := keep_at HB0.out c03
        have HR1 := Lib.hid (show exprOK e = R by rw [← HR.out, stOK_1]; simp [head1, gHN])
        cases gHE : exprOK e with
        | false =>
          have HE := Lib.hid (fun W (hW : IsT W F e (.agg #[.int .i64 k00, .string ⟨x00.toArray⟩, .slice a00 m00 n00, .int .i64 l00])) (hK : KW W) => show Calls Tryd.prog 42 _ W fun e w' => e = .returned (.bool false) ∧ Below W.heap.size W w' by rw [← gHE]; exact HCE.out e F W _ hW hK hd0 hs0 hh0)
          have HQ := Lib.hid (show false = R by rw [← HR1.out, gHE])
          clear gHE
          go_enter Tryd.func28, Tryd.ntmps28
          go_wp2_with (first | (go_at_call 44; (with_reducible refine (HN.out _ (HW.out.step HB0.out)).mono ?_); rintro e w1 ⟨rfl, hb⟩; have HB1 := Lib.hid (HB0.out.trans (hb.mono HB0.out.size)); have HX1 := Lib.hid (keep_blk hb HX0.out); obtain ⟨s10, s11, s12, s13, s14, s15, s16, s17⟩ := box4 HX1.out; have d00_1 := keep_at HB1.out c00; have d01_1 := keep_at HB1.out c01; have d02_1 := keep_at HB1.out c02; have d03_1 := keep_at HB1.out c03; clear hb) | (go_at_call 42; (with_reducible refine (HE.out _ (HT0.out.step HB1.out) (HW.out.step HB1.out)).mono ?_); rintro e w2 ⟨rfl, hb⟩; have HB2 := Lib.hid (HB1.out.trans (hb.mono HB1.out.size)); have HX2 := Lib.hid (keep_blk hb HX1.out); obtain ⟨s20, s21, s22, s23, s24, s25, s26, s27⟩ := box4 HX2.out; have d00_2 := keep_at HB2.out c00; have d01_2 := keep_at HB2.out c01; have d02_2 := keep_at HB2.out c02; have d03_2 := keep_at HB2.out c03; clear hb))
          go_ret
          exact ⟨by rw [← HQ.out] <;> rfl, HB2.out⟩
        | true =>
          have HE := Lib.hid (fun W (hW : IsT W F e (.agg #[.int .i64 k00, .string ⟨x00.toArray⟩, .slice a00 m00 n00, .int .i64 l00])) (hK : KW W) => show Calls Tryd.prog 42 _ W fun e w' => e = .returned (.bool true) ∧ Below W.heap.size W w' by rw [← gHE]; exact HCE.out e F W _ hW hK hd0 hs0 hh0)
          have HQ := Lib.hid (show true = R by rw [← HR1.out, gHE])
          clear gHE
          go_enter Tryd.func28, Tryd.ntmps28
          go_wp2_with (first | (go_at_call 44; (with_reducible refine (HN.out _ (HW.out.step HB0.out)).mono ?_); rintro e w1 ⟨rfl, hb⟩; have HB1 := Lib.hid (HB0.out.trans (hb.mono HB0.out.size)); have HX1 := Lib.hid (keep_blk hb HX0.out); obtain ⟨s10, s11, s12, s13, s14, s15, s16, s17⟩ := box4 HX1.out; have d00_1 := keep_at HB1.out c00; have d01_1 := keep_at HB1.out c01; have d02_1 := keep_at HB1.out c02; have d03_1 := keep_at HB1.out c03; clear hb) | (go_at_call 42; (with_reducible refine (HE.out _ (HT0.out.step HB1.out) (HW.out.step HB1.out)).mono ?_); rintro e w2 ⟨rfl, hb⟩; have HB2 := Lib.hid (HB1.out.trans (hb.mono HB1.out.size)); have HX2 := Lib.hid (keep_blk hb HX1.out); obtain ⟨s20, s21, s22, s23, s24, s25, s26, s27⟩ := box4 HX2.out; have d00_2 := keep_at HB2.out c00; have d01_2 := keep_at HB2.out c01; have d02_2 := keep_at HB2.out c02; have d03_2 := keep_at HB2.out c03; clear hb))
          go_ret
          exact ⟨by rw [← HQ.out] <;> rfl, HB2.out⟩
  by_cases h7 : k = 7
  · subst h7
    rcases tx with _ | ⟨y, r⟩
    rotate_left
    · have HQ := Lib.hid (show false = R by rw [← HR.out, stOK_not2 (by decide)]; rcases ks with _ | ⟨e, _ | ⟨b, t⟩⟩; simp [head0]; simp [head1]; rfl)
      go_enter Tryd.func28, Tryd.ntmps28
      go_wp2_with fail
      go_ret
      exact ⟨by rw [← HQ.out] <;> rfl, HB0.out⟩
    by_cases h1 : N = 1
    rotate_left
    · have h1i : ((N : Int) == 1) = false := beq_eq_false_iff_ne.2 (by omega)
      have h1j : ¬ (N : Int) = 1 := by omega
      have HQ := Lib.hid (show false = R by rw [← HR.out, stOK_not2 (by decide)]; rcases ks with _ | ⟨e, _ | ⟨b, r⟩⟩; simp [head0, List.nil_eq]; (simp at hN; omega); rfl)
      go_enter Tryd.func28, Tryd.ntmps28
      go_wp2_with fail
      go_ret
      exact ⟨by rw [← HQ.out] <;> rfl, HB0.out⟩
    · subst h1
      obtain ⟨e, rfl⟩ : ∃ e, ks = [e] := by
        rcases ks with _ | ⟨e, _ | ⟨b, _ | ⟨x, _ | ⟨y, r⟩⟩⟩⟩ <;> first | exact ⟨e, rfl⟩ | (simp at hN)
      have hks0 : ∃ ks0, [e] = ks0 := ⟨_, rfl⟩
      obtain ⟨ks0, hks0⟩ := hks0
      have HD' := HD
      have HSZ' := HSZ
      rw [hks0] at HD HSZ
      symm at hks0
      have hd0 : depthT e ≤ n := by have := HD.out; have := depthT_mem (ks := ks0) (t := e) (by rw [hks0]; simp); omega
      have hs0 : sizeT e ≤ 1000000000 := by have := HSZ.out; have := sizeT_mem (ks := ks0) (t := e) (by rw [hks0]; simp); omega
      have hh0 : shortT e := shortT_at (q := 0) HSH.out rfl
      rw [hks0] at HD HSZ
      clear HD HSZ HD' HSZ' hks0
      obtain ⟨bk0, off0, cap0, k00, x00, a00, m00, n00, l00, hv0, c00, c01, c02, c03, hT0⟩ := IsKids.at HK.out (k := 0) (t := e) rfl
      simp only [Value.slice.injEq] at hv0
      obtain ⟨rfl, -, rfl⟩ := hv0
      simp only [Nat.zero_mul, Nat.add_zero, Nat.one_mul, Nat.reduceMul, Nat.add_assoc, Nat.reduceAdd] at c00 c01 c02 c03
      have HT0 := Lib.hid hT0
      clear hT0
      have d00 := keep_at HB0.out c00
      have d01 := keep_at HB0.out c01
      have d02 := keep_at HB0.out c02
      have d03 := keep_at HB0.out c03
      have HR1 := Lib.hid (show exprOK e = R by rw [← HR.out, stOK_1]; simp [head1, List.nil_eq])
      cases gHE : exprOK e with
      | false =>
        have HE := Lib.hid (fun W (hW : IsT W F e (.agg #[.int .i64 k00, .string ⟨x00.toArray⟩, .slice a00 m00 n00, .int .i64 l00])) (hK : KW W) => show Calls Tryd.prog 42 _ W fun e w' => e = .returned (.bool false) ∧ Below W.heap.size W w' by rw [← gHE]; exact HCE.out e F W _ hW hK hd0 hs0 hh0)
        have HQ := Lib.hid (show false = R by rw [← HR1.out, gHE])
        clear gHE
        go_enter Tryd.func28, Tryd.ntmps28
        go_wp2_with (first | (go_at_call 42; (with_reducible refine (HE.out _ (HT0.out.step HB0.out) (HW.out.step HB0.out)).mono ?_); rintro e w1 ⟨rfl, hb⟩; have HB1 := Lib.hid (HB0.out.trans (hb.mono HB0.out.size)); have HX1 := Lib.hid (keep_blk hb HX0.out); obtain ⟨s10, s11, s12, s13, s14, s15, s16, s17⟩ := box4 HX1.out; have d00_1 := keep_at HB1.out c00; have d01_1 := keep_at HB1.out c01; have d02_1 := keep_at HB1.out c02; have d03_1 := keep_at HB1.out c03; clear hb))
        go_ret
        exact ⟨by rw [← HQ.out] <;> rfl, HB1.out⟩
      | true =>
        have HE := Lib.hid (fun W (hW : IsT W F e (.agg #[.int .i64 k00, .string ⟨x00.toArray⟩, .slice a00 m00 n00, .int .i64 l00])) (hK : KW W) => show Calls Tryd.prog 42 _ W fun e w' => e = .returned (.bool true) ∧ Below W.heap.size W w' by rw [← gHE]; exact HCE.out e F W _ hW hK hd0 hs0 hh0)
        have HQ := Lib.hid (show true = R by rw [← HR1.out, gHE])
        clear gHE
        go_enter Tryd.func28, Tryd.ntmps28
        go_wp2_with (first | (go_at_call 42; (with_reducible refine (HE.out _ (HT0.out.step HB0.out) (HW.out.step HB0.out)).mono ?_); rintro e w1 ⟨rfl, hb⟩; have HB1 := Lib.hid (HB0.out.trans (hb.mono HB0.out.size)); have HX1 := Lib.hid (keep_blk hb HX0.out); obtain ⟨s10, s11, s12, s13, s14, s15, s16, s17⟩ := box4 HX1.out; have d00_1 := keep_at HB1.out c00; have d01_1 := keep_at HB1.out c01; have d02_1 := keep_at HB1.out c02; have d03_1 := keep_at HB1.out c03; clear hb))
        go_ret
        exact ⟨by rw [← HQ.out] <;> rfl, HB1.out⟩
  by_cases h8 : k = 8
  · subst h8
    rcases tx with _ | ⟨y, r⟩
    rotate_left
    · have HQ := Lib.hid (show false = R by rw [← HR.out, stOK_not2 (by decide)]; rcases ks with _ | ⟨e, _ | ⟨b, t⟩⟩; simp [head0]; simp [head1]; rfl)
      go_enter Tryd.func28, Tryd.ntmps28
      go_wp2_with fail
      go_ret
      exact ⟨by rw [← HQ.out] <;> rfl, HB0.out⟩
    by_cases h1 : N = 1
    rotate_left
    · have h1i : ((N : Int) == 1) = false := beq_eq_false_iff_ne.2 (by omega)
      have h1j : ¬ (N : Int) = 1 := by omega
      have HQ := Lib.hid (show false = R by rw [← HR.out, stOK_not2 (by decide)]; rcases ks with _ | ⟨e, _ | ⟨b, r⟩⟩; simp [head0, List.nil_eq]; (simp at hN; omega); rfl)
      go_enter Tryd.func28, Tryd.ntmps28
      go_wp2_with fail
      go_ret
      exact ⟨by rw [← HQ.out] <;> rfl, HB0.out⟩
    · subst h1
      obtain ⟨e, rfl⟩ : ∃ e, ks = [e] := by
        rcases ks with _ | ⟨e, _ | ⟨b, _ | ⟨x, _ | ⟨y, r⟩⟩⟩⟩ <;> first | exact ⟨e, rfl⟩ | (simp at hN)
      have hks0 : ∃ ks0, [e] = ks0 := ⟨_, rfl⟩
      obtain ⟨ks0, hks0⟩ := hks0
      have HD' := HD
      have HSZ' := HSZ
      rw [hks0] at HD HSZ
      symm at hks0
      have hd0 : depthT e ≤ n := by have := HD.out; have := depthT_mem (ks := ks0) (t := e) (by rw [hks0]; simp); omega
      have hs0 : sizeT e ≤ 1000000000 := by have := HSZ.out; have := sizeT_mem (ks := ks0) (t := e) (by rw [hks0]; simp); omega
      have hh0 : shortT e := shortT_at (q := 0) HSH.out rfl
      rw [hks0] at HD HSZ
      clear HD HSZ HD' HSZ' hks0
      obtain ⟨bk0, off0, cap0, k00, x00, a00, m00, n00, l00, hv0, c00, c01, c02, c03, hT0⟩ := IsKids.at HK.out (k := 0) (t := e) rfl
      simp only [Value.slice.injEq] at hv0
      obtain ⟨rfl, -, rfl⟩ := hv0
      simp only [Nat.zero_mul, Nat.add_zero, Nat.one_mul, Nat.reduceMul, Nat.add_assoc, Nat.reduceAdd] at c00 c01 c02 c03
      have HT0 := Lib.hid hT0
      clear hT0
      have d00 := keep_at HB0.out c00
      have d01 := keep_at HB0.out c01
      have d02 := keep_at HB0.out c02
      have d03 := keep_at HB0.out c03
      have HR1 := Lib.hid (show exprOK e = R by rw [← HR.out, stOK_1]; simp [head1, List.nil_eq])
      cases gHE : exprOK e with
      | false =>
        have HE := Lib.hid (fun W (hW : IsT W F e (.agg #[.int .i64 k00, .string ⟨x00.toArray⟩, .slice a00 m00 n00, .int .i64 l00])) (hK : KW W) => show Calls Tryd.prog 42 _ W fun e w' => e = .returned (.bool false) ∧ Below W.heap.size W w' by rw [← gHE]; exact HCE.out e F W _ hW hK hd0 hs0 hh0)
        have HQ := Lib.hid (show false = R by rw [← HR1.out, gHE])
        clear gHE
        go_enter Tryd.func28, Tryd.ntmps28
        go_wp2_with (first | (go_at_call 42; (with_reducible refine (HE.out _ (HT0.out.step HB0.out) (HW.out.step HB0.out)).mono ?_); rintro e w1 ⟨rfl, hb⟩; have HB1 := Lib.hid (HB0.out.trans (hb.mono HB0.out.size)); have HX1 := Lib.hid (keep_blk hb HX0.out); obtain ⟨s10, s11, s12, s13, s14, s15, s16, s17⟩ := box4 HX1.out; have d00_1 := keep_at HB1.out c00; have d01_1 := keep_at HB1.out c01; have d02_1 := keep_at HB1.out c02; have d03_1 := keep_at HB1.out c03; clear hb))
        go_ret
        exact ⟨by rw [← HQ.out] <;> rfl, HB1.out⟩
      | true =>
        have HE := Lib.hid (fun W (hW : IsT W F e (.agg #[.int .i64 k00, .string ⟨x00.toArray⟩, .slice a00 m00 n00, .int .i64 l00])) (hK : KW W) => show Calls Tryd.prog 42 _ W fun e w' => e = .returned (.bool true) ∧ Below W.heap.size W w' by rw [← gHE]; exact HCE.out e F W _ hW hK hd0 hs0 hh0)
        have HQ := Lib.hid (show true = R by rw [← HR1.out, gHE])
        clear gHE
        go_enter Tryd.func28, Tryd.ntmps28
        go_wp2_with (first | (go_at_call 42; (with_reducible refine (HE.out _ (HT0.out.step HB0.out) (HW.out.step HB0.out)).mono ?_); rintro e w1 ⟨rfl, hb⟩; have HB1 := Lib.hid (HB0.out.trans (hb.mono HB0.out.size)); have HX1 := Lib.hid (keep_blk hb HX0.out); obtain ⟨s10, s11, s12, s13, s14, s15, s16, s17⟩ := box4 HX1.out; have d00_1 := keep_at HB1.out c00; have d01_1 := keep_at HB1.out c01; have d02_1 := keep_at HB1.out c02; have d03_1 := keep_at HB1.out c03; clear hb))
        go_ret
        exact ⟨by rw [← HQ.out] <;> rfl, HB1.out⟩
  by_cases h9 : k = 9
  · subst h9
    rcases tx with _ | ⟨y, r⟩
    rotate_left
    · have HQ := Lib.hid (show false = R by rw [← HR.out, stOK_not2 (by decide)]; rcases ks with _ | ⟨e, _ | ⟨b, t⟩⟩; simp [head0]; simp [head1]; rfl)
      go_enter Tryd.func28, Tryd.ntmps28
      go_wp2_with fail
      go_ret
      exact ⟨by rw [← HQ.out] <;> rfl, HB0.out⟩
    by_cases h1 : N = 1
    rotate_left
    · have h1i : ((N : Int) == 1) = false := beq_eq_false_iff_ne.2 (by omega)
      have h1j : ¬ (N : Int) = 1 := by omega
      have HQ := Lib.hid (show false = R by rw [← HR.out, stOK_not2 (by decide)]; rcases ks with _ | ⟨e, _ | ⟨b, r⟩⟩; simp [head0, List.nil_eq]; (simp at hN; omega); rfl)
      go_enter Tryd.func28, Tryd.ntmps28
      go_wp2_with fail
      go_ret
      exact ⟨by rw [← HQ.out] <;> rfl, HB0.out⟩
    · subst h1
      obtain ⟨e, rfl⟩ : ∃ e, ks = [e] := by
        rcases ks with _ | ⟨e, _ | ⟨b, _ | ⟨x, _ | ⟨y, r⟩⟩⟩⟩ <;> first | exact ⟨e, rfl⟩ | (simp at hN)
      have hks0 : ∃ ks0, [e] = ks0 := ⟨_, rfl⟩
      obtain ⟨ks0, hks0⟩ := hks0
      have HD' := HD
      have HSZ' := HSZ
      rw [hks0] at HD HSZ
      symm at hks0
      have hd0 : depthT e ≤ n := by have := HD.out; have := depthT_mem (ks := ks0) (t := e) (by rw [hks0]; simp); omega
      have hs0 : sizeT e ≤ 1000000000 := by have := HSZ.out; have := sizeT_mem (ks := ks0) (t := e) (by rw [hks0]; simp); omega
      have hh0 : shortT e := shortT_at (q := 0) HSH.out rfl
      rw [hks0] at HD HSZ
      clear HD HSZ HD' HSZ' hks0
      obtain ⟨bk0, off0, cap0, k00, x00, a00, m00, n00, l00, hv0, c00, c01, c02, c03, hT0⟩ := IsKids.at HK.out (k := 0) (t := e) rfl
      simp only [Value.slice.injEq] at hv0
      obtain ⟨rfl, -, rfl⟩ := hv0
      simp only [Nat.zero_mul, Nat.add_zero, Nat.one_mul, Nat.reduceMul, Nat.add_assoc, Nat.reduceAdd] at c00 c01 c02 c03
      have HT0 := Lib.hid hT0
      clear hT0
      have d00 := keep_at HB0.out c00
      have d01 := keep_at HB0.out c01
      have d02 := keep_at HB0.out c02
      have d03 := keep_at HB0.out c03
      have HR1 := Lib.hid (show exprOK e = R by rw [← HR.out, stOK_1]; simp [head1, List.nil_eq])
      cases gHE : exprOK e with
      | false =>
        have HE := Lib.hid (fun W (hW : IsT W F e (.agg #[.int .i64 k00, .string ⟨x00.toArray⟩, .slice a00 m00 n00, .int .i64 l00])) (hK : KW W) => show Calls Tryd.prog 42 _ W fun e w' => e = .returned (.bool false) ∧ Below W.heap.size W w' by rw [← gHE]; exact HCE.out e F W _ hW hK hd0 hs0 hh0)
        have HQ := Lib.hid (show false = R by rw [← HR1.out, gHE])
        clear gHE
        go_enter Tryd.func28, Tryd.ntmps28
        go_wp2_with (first | (go_at_call 42; (with_reducible refine (HE.out _ (HT0.out.step HB0.out) (HW.out.step HB0.out)).mono ?_); rintro e w1 ⟨rfl, hb⟩; have HB1 := Lib.hid (HB0.out.trans (hb.mono HB0.out.size)); have HX1 := Lib.hid (keep_blk hb HX0.out); obtain ⟨s10, s11, s12, s13, s14, s15, s16, s17⟩ := box4 HX1.out; have d00_1 := keep_at HB1.out c00; have d01_1 := keep_at HB1.out c01; have d02_1 := keep_at HB1.out c02; have d03_1 := keep_at HB1.out c03; clear hb))
        go_ret
        exact ⟨by rw [← HQ.out] <;> rfl, HB1.out⟩
      | true =>
        have HE := Lib.hid (fun W (hW : IsT W F e (.agg #[.int .i64 k00, .string ⟨x00.toArray⟩, .slice a00 m00 n00, .int .i64 l00])) (hK : KW W) => show Calls Tryd.prog 42 _ W fun e w' => e = .returned (.bool true) ∧ Below W.heap.size W w' by rw [← gHE]; exact HCE.out e F W _ hW hK hd0 hs0 hh0)
        have HQ := Lib.hid (show true = R by rw [← HR1.out, gHE])
        clear gHE
        go_enter Tryd.func28, Tryd.ntmps28
        go_wp2_with (first | (go_at_call 42; (with_reducible refine (HE.out _ (HT0.out.step HB0.out) (HW.out.step HB0.out)).mono ?_); rintro e w1 ⟨rfl, hb⟩; have HB1 := Lib.hid (HB0.out.trans (hb.mono HB0.out.size)); have HX1 := Lib.hid (keep_blk hb HX0.out); obtain ⟨s10, s11, s12, s13, s14, s15, s16, s17⟩ := box4 HX1.out; have d00_1 := keep_at HB1.out c00; have d01_1 := keep_at HB1.out c01; have d02_1 := keep_at HB1.out c02; have d03_1 := keep_at HB1.out c03; clear hb))
        go_ret
        exact ⟨by rw [← HQ.out] <;> rfl, HB1.out⟩
  have HQ := Lib.hid (show false = R by rw [← HR.out, stOK_not2 h2]; rcases ks with _ | ⟨e, _ | ⟨b, r⟩⟩; simp [head0, h6, h10, h11]; simp [head1, h3, h4, h5, h7, h8, h9]; rfl)
  go_enter Tryd.func28, Tryd.ntmps28
  go_wp2_with fail
  go_ret
  exact ⟨by rw [← HQ.out] <;> rfl, HB0.out⟩
theorem valid_all : ∀ n, OkC 28 stOK n ∧ OkC 43 blOK n
  | 0 => ⟨fun t F w v ht hw hd hs hsh => by have := depth_pos t; omega, fun t F w v ht hw hd hs hsh => by have := depth_pos t; omega⟩
  | n + 1 => ⟨stated_ok n (valid_all n).1 (valid_all n).2, blocked_ok n (valid_all n).1⟩
end Go.Proofs.YtogkiifljdnjgaaDoor
