/- The walks of the reference's Format and of the law RuletreeFormats. No condition beyond the keywords' variable. -/
import Derived.Test.YtogkiifljdnjgaaDoorRLine
import Derived.Test.YtogkiifljdnjgaaDoorShort
import Derived.Test.YtogkiifljdnjgaaDoorErrLaw
namespace Go.Proofs.YtogkiifljdnjgaaDoor
open Go.RowKit
set_option linter.unusedVariables false
set_option linter.unusedSimpArgs false

set_option maxRecDepth 20000 in
set_option maxHeartbeats 2000000 in
theorem rformat_any (t : Tree) (F : Nat → Prop) (w : World) (v : Value) (ht : IsT w F t v) (hw : KW w) (hs : sizeT t ≤ 1000000000) (hsh : shortT t) :
    Calls Tryd.prog 20 #[v] w fun e w' => e = .returned (.tuple #[.string ⟨(fmtP t).1.toArray⟩, .int .i64 ((fmtP t).2 : Int)]) ∧ Below w.heap.size w w' := by
  have HVAL := Lib.hid (fun W hW => rvalid_any t F W v (ht.step hW) (hw.step hW) hs hsh)
  obtain ⟨k, tx, ks, l⟩ := t
  obtain ⟨kv, rfl, hks⟩ := isT_node.1 ht
  obtain ⟨a, c, rfl⟩ : ∃ a c, kv = .slice a ks.length c := by
    obtain ⟨a, c, hv, _⟩ := hks
    exact ⟨a, c, hv⟩
  have HB0 := Lib.hid (bel_new w (.cells #[.int .i64 k, .string ⟨tx.toArray⟩, .slice a ks.length c, .int .i64 l] 26))
  have HX0 := Lib.hid (heap_alloc_new w (.cells #[.int .i64 k, .string ⟨tx.toArray⟩, .slice a ks.length c, .int .i64 l] 26))
  obtain ⟨r0, r1, r2, r3, q0, q1, q2, q3⟩ := box4 HX0.out
  cases hv : validP (.node k tx ks l) with
  | false =>
    have HQ := Lib.hid (show fmtP (.node k tx ks l) = ([], 2) by unfold fmtP; rw [hv]; rfl)
    rw [hv] at HVAL
    rw [HQ.out]
    clear hv hks ht hs hsh hw
    generalize ks.length = N at *
    go_enter Tryd.func20, Tryd.ntmps20
    go_wp2_with (first | (go_at_call 15; (with_reducible refine (HVAL.out _ HB0.out).mono ?_); rintro e1 w1 ⟨rfl, hb⟩; have HB1 := Lib.hid (HB0.out.trans (hb.mono HB0.out.size)); clear hb))
    go_ret2
    exact ⟨rfl, HB1.out⟩
  | true =>
    have HFM := Lib.hid (show fmtP (.node k tx ks l) = if (linesP ks []).length ≤ 4096 then (linesP ks [], 0) else ([], 5) by unfold fmtP; rw [hv]; rfl)
    rw [hv] at HVAL
    rw [validP_node] at hv
    simp only [Bool.and_eq_true, decide_eq_true_eq] at hv
    obtain ⟨⟨-, -, hv1, hv2⟩, hv3⟩ := hv
    rw [sizeT_node] at hv1
    rw [depthT_node] at hv2
    rw [shortT_node] at hsh
    have hlen := linesP_len ks [] hsh.2 (by simp; omega)
    have hl : ks.length ≤ 1000 := by have := len_le_size ks; omega
    have HK := Lib.hid hks
    have HCall := Lib.hid (rline_all 100).2.2
    have HD := Lib.hid (show depthL ks ≤ 32 by omega)
    have HS := Lib.hid (show sizeL ks ≤ 512 by omega)
    have HSH := Lib.hid hsh.2
    have HOK := Lib.hid hv3
    have HLN := Lib.hid (show (linesP ks []).length ≤ 703000000 by omega)
    clear ht hks hs hsh hw hv1 hv2 hv3 hlen
    go_enter Tryd.func20, Tryd.ntmps20
    go_wp2_with (first | (go_at_call 15; (with_reducible refine (HVAL.out _ HB0.out).mono ?_); rintro e1 w1 ⟨rfl, hb⟩; have HB1 := Lib.hid (HB0.out.trans (hb.mono HB0.out.size)); have HX1 := Lib.hid (keep_blk hb HX0.out); obtain ⟨s0, s1, s2, s3, z0, z1, z2, z3⟩ := box4 HX1.out; clear hb))
    go_loopw [4, 12] (fun x i wr => ∃ q : Nat, ∃ X : ByteArray, i = .int .i64 q ∧ q ≤ ks.length ∧ x = .string X ∧ X = ⟨(linesP (ks.take q) []).toArray⟩ ∧ Below w.heap.size w wr ∧ wr.heap[w.heap.size]? = some (.cells #[.int .i64 k, .string ⟨tx.toArray⟩, .slice a ks.length c, .int .i64 l] 26 (0, 0))) (fun _ i _ => ks.length - (intOf i).toNat)
    case atStart => exact ⟨0, ⟨#[]⟩, rfl, Nat.zero_le _, rfl, by rw [List.take_zero, linesP_nil], HB1.out, HX1.out⟩
    case round =>
      obtain ⟨q, X, rfl, hq, rfl, hX, hb, hx⟩ := hrel
      have HB := Lib.hid hb
      have HBX := Lib.hid hx
      have hXs : X.size ≤ 703000000 := by
        rw [hX]
        refine size_of_list _ _ ?_
        have h1 := linesP_append (ks.take q) (ks.drop q) []
        rw [List.take_append_drop] at h1
        have h2 := congrArg List.length h1
        rw [List.length_append] at h2
        have := HLN.out
        omega
      have HX := Lib.hid hX
      clear hb hX hx
      obtain ⟨e0, e1, e2, e3, f0, f1, f2, f3⟩ := box4 HBX.out
      by_cases hlt : q < ks.length
      · obtain ⟨t', ht'⟩ : ∃ t', ks[q]? = some t' := ⟨_, List.getElem?_eq_getElem hlt⟩
        obtain ⟨b, off, cap, k0, x0, a0, m0, n0, l0, hv, c0, c1, c2, c3, hT⟩ := IsKids.at (HK.out.step HB.out) ht'
        simp only [Value.slice.injEq] at hv
        obtain ⟨rfl, -, rfl⟩ := hv
        have h3 := depthT_mem (List.mem_of_getElem? ht')
        have h4 := sizeT_mem (List.mem_of_getElem? ht')
        have h5 := shortT_at HSH.out ht'
        have h6 := stOK_at HOK.out ht'
        have h7 := lineP_len t' [] h5 (by have := HD.out; simp only [List.length_nil]; omega)
        have HT := Lib.hid hT
        have HTK := Lib.hid (linesP_some (bl := []) ht')
        have HCC := Lib.hid (fun W (hW : IsT W F t' (.agg #[.int .i64 k0, .string ⟨x0.toArray⟩, .slice a0 m0 n0, .int .i64 l0])) => (show Calls Tryd.prog 39 #[.agg #[.int .i64 k0, .string ⟨x0.toArray⟩, .slice a0 m0 n0, .int .i64 l0], .string ⟨#[]⟩] W fun e w' => e = .returned (.string ⟨(rlineP t' []).toArray⟩) ∧ Below W.heap.size W w' from HCall.out t' F W _ [] hW (by have := HD.out; omega) (by have := HS.out; omega) h5 h6 (by have := HD.out; simp only [List.length_nil]; omega)))
        obtain ⟨S, hS⟩ : ∃ S : ByteArray, S = ⟨(rlineP t' []).toArray⟩ := ⟨_, rfl⟩
        have hSs : S.size ≤ 703100000 := by rw [hS]; exact size_of_list _ _ (by have := HS.out; unfold rlineP; simp only [List.length_append, List.length_cons, List.length_nil] at *; omega)
        rw [← hS] at HCC
        have HS2 := Lib.hid hS
        have hlti : (q : Int) < (ks.length : Int) := by omega
        clear h3 h4 h5 h6 h7 hT ht' hS
        go_wp2_with (first | (go_at_call 39; (with_reducible refine (HCC.out _ HT.out).mono ?_); rintro e w2 ⟨rfl, hb1⟩; have HB2 := Lib.hid hb1; clear hb1))
        go_roundw
        case rel => exact ⟨q + 1, _, by go_num, by omega, rfl, by rw [HTK.out, HX.out, HS2.out]; exact ba_of_list (by simp [ByteArray.data_append]), HB.out.trans (HB2.out.mono HB.out.size), keep_blk HB2.out HBX.out⟩
        case measure => simp [intOf]; omega
      · have hq2 : q = ks.length := by omega
        subst hq2
        rw [List.take_length] at HX
        have hSz : X.size = (linesP ks []).length := by rw [HX.out]; show (linesP ks []).toArray.size = _; simp
        by_cases hln : X.size ≤ 4096
        · have hli : ¬ (4096 : Int) < (X.size : Int) := by omega
          have HR := Lib.hid (show fmtP (.node k tx ks l) = (linesP ks [], 0) by rw [HFM.out, if_pos (by omega)])
          clear hSz
          go_wp2_with fail
          go_ret2
          exact ⟨by rw [HR.out, HX.out]; rfl, HB.out⟩
        · have hli : (4096 : Int) < (X.size : Int) := by omega
          have HR := Lib.hid (show fmtP (.node k tx ks l) = ([], 5) by rw [HFM.out, if_neg (by omega)])
          clear hSz
          go_wp2_with fail
          go_ret2
          exact ⟨by rw [HR.out]; rfl, HB.out⟩
theorem fmt_num (t : Tree) : (fmtP t).2 = 0 ∨ (fmtP t).2 = 2 ∨ (fmtP t).2 = 5 := by
  unfold fmtP
  split
  · split
    · exact .inl rfl
    · exact .inr (.inr rfl)
  · exact .inr (.inl rfl)
theorem num_fmt (n : Nat) (h : n = 0 ∨ n = 2 ∨ n = 5) (w : World) : Calls Tryd.prog 21 #[errV n] w fun e w' => e = .returned (.int .i64 (n : Int)) ∧ w = w' := by
  rcases h with rfl | rfl | rfl
  · exact num_nil w
  · exact num_err 2 w
  · exact num_err 5 w
set_option maxRecDepth 20000 in
set_option maxHeartbeats 4000000 in
theorem formats_walk (w : World) (v : Value) (l : List SeedP) (hk : KW w) (ha : ArgS w v l) : Calls Tryd.prog 5 #[v] w fun e w' => e = .returned (.bool true) ∧ Below w.heap.size w w' := by
  have HK := Lib.hid hk
  have HA := Lib.hid ha
  clear hk ha
  have hsg : sizeT (growP l) ≤ 1000000 := Nat.le_trans (growP_size l) (by decide)
  have hsh := growP_short l
  have HSG := Lib.hid hsg
  have HFF := Lib.hid (fun W F v (ht : IsT W F (growP l) v) hW => format_any (growP l) F W v ht hW (by omega) hsh)
  have HRF := Lib.hid (fun W F v (ht : IsT W F (growP l) v) hW => rformat_any (growP l) F W v ht hW (by omega) hsh)
  have HNF := Lib.hid (fun W => num_fmt _ (fmt_num (growP l)) W)
  have HOF := Lib.hid (fun W F a (hta : IsT W F (growP l) a) => of_any (growP l) F W a hta hsg)
  clear hsg hsh HSG
  generalize (⟨(fmtP (growP l)).1.toArray⟩ : ByteArray) = X at *
  generalize errV (fmtP (growP l)).2 = E at *
  generalize (((fmtP (growP l)).2 : Nat) : Int) = n at *
  go_enter Tryd.func5, Tryd.ntmps5
  go_upto_region 4 with (first | (go_at_call 8; (with_reducible refine (awake_any _ HK.out).mono ?_); rintro e w1 ⟨rfl, hb1⟩; have HB1 := Lib.hid hb1; clear hb1) | (go_at_call 9; (with_reducible refine (grow_any _ _ l (HA.out.step HB1.out)).mono ?_); rintro e w2 ⟨⟨v2, rfl, ht2⟩, hb2⟩; obtain ⟨k2, x2, a2, m2, c2, l2, rfl⟩ := isT_shape ht2; have HB2 := Lib.hid (HB1.out.trans (hb2.mono HB1.out.size)); have HT2 := Lib.hid ht2; clear ht2 hb2))
  have HB3 := Lib.hid (HB2.out.trans ((bel_new w2 (.cells #[.int .i64 k2, .string ⟨x2.toArray⟩, .slice a2 m2 c2, .int .i64 l2] 26)).mono HB2.out.size))
  have HX3 := Lib.hid (heap_alloc_new w2 (.cells #[.int .i64 k2, .string ⟨x2.toArray⟩, .slice a2 m2 c2, .int .i64 l2] 26))
  have HT3 := Lib.hid (HT2.out.step (bel_new w2 (.cells #[.int .i64 k2, .string ⟨x2.toArray⟩, .slice a2 m2 c2, .int .i64 l2] 26)))
  obtain ⟨r0, r1, r2, r3, q0, q1, q2, q3⟩ := box4 HX3.out
  go_wp2_with (first | (go_at_call 11; (with_reducible refine (HOF.out _ _ _ HT3.out).mono ?_); rintro e w4 ⟨⟨v4, rfl, ht4⟩, hb⟩; obtain ⟨k4, x4, a4, m4, c4, l4, rfl⟩ := isT_shape ht4; have HB4 := Lib.hid (HB3.out.trans (hb.mono HB3.out.size)); have HX4 := Lib.hid (keep_blk hb HX3.out); have HT4 := Lib.hid (HT3.out.step hb); have HU4 := Lib.hid ht4; clear ht4 hb) | (go_at_call 19; (with_reducible refine (HFF.out _ _ _ HU4.out (HK.out.step HB4.out)).mono ?_); rintro e w5 ⟨rfl, hb⟩; have HB5 := Lib.hid (HB4.out.trans (hb.mono HB4.out.size)); have HX5 := Lib.hid (keep_blk hb HX4.out); have HT5 := Lib.hid (HT4.out.step hb); obtain ⟨s0, s1, s2, s3, z0, z1, z2, z3⟩ := box4 HX5.out; clear hb) | (go_at_call 20; (with_reducible refine (HRF.out _ _ _ HT5.out (HK.out.step HB5.out)).mono ?_); rintro e w6 ⟨rfl, hb⟩; have HB6 := Lib.hid (HB5.out.trans (hb.mono HB5.out.size)); clear hb) | (go_at_call 21; (with_reducible refine (HNF.out _).mono ?_); rintro e w7 ⟨rfl, rfl⟩))
  go_ret
  exact ⟨by first | rfl | exact ret_bool rfl, HB6.out⟩
end Go.Proofs.YtogkiifljdnjgaaDoor
