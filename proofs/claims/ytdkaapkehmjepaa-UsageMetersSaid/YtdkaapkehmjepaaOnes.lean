/- The walks of the statements' own one and of the law UsageEncodes. No condition beyond that an entry is valid. -/
import Derived.Test.YtdkaapkehmjepaaPay
namespace Go.Proofs.Ytdkaapkehmjepaa
open Go.RowKit
set_option linter.unusedVariables false
set_option linter.unusedSimpArgs false

theorem pay_slice (e : Ent) (w : World) (hn : 1 ≤ e.node.length ∧ e.node.length ≤ 32) (hr : rangeE e) :
    Calls Try.prog 31 #[e.val] w fun r w' => ∃ a n c, r = .returned (.slice a n c) ∧ OwnB w' w.heap.size (.slice a n c) (payE e) ∧ Below w.heap.size w w' := by
  refine (pay_any e w hn hr).mono ?_
  rintro r w' ⟨u, rfl, ho, hb⟩
  obtain ⟨a, c, rfl, _, _, _⟩ := ho.isB.shape
  exact ⟨a, _, c, rfl, ho, hb⟩
set_option maxRecDepth 20000 in
set_option maxHeartbeats 1000000 in
theorem one_any (e : Ent) (w : World) (hc : codeE e = 0) :
    Calls Try.prog 25 #[e.val] w fun r w' => ∃ u, r = .returned u ∧ OwnB w' w.heap.size u (recE e) ∧ Below w.heap.size w w' := by
  have HN := Lib.hid (named_short (codeE_ok hc).1)
  have HR := Lib.hid (codeE_ok hc).2
  have hbx := EntAt.box w e
  have HB0 := Lib.hid (bel_new w (.cells #[.string ⟨e.node.toArray⟩, .int .i64 e.boot, .int .i64 e.seq, .int .i64 e.ten, .int .i64 e.hits, .int .i64 e.bytes, .int .i64 e.att] 23))
  have HP := Lib.hid (fun W => pay_slice e W HN.out HR.out)
  have HE := Lib.hid (fun v W hv => enc_pay e v W HN.out HR.out hv)
  obtain ⟨c0, c1, c2, c3, c4, c5, c6⟩ := hbx
  simp only [Nat.zero_add] at c0 c1 c2 c3 c4 c5 c6
  have hz0 : w.heap.size < (w.alloc (.cells #[.string ⟨e.node.toArray⟩, .int .i64 e.boot, .int .i64 e.seq, .int .i64 e.ten, .int .i64 e.hits, .int .i64 e.bytes, .int .i64 e.att] 23)).heap.size := by simp [go_sem]
  unfold Ent.val at *
  clear hc
  go_enter Try.func25, Try.ntmps25
  go_upto_region 1 with fail
  generalize w.alloc (.cells #[.string ⟨e.node.toArray⟩, .int .i64 e.boot, .int .i64 e.seq, .int .i64 e.ten, .int .i64 e.hits, .int .i64 e.bytes, .int .i64 e.att] 23) = W1 at *
  go_region_held3 (fun w' => w'.cell? ⟨w.heap.size, 0, none⟩ = some (.string ⟨e.node.toArray⟩) ∧ w'.cell? ⟨w.heap.size, 1, none⟩ = some (.int .i64 e.boot) ∧ w'.cell? ⟨w.heap.size, 2, none⟩ = some (.int .i64 e.seq) ∧ w'.cell? ⟨w.heap.size, 3, none⟩ = some (.int .i64 e.ten) ∧ w'.cell? ⟨w.heap.size, 4, none⟩ = some (.int .i64 e.hits) ∧ w'.cell? ⟨w.heap.size, 5, none⟩ = some (.int .i64 e.bytes) ∧ w'.cell? ⟨w.heap.size, 6, none⟩ = some (.int .i64 e.att))
    ((go_split_ands; refine ⟨?_, ?_, ?_, ?_, ?_, ?_, ?_⟩ <;> (repeat (with_reducible (first | assumption | refine keep_drew ?_ | refine keep_at hb2 ?_ | refine keep_at hb3 ?_)))))
    (first | (go_at_call 31; refine (HP.out _).mono ?_; rintro r W2 ⟨pa, pn, pc, rfl, ho2, hb2⟩) | (go_at_call 30; refine (HE.out _ _ ho2.isB).mono ?_; rintro r W3 ⟨v3, rfl, ho3, hb3⟩))
  have hfin : Below w.heap.size w W3 := bel_step (bel_step (bel_drew HB0.out) hb2) hb3
  have hz3 : w.heap.size ≤ W2.heap.size := Nat.le_trans (Nat.le_of_lt hz0) hb2.size
  have HF := Lib.hid hfin
  have HO := Lib.hid (ho3.mono hz3)
  clear ho2 hb2 ho3 hb3
  go_wp2_with fail
  go_ret
  exact ⟨_, rfl, HO.out, HF.out⟩

set_option maxRecDepth 100000 in
set_option maxHeartbeats 2000000 in
theorem usageEncodes_walk (v : Value) (es : List Ent) (w : World) (h : IsE w v es) (hf : ∀ e ∈ es, FitE e) :
    Calls Try.prog 7 #[v] w fun r w' => r = .returned (.bool true) ∧ Below w.heap.size w w' := by
  obtain ⟨a, cap, rfl, hc1, hc2⟩ := h.shape
  have H := Lib.hid h
  have HF := Lib.hid hf
  clear h hf
  go_enter Try.func7, Try.ntmps7
  by_cases hl : 50 < es.length
  · have hl' : (50 : Int) < (es.length : Int) := by omega
    clear hc1 hc2
    go_wp2_with (go_at_call 12; refine (awake_any _).mono ?_; rintro r w1 ⟨rfl, hb1⟩)
    go_ret
    exact ⟨rfl, hb1⟩
  · have hl' : (es.length : Int) ≤ 50 := by omega
    clear hc1 hc2
    go_upto_region 3 with (go_at_call 12; refine (awake_any _).mono ?_; rintro r w1 ⟨rfl, hb1⟩)
    have HB1 := Lib.hid hb1
    clear hb1
    go_wp2_with (go_at_call 24; refine (encs_any _ es _ (H.out.step HB1.out) HF.out (by omega)).mono ?_; rintro r w2 ⟨u2, rfl, ho2, hb2⟩)
    have HB2 := Lib.hid (bel_step HB1.out hb2)
    have HO2 := Lib.hid ho2
    have HE2 := Lib.hid (H.out.step HB2.out)
    have hz2 : w.heap.size ≤ w2.heap.size := HB2.out.size
    clear ho2 hb2 HB1
    go_loopw [5, 24] (fun ov i wr => ∃ k : Nat, i = .int .i64 k ∧ k ≤ es.length ∧ (∀ e ∈ es.take k, codeE e = 0) ∧ OwnB wr w2.heap.size ov ((es.take k).flatMap recE) ∧ Below w2.heap.size w2 wr) (fun _ i _ => es.length - (intOf i).toNat)
    case atStart => exact ⟨0, rfl, Nat.zero_le _, by simp, OwnB.nil _ _, Below.refl _ _⟩
    case round =>
      obtain ⟨k, rfl, hk, hall, hown, hB⟩ := hrel
      have HA := Lib.hid hall
      have HO := Lib.hid hown
      have HB := Lib.hid hB
      have hzr : w2.heap.size ≤ wr.heap.size := hB.size
      have hrl := recs_len _ hall
      rw [List.length_take] at hrl
      have HRL := Lib.hid hrl
      clear hall hown hB hrl
      by_cases hlt : k < es.length
      · obtain ⟨g, o, cap', e, hv, hek, hat⟩ := (HE2.out.step HB.out).elem hlt
        simp only [Value.slice.injEq] at hv
        obtain ⟨rfl, _, rfl⟩ := hv
        have hfe := HF.out e (List.mem_of_getElem? hek)
        have HBAD := Lib.hid (fun hb => encsC_bad HA.out hek hb)
        have HTK := Lib.hid (take_more hek)
        have HD := Lib.hid (fun W => codeE_any e W hfe.1 hfe.2)
        have HONE := Lib.hid (fun W => one_any e W)
        obtain ⟨x0, x1, x2, x3, x4, x5, x6⟩ := hat
        have hq0 : (0 : Int) ≤ (k : Int) := by omega
        have hq1 : (k : Int) < (es.length : Int) := by omega
        unfold Ent.val at *
        clear hfe hek
        go_upto_region 8 with fail
        have hbx := EntAt.box wr e
        have hn1 := bel_new wr (.cells #[.string ⟨e.node.toArray⟩, .int .i64 e.boot, .int .i64 e.seq, .int .i64 e.ten, .int .i64 e.hits, .int .i64 e.bytes, .int .i64 e.att] 23)
        have hz1 : wr.heap.size < (wr.alloc (.cells #[.string ⟨e.node.toArray⟩, .int .i64 e.boot, .int .i64 e.seq, .int .i64 e.ten, .int .i64 e.hits, .int .i64 e.bytes, .int .i64 e.att] 23)).heap.size := by simp [go_sem]
        have HO1 := Lib.hid (HO.out.step hn1)
        have HB1 := Lib.hid (HB.out.trans (hn1.mono hzr))
        have HE1 := Lib.hid hbx
        obtain ⟨c0, c1, c2, c3, c4, c5, c6⟩ := hbx
        simp only [Nat.zero_add] at c0 c1 c2 c3 c4 c5 c6
        clear hn1 x0 x1 x2 x3 x4 x5 x6 HO HB
        generalize wr.alloc (.cells #[.string ⟨e.node.toArray⟩, .int .i64 e.boot, .int .i64 e.seq, .int .i64 e.ten, .int .i64 e.hits, .int .i64 e.bytes, .int .i64 e.att] 23) = W1 at *
        go_upto_region 9 with (go_at_call 15; refine (HD.out _).mono ?_; rintro r W2 ⟨rfl, hb2⟩)
        obtain ⟨d0, d1, d2, d3, d4, d5, d6⟩ := HE1.out.step hb2
        simp only [Nat.zero_add] at d0 d1 d2 d3 d4 d5 d6
        have HO2' := Lib.hid (HO1.out.step hb2)
        have HB2' := Lib.hid (HB1.out.trans (hb2.mono (by omega)))
        have hz2' : wr.heap.size < W2.heap.size := Nat.lt_of_lt_of_le hz1 hb2.size
        clear hb2 c0 c1 c2 c3 c4 c5 c6 HO1 HB1 HE1
        by_cases hc : codeE e = 0
        · have HC0 := Lib.hid hc
          rw [hc]
          clear hc
          go_wp2_with (first | (go_at_call 25; refine (HONE.out _ HC0.out).mono ?_; rintro r W3 ⟨v3, rfl, ho3, hb3⟩) | (at_builtin; refine wpList_app rfl (.tmp 41) (.tmp 43) rfl w2.heap.size _ _ rfl (HO2'.out.step hb3) _ (recE e) rfl ho3.isB (by have := HRL.out; have := (recE_len HC0.out).1; omega) (by have := hb3.size; omega) ?_; intro v7 w7 ho7 hb7 hz7 hne7))
          have HO7 := Lib.hid ho7
          have HB7 := Lib.hid ((HB2'.out.trans (hb3.mono (by omega))).trans hb7)
          clear ho7 hb7 ho3 hb3
          go_roundw
          case rel => exact ⟨k + 1, by go_num, by omega, by
            rw [HTK.out]; intro x hx
            rcases List.mem_append.1 hx with hx | hx
            · exact HA.out x hx
            · simp at hx; rw [hx]; exact HC0.out, by rw [HTK.out, List.flatMap_append]; simpa using HO7.out, HB7.out⟩
          case measure => simp [intOf]; omega
        · have HC0 := Lib.hid hc
          have hbad := HBAD.out hc
          have hcb : (codeE e == 0) = false := by simpa using hc
          have HNC := Lib.hid (fun W => num_code (codeE e) W)
          have hos := HO2.out.isB.shape
          have hb0 : encsB es = [] := by unfold encsB; rw [hbad, if_neg hc]
          rw [hb0] at hos
          obtain ⟨a', c', rfl, _, _, _⟩ := hos
          rw [hbad]
          clear HBAD hbad
          generalize codeE e = c at *
          go_wp2_with (go_at_call 13; refine (HNC.out _).mono ?_; rintro r W3 ⟨rfl, rfl⟩)
          go_ret
          exact ⟨rfl, (HB2.out.trans (HB2'.out.mono hz2))⟩
      · obtain rfl : k = es.length := by omega
        have hallc : encsC es = 0 := encsC_all es (by have := HA.out; rwa [List.take_length] at this)
        have HA2 := Lib.hid (HO2.out.isB.step HB.out)
        have hbb : encsB es = es.flatMap recE := by unfold encsB; rw [if_pos hallc]
        rw [hbb] at HA2
        rw [List.take_length] at HO
        have HO3 := Lib.hid HO.out.isB
        rw [hallc, show errV 0 = .nilIface from rfl]
        clear hallc hbb HO
        go_wp2_with (go_at_call 26; refine (bytes_any _ _ _ _ _ HA2.out HO3.out).mono ?_; rintro r W3 ⟨rfl, rfl⟩)
        go_ret
        exact ⟨by simp, HB2.out.trans (HB.out.mono hz2)⟩
end Go.Proofs.Ytdkaapkehmjepaa
