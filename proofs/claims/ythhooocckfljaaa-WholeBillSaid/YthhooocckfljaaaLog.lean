/- The walk of usage.Encode. No condition beyond that a list is not longer than a hundred thousand entries. -/
import Derived.Test.YthhooocckfljaaaEnts
import Derived.Test.YthhooocckfljaaaAppends
namespace Go.Proofs.Ythhooocckfljaaa
open Go.RowKit
set_option linter.unusedVariables false
set_option linter.unusedSimpArgs false

def FitE (e : Ent) : Prop := e.node.length ≤ 9223372036854775807 ∧ (-9223372036854775808 ≤ e.seq ∧ e.seq ≤ 9223372036854775807)
def intsK (e : Ent) : Nat → Int
  | 0 => e.boot
  | 1 => e.ten
  | 2 => e.hits
  | 3 => e.bytes
  | _ => e.att
theorem intsK_take (e : Ent) (k : Nat) (hk : k < 5) : ((intsE e).take (k + 1)).flatMap numI = ((intsE e).take k).flatMap numI ++ numB (clampN (intsK e k)) := by
  match k, hk with
  | 0, _ | 1, _ | 2, _ | 3, _ | 4, _ => simp [intsE, intsK, numI]
theorem ints_len (e : Ent) (k : Nat) : (((intsE e).take k).flatMap numI).length ≤ 50 := by
  have h1 := numB_len (clampN e.boot)
  have h2 := numB_len (clampN e.ten)
  have h3 := numB_len (clampN e.hits)
  have h4 := numB_len (clampN e.bytes)
  have h5 := numB_len (clampN e.att)
  match k with
  | 0 | 1 | 2 | 3 | 4 | k + 5 => simp [intsE, numI]; try omega
theorem Ints.box (w : World) (e : Ent) : ∀ k, k < 5 → (w.alloc (.cells #[.int .i64 e.boot, .int .i64 e.ten, .int .i64 e.hits, .int .i64 e.bytes, .int .i64 e.att] 3)).cell? ⟨w.heap.size, k, none⟩ = some (.int .i64 (intsK e k)) := by
  intro k hk
  rw [cell_of_row _ _ _ _ _ _ (heap_alloc_new w _)]
  match k, hk with
  | 0, _ | 1, _ | 2, _ | 3, _ | 4, _ => rfl

theorem enc_pay (e : Ent) (v : Value) (w : World) (hn : 1 ≤ e.node.length ∧ e.node.length ≤ 32) (hr : rangeE e) (hv : IsB w v (payE e)) :
    Calls Try.prog 20 #[.agg #[.int .i64 1, .int .i64 e.seq, v]] w fun r w' => ∃ u, r = .returned (.tuple #[u, .nilIface]) ∧ OwnB w' w.heap.size u (recE e) ∧ Below w.heap.size w w' := by
  obtain ⟨h0, h1, h2, h3, h4, h5, h6, h7⟩ := hr
  have hs : e.seq = ((e.seq.toNat : Nat) : Int) := by omega
  have hb := h1.2
  have hp := payE_len e
  have := enc_ok 1 e.seq.toNat v (payE e) w (by omega) (by omega) hv (by omega)
  rw [← hs] at this
  exact this
set_option maxRecDepth 100000 in
set_option maxHeartbeats 4000000 in
theorem encs_any (v : Value) (es : List Ent) (w : World) (h : IsE w v es) (hf : ∀ e ∈ es, FitE e) (hl : es.length ≤ 100000) :
    Calls Try.prog 8 #[v] w fun r w' => ∃ u, r = .returned (.tuple #[u, errV (encsC es)]) ∧ OwnB w' w.heap.size u (encsB es) ∧ Below w.heap.size w w' := by
  obtain ⟨a, cap, rfl, _, _⟩ := h.shape
  have H := Lib.hid h
  have HF := Lib.hid hf
  have hl' : (es.length : Int) ≤ 100000 := by omega
  clear h hf
  go_enter Try.func8, Try.ntmps8
  go_wp2_with fail
  go_loopw [4, 15] (fun ov i wr => ∃ k : Nat, i = .int .i64 k ∧ k ≤ es.length ∧ (∀ e ∈ es.take k, codeE e = 0) ∧ OwnB wr w.heap.size ov ((es.take k).flatMap recE) ∧ Below w.heap.size w wr) (fun _ i _ => es.length - (intOf i).toNat)
  case atStart => exact ⟨0, rfl, Nat.zero_le _, by simp, OwnB.nil _ _, Below.refl _ _⟩
  case round =>
    obtain ⟨k, rfl, hk, hall, hown, hB⟩ := hrel
    have HA := Lib.hid hall
    have HO := Lib.hid hown
    have HB := Lib.hid hB
    have hz0 : w.heap.size ≤ wr.heap.size := hB.size
    have hrl := recs_len _ hall
    rw [List.length_take] at hrl
    have HRL := Lib.hid hrl
    clear hall hown hB hrl
    by_cases hlt : k < es.length
    · obtain ⟨g, o, cap', e, hv, hek, hat⟩ := (H.out.step HB.out).elem hlt
      simp only [Value.slice.injEq] at hv
      obtain ⟨rfl, _, rfl⟩ := hv
      have hfe := HF.out e (List.mem_of_getElem? hek)
      have hbad := fun hb => encsC_bad HA.out hek hb
      have htk := take_more hek
      have HTK := Lib.hid htk
      have HBAD := Lib.hid hbad
      have HC := Lib.hid (fun W => check_any e W hfe.1 hfe.2)
      obtain ⟨x0, x1, x2, x3, x4, x5, x6⟩ := hat
      have hq0 : (0 : Int) ≤ (k : Int) := by omega
      have hq1 : (k : Int) < (es.length : Int) := by omega
      clear hbad htk hfe hek
      go_upto_region 5 with fail
      have hbx := EntAt.box wr e
      have hn1 := bel_new wr (.cells #[.string ⟨e.node.toArray⟩, .int .i64 e.boot, .int .i64 e.seq, .int .i64 e.ten, .int .i64 e.hits, .int .i64 e.bytes, .int .i64 e.att] 46)
      have hz1 : wr.heap.size < (wr.alloc (.cells #[.string ⟨e.node.toArray⟩, .int .i64 e.boot, .int .i64 e.seq, .int .i64 e.ten, .int .i64 e.hits, .int .i64 e.bytes, .int .i64 e.att] 46)).heap.size := by simp [go_sem]
      have HO1 := Lib.hid (HO.out.step hn1)
      have HB1 := Lib.hid (HB.out.trans (hn1.mono hz0))
      have HE1 := Lib.hid hbx
      obtain ⟨c0, c1, c2, c3, c4, c5, c6⟩ := hbx
      simp only [Nat.zero_add] at c0 c1 c2 c3 c4 c5 c6
      clear hn1 x0 x1 x2 x3 x4 x5 x6 HO HB
      generalize wr.alloc (.cells #[.string ⟨e.node.toArray⟩, .int .i64 e.boot, .int .i64 e.seq, .int .i64 e.ten, .int .i64 e.hits, .int .i64 e.bytes, .int .i64 e.att] 46) = W1 at *
      by_cases hc : codeE e = 0
      · have HC0 := Lib.hid hc
        have HN := Lib.hid (named_short (codeE_ok hc).1)
        have HR := Lib.hid (codeE_ok hc).2
        rw [hc] at HC
        simp only [errV, if_true] at HC
        unfold Ent.val at HC
        clear hc HBAD
        go_upto_region 8 with (first | (go_at_call 17; refine (HC.out _).mono ?_; rintro r W2 ⟨rfl, hb2⟩))
        have HO2 := Lib.hid (HO1.out.step hb2)
        have HB2 := Lib.hid (bel_step HB1.out hb2)
        have HE2 := Lib.hid (HE1.out.step hb2)
        have hz2 : wr.heap.size < W2.heap.size := Nat.lt_of_lt_of_le hz1 hb2.size
        obtain ⟨d0, d1, d2, d3, d4, d5, d6⟩ := HE1.out.step hb2
        simp only [Nat.zero_add] at d0 d1 d2 d3 d4 d5 d6
        clear HO1 HB1 HE1 c0 c1 c2 c3 c4 c5 c6 hb2 hz1
        go_upto_region 9 with (first | (go_at_call 18; refine (appendText_any _ [] ⟨e.node.toArray⟩ _ (IsB.nil _) (by have := HN.out; simp [ByteArray.size]; omega)).mono ?_; rintro r W3 ⟨v3, rfl, ho3, hb3⟩))
        have ho3' : OwnB W3 W2.heap.size v3 (textB e.node) := by simpa [textB, ByteArray.size] using ho3
        have HO3 := Lib.hid (HO2.out.step hb3)
        have HB3 := Lib.hid (bel_step HB2.out hb3)
        have HE3 := Lib.hid (HE2.out.step hb3)
        have HT3 := Lib.hid ho3'
        have hz3 : W2.heap.size ≤ W3.heap.size := hb3.size
        obtain ⟨x0, x1, x2, x3, x4, x5, x6⟩ := HE2.out.step hb3
        simp only [Nat.zero_add] at x0 x1 x2 x3 x4 x5 x6
        clear HO2 HB2 HE2 d0 d1 d2 d3 d4 d5 d6 hb3 ho3 ho3'
        go_upto_region 10 with fail
        have hn4 := bel_new W3 (.cells #[.int .i64 e.boot, .int .i64 e.ten, .int .i64 e.hits, .int .i64 e.bytes, .int .i64 e.att] 3)
        have HO4 := Lib.hid (HO3.out.step hn4)
        have HB4 := Lib.hid (bel_step HB3.out hn4)
        have HE4 := Lib.hid (HE3.out.step hn4)
        have HT4 := Lib.hid (HT3.out.step hn4)
        have HI4 := Lib.hid (Ints.box W3 e)
        have hz4 : W3.heap.size ≤ (W3.alloc (.cells #[.int .i64 e.boot, .int .i64 e.ten, .int .i64 e.hits, .int .i64 e.bytes, .int .i64 e.att] 3)).heap.size := hn4.size
        clear HO3 HB3 HE3 HT3 hn4 x0 x1 x2 x3 x4 x5 x6
        generalize W3.alloc (.cells #[.int .i64 e.boot, .int .i64 e.ten, .int .i64 e.hits, .int .i64 e.bytes, .int .i64 e.att] 3) = W4 at *
        go_loopw [8, 39] (fun bv j wi => ∃ q : Nat, j = .int .i64 q ∧ q ≤ 5 ∧ OwnB wi W2.heap.size bv (textB e.node ++ ((intsE e).take q).flatMap numI) ∧ Below W4.heap.size W4 wi) (fun _ j _ => 5 - (intOf j).toNat)
        case atStart => exact ⟨0, rfl, Nat.zero_le _, by simpa using HT4.out, Below.refl _ _⟩
        case round =>
          obtain ⟨q, rfl, hq, hob, hbi⟩ := hrel
          have HOB := Lib.hid hob
          have HBI := Lib.hid hbi
          clear hob hbi
          by_cases hq5 : q < 5
          · have hcell := keep_at HBI.out (HI4.out q hq5)
            have hqz0 : (0 : Int) ≤ (q : Int) := by omega
            have hqz1 : (q : Int) < 5 := by omega
            have HIT := Lib.hid (intsK_take e q hq5)
            go_wp2_with (first | (go_at_call 19; refine (appendUint_any _ _ _ _ HOB.out.isB (by have := ints_len e q; have := HN.out; have := numB_len e.node.length; simp only [textB, List.length_append]; omega)).mono ?_; rintro r W5 ⟨v5, rfl, ho5, hb5⟩))
            have HO5 := Lib.hid (ho5.mono (show W2.heap.size ≤ _ from Nat.le_trans hz3 (Nat.le_trans hz4 HBI.out.size)))
            have HB5 := Lib.hid (bel_step HBI.out hb5)
            clear ho5 hb5
            go_roundw
            case rel => exact ⟨q + 1, by go_num, by omega, by rw [HIT.out, ← List.append_assoc]; exact HO5.out, HB5.out⟩
            case measure => simp [intOf]; omega
          · obtain rfl : q = 5 := by omega
            have HO5 := Lib.hid (HO4.out.step HBI.out)
            have HB5 := Lib.hid (bel_step HB4.out HBI.out)
            obtain ⟨y0, y1, y2, y3, y4, y5, y6⟩ := HE4.out.step HBI.out
            simp only [Nat.zero_add] at y0 y1 y2 y3 y4 y5 y6
            have hop : OwnB wr W2.heap.size u8 (payE e) := HOB.out
            obtain ⟨ab, cb, hub, _, _, _⟩ := hop.isB.shape
            generalize (payE e).length = pl at hub
            subst hub
            have HEN := Lib.hid (enc_pay e (.slice ab pl cb) _ HN.out HR.out hop.isB)
            have hz5 := HBI.out.size
            have hbase : w.heap.size ≤ W2.heap.size := Nat.le_trans hz0 (Nat.le_of_lt hz2)
            have HRE := Lib.hid (recE_len HC0.out)
            clear HO4 HB4 HE4 HI4 HT4 HOB hop
            go_upto_region 15 with (first | (go_at_call 20; refine (HEN.out).mono ?_; rintro r W6 ⟨v6, rfl, ho6, hb6⟩))
            have HO6 := Lib.hid (HO5.out.step hb6)
            have HB6 := Lib.hid (bel_step HB5.out hb6)
            have HV6 := Lib.hid ho6
            clear HO5 HB5 hb6 ho6
            go_wp2_with (at_builtin; refine wpList_app rfl (.tmp 58) (.tmp 59) rfl w.heap.size _ _ rfl HO6.out _ (recE e) rfl HV6.out.isB (by have := HRL.out; have := HRE.out.1; omega) (HB6.out.size) ?_; intro v7 w7 ho7 hb7 hz7 hne7)
            have HO7 := Lib.hid ho7
            have HB7 := Lib.hid (HB6.out.trans hb7)
            clear ho7 hb7
            go_roundw
            case rel => exact ⟨k + 1, by go_num, by omega, by
              rw [HTK.out]; intro x hx
              rcases List.mem_append.1 hx with hx | hx
              · exact HA.out x hx
              · simp at hx; rw [hx]; exact HC0.out, by rw [HTK.out, List.flatMap_append]; simpa using HO7.out, HB7.out⟩
            case measure => simp [intOf]; omega
      · have HC0 := Lib.hid hc
        have hbad := HBAD.out hc
        have HBC := Lib.hid hbad
        unfold errV at HC
        simp only [if_neg hc] at HC
        unfold Ent.val at HC
        clear hc HBAD hbad
        have HCN := Lib.hid (show codeE e ≠ 0 from HC0.out)
        go_wp2_with (first | (go_at_call 17; refine (HC.out _).mono ?_; rintro r W2 ⟨rfl, hb2⟩))
        go_ret2
        have hne : ¬ codeE e = 0 := HC0.out
        exact ⟨.slice none 0 0, by rw [HBC.out]; unfold errV; rw [if_neg hne]; rfl, by unfold encsB; rw [HBC.out, if_neg hne]; exact OwnB.nil _ _, bel_step HB1.out hb2⟩
    · obtain rfl : k = es.length := by omega
      go_wp2_with fail
      go_ret2
      have hallc : encsC es = 0 := encsC_all es (by have := HA.out; rwa [List.take_length] at this)
      exact ⟨_, by rw [hallc]; rfl, by unfold encsB; rw [if_pos hallc]; have := HO.out; rwa [List.take_length] at this, HB.out⟩
end Go.Proofs.Ythhooocckfljaaa
