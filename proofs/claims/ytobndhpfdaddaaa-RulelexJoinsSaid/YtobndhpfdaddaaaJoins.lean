/- The walk of the law RulelexJoins: it returns true. No condition. -/
import Derived.Test.YtobndhpfdaddaaaWritten
namespace Go.Proofs.Ytobndhpfdaddaaa
open Go.RowKit
set_option linter.unusedVariables false
set_option linter.unusedSimpArgs false

theorem IsB.elem {w : World} {v : Value} {l : List UInt8} (h : IsB w v l) {k : Nat} (hk : k < l.length) : ∃ b off cap, v = .slice (some ⟨b, off, none⟩) l.length cap ∧ w.cell? ⟨b, off + k, none⟩ = some (.int .u8 (l[k].toNat : Int)) := by
  rcases h with ⟨rfl, _⟩ | ⟨_, b, off, cap, rfl, _, _, hc⟩
  · simp at hk
  · exact ⟨b, off, cap, rfl, hc k _ (List.getElem?_eq_getElem hk)⟩
def btF (bs : List UInt8) (i : Nat) : Nat := match bs[i]? with | some c => c.toNat | none => 0
theorem join_take (bt : Nat → Nat) (ts : List Tok) (k : Nat) (t : Tok) (h : ts[k]? = some t) : joinF bt (ts.take (k + 1)) 0 = joinF bt (ts.take k) 0 ++ (writK t.kind t.text ++ sepL (bt k)) := by
  obtain ⟨hk, rfl⟩ := List.getElem?_eq_some_iff.1 h
  rw [List.take_succ_eq_append_getElem hk, joinF_snoc, Nat.zero_add, List.length_take, Nat.min_eq_left (by omega)]
theorem splitT_good {s : List UInt8} {ts : List Tok} (h : splitT s = some ts) : goodL s.length ts := splitS_good s.length s 0 1 1 ts (Nat.le_refl _) h

set_option maxRecDepth 20000 in
set_option maxHeartbeats 8000000 in
theorem joins_walk (s : ByteArray) (v : Value) (bs : List UInt8) (w : World) (hv : IsB w v bs) : Calls Try.prog 6 #[.string s, v] w fun e w' => e = .returned (.bool true) ∧ Below w.heap.size w w' := by
  obtain ⟨va, vc, rfl, _, hvm, _⟩ := hv.shape
  have HV := Lib.hid hv
  clear hv
  by_cases h5 : s.size ≤ 1000
  · have h5i : ¬ 1000 < (s.size : Int) := by omega
    have HS := Lib.hid (fun W => split_any s W (by omega))
    cases hsp : splitT s.data.toList with
    | none =>
      rw [hsp] at HS
      clear hsp h5
      unfold SplitE at HS
      go_enter Try.func6, Try.ntmps6
      go_wp2_with (first | (go_at_call 9; refine (awake_any _).mono ?_; rintro e w1 ⟨rfl, hb1⟩; have HB1 := Lib.hid hb1; clear hb1) | (go_at_call 10; refine (HS.out _).mono ?_; rintro e w2 ⟨rfl, hb2⟩; have HB2 := Lib.hid hb2; clear hb2))
      go_ret
      exact ⟨rfl, bel_step HB1.out HB2.out⟩
    | some ts =>
      rw [hsp] at HS
      unfold SplitE at HS
      have HG := Lib.hid (splitT_good hsp)
      have htl := splitT_len hsp
      rw [size_list] at HG htl
      clear hsp
      go_enter Try.func6, Try.ntmps6
      go_wp2_with (first | (go_at_call 9; refine (awake_any _).mono ?_; rintro e w1 ⟨rfl, hb1⟩; have HB1 := Lib.hid hb1; clear hb1) | (go_at_call 10; refine (HS.out _).mono ?_; rintro e w2 ⟨⟨v2, rfl, ho2⟩, hb2⟩; have HO := Lib.hid ho2.isK; have HB2 := Lib.hid (bel_step HB1.out hb2); obtain ⟨a2, c2, rfl⟩ := ho2.isK.shape; clear hb2 ho2))
      go_loopw [7, 35] (fun u i wr => ∃ k : Nat, i = .int .i64 k ∧ u = .string ⟨(joinF (btF bs) (ts.take k) 0).toArray⟩ ∧ k ≤ ts.length ∧ (joinF (btF bs) (ts.take k) 0).length ≤ 4000 ∧ Below w2.heap.size w2 wr) (fun _ i _ => ts.length - (intOf i).toNat)
      case atStart => exact ⟨0, rfl, rfl, by omega, by simp [joinF], Below.refl _ _⟩
      case round =>
        obtain ⟨k, rfl, rfl, hk, hjl, hb⟩ := hrel
        have HB3 := Lib.hid hb
        clear hb
        by_cases hlt : k < ts.length
        · obtain ⟨g1, p1, e, hv1, he, hat1⟩ := (HO.out.step HB3.out).elem hlt
          simp only [Value.slice.injEq] at hv1
          obtain ⟨rfl, _, rfl⟩ := hv1
          obtain ⟨x0, x1, x2, x3⟩ := hat1
          obtain ⟨hok, hwl⟩ := goodL_at ts k e HG.out he
          have HJ := Lib.hid (join_take (btF bs) ts k e he)
          obtain ⟨kd, tx, ln, cl⟩ := e
          dsimp only at x0 x1 x2 x3 hok hwl HJ
          have HW := Lib.hid (fun W => written_any kd ln cl tx hok (by have := writK_len (kd := kd) (tx := tx); omega) W)
          have hq0 : (0 : Int) ≤ (k : Int) := by omega
          have hq1 : (k : Int) < (ts.length : Int) := by omega
          generalize joinF (btF bs) (ts.take k) 0 = J at hjl HJ ⊢
          generalize hwk : writK kd tx = W1 at HW hwl HJ
          clear hok he hwk
          have hL1 : W1.length ≤ 8388608 := by omega
          have hJ1 : J.length ≤ 8388608 := by omega
          by_cases hkb : k < bs.length
          · obtain ⟨b, off, cap, hva, hcell⟩ := HV.out.elem hkb
            simp only [Value.slice.injEq] at hva
            obtain ⟨rfl, _, rfl⟩ := hva
            have hbt : btF bs k = bs[k].toNat := by rw [btF, List.getElem?_eq_getElem hkb]
            have hxl := bs[k].toNat_lt
            generalize bs[k].toNat = x at hcell hbt hxl
            have hq2 : (k : Int) < (bs.length : Int) := by omega
            rw [hbt] at HJ
            clear hbt hkb
            have hx4 : x % 4 = 0 ∨ x % 4 = 1 ∨ x % 4 = 2 ∨ x % 4 = 3 := by omega
            rcases hx4 with hx | hx | hx | hx
            · have hse : sepL x = [32] := by simp [sepL, hx]
              rw [hse] at HJ
              have hxi : (x : Int) % 4 = 0 := by omega
              clear hse hx
              have hcA := run_cat W1 [32] hL1 (by simp)
              have hcB := run_cat J (W1 ++ [32]) hJ1 (by simp; omega)
              clear hL1 hJ1
              go_upto_region 10 with fail
              go_upto_region 16 with (go_at_call 15; refine (HW.out _).mono ?_; rintro e w5 ⟨rfl, hb5⟩; have HB5 := Lib.hid ((HB3.out.trans ((bel_new wr _).mono HB3.out.size)).trans (hb5.mono (by have := HB3.out.size; simp; omega))); clear hb5; have hcell5 := keep_at (HB2.out.trans (HB5.out.mono HB2.out.size)) hcell)
              go_upto_region 17 with fail
              clear hcA hcB
              generalize J ++ (W1 ++ [32]) = J2 at HJ ⊢
              have hsz := mk_size J2
              by_cases hbig : J2.length ≤ 4000
              · have hbi : ¬ (4000 : Int) < (J2.length : Int) := by omega
                have HBIG := Lib.hid hbig
                clear hbig
                go_wp2_with fail
                go_roundw
                case rel => exact ⟨k + 1, by go_num, by rw [HJ.out], by omega, by rw [HJ.out]; exact HBIG.out, HB5.out.trans ((bel_new w5 _).mono HB5.out.size)⟩
                case measure => simp [intOf]; omega
              · have hbi : (4000 : Int) < (J2.length : Int) := by omega
                clear hbig
                go_wp2_with fail
                go_ret
                exact ⟨rfl, bel_step HB2.out (HB5.out.trans ((bel_new w5 _).mono HB5.out.size))⟩
            · have hse : sepL x = [10] := by simp [sepL, hx]
              rw [hse] at HJ
              have hxi : (x : Int) % 4 = 1 := by omega
              clear hse hx
              have hcA := run_cat W1 [10] hL1 (by simp)
              have hcB := run_cat J (W1 ++ [10]) hJ1 (by simp; omega)
              clear hL1 hJ1
              go_upto_region 10 with fail
              go_upto_region 16 with (go_at_call 15; refine (HW.out _).mono ?_; rintro e w5 ⟨rfl, hb5⟩; have HB5 := Lib.hid ((HB3.out.trans ((bel_new wr _).mono HB3.out.size)).trans (hb5.mono (by have := HB3.out.size; simp; omega))); clear hb5; have hcell5 := keep_at (HB2.out.trans (HB5.out.mono HB2.out.size)) hcell)
              go_upto_region 17 with fail
              clear hcA hcB
              generalize J ++ (W1 ++ [10]) = J2 at HJ ⊢
              have hsz := mk_size J2
              by_cases hbig : J2.length ≤ 4000
              · have hbi : ¬ (4000 : Int) < (J2.length : Int) := by omega
                have HBIG := Lib.hid hbig
                clear hbig
                go_wp2_with fail
                go_roundw
                case rel => exact ⟨k + 1, by go_num, by rw [HJ.out], by omega, by rw [HJ.out]; exact HBIG.out, HB5.out.trans ((bel_new w5 _).mono HB5.out.size)⟩
                case measure => simp [intOf]; omega
              · have hbi : (4000 : Int) < (J2.length : Int) := by omega
                clear hbig
                go_wp2_with fail
                go_ret
                exact ⟨rfl, bel_step HB2.out (HB5.out.trans ((bel_new w5 _).mono HB5.out.size))⟩
            · have hse : sepL x = [32, 35, 32, 97, 32, 34, 99, 111, 109, 109, 101, 110, 116, 10] := by simp [sepL, hx]
              rw [hse] at HJ
              have hxi : (x : Int) % 4 = 2 := by omega
              clear hse hx
              have hcA := run_cat W1 [32, 35, 32, 97, 32, 34, 99, 111, 109, 109, 101, 110, 116, 10] hL1 (by simp)
              have hcB := run_cat J (W1 ++ [32, 35, 32, 97, 32, 34, 99, 111, 109, 109, 101, 110, 116, 10]) hJ1 (by simp; omega)
              clear hL1 hJ1
              go_upto_region 10 with fail
              go_upto_region 16 with (go_at_call 15; refine (HW.out _).mono ?_; rintro e w5 ⟨rfl, hb5⟩; have HB5 := Lib.hid ((HB3.out.trans ((bel_new wr _).mono HB3.out.size)).trans (hb5.mono (by have := HB3.out.size; simp; omega))); clear hb5; have hcell5 := keep_at (HB2.out.trans (HB5.out.mono HB2.out.size)) hcell)
              go_upto_region 17 with fail
              clear hcA hcB
              generalize J ++ (W1 ++ [32, 35, 32, 97, 32, 34, 99, 111, 109, 109, 101, 110, 116, 10]) = J2 at HJ ⊢
              have hsz := mk_size J2
              by_cases hbig : J2.length ≤ 4000
              · have hbi : ¬ (4000 : Int) < (J2.length : Int) := by omega
                have HBIG := Lib.hid hbig
                clear hbig
                go_wp2_with fail
                go_roundw
                case rel => exact ⟨k + 1, by go_num, by rw [HJ.out], by omega, by rw [HJ.out]; exact HBIG.out, HB5.out.trans ((bel_new w5 _).mono HB5.out.size)⟩
                case measure => simp [intOf]; omega
              · have hbi : (4000 : Int) < (J2.length : Int) := by omega
                clear hbig
                go_wp2_with fail
                go_ret
                exact ⟨rfl, bel_step HB2.out (HB5.out.trans ((bel_new w5 _).mono HB5.out.size))⟩
            · have hse : sepL x = [9, 13, 10, 32, 32] := by simp [sepL, hx]
              rw [hse] at HJ
              have hxi : (x : Int) % 4 = 3 := by omega
              clear hse hx
              have hcA := run_cat W1 [9, 13, 10, 32, 32] hL1 (by simp)
              have hcB := run_cat J (W1 ++ [9, 13, 10, 32, 32]) hJ1 (by simp; omega)
              clear hL1 hJ1
              go_upto_region 10 with fail
              go_upto_region 16 with (go_at_call 15; refine (HW.out _).mono ?_; rintro e w5 ⟨rfl, hb5⟩; have HB5 := Lib.hid ((HB3.out.trans ((bel_new wr _).mono HB3.out.size)).trans (hb5.mono (by have := HB3.out.size; simp; omega))); clear hb5; have hcell5 := keep_at (HB2.out.trans (HB5.out.mono HB2.out.size)) hcell)
              go_upto_region 17 with fail
              clear hcA hcB
              generalize J ++ (W1 ++ [9, 13, 10, 32, 32]) = J2 at HJ ⊢
              have hsz := mk_size J2
              by_cases hbig : J2.length ≤ 4000
              · have hbi : ¬ (4000 : Int) < (J2.length : Int) := by omega
                have HBIG := Lib.hid hbig
                clear hbig
                go_wp2_with fail
                go_roundw
                case rel => exact ⟨k + 1, by go_num, by rw [HJ.out], by omega, by rw [HJ.out]; exact HBIG.out, HB5.out.trans ((bel_new w5 _).mono HB5.out.size)⟩
                case measure => simp [intOf]; omega
              · have hbi : (4000 : Int) < (J2.length : Int) := by omega
                clear hbig
                go_wp2_with fail
                go_ret
                exact ⟨rfl, bel_step HB2.out (HB5.out.trans ((bel_new w5 _).mono HB5.out.size))⟩
          · have hbt : btF bs k = 0 := by rw [btF, List.getElem?_eq_none (by omega)]
            have hq2 : ¬ (k : Int) < (bs.length : Int) := by omega
            rw [hbt] at HJ
            have hse : sepL 0 = [32] := rfl
            rw [hse] at HJ
            clear hbt hkb hse
            have hcA := run_cat W1 [32] hL1 (by simp)
            have hcB := run_cat J (W1 ++ [32]) hJ1 (by simp; omega)
            clear hL1 hJ1
            go_upto_region 10 with fail
            go_upto_region 16 with (go_at_call 15; refine (HW.out _).mono ?_; rintro e w5 ⟨rfl, hb5⟩; have HB5 := Lib.hid ((HB3.out.trans ((bel_new wr _).mono HB3.out.size)).trans (hb5.mono (by have := HB3.out.size; simp; omega))); clear hb5)
            go_upto_region 17 with fail
            clear hcA hcB
            generalize J ++ (W1 ++ [32]) = J2 at HJ ⊢
            have hsz := mk_size J2
            by_cases hbig : J2.length ≤ 4000
            · have hbi : ¬ (4000 : Int) < (J2.length : Int) := by omega
              have HBIG := Lib.hid hbig
              clear hbig
              go_wp2_with fail
              go_roundw
              case rel => exact ⟨k + 1, by go_num, by rw [HJ.out], by omega, by rw [HJ.out]; exact HBIG.out, HB5.out.trans ((bel_new w5 _).mono HB5.out.size)⟩
              case measure => simp [intOf]; omega
            · have hbi : (4000 : Int) < (J2.length : Int) := by omega
              clear hbig
              go_wp2_with fail
              go_ret
              exact ⟨rfl, bel_step HB2.out (HB5.out.trans ((bel_new w5 _).mono HB5.out.size))⟩
        · obtain rfl : k = ts.length := by omega
          rw [List.take_of_length_le (Nat.le_refl _)] at hjl ⊢
          have HS2 := Lib.hid (show ∀ W, Calls Try.prog 10 #[.string ⟨(joinF (btF bs) ts 0).toArray⟩] W fun e w' => (∃ v us, e = .returned (.tuple #[v, .nilIface]) ∧ OwnK 39 w' W.heap.size v us ∧ kts us = kts ts) ∧ Below W.heap.size W w' by
            intro W
            refine (split_any _ W (by rw [mk_size]; omega)).mono ?_
            rintro e w' ⟨h, hb⟩
            obtain ⟨us, hus, hk⟩ := join_split s.size (btF bs) ts 0 1 1 HG.out
            rw [data_list, splitT, hus] at h
            obtain ⟨v, rfl, ho⟩ := h
            exact ⟨⟨v, us, rfl, ho, hk⟩, hb⟩)
          generalize joinF (btF bs) ts 0 = J at hjl HS2 ⊢
          clear hjl hk hlt
          go_wp2_with (go_at_call 10; refine (HS2.out _).mono ?_; rintro e w5 ⟨⟨v5, us, rfl, ho5, hk5⟩, hb5⟩; have HU := Lib.hid ho5.isK; have HK := Lib.hid hk5; obtain ⟨a5, c5, rfl⟩ := ho5.isK.shape; have HB5 := Lib.hid (HB3.out.trans (hb5.mono HB3.out.size)); have hul : us.length = ts.length := (by have := congrArg List.length hk5; simpa [kts] using this); rw [hul]; clear hb5 ho5 hk5)
          have hl9 : (ts.length : Int) ≤ 100000 := by omega
          have HUL := Lib.hid hul
          rw [hul] at HU
          clear hul
          go_loopw [84] (fun i wz => ∃ j : Nat, i = .int .i64 j ∧ j ≤ ts.length ∧ Below w5.heap.size w5 wz) (fun i _ => ts.length - (intOf i).toNat)
          case atStart => exact ⟨0, rfl, Nat.zero_le _, Below.refl _ _⟩
          case round =>
            obtain ⟨j, rfl, hj, hbz⟩ := hrel
            have HBZ := Lib.hid hbz
            clear hbz
            by_cases hlt : j < ts.length
            · obtain ⟨g1, p1, e, hv1, he, hat1⟩ := (HO.out.step (HB5.out.trans (HBZ.out.mono HB5.out.size))).elem hlt
              obtain ⟨g2, p2, f, hv2, hf, hat2⟩ := (HU.out.step HBZ.out).elem (k := j) (by rw [HUL.out]; exact hlt)
              simp only [Value.slice.injEq] at hv1 hv2
              obtain ⟨rfl, _, rfl⟩ := hv1
              obtain ⟨rfl, _, rfl⟩ := hv2
              have hef : (f.kind, f.text) = (e.kind, e.text) := by
                have h1 := congrArg (fun l => l[j]?) HK.out
                simp only [kts, List.getElem?_map, he, hf, Option.map_some, Option.some.injEq] at h1
                exact h1
              simp only [Prod.mk.injEq] at hef
              obtain ⟨x0, x1, x2, x3⟩ := hat1
              obtain ⟨y0, y1, y2, y3⟩ := hat2
              have hq0 : (0 : Int) ≤ (j : Int) := by omega
              have hq1 : (j : Int) < (ts.length : Int) := by omega
              rw [hef.1] at y0
              rw [hef.2] at y1
              clear he hf hef
              obtain ⟨e0, e1, e2, e3⟩ := e
              dsimp only at x0 x1 x2 x3 y0 y1
              go_wp2_with fail
              go_quiet (fail)
              go_wp2_with fail
              go_roundw
              case rel => exact ⟨j + 1, by go_num, by omega, bel_drewN HBZ.out⟩
              case measure => simp [intOf]; omega
            · obtain rfl : j = ts.length := by omega
              go_wp2_with fail
              go_ret
              exact ⟨rfl, bel_step HB2.out (HB5.out.trans (HBZ.out.mono HB5.out.size))⟩
  · have h5i : 1000 < (s.size : Int) := by omega
    go_enter Try.func6, Try.ntmps6
    go_wp2_with (go_at_call 9; refine (awake_any _).mono ?_; rintro e w1 ⟨rfl, hb1⟩; first | (have HB2 := Lib.hid (bel_step HB1.out hb1); clear hb1) | (have HB1 := Lib.hid hb1; clear hb1))
    go_ret
    exact ⟨rfl, HB2.out⟩
end Go.Proofs.Ytobndhpfdaddaaa
