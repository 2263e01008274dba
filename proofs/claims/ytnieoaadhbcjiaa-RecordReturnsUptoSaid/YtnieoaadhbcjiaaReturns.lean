/- The walk of the law RecordReturns: it returns true. Conditions: the slice's reading, and a bound of its bulk. -/
import Derived.Test.YtnieoaadhbcjiaaBackLaw
namespace Go.Proofs.Ytnieoaadhbcjiaa
open Go.RowKit
set_option linter.unusedVariables false
set_option linter.unusedSimpArgs false

theorem clip62 (n : Int) (w : World) : Calls Try.prog 31 #[.int .i64 n, .int .i64 0, .int .i64 4611686018427387904] w fun e w' => e = .returned (.int .i64 (clampN n)) ∧ w = w' := by
  have h : (clampN n : Int) = max 0 (min n 4611686018427387904) := by unfold clampN; omega
  have hc : (4611686018427387904 < n ∧ (clampN n : Int) = 4611686018427387904) ∨ (¬ 4611686018427387904 < n ∧ 0 < n ∧ (clampN n : Int) = n) ∨ (¬ 4611686018427387904 < n ∧ ¬ 0 < n ∧ (clampN n : Int) = 0) := by omega
  clear h
  rcases hc with ⟨h1, h2⟩ | ⟨h1, h3, h2⟩ | ⟨h1, h3, h2⟩
  all_goals
    have H2 := Lib.hid h2
    clear h2
    go_enter Try.func31, Try.ntmps31
    go_wp2
    go_ret
    exact ⟨ret_int (by rw [H2.out]), rfl⟩

theorem forms_pos {vs : List Val} (h : vs ≠ []) : 1 ≤ (formsV vs).length := by
  cases vs with
  | nil => exact absurd rfl h
  | cons x r =>
    have e1 : (formsV (x :: r)).length = (formV x).length + (formsV r).length := by simp only [formsV, List.flatMap_cons, List.length_append]
    rcases Nat.eq_zero_or_pos (formV x).length with h | h
    · exact absurd (List.eq_nil_of_length_eq_zero h) (formV_ne x)
    · omega
theorem uintc_none (B b : Nat) (w : World) (h : CurO B w b none) : Calls Try.prog 28 #[.pointer (some ⟨b, 0, none⟩)] w fun e w' => e = .returned (.int .i64 0) ∧ CurO B w' b none ∧ Only b w w' := uintc_any B b none w h
theorem textc_none (B b : Nat) (w : World) (h : CurO B w b none) : Calls Try.prog 29 #[.pointer (some ⟨b, 0, none⟩)] w fun e w' => e = .returned (.string ⟨#[]⟩) ∧ CurO B w' b none ∧ Only b w w' := textc_any B b none w h (fun l h => by cases h)
theorem textsc_none (B b : Nat) (w : World) (h : CurO B w b none) (hB : B ≤ w.heap.size) : Calls Try.prog 30 #[.pointer (some ⟨b, 0, none⟩)] w fun e w' => ∃ a c, e = .returned (.slice a 0 c) ∧ CurO B w' b none ∧ Only b w w' := by
  refine (textsc_any B b none w h (fun l h => by cases h) hB).mono ?_
  rintro e w' ⟨u, rfl, hT, _, hc, ho⟩
  obtain ⟨a, c, rfl⟩ := hT.shape
  exact ⟨a, c, rfl, hc, ho⟩
theorem leftc_zero (B b : Nat) (w : World) (h : CurO B w b (some [])) : Calls Try.prog 25 #[.pointer (some ⟨b, 0, none⟩)] w fun e w' => e = .returned (.int .i64 0) ∧ w = w' := leftc_yes B b [] w h

set_option maxRecDepth 100000 in
set_option maxHeartbeats 4000000 in
theorem returns_walk (va : Value) (vs : List Val) (w : World) (ha : IsV w va vs) (hs : sizeV vs ≤ 1000000000) (hvl : vs.length ≤ 1000000000) :
    Calls Try.prog 8 #[va] w fun e w' => e = .returned (.bool true) ∧ Below w.heap.size w w' := by
  have HA := Lib.hid ha
  obtain ⟨aa, ca, rfl⟩ := ha.shape
  have hSZ := fun W h => size_any (.slice aa vs.length ca) vs W h hs hvl
  have HSZ := Lib.hid hSZ
  clear ha hSZ
  by_cases hbig : 3000 < sizeV vs
  · have h3' : (3000 : Int) < (sizeV vs : Int) := by omega
    clear hs hbig
    go_enter Try.func8, Try.ntmps8
    go_wp2_with fail
    refine (awake_any _).mono ?_
    rintro e w1 ⟨rfl, hb⟩
    have H1 := Lib.hid (HA.out.step hb)
    go_wp2_with (go_at_call 14; refine (HSZ.out _ H1.out).mono ?_; rintro e w' ⟨rfl, rfl⟩)
    refine (awake_any _).mono ?_
    rintro e w2 ⟨rfl, hb2⟩
    go_wp2_with fail
    go_ret
    exact ⟨rfl, bel_step hb hb2⟩
  have h3' : (sizeV vs : Int) ≤ 3000 := by omega
  have hd1 : decide ((3000 : Int) < (sizeV vs : Int)) = false := by simp; omega
  have hvi : (vs.length : Int) ≤ 3000 := by have : vs.length ≤ sizeV vs := len_size vs; omega
  have hsz : sizeV vs ≤ 3000 := by omega
  have HS := Lib.hid hsz
  have hfit : ∀ x ∈ vs, Fits x := fun x hx => fits_of (by have := sizeV_mem hx; omega)
  have HFIT := Lib.hid hfit
  have HFL := Lib.hid (show (formsV vs).length ≤ 3000 by have := forms_len vs; omega)
  clear hs hbig hsz hvl hfit
  go_enter Try.func8, Try.ntmps8
  go_wp2_with fail
  refine (awake_any _).mono ?_
  rintro e w1 ⟨rfl, hb⟩
  have H1 := Lib.hid (HA.out.step hb)
  have hz1 : w.heap.size ≤ w1.heap.size := hb.size
  have HB1 := Lib.hid hb
  clear hb
  go_wp2_with (go_at_call 14; refine (HSZ.out _ H1.out).mono ?_; rintro e w' ⟨rfl, rfl⟩)
  go_loopw [3, 4] (fun u i wr => ∃ (k : Nat), i = .int .i64 k ∧ k ≤ vs.length ∧ OwnB wr w1.heap.size u (formsV (vs.take k)) ∧ Below w1.heap.size w1 wr) (fun _ i _ => vs.length - (intOf i).toNat)
  case atStart => exact ⟨0, rfl, Nat.zero_le _, OwnB.nil _ _, Below.refl _ _⟩
  case round =>
    obtain ⟨k, rfl, hk, hO, hB⟩ := hrel
    have HO := Lib.hid hO
    have HB := Lib.hid hB
    have hzw : w1.heap.size ≤ wr.heap.size := hB.size
    obtain ⟨a5, c5, hv5, hcap5, _, _⟩ := hO.isB.shape
    clear hO hB
    by_cases hlt : k < vs.length
    · clear hv5 hcap5
      obtain ⟨gv, off, cv, x, hv, hkx, hat⟩ := (H1.out.step HB.out).elem hlt
      simp only [Value.slice.injEq] at hv
      obtain ⟨rfl, _, rfl⟩ := hv
      obtain ⟨hk256, x0, x1, x2, u, x3, hT⟩ := hat
      have hft := forms_take hkx
      have hfl : (formsV (vs.take k)).length + lenV x ≤ 3000 := by
        have h1 := forms_len (vs.take k)
        have h2 := sizeV_take hkx
        have h3 := sizeV_le vs (k + 1)
        have := HS.out
        omega
      have hP := fun W h9 h8 => put_any u3 u (formsV (vs.take k)) x W h9 h8 hk256 (by omega)
      have HFT := Lib.hid hft
      have HP := Lib.hid hP
      have HT := Lib.hid hT
      have hk0 : (0 : Int) ≤ (k : Int) := by omega
      have hk1 : (k : Int) < (vs.length : Int) := by omega
      obtain ⟨au, cu, rfl⟩ := hT.shape
      clear hft hfl hP hT hkx
      go_wp2_with (go_at_call 15; refine (HP.out _ HO.out.isB HT.out).mono ?_; rintro e w5 ⟨v5, rfl, ho5, hb5⟩)
      go_roundw
      case rel => exact ⟨k + 1, by go_num, by omega, by rw [HFT.out]; exact ho5.mono hzw, HB.out.trans (hb5.mono hzw)⟩
      case measure => simp [intOf]; omega
    · obtain rfl : k = vs.length := by omega
      have hfin : vs.take vs.length = vs := List.take_of_length_le (by omega)
      rw [hfin] at HO hv5 hcap5
      clear hfin
      subst hv5
      have HI := Lib.hid HO.out.isB
      have hBW := HB1.out.trans (HB.out.mono hz1)
      have HBW := Lib.hid hBW
      clear hBW HO HB H1 HSZ hlt hk
      obtain ⟨wb, rfl⟩ : ∃ wb : World, wb = wr := ⟨_, rfl⟩
      go_upto_region 9 with (go_at_call 23; refine (read_hi _ (formsV vs) _ HI.out (by have := HFL.out; omega)).mono ?_; rintro e w3 ⟨b, a3, c3, rfl, hbz, hx, hI3, hH, hb3⟩; have HX := Lib.hid hx; have HI3 := Lib.hid hI3; have HH := Lib.hid hH; have HB3 := Lib.hid hb3; clear hx hI3 hH hb3)
      have hcu : CurO w3.heap.size w3 b (some (formsV vs)) := ⟨a3, c3, HX.out, HI3.out, fun hl0 => by obtain ⟨g, off, e, _, h⟩ := HH.out hl0; exact ⟨g, off, e, h⟩⟩
      have HCU := Lib.hid hcu
      have hzb : w.heap.size ≤ b := by have := HBW.out.size; omega
      have HBW3 := Lib.hid (bel_step HBW.out HB3.out)
      have HIB := Lib.hid (HI.out.step HB3.out)
      have hz3 : w.heap.size ≤ w3.heap.size := HBW3.out.size
      clear hcu HX HI3 HH HBW HB3 HI hbz
      go_wp2_with fail
      go_loopw [6] (fun i wr => ∃ (k : Nat), i = .int .i64 k ∧ k ≤ vs.length ∧ CurO w3.heap.size wr b (some (formsV (vs.drop k))) ∧ Only b w3 wr) (fun i _ => vs.length - (intOf i).toNat)
      case atStart => exact ⟨0, rfl, Nat.zero_le _, by simpa using HCU.out, Only.refl _ _⟩
      case round =>
        obtain ⟨k, rfl, hk, hC, hO⟩ := hrel
        have HC := Lib.hid hC
        have HO := Lib.hid hO
        have hbr : Below w.heap.size w wr := HBW3.out.trans (hO.below hzb hz3)
        have HBR := Lib.hid hbr
        have hzw : w3.heap.size ≤ wr.heap.size := hO.size
        have hblt : b < wr.heap.size := hC.lt
        have HCU3 := Lib.hid HCU.out
        clear hC hO hbr HCU
        by_cases hlt : k < vs.length
        · obtain ⟨gv, off, cv, x, hv, hkx, hat⟩ := (HA.out.step HBR.out).elem hlt
          simp only [Value.slice.injEq] at hv
          obtain ⟨rfl, _, rfl⟩ := hv
          obtain ⟨hk256, x0, x1, x2, u, x3, hT⟩ := hat
          have hfx := HFIT.out x (List.mem_of_getElem? hkx)
          have hfd := forms_drop hkx
          have hs9 : shortO (some (formsV (vs.drop k))) := fun l hl => by
            cases hl
            have h1 := forms_len (vs.drop k)
            have h2 : sizeV (vs.drop k) ≤ sizeV vs := by
              conv => rhs; rw [← List.take_append_drop k vs]
              simp only [sizeV, List.map_append, List.sum_append]
              omega
            have := HS.out
            omega
          rw [hfd] at HC hs9
          have HS9 := Lib.hid hs9
          have HFX := Lib.hid hfx
          have HT := Lib.hid hT
          have hki : (x.k : Int) < 256 := by omega
          have hki0 : (0 : Int) ≤ (x.k : Int) := by omega
          have hk0 : (0 : Int) ≤ (k : Int) := by omega
          have hk1 : (k : Int) < (vs.length : Int) := by omega
          have hne : wr.heap.size ≠ b := by omega
          obtain ⟨au, cu, rfl⟩ := hT.shape
          clear hkx hfd hs9 hT hfx
          by_cases h0 : x.k % 3 = 0
          · have hb0 : ((x.k : Int) % 3 == 0) = true := by simp; omega
            have hU := fun W h9 => uintc_any w3.heap.size b (some (formV x ++ formsV (vs.drop (k + 1)))) W h9
            rw [(numV_form _ h0).1, (numV_form _ h0).2] at hU
            have HU := Lib.hid hU
            clear hU h0
            go_upto_region 17 with fail
            have hal := bel_new wr (.cells #[.int .u8 x.k, .int .i64 x.n, .string ⟨x.s.toArray⟩, .slice au x.L.length cu] 29)
            have hcA := HC.out.step hal
            have hyN : (wr.alloc (.cells #[.int .u8 x.k, .int .i64 x.n, .string ⟨x.s.toArray⟩, .slice au x.L.length cu] 29)).cell? ⟨wr.heap.size, 1, none⟩ = some (.int .i64 x.n) := by simp [go_sem]
            have hOA : Only b w3 (wr.alloc (.cells #[.int .u8 x.k, .int .i64 x.n, .string ⟨x.s.toArray⟩, .slice au x.L.length cu] 29)) := HO.out.bel hal hzw
            have HCA := Lib.hid hcA
            have HOA := Lib.hid hOA
            clear hal hcA hOA x0 x1 x2 x3
            generalize wr.alloc (.cells #[.int .u8 x.k, .int .i64 x.n, .string ⟨x.s.toArray⟩, .slice au x.L.length cu] 29) = WA at *
            go_region_held3 (fun w' => w'.cell? ⟨wr.heap.size, 1, none⟩ = some (.int .i64 x.n))
              ((repeat (with_reducible (first | assumption | refine keep_drew ?_ | refine keep_only ho5 hne ?_))))
              (first | (go_at_call 28; (with_reducible refine (HU.out _ HCA.out.drew).mono ?_); rintro e w5 ⟨rfl, hc5, ho5⟩) | (go_at_call 31; (with_reducible refine (clip62 _ _).mono ?_); rintro e w' ⟨rfl, rfl⟩))
            all_goals
              have hO5 := HOA.out.trans (Only.drew.trans ho5)
              have HO5 := Lib.hid hO5
              have HC5 := Lib.hid hc5
              clear hO5 hc5 ho5 hyN HCA HOA HU
              go_wp2_with fail
              go_roundw
              case rel => exact ⟨k + 1, by go_num, by omega, HC5.out, HO5.out⟩
              case measure => simp [intOf]; omega
          · have hb0 : ((x.k : Int) % 3 == 0) = false := by simp; omega
            by_cases h1 : x.k % 3 = 1
            · have hb1 : ((x.k : Int) % 3 == 1) = true := by simp; omega
              have hU := fun W h9 => textc_any w3.heap.size b (some (formV x ++ formsV (vs.drop (k + 1)))) W h9 HS9.out
              rw [(wordV_form _ HFX.out h1).1, (wordV_form _ HFX.out h1).2] at hU
              have HU := Lib.hid hU
              clear hU h0 h1
              go_upto_region 20 with fail
              have hal := bel_new wr (.cells #[.int .u8 x.k, .int .i64 x.n, .string ⟨x.s.toArray⟩, .slice au x.L.length cu] 29)
              have hcA := HC.out.step hal
              have hyN : (wr.alloc (.cells #[.int .u8 x.k, .int .i64 x.n, .string ⟨x.s.toArray⟩, .slice au x.L.length cu] 29)).cell? ⟨wr.heap.size, 2, none⟩ = some (.string ⟨x.s.toArray⟩) := by simp [go_sem]
              have hOA : Only b w3 (wr.alloc (.cells #[.int .u8 x.k, .int .i64 x.n, .string ⟨x.s.toArray⟩, .slice au x.L.length cu] 29)) := HO.out.bel hal hzw
              have HCA := Lib.hid hcA
              have HOA := Lib.hid hOA
              clear hal hcA hOA x0 x1 x2 x3
              generalize wr.alloc (.cells #[.int .u8 x.k, .int .i64 x.n, .string ⟨x.s.toArray⟩, .slice au x.L.length cu] 29) = WA at *
              go_region_held3 (fun w' => w'.cell? ⟨wr.heap.size, 2, none⟩ = some (.string ⟨x.s.toArray⟩))
                ((repeat (with_reducible (first | assumption | refine keep_drew ?_ | refine keep_only ho5 hne ?_))))
                (first | (go_at_call 29; (with_reducible refine (HU.out _ HCA.out.drew).mono ?_); rintro e w5 ⟨rfl, hc5, ho5⟩))
              all_goals
                have hO5 := HOA.out.trans (Only.drew.trans ho5)
                have HO5 := Lib.hid hO5
                have HC5 := Lib.hid hc5
                clear hO5 hc5 ho5 hyN HCA HOA HU
                go_wp2_with fail
                go_roundw
                case rel => exact ⟨k + 1, by go_num, by omega, HC5.out, HO5.out⟩
                case measure => simp [intOf]; omega
            · have hb1 : ((x.k : Int) % 3 == 1) = false := by simp; omega
              have hU := fun W h9 h8 => textsc_any w3.heap.size b (some (formV x ++ formsV (vs.drop (k + 1)))) W h9 HS9.out h8
              rw [Option.bind_some, wordsR_form _ HFX.out (by omega)] at hU
              have HU := Lib.hid hU
              clear hU h0 h1
              go_upto_region 14 with fail
              have hal := bel_new wr (.cells #[.int .u8 x.k, .int .i64 x.n, .string ⟨x.s.toArray⟩, .slice au x.L.length cu] 29)
              have hcA := HC.out.step hal
              have hyN : (wr.alloc (.cells #[.int .u8 x.k, .int .i64 x.n, .string ⟨x.s.toArray⟩, .slice au x.L.length cu] 29)).cell? ⟨wr.heap.size, 3, none⟩ = some (.slice au x.L.length cu) := by simp [go_sem]
              have hOA : Only b w3 (wr.alloc (.cells #[.int .u8 x.k, .int .i64 x.n, .string ⟨x.s.toArray⟩, .slice au x.L.length cu] 29)) := HO.out.bel hal hzw
              have HTA := Lib.hid (HT.out.step hal)
              have hCW : w3.heap.size ≤ (wr.alloc (.cells #[.int .u8 x.k, .int .i64 x.n, .string ⟨x.s.toArray⟩, .slice au x.L.length cu] 29)).drew.heap.size := Nat.le_trans hzw hal.size
              have HCA := Lib.hid hcA
              have HOA := Lib.hid hOA
              clear hal hcA hOA x0 x1 x2 x3
              generalize wr.alloc (.cells #[.int .u8 x.k, .int .i64 x.n, .string ⟨x.s.toArray⟩, .slice au x.L.length cu] 29) = WA at *
              go_region_held3 (fun w' => w'.cell? ⟨wr.heap.size, 3, none⟩ = some (.slice au x.L.length cu))
                ((repeat (with_reducible (first | assumption | refine keep_drewN ?_ | refine keep_drew ?_ | refine keep_only ho5 hne ?_))))
                (first | (go_at_call 30; (with_reducible refine (HU.out _ HCA.out.drew hCW).mono ?_); rintro e w5 ⟨u5, rfl, hT5, hsh5, hc5, ho5⟩; obtain ⟨a5', c5', n5', rfl⟩ := hsh5; have HT5 := Lib.hid hT5; clear hT5; have HT6 := Lib.hid (IsT.only HTA.out.drew ho5 HCA.out.drew.noS)) | (go_at_call 32; (with_reducible refine (texts_same _ _ _ _ HT5.out HT6.out).mono ?_); rintro e w7 ⟨rfl, nd, rfl⟩))
              all_goals
                have hO5 := (HOA.out.trans (Only.drew.trans ho5)).trans (Only.of_below (bel_draws (Below.refl _ _) nd))
                have HO5 := Lib.hid hO5
                have HC5 := Lib.hid (hc5.drewN nd)
                clear hO5 hc5 ho5 hyN HCA HOA HU HT5 HT6 HTA
                generalize w5.drewN nd = w5 at *
                go_wp2_with fail
                go_roundw
                case rel => exact ⟨k + 1, by go_num, by omega, HC5.out, HO5.out⟩
                case measure => simp [intOf]; omega
        · obtain rfl : k = vs.length := by omega
          rw [List.drop_length] at HC
          obtain ⟨we, rfl⟩ : ∃ we : World, we = wr := ⟨_, rfl⟩
          have HC : Hid (CurO w3.heap.size we b (some [])) := HC
          by_cases hvn : vs = []
          · subst hvn
            go_wp2_with (first | (go_at_call 27; refine (errc_yes _ b [] _ HC.out).mono ?_; rintro e w' ⟨rfl, rfl⟩) | (go_at_call 25; refine (leftc_zero _ b _ HC.out).mono ?_; rintro e w' ⟨rfl, rfl⟩))
            go_ret
            exact ⟨rfl, HBR.out⟩
          · have hv0 : 0 < vs.length := by
              rcases Nat.eq_zero_or_pos vs.length with h | h
              · exact absurd (List.eq_nil_of_length_eq_zero h) hvn
              · exact h
            obtain ⟨gv, off, cv, x, hv, hkx, hat⟩ := (HA.out.step HBR.out).elem hv0
            simp only [Value.slice.injEq] at hv
            obtain ⟨rfl, _, rfl⟩ := hv
            obtain ⟨hk256, x0, x1, x2, u, x3, hT⟩ := hat
            simp only [Nat.zero_mul, Nat.add_zero] at x0 x1 x2 x3
            have hlx : lenV x ≤ 3000 := by have := sizeV_mem (List.mem_of_getElem? hkx); have := HS.out; omega
            have hlf := formV_len x
            have hP := fun W h8 => put_any (.slice none 0 0) u [] x W (IsB.nil W) h8 hk256 (by simp only [List.length_nil]; omega)
            have HP := Lib.hid hP
            have HT := Lib.hid hT
            obtain ⟨au, cu, rfl⟩ := hT.shape
            have hve : ((vs.length : Int) == 0) = false := by simp; exact hvn
            have hfp := forms_pos hvn
            have hfp1 : (1 : Int) ≤ ((formsV vs).length : Int) := by omega
            have hfp2 : ((formsV vs).length : Int) ≤ 3000 := by have := HFL.out; omega
            have hfp3 : ((formsV vs).length : Int) ≤ (c5 : Int) := by omega
            have hfp4 : (((formsV vs).length : Int) - 1).toNat = (formsV vs).length - 1 := by omega
            have HCUTL := Lib.hid (nexts_cut vs hvn HFIT.out)
            have hv0i : (0 : Int) < (vs.length : Int) := by omega
            clear hP hT hkx hvn hfp
            go_wp2_with (first | (go_at_call 27; refine (errc_yes _ b [] _ HC.out).mono ?_; rintro e w' ⟨rfl, rfl⟩) | (go_at_call 25; refine (leftc_zero _ b _ HC.out).mono ?_; rintro e w' ⟨rfl, rfl⟩))
            refine (HP.out _ HT.out).mono ?_
            rintro e w5 ⟨v5, rfl, ho5, hb5⟩
            rw [List.nil_append] at ho5
            obtain ⟨g5, cp5, rfl, hg51, hg52⟩ := ho5.shape (formV_ne x)
            have hn1 : 1 ≤ (formV x).length := by
              rcases Nat.eq_zero_or_pos (formV x).length with h | h
              · exact absurd (List.eq_nil_of_length_eq_zero h) (formV_ne x)
              · exact h
            have HI5 := Lib.hid ho5.isB
            have hcut := HI5.out.cutif 1 hn1
            have HCUT := Lib.hid hcut
            obtain ⟨_, _, hv5, hcp5, _, _⟩ := HI5.out.shape
            simp only [Value.slice.injEq] at hv5
            obtain ⟨rfl, hjunk, rfl⟩ := hv5
            have HLX := Lib.hid hlx
            clear hjunk hcut ho5 hlx hlf
            have hni : (1 : Int) ≤ ((formV x).length : Int) := by omega
            have hcpi : ((formV x).length : Int) ≤ (cp5 : Int) := by omega
            have hcc : (cp5 = 1 ∧ IsB w5 (.slice (some ⟨g5, 0, none⟩) ((formV x).length - 1) 0) ((formV x).drop 1)) ∨ (cp5 ≠ 1 ∧ IsB w5 (.slice (some ⟨g5, 1, none⟩) ((formV x).length - 1) (cp5 - 1)) ((formV x).drop 1)) := by
              have h9 := HCUT.out
              by_cases hc : cp5 = 1
              · rw [if_pos hc, show cp5 - 1 = 0 by omega] at h9
                exact .inl ⟨hc, h9⟩
              · rw [if_neg hc] at h9
                exact .inr ⟨hc, by simpa [Addr.add] using h9⟩
            have hd9 : ((formV x).drop 1).length ≤ 3000 := by have := formV_len x; have := HLX.out; simp; omega
            have hB5 : Below w.heap.size w w5 := bel_step HBR.out hb5
            have hO5 := HO.out.bel hb5 hzw
            have HB5 := Lib.hid hB5
            have HO5 := Lib.hid hO5
            have hz5 : w3.heap.size ≤ w5.heap.size := hO5.size
            have hnbe := HC.out.noB
            have HIB5 := Lib.hid ((HIB.out.onlyN HO.out HCU3.out.noB).step hb5)
            clear hnbe hn1 hcp5 hB5 hO5 hb5 HI5 HCUT HP HT
            have HD9 := Lib.hid hd9
            clear hd9
            generalize (formV x).length = n at *
            generalize (formV x).drop 1 = fd at *
            rcases hcc with ⟨rfl, hJ⟩ | ⟨hcc, hJ⟩
            all_goals
              have HJ := Lib.hid hJ
              clear hJ
              go_wp2_with fail
              refine (read_hi _ fd _ HJ.out (by have := HD9.out; omega)).mono ?_
              rintro e w6 ⟨b6, a6, c6, rfl, hb6z, _, _, _, hb6⟩
              have HB6 := Lib.hid (bel_step HB5.out hb6)
              have HIB6 := Lib.hid (HIB5.out.step hb6)
              clear hb6
              have hcu7 := HIB6.out.upto ((formsV vs).length - 1) (by omega)
              rw [← List.dropLast_eq_take] at hcu7
              have hdl : ((formsV vs).dropLast).length ≤ 3000 := by have := HFL.out; simp; omega
              have HCU7 := Lib.hid hcu7
              have HDL := Lib.hid hdl
              clear hcu7 hdl
              go_wp2_with fail
              refine (read_hi _ (formsV vs).dropLast _ HCU7.out (by have := HDL.out; omega)).mono ?_
              rintro e w7 ⟨b7, a7, c7, rfl, hb7z, hx7, hI7, hH7, hb7⟩
              have hc7 : CurO w7.heap.size w7 b7 (some (formsV vs).dropLast) := ⟨a7, c7, hx7, hI7, fun hl0 => by obtain ⟨g, off, e, _, h⟩ := hH7 hl0; exact ⟨g, off, e, h⟩⟩
              have HC7 := Lib.hid hc7
              have HB7 := Lib.hid (bel_step HB6.out hb7)
              have hz7 : w.heap.size ≤ b7 := Nat.le_trans HB6.out.size hb7z
              have hz77 : w.heap.size ≤ w7.heap.size := HB7.out.size
              clear hb7 hc7 hx7 hI7 hH7 x0 x1 x2 x3 HIB6 HIB5 HJ HCU7 HB6 HB5 HO5
              go_wp2_with fail
              go_loopw [10] (fun i wr => ∃ (k : Nat), i = .int .i64 k ∧ k ≤ vs.length ∧ CurO w7.heap.size wr b7 (nextsO (vs.take k) (some (formsV vs).dropLast)) ∧ shortO (nextsO (vs.take k) (some (formsV vs).dropLast)) ∧ Only b7 w7 wr) (fun i _ => vs.length - (intOf i).toNat)
              case atStart => exact ⟨0, rfl, Nat.zero_le _, by simpa [nextsO] using HC7.out, (fun l hl => by simp [nextsO] at hl; subst hl; have := HDL.out; omega), Only.refl _ _⟩
              case round =>
                obtain ⟨k, rfl, hk, hC8, hS8, hO8⟩ := hrel
                have HC8 := Lib.hid hC8
                have HS8 := Lib.hid hS8
                have HO8 := Lib.hid hO8
                have HB8 := Lib.hid (HB7.out.trans (hO8.below hz7 hz77))
                have hzw8 : w7.heap.size ≤ wr.heap.size := hO8.size
                clear hC8 hS8 hO8
                by_cases hlt : k < vs.length
                · obtain ⟨gv', off', cv', y, hv, hky, hat⟩ := (HA.out.step HB8.out).elem hlt
                  simp only [Value.slice.injEq, Option.some.injEq, Addr.mk.injEq] at hv
                  obtain ⟨⟨rfl, rfl, hjunk⟩, hjunk2, rfl⟩ := hv
                  clear hjunk hjunk2
                  obtain ⟨hk256', y0, y1, y2, u', y3, hT'⟩ := hat
                  have HNT := Lib.hid (nexts_take hky (some (formsV vs).dropLast))
                  have hki : (y.k : Int) < 256 := by omega
                  have hki0 : (0 : Int) ≤ (y.k : Int) := by omega
                  have hk0 : (0 : Int) ≤ (k : Int) := by omega
                  have hk1 : (k : Int) < (vs.length : Int) := by omega
                  clear hky hT' y1 y2 y3
                  generalize nextsO (vs.take k) (some (formsV vs).dropLast) = o8 at *
                  by_cases h0 : y.k % 3 = 0
                  · have hb0 : ((y.k : Int) % 3 == 0) = true := by simp; omega
                    have HE := Lib.hid (show nextO y.k o8 = numO o8 by unfold nextO; rw [if_pos h0])
                    clear h0
                    go_wp2_with (go_at_call 28; refine (uintc_any _ b7 o8 _ HC8.out).mono ?_; rintro e w9 ⟨rfl, hc9, ho9⟩)
                    go_roundw
                    case rel => exact ⟨k + 1, by go_num, by omega, by rw [HNT.out, HE.out]; exact hc9, by rw [HNT.out]; exact HS8.out.after, HO8.out.trans ho9⟩
                    case measure => simp [intOf]; omega
                  · have hb0 : ((y.k : Int) % 3 == 0) = false := by simp; omega
                    by_cases h1 : y.k % 3 = 1
                    · have hb1 : ((y.k : Int) % 3 == 1) = true := by simp; omega
                      have HE := Lib.hid (show nextO y.k o8 = wordO o8 by unfold nextO; rw [if_neg h0, if_pos h1])
                      clear h0 h1
                      go_wp2_with (go_at_call 29; refine (textc_any _ b7 o8 _ HC8.out HS8.out).mono ?_; rintro e w9 ⟨rfl, hc9, ho9⟩)
                      go_roundw
                      case rel => exact ⟨k + 1, by go_num, by omega, by rw [HNT.out, HE.out]; exact hc9, by rw [HNT.out]; exact HS8.out.after, HO8.out.trans ho9⟩
                      case measure => simp [intOf]; omega
                    · have hb1 : ((y.k : Int) % 3 == 1) = false := by simp; omega
                      have HE := Lib.hid (show nextO y.k o8 = (o8.bind wordsR).map (·.2) by unfold nextO; rw [if_neg h0, if_neg h1])
                      clear h0 h1
                      go_wp2_with (go_at_call 30; refine (textsc_any _ b7 o8 _ HC8.out HS8.out hzw8).mono ?_; rintro e w9 ⟨u9, rfl, _, _, hc9, ho9⟩)
                      go_roundw
                      case rel => exact ⟨k + 1, by go_num, by omega, by rw [HNT.out, HE.out]; exact hc9, by rw [HNT.out]; exact HS8.out.after, HO8.out.trans ho9⟩
                      case measure => simp [intOf]; omega
                · obtain rfl : k = vs.length := by omega
                  have hC8 : CurO w7.heap.size wr b7 none := by
                    have h9 := HC8.out
                    rw [List.take_length, HCUTL.out] at h9
                    exact h9
                  have HC8 := Lib.hid hC8
                  clear hC8 HS8
                  go_wp2_with (first | (go_at_call 27; refine (errc_no _ b7 _ HC8.out).mono ?_; rintro e w' ⟨rfl, rfl⟩) | (go_at_call 26; refine (is_yes 2 (by decide) _).mono ?_; rintro e w' ⟨rfl, rfl⟩) | (go_at_call 25; refine (leftc_no _ b7 _ HC8.out).mono ?_; rintro e w' ⟨rfl, rfl⟩) | (go_at_call 28; refine (uintc_none _ b7 _ HC8.out).mono ?_; rintro e w9 ⟨rfl, hc9, ho9⟩; have HC9 := Lib.hid hc9; clear hc9) | (go_at_call 29; refine (textc_none _ b7 _ HC9.out).mono ?_; rintro e w10 ⟨rfl, hc10, ho10⟩; have HC10 := Lib.hid hc10; clear hc10) | (go_at_call 30; refine (textsc_none _ b7 _ HC10.out (by have := ho9.size; have := ho10.size; omega)).mono ?_; rintro e w11 ⟨a11, c11, rfl, hc11, ho11⟩))
                  go_ret
                  exact ⟨rfl, HB8.out.trans (((ho9.trans ho10).trans ho11).below hz7 HB8.out.size)⟩
end Go.Proofs.Ytnieoaadhbcjiaa
