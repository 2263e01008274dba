/- The walk of the law UsageSpoiled. No condition beyond that the entries are values. -/
import Derived.Test.YtdkaapkehmjepaaOther
namespace Go.Proofs.Ytdkaapkehmjepaa
open Go.RowKit
set_option linter.unusedVariables false
set_option linter.unusedSimpArgs false

theorem OwnB.at {w : World} {base g n cap : Nat} {L : List UInt8} (h : OwnB w base (.slice (some ⟨g, 0, none⟩) n cap) L) (hn : n = L.length) (j : Nat) (hj : j < L.length) : w.cell? ⟨g, j, none⟩ = some (.int .u8 ((L.getD j 0).toNat : Int)) ∧ w.frozen? ⟨g, j, none⟩ = false := by
  subst hn
  refine ⟨?_, World.ownsRow.frozenAt h j⟩
  rw [World.ownsRow.cellAt h j (by omega), List.getElem?_map]
  simp [List.getElem?_eq_getElem hj, List.getD, bcell]
theorem OwnB.put {w : World} {base g n cap : Nat} {L : List UInt8} (h : OwnB w base (.slice (some ⟨g, 0, none⟩) n cap) L) (hn : n = L.length) (j : Nat) (x : Int) (c : UInt8) (hx : x = (c.toNat : Int)) : OwnB (w.setCell ⟨g, j, none⟩ (.int .u8 x)) base (.slice (some ⟨g, 0, none⟩) n cap) (L.set j c) := by
  subst hx hn
  have h9 := World.ownsRow.stored h j (.int .u8 (c.toNat : Int))
  unfold OwnB
  rw [List.length_set, List.map_set]
  exact h9.1
theorem IsE.drew {w : World} {v : Value} {es : List Ent} (h : IsE w v es) : IsE w.drew v es := h
theorem IsE.onlyAt {w w' : World} {v : Value} {es : List Ent} {b B : Nat} (h : IsE w v es) (hb : Below B w w') (hB : es ≠ [] → ∃ g o n c, v = .slice (some ⟨g, o, none⟩) n c ∧ g < B) : IsE w' v es := by
  rcases h with h | ⟨h0, g, o, cap, rfl, h1, h2, hc⟩
  · exact .inl h
  · obtain ⟨g', o', n', c', hv, hlt⟩ := hB h0
    simp only [Value.slice.injEq, Option.some.injEq, Addr.mk.injEq] at hv
    obtain ⟨⟨rfl, rfl, _⟩, _, _⟩ := hv
    refine .inr ⟨h0, g, o, cap, rfl, h1, h2, fun k e hk => ?_⟩
    obtain ⟨x0, x1, x2, x3, x4, x5, x6⟩ := hc k e hk
    have kp : ∀ o v, w.cell? ⟨g, o, none⟩ = some v → w'.cell? ⟨g, o, none⟩ = some v := fun o v h => (World.cell?_of_block (hb.block g hlt)).trans h
    exact ⟨kp _ _ x0, kp _ _ x1, kp _ _ x2, kp _ _ x3, kp _ _ x4, kp _ _ x5, kp _ _ x6⟩
theorem spoil_law (L : List Ent) (n i : Nat) (c : UInt8) (hL : ∀ e ∈ L, codeE e = 0) (hs : sizeK L n ≤ i) :
    ∃ D1 D2, (decsP ((L.flatMap recE).set i c)).1 = L.take n ++ D1 ∧ (decsP ((L.flatMap recE).set i c)).2 = sizeK L n + D2 ∧ (D1 = [] → D2 = 0) := by
  have hT : ∀ e ∈ L.take n, codeE e = 0 := fun e he => hL e (List.mem_of_mem_take he)
  have e1 : (L.flatMap recE).set i c = (L.take n).flatMap recE ++ ((L.drop n).flatMap recE).set (i - sizeK L n) c := by
    conv => lhs; rw [split_at L n]
    rw [List.set_append_right _ _ (by exact hs)]
    rfl
  rw [e1, decs_app _ _ hT]
  refine ⟨_, _, rfl, rfl, fun h => ?_⟩
  cases he : entP (((L.drop n).flatMap recE).set (i - sizeK L n) c) with
  | none => rw [decsP_none he]
  | some x =>
    obtain ⟨e, s⟩ := x
    rw [decsP_some he] at h
    simp at h
theorem recs_ge (es : List Ent) : es.length ≤ (es.flatMap recE).length := by
  induction es with
  | nil => simp
  | cons e es ih =>
    have : 5 ≤ (recE e).length := by unfold recE; rw [encP_len]; have := numB_ne e.seq.toNat; have h1 := List.length_pos_iff.2 this; have := List.length_pos_iff.2 (numB_ne (payE e).length); omega
    simp only [List.flatMap_cons, List.length_append, List.length_cons]
    omega

set_option maxRecDepth 100000 in
set_option maxHeartbeats 4000000 in
theorem usageSpoiled_walk (v : Value) (es : List Ent) (at' : Int) (c : UInt8) (w : World) (h : IsE w v es) (hf : ∀ e ∈ es, FitE e) :
    Calls Try.prog 9 #[v, .int .i64 at', .int .u8 c.toNat] w fun r w' => r = .returned (.bool true) ∧ Below w.heap.size w w' := by
  obtain ⟨a, cap, rfl, hc1, hc2⟩ := h.shape
  have H := Lib.hid h
  have HF := Lib.hid hf
  clear h hf hc1 hc2
  by_cases hl : 50 < es.length
  · have hl' : (50 : Int) < (es.length : Int) := by omega
    clear hl
    go_enter Try.func9, Try.ntmps9
    go_wp2_with (go_at_call 12; refine (awake_any _).mono ?_; rintro r w1 ⟨rfl, hb1⟩)
    go_ret
    exact ⟨rfl, hb1⟩
  · have hl' : (es.length : Int) ≤ 50 := by omega
    have HVAL := Lib.hid (fun W (h : IsE W (.slice a es.length cap) es) => valid_any _ es W h HF.out (by omega))
    have hVL := vals_len es
    have hOK := vals_ok es
    have HOK := Lib.hid hOK
    have HE := Lib.hid (fun v W h => encs_any v (vals es) W h (fun e he => fit_ok (hOK e he)) (by omega))
    have hcode := encsC_all _ hOK
    have hbytes := encsB_ok hOK
    rw [hcode, hbytes, show errV 0 = .nilIface from rfl] at HE
    have hrl := recs_len _ hOK
    have hrg := recs_ge (vals es)
    clear hOK hcode hbytes
    have hLL : (vals es).length ≤ 50 := by omega
    have hLL' : ((vals es).length : Int) ≤ 50 := by omega
    clear hVL
    generalize hLe : vals es = L at *
    have hBL : (L.flatMap recE).length ≤ 6000 := by omega
    have HSA := Lib.hid (sizeK_all L)
    have HSPL := Lib.hid (fun n i hs => spoil_law L n i c HOK.out hs)
    clear hLe hrl
    by_cases hL0 : L = []
    · subst hL0
      rw [List.flatMap_nil] at HE
      go_enter Try.func9, Try.ntmps9
      go_upto_region 3 with (go_at_call 12; refine (awake_any _).mono ?_; rintro r w1 ⟨rfl, hb1⟩)
      have HB1 := Lib.hid hb1
      clear hb1
      go_upto_region 4 with (go_at_call 27; refine (HVAL.out _ (H.out.step HB1.out)).mono ?_; rintro r w2 ⟨u2, rfl, ho2, hb2⟩; obtain ⟨a2, c2, rfl⟩ := ho2.shape)
      have HB2 := Lib.hid (bel_step HB1.out hb2)
      have HI2 := Lib.hid ho2.isE
      clear hb2 ho2 HB1
      go_wp2_with (go_at_call 24; refine (HE.out _ _ HI2.out).mono ?_; rintro r w3 ⟨u3, rfl, ho3, hb3⟩; obtain ⟨a3, c3, rfl, _, _, _⟩ := ho3.isB.shape)
      go_ret
      exact ⟨rfl, bel_step HB2.out hb3⟩
    · have hLpos := List.length_pos_iff.2 hL0
      have hb0 : L.flatMap recE ≠ [] := fun h => by rw [h] at hrg; simp at hrg; exact hL0 hrg
      generalize hbe : L.flatMap recE = b at *
      have hbpos := List.length_pos_iff.2 hb0
      obtain ⟨i, hi⟩ : ∃ i : Nat, max 0 (min at' ((b.length : Int) - 1)) = (i : Int) := ⟨(max 0 (min at' ((b.length : Int) - 1))).toNat, by omega⟩
      have HC := Lib.hid (fun W => clip_any at' 0 ((b.length : Int) - 1) W)
      rw [hi] at HC
      have hib : i < b.length := by omega
      have hib' : (i : Int) < (b.length : Int) := by omega
      have hi0 : (0 : Int) ≤ (i : Int) := by omega
      have hbz : ¬ b.length = 0 := by omega
      have hbzI : ((b.length : Int) == 0) = false := by simp; exact hb0
      have hB6 : (b.length : Int) ≤ 6000 := by omega
      have hb1I : (1 : Int) ≤ (b.length : Int) := by omega
      have HB0 := Lib.hid hb0
      have HSPI := Lib.hid (fun n hs => HSPL.out n i hs)
      clear hbe hi hL0 hb0 HSPL
      go_enter Try.func9, Try.ntmps9
      go_upto_region 3 with (go_at_call 12; refine (awake_any _).mono ?_; rintro r w1 ⟨rfl, hb1⟩)
      have HB1 := Lib.hid hb1
      clear hb1
      go_upto_region 4 with (go_at_call 27; refine (HVAL.out _ (H.out.step HB1.out)).mono ?_; rintro r w2 ⟨u2, rfl, ho2, hb2⟩; obtain ⟨a2, c2, rfl⟩ := ho2.shape)
      have HB2 := Lib.hid (bel_step HB1.out hb2)
      obtain ⟨g2, q2, hv2, hg2⟩ := ho2.form (by omega)
      simp only [Value.slice.injEq] at hv2
      obtain ⟨rfl, _, rfl⟩ := hv2
      have HO2 := Lib.hid ho2
      have hg2lt : g2 < w2.heap.size := (World.ownsRow.lt ho2 g2 rfl).2
      have hsh := ho2.isE.shape
      obtain ⟨_, q9, hcv, hcl, _⟩ := hsh
      simp only [Value.slice.injEq] at hcv
      obtain ⟨rfl, _, rfl⟩ := hcv
      clear hb2 ho2 HB1
      go_upto_region 5 with (go_at_call 24; refine (HE.out _ _ HO2.out.isE).mono ?_; rintro r w3 ⟨u3, rfl, ho3, hb3⟩; obtain ⟨g3, c3, rfl, hg3, hg3lt⟩ := OwnB.shape ho3 HB0.out)
      have HB3 := Lib.hid (bel_step HB2.out hb3)
      have HO3 := Lib.hid ho3
      have HL3 := Lib.hid (HO2.out.step hb3)
      have hsh3 := ho3.isB.shape
      obtain ⟨_, _, hcv, hq3, _, _⟩ := hsh3
      simp only [Value.slice.injEq] at hcv
      obtain ⟨rfl, _, rfl⟩ := hcv
      have hq3' : (b.length : Int) ≤ (c3 : Int) := by omega
      obtain ⟨k0, k1⟩ := ho3.at rfl i hib
      have hput := ho3.put rfl i (c.toNat : Int) c rfl
      have HPUT := Lib.hid hput
      have hw23 : w2.heap.size ≤ w3.heap.size := hb3.size
      have hww2 : w.heap.size ≤ w2.heap.size := HB2.out.size
      clear hb3 ho3 HB2 HO2 hput
      go_upto_region 8 with (go_at_call 28; refine (HC.out _).mono ?_; rintro r w4 ⟨rfl, rfl⟩)
      generalize hz : ((b.getD i 0).toNat : Int) = z at *
      by_cases hzc : z = (c.toNat : Int)
      · subst hzc
        clear hz
        go_wp2_with fail
        go_ret
        exact ⟨rfl, HB3.out⟩
      · have hzb : (z == (c.toNat : Int)) = false := by simpa using hzc
        clear hz
        go_upto_region 11 with fail
        have HB4 := Lib.hid (HB3.out.trans ((Only.set (b := g3) (k := i) (u := .int .u8 (c.toNat : Int)) (w := w3)).below (B := w.heap.size) (by omega) (by omega)))
        have HL4 := Lib.hid ((HL3.out.only2 (Only.set (b := g3) (k := i) (u := .int .u8 (c.toNat : Int)) (w := w3)) (by simp [Value.ownBlock]; omega)).isE)
        clear HB3 HL3 HO3 k0 k1
        generalize w3.setCell ⟨g3, i, none⟩ (.int .u8 (c.toNat : Int)) = w4 at *
        have HD := Lib.hid (fun v W (h : IsB W v (b.set i c)) => decs_any v (b.set i c) W h (by rw [List.length_set]; omega))
        generalize hG : (decsP (b.set i c)).1 = G at *
        generalize hK : (decsP (b.set i c)).2 = K at *
        clear hG hK
        go_wp2_with (go_at_call 29; refine (HD.out _ _ HPUT.out.isB).mono ?_; rintro r w5 ⟨u5, rfl, ho5, hb5⟩; obtain ⟨a5, c5, rfl⟩ := ho5.shape)
        have HB5 := Lib.hid (bel_step HB4.out hb5)
        have HL5 := Lib.hid (HL4.out.step hb5)
        have HG5 := Lib.hid ho5.isE
        have hsh5 := ho5.isE.shape
        obtain ⟨_, _, hcv, hq5, _⟩ := hsh5
        simp only [Value.slice.injEq] at hcv
        obtain ⟨rfl, _, rfl⟩ := hcv
        clear hb5 ho5 HB4 HL4 HPUT
        have hz5 : w.heap.size ≤ w5.heap.size := HB5.out.size
        go_loopw [12, 66] (fun size i' wr => ∃ k : Nat, i' = .int .i64 k ∧ size = .int .i64 (sizeK L k) ∧ k ≤ L.length ∧ sizeK L k ≤ i ∧ Below w5.heap.size w5 wr) (fun _ i' _ => L.length - (intOf i').toNat)
        case atStart => exact ⟨0, rfl, rfl, Nat.zero_le _, Nat.zero_le _, Below.refl _ _⟩
        case round =>
          obtain ⟨k, rfl, rfl, hk, hsn, hB⟩ := hrel
          have HB := Lib.hid hB
          have hzr : w5.heap.size ≤ wr.heap.size := hB.size
          clear hB
          have hlt : k < L.length := by
            rcases Nat.lt_or_ge k L.length with h | h
            · exact h
            · obtain rfl : k = L.length := by omega
              have := HSA.out
              omega
          obtain ⟨D1, D2, hD1, hD2, hD3⟩ := HSPI.out k hsn
          have HDD := Lib.hid (And.intro hD1 (And.intro hD2 hD3))
          clear hD1 hD2 hD3
          obtain ⟨g, o, cap', e, hv, hek, hat⟩ := (HL5.out.step HB.out).elem hlt
          simp only [Value.slice.injEq, Option.some.injEq, Addr.mk.injEq] at hv
          obtain ⟨⟨rfl, rfl, _⟩, _, rfl⟩ := hv
          have hce := HOK.out e (List.mem_of_getElem? hek)
          have HEK := Lib.hid hek
          have HSM := Lib.hid (sizeK_more hek)
          have hre := recE_len hce
          have HONE := Lib.hid (fun W => one_any e W hce)
          obtain ⟨x0, x1, x2, x3, x4, x5, x6⟩ := hat
          simp only [Nat.zero_add] at x0 x1 x2 x3 x4 x5 x6
          have hq0 : (0 : Int) ≤ (k : Int) := by omega
          have hq1 : (k : Int) < (L.length : Int) := by omega
          unfold Ent.val at *
          clear hek hce
          go_upto_region 16 with fail
          have hbx := EntAt.box wr e
          have hn1 := bel_new wr (.cells #[.string ⟨e.node.toArray⟩, .int .i64 e.boot, .int .i64 e.seq, .int .i64 e.ten, .int .i64 e.hits, .int .i64 e.bytes, .int .i64 e.att] 23)
          have HB6 := Lib.hid (HB.out.trans (hn1.mono hzr))
          have HBX := Lib.hid hbx
          obtain ⟨y0, y1, y2, y3, y4, y5, y6⟩ := hbx
          simp only [Nat.zero_add] at y0 y1 y2 y3 y4 y5 y6
          clear hn1 x0 x1 x2 x3 x4 x5 x6 HB
          generalize wr.alloc (.cells #[.string ⟨e.node.toArray⟩, .int .i64 e.boot, .int .i64 e.seq, .int .i64 e.ten, .int .i64 e.hits, .int .i64 e.bytes, .int .i64 e.att] 23) = W1 at *
          have hr5 : 5 ≤ (recE e).length := hre.2
          have hr120 : (recE e).length ≤ 120 := hre.1
          have hsz6 : (sizeK L k : Int) ≤ 6000 := by omega
          clear hre
          by_cases hbrk : i < sizeK L k + (recE e).length
          · have hbrkI : (i : Int) < (sizeK L k : Int) + ((recE e).length : Int) := by omega
            go_upto_region 17 with (go_at_call 25; refine (HONE.out _).mono ?_; rintro r W2 ⟨v3, rfl, ho3, hb3⟩; obtain ⟨a4, c4, rfl, _⟩ := ho3.isB.shape)
            have HB7 := Lib.hid (HB6.out.trans (hb3.mono HB6.out.size))
            obtain ⟨hD1, hD2, hD3⟩ := HDD.out
            have hlk : (L.take k).length = k := by rw [List.length_take]; omega
            have hGl : G.length = k + D1.length := by rw [hD1, List.length_append, hlk]
            have hgk : k ≤ G.length := by omega
            have hup := (HG5.out.step HB7.out).upto k hgk
            have hGt : G.take k = L.take k := by rw [hD1, List.take_append_of_le_length (by omega), List.take_of_length_le (by omega)]
            rw [hGt] at hup
            have HIG := Lib.hid hup
            have HIL := Lib.hid ((HL5.out.step HB7.out).upto k hk)
            have hq5' : (k : Int) ≤ (c5 : Int) := by omega
            have hcl' := Int.ofNat_le.2 (Nat.le_trans hk hcl)
            have hgI : (k : Int) ≤ (G.length : Int) := by omega
            have hKI : (sizeK L k : Int) ≤ (K : Int) := by omega
            have hkn : k ≤ 50 := by omega
            clear hb3 ho3 y0 y1 y2 y3 y4 y5 y6 HB6 HBX hup hGt hlk
            by_cases hD0 : D1 = []
            · have hD20 := hD3 hD0
              have hgI2 : ¬ (k : Int) < (G.length : Int) := by rw [hGl, hD0]; simp
              have hKe : ((K : Int) == (sizeK L k : Int)) = true := by simp; omega
              have hKe2 : (K : Int) = (sizeK L k : Int) := by omega
              clear hD0 hD1 hD2 hD3 hD20 hGl hKe2
              go_quiet ((go_at_call 18; exact same_quiet _ _ _ _ _ HIG.out HIL.out (by rw [List.length_take]; omega)))
              go_wp2_with fail
              go_ret
              exact ⟨by simp, bel_drewN (HB5.out.trans (HB7.out.mono hz5))⟩
            · have hDp := List.length_pos_iff.2 hD0
              have hgI2 : (k : Int) < (G.length : Int) := by omega
              clear hD0 hD1 hD2 hD3 hGl hDp
              go_quiet ((go_at_call 18; exact same_quiet _ _ _ _ _ HIG.out HIL.out (by rw [List.length_take]; omega)))
              go_wp2_with fail
              go_ret
              exact ⟨by simp, bel_drewN (HB5.out.trans (HB7.out.mono hz5))⟩
          · have hbrkI : (sizeK L k : Int) + ((recE e).length : Int) ≤ (i : Int) := by omega
            have hrlI : ((recE e).length : Int) ≤ 120 := by omega
            go_upto_region 18 with (go_at_call 25; refine (HONE.out _).mono ?_; rintro r W2 ⟨v3, rfl, ho3, hb3⟩; obtain ⟨a4, c4, rfl, _⟩ := ho3.isB.shape)
            have HB7 := Lib.hid (HB6.out.trans (hb3.mono HB6.out.size))
            obtain ⟨y0, y1, y2, y3, y4, y5, y6⟩ := HBX.out.step hb3
            simp only [Nat.zero_add] at y0 y1 y2 y3 y4 y5 y6
            clear hb3 ho3
            go_wp2_with (go_at_call 25; refine (HONE.out _).mono ?_; rintro r W3 ⟨v4, rfl, ho4, hb4⟩; obtain ⟨a5', c5', rfl, _⟩ := ho4.isB.shape)
            have HB8 := Lib.hid (HB7.out.trans (hb4.mono HB7.out.size))
            go_roundw
            case rel => exact ⟨k + 1, by go_num, by rw [HSM.out]; go_num, by omega, by rw [HSM.out]; omega, HB8.out⟩
            case measure => simp [intOf]; omega
end Go.Proofs.Ytdkaapkehmjepaa
