/- The walk of hop.Encode, whole. No condition beyond lengths that memory allows. -/
import Derived.Test.YtbfpjldincnihaaEnc
namespace Go.Proofs.Ytbfpjldincnihaa
open Go.RowKit
set_option linter.unusedVariables false
set_option linter.unusedSimpArgs false

/-- A block that holds a message. -/
def MCells (w : World) (b : Nat) (k id nm tt of : Int) (tx : List UInt8) (lv dv : Value) : Prop :=
  w.cell? ⟨b, 0, none⟩ = some (.int .i64 k) ∧ w.cell? ⟨b, 1, none⟩ = some (.int .i64 id) ∧ w.cell? ⟨b, 2, none⟩ = some (.int .i64 nm) ∧ w.cell? ⟨b, 3, none⟩ = some (.int .i64 tt) ∧
  w.cell? ⟨b, 4, none⟩ = some (.int .i64 of) ∧ w.cell? ⟨b, 5, none⟩ = some (.string ⟨tx.toArray⟩) ∧ w.cell? ⟨b, 6, none⟩ = some lv ∧ w.cell? ⟨b, 7, none⟩ = some dv
theorem MCells.step {w w' : World} {b : Nat} {k id nm tt of : Int} {tx : List UInt8} {lv dv : Value} (h : MCells w b k id nm tt of tx lv dv) (hb : Below w.heap.size w w') : MCells w' b k id nm tt of tx lv dv := by
  obtain ⟨h0, h1, h2, h3, h4, h5, h6, h7⟩ := h
  exact ⟨keep_at hb h0, keep_at hb h1, keep_at hb h2, keep_at hb h3, keep_at hb h4, keep_at hb h5, keep_at hb h6, keep_at hb h7⟩
theorem MCells.box (w : World) (k id nm tt of : Int) (tx : List UInt8) (lv dv : Value) : MCells (w.alloc (.cells #[.int .i64 k, .int .i64 id, .int .i64 nm, .int .i64 tt, .int .i64 of, .string ⟨tx.toArray⟩, lv, dv] 25)) w.heap.size k id nm tt of tx lv dv := by
  have hc : ∀ j v, (#[.int .i64 k, .int .i64 id, .int .i64 nm, .int .i64 tt, .int .i64 of, .string ⟨tx.toArray⟩, lv, dv] : Array Value)[j]? = some v → (w.alloc (.cells #[.int .i64 k, .int .i64 id, .int .i64 nm, .int .i64 tt, .int .i64 of, .string ⟨tx.toArray⟩, lv, dv] 25)).cell? ⟨w.heap.size, j, none⟩ = some v := fun j v hj => (cell_of_row _ _ _ _ _ _ (heap_alloc_new w _)).trans hj
  exact ⟨hc 0 _ rfl, hc 1 _ rfl, hc 2 _ rfl, hc 3 _ rfl, hc 4 _ rfl, hc 5 _ rfl, hc 6 _ rfl, hc 7 _ rfl⟩
def FCells (w : World) (b : Nat) (u : Flds) : Prop :=
  w.cell? ⟨b, 0, none⟩ = some (.bool u.id) ∧ w.cell? ⟨b, 1, none⟩ = some (.bool u.num) ∧ w.cell? ⟨b, 2, none⟩ = some (.bool u.tot) ∧ w.cell? ⟨b, 3, none⟩ = some (.bool u.off) ∧
  w.cell? ⟨b, 4, none⟩ = some (.bool u.txt) ∧ w.cell? ⟨b, 5, none⟩ = some (.bool u.lst) ∧ w.cell? ⟨b, 6, none⟩ = some (.bool u.dat)
theorem FCells.step {w w' : World} {b : Nat} {u : Flds} (h : FCells w b u) (hb : Below w.heap.size w w') : FCells w' b u := by
  obtain ⟨h0, h1, h2, h3, h4, h5, h6⟩ := h
  exact ⟨keep_at hb h0, keep_at hb h1, keep_at hb h2, keep_at hb h3, keep_at hb h4, keep_at hb h5, keep_at hb h6⟩
theorem FCells.box (w : World) (u : Flds) : FCells (w.alloc (.cells #[.bool u.id, .bool u.num, .bool u.tot, .bool u.off, .bool u.txt, .bool u.lst, .bool u.dat] 56)) w.heap.size u := by
  have hc : ∀ j v, (#[.bool u.id, .bool u.num, .bool u.tot, .bool u.off, .bool u.txt, .bool u.lst, .bool u.dat] : Array Value)[j]? = some v → (w.alloc (.cells #[.bool u.id, .bool u.num, .bool u.tot, .bool u.off, .bool u.txt, .bool u.lst, .bool u.dat] 56)).cell? ⟨w.heap.size, j, none⟩ = some v := fun j v hj => (cell_of_row _ _ _ _ _ _ (heap_alloc_new w _)).trans hj
  exact ⟨hc 0 _ rfl, hc 1 _ rfl, hc 2 _ rfl, hc 3 _ rfl, hc 4 _ rfl, hc 5 _ rfl, hc 6 _ rfl⟩

theorem code_form {m : Msg} (h : (okK m.kind && rightM m (usesF m.kind)) = false) : codeM m = 2 := by unfold codeM; rw [if_pos h]
theorem code_range {m : Msg} (h : (okK m.kind && rightM m (usesF m.kind)) = true) (hr : ¬ rangeM m) : codeM m = 1 := by unfold codeM; rw [if_neg (by rw [h]; simp), if_pos hr]
theorem code_large {m : Msg} (h : (okK m.kind && rightM m (usesF m.kind)) = true) (hr : rangeM m) (hl : largeM m = true) : codeM m = 5 := by unfold codeM; rw [if_neg (by rw [h]; simp), if_neg (by simpa using hr), if_pos hl]
theorem code_long {m : Msg} (h : (okK m.kind && rightM m (usesF m.kind)) = true) (hr : rangeM m) (hl : largeM m = false) (hp : 131072 < (payM m (usesF m.kind)).length) : codeM m = 5 := by
  unfold codeM; rw [if_neg (by rw [h]; simp), if_neg (by simpa using hr), if_neg (by rw [hl]; simp), if_pos hp]
theorem code_ok {m : Msg} (h : (okK m.kind && rightM m (usesF m.kind)) = true) (hr : rangeM m) (hl : largeM m = false) (hp : ¬ 131072 < (payM m (usesF m.kind)).length) : codeM m = 0 := by
  unfold codeM; rw [if_neg (by rw [h]; simp), if_neg (by simpa using hr), if_neg (by rw [hl]; simp), if_neg hp]

/-- What Encode returns. -/
def EncPost (w : World) (m : Msg) (e : Ending) (w' : World) : Prop := ∃ u, e = .returned (.tuple #[u, errV (codeM m)]) ∧ OwnB w' w.heap.size u (encM m) ∧ Below w.heap.size w w'
theorem EncPost.bad {w w' : World} {m : Msg} {c : Int} (hc : codeM m = c) (h0 : c ≠ 0) (hb : Below w.heap.size w w') : EncPost w m (.returned (.tuple #[.slice none 0 0, .iface 43 (.int .i64 c)])) w' :=
  ⟨.slice none 0 0, by rw [hc]; unfold errV; rw [if_neg h0], by unfold encM; rw [hc, if_neg h0]; exact OwnB.nil _ _, hb⟩

set_option maxRecDepth 100000 in
set_option maxHeartbeats 4000000 in
theorem henc_any (m : Msg) (la da : Option Addr) (lc dc : Nat) (w : World) (hT : IsT w (.slice la m.lst.length lc) m.lst) (hD : IsB w (.slice da m.dat.length dc) m.dat) :
    Calls Try.prog 14 #[m.val (.slice la m.lst.length lc) (.slice da m.dat.length dc)] w (EncPost w m) := by
  have HT := Lib.hid hT
  have HD := Lib.hid hD
  have HU := Lib.hid (fun W => uses_any m.kind W)
  have HRT := Lib.hid (fun W h => right_any m la da lc dc W h)
  have HLG := Lib.hid (fun W h => large_any m la da lc dc W h)
  have HPY := Lib.hid (fun W h hT hD hS => pay_any m la da lc dc W h hT hD hS)
  have HEB := Lib.hid (fun w' c hc h0 hb => EncPost.bad (w := w) (w' := w') (m := m) (c := c) hc h0 hb)
  have HB0 := Lib.hid (bel_new w (.cells #[.int .i64 m.kind, .int .i64 m.id, .int .i64 m.num, .int .i64 m.tot, .int .i64 m.off, .string ⟨m.txt.toArray⟩, .slice la m.lst.length lc, .slice da m.dat.length dc] 25))
  have hm0 := MCells.box w m.kind m.id m.num m.tot m.off m.txt (.slice la m.lst.length lc) (.slice da m.dat.length dc)
  have HM0 := Lib.hid hm0
  obtain ⟨c0, c1, c2, c3, c4, c5, c6, c7⟩ := hm0
  unfold Msg.val at *
  clear hT hD
  unfold Flds.val at HU HRT HPY
  generalize hu : usesF m.kind = u at *
  go_enter Try.func14, Try.ntmps14
  go_upto_region 1 with fail
  generalize w.alloc (.cells #[.int .i64 m.kind, .int .i64 m.id, .int .i64 m.num, .int .i64 m.tot, .int .i64 m.off, .string ⟨m.txt.toArray⟩, .slice la m.lst.length lc, .slice da m.dat.length dc] 25) = W1 at *
  have HUH := Lib.hid hu
  clear hu
  go_upto_region 2 with (go_at_call 27; refine (HU.out _).mono ?_; rintro r W2 ⟨rfl, hb2⟩)
  have hn3 := bel_new W2 (.cells #[.bool u.id, .bool u.num, .bool u.tot, .bool u.off, .bool u.txt, .bool u.lst, .bool u.dat] 56)
  have hf3 := FCells.box W2 u
  have HM3 := Lib.hid ((HM0.out.step hb2).step hn3)
  have HF3 := Lib.hid hf3
  have HB3 := Lib.hid (bel_step (bel_step HB0.out hb2) hn3)
  obtain ⟨d0, d1, d2, d3, d4, d5, d6, d7⟩ := HM3.out
  obtain ⟨f0, f1, f2, f3, f4, f5, f6⟩ := hf3
  clear hn3 hb2 HM0 HB0 c0 c1 c2 c3 c4 c5 c6 c7
  generalize W2.alloc (.cells #[.bool u.id, .bool u.num, .bool u.tot, .bool u.off, .bool u.txt, .bool u.lst, .bool u.dat] 56) = W3 at *
  cases hok : okK m.kind with
  | false =>
    have HC := Lib.hid (code_form (m := m) (by rw [hok]; rfl))
    clear hok
    go_wp2_with fail
    go_ret2
    exact HEB.out _ 2 HC.out (by omega) HB3.out
  | true =>
    have HOK := Lib.hid hok
    clear hok
    cases hrt : rightM m u with
    | false =>
      have HC := Lib.hid (code_form (m := m) (by rw [HUH.out, hrt, Bool.and_false]))
      have HR := Lib.hid (fun W => HRT.out W HOK.out)
      rw [hrt] at HR
      clear hrt
      go_wp2_with (go_at_call 28; refine (HR.out _).mono ?_; rintro r W4 ⟨rfl, hb4⟩)
      go_ret2
      exact HEB.out _ 2 HC.out (by omega) (bel_step HB3.out hb4)
    | true =>
      have HRI := Lib.hid (show (okK m.kind && rightM m (usesF m.kind)) = true by rw [HUH.out, HOK.out, hrt]; rfl)
      have HR := Lib.hid (fun W => HRT.out W HOK.out)
      rw [hrt] at HR
      clear hrt
      go_upto_region 4 with (go_at_call 28; refine (HR.out _).mono ?_; rintro r W4 ⟨rfl, hb4⟩)
      have HB4 := Lib.hid (bel_step HB3.out hb4)
      have HM4 := Lib.hid (HM3.out.step hb4)
      have HF4 := Lib.hid (HF3.out.step hb4)
      obtain ⟨e0, e1, e2, e3, e4, e5, e6, e7⟩ := HM4.out
      clear hb4 HB3 HM3 HF3 d0 d1 d2 d3 d4 d5 d6 d7 f0 f1 f2 f3 f4 f5 f6
      go_wp2_with fail
      have hn5 := bel_new W4 (.cells #[.int .i64 m.id, .int .i64 m.num, .int .i64 m.tot, .int .i64 m.off] 3)
      have hbx : ∀ k, k < 4 → (W4.alloc (.cells #[.int .i64 m.id, .int .i64 m.num, .int .i64 m.tot, .int .i64 m.off] 3)).cell? ⟨W4.heap.size, k, none⟩ = some (.int .i64 (nM m.id m.num m.tot m.off k)) := by
        intro k hk
        rw [cell_of_row _ _ _ _ _ _ (heap_alloc_new W4 _)]
        match k, hk with
        | 0, _ | 1, _ | 2, _ | 3, _ => rfl
      have HBX := Lib.hid hbx
      have HB5 := Lib.hid (bel_step HB4.out hn5)
      have HM5 := Lib.hid (HM4.out.step hn5)
      have HF5 := Lib.hid (HF4.out.step hn5)
      clear hbx hn5 HB4 HM4 HF4 e0 e1 e2 e3 e4 e5 e6 e7
      generalize W4.alloc (.cells #[.int .i64 m.id, .int .i64 m.num, .int .i64 m.tot, .int .i64 m.off] 3) = W5 at *
      go_loopw [34] (fun i wr => ∃ k : Nat, i = .int .i64 k ∧ k ≤ 4 ∧ (∀ j, j < k → inR (nM m.id m.num m.tot m.off j)) ∧ wr = W5) (fun i _ => 4 - (intOf i).toNat)
      case atStart => exact ⟨0, rfl, by omega, fun j hj => absurd hj (by omega), rfl⟩
      case round =>
        obtain ⟨k, rfl, hk, hall, rfl⟩ := hrel
        have HA := Lib.hid hall
        clear hall
        by_cases hlt : k < 4
        · have hcell := HBX.out k hlt
          have hk0 : (0 : Int) ≤ (k : Int) := by omega
          have hk1 : (k : Int) < 4 := by omega
          have HBAD := Lib.hid (fun (h : ¬ inR (nM m.id m.num m.tot m.off k)) => show ¬ rangeM m from fun ⟨g0, g1, g2, g3⟩ => by
            match k, hlt with
            | 0, _ => exact h g0
            | 1, _ => exact h g1
            | 2, _ => exact h g2
            | 3, _ => exact h g3)
          by_cases hr : inR (nM m.id m.num m.tot m.off k)
          · have HR2 := Lib.hid hr
            obtain ⟨r1, r2⟩ := hr
            generalize hx : nM m.id m.num m.tot m.off k = x at *
            have HX := Lib.hid hx
            clear hx
            go_wp2_with fail
            go_roundw
            case rel => exact ⟨k + 1, by go_num, by omega, fun j hj => by
              rcases Nat.lt_or_ge j k with h | h
              · exact HA.out j h
              · obtain rfl : j = k := by omega
                rw [HX.out]; exact HR2.out, by first | rfl | trivial⟩
            case measure => simp [intOf]; omega
          · have HC := Lib.hid (code_range HRI.out (HBAD.out hr))
            have hr2 : nM m.id m.num m.tot m.off k < 0 ∨ (¬ nM m.id m.num m.tot m.off k < 0 ∧ 1099511627776 < nM m.id m.num m.tot m.off k) := by unfold inR at hr; omega
            clear hr HBAD
            generalize nM m.id m.num m.tot m.off k = x at *
            rcases hr2 with r1 | ⟨r1, r2⟩
            all_goals
              go_wp2_with fail
              go_ret2
              exact HEB.out _ 1 HC.out (by omega) HB5.out
        · obtain rfl : k = 4 := by omega
          have HRG := Lib.hid (show rangeM m from ⟨HA.out 0 (by omega), HA.out 1 (by omega), HA.out 2 (by omega), HA.out 3 (by omega)⟩)
          obtain ⟨e0, e1, e2, e3, e4, e5, e6, e7⟩ := HM5.out
          cases hlg : largeM m with
          | true =>
            have HC := Lib.hid (code_large HRI.out HRG.out hlg)
            have HL := Lib.hid (fun W h => HLG.out W h)
            rw [hlg] at HL
            clear hlg
            go_wp2_with (go_at_call 29; refine (HL.out _ (HT.out.step HB5.out)).mono ?_; rintro r W6 ⟨rfl, hb6⟩)
            go_ret2
            exact HEB.out _ 5 HC.out (by omega) (bel_step HB5.out hb6)
          | false =>
            have HSM := Lib.hid (small_of hlg)
            have HLF := Lib.hid hlg
            have HL := Lib.hid (fun W h => HLG.out W h)
            rw [hlg] at HL
            clear hlg
            have hkr : 1 ≤ m.kind ∧ m.kind ≤ 12 := by have := HOK.out; unfold okK at this; simpa using this
            have hir := HRG.out.1
            unfold inR at hir
            have HPN := Lib.hid (show payM m (usesF m.kind) = payM m u by rw [HUH.out])
            have HENC := Lib.hid (fun (v : Value) (W : World) (h : IsB W v (payM m u)) (hl : (payM m u).length ≤ 131072) => (show Calls Try.prog 17 #[.agg #[.int .i64 m.kind, .int .i64 m.id, v]] W fun e w' => ∃ x, e = .returned (.tuple #[x, .nilIface]) ∧ OwnB w' W.heap.size x (encP m.kind.toNat m.id.toNat (payM m u)) ∧ Below W.heap.size W w' from by
              have h9 := enc_ok m.kind.toNat m.id.toNat v (payM m u) W (by omega) (by omega) h hl
              rw [show ((m.kind.toNat : Nat) : Int) = m.kind by omega, show ((m.id.toNat : Nat) : Int) = m.id by omega] at h9
              exact h9))
            have HPY2 := Lib.hid (fun W hT hD => HPY.out W HOK.out hT hD HSM.out)
            clear hkr hir
            have HCO := Lib.hid (fun hp => code_ok HRI.out HRG.out HLF.out hp)
            have HCL := Lib.hid (fun hp => code_long HRI.out HRG.out HLF.out hp)
            rw [HPN.out] at HCO HCL
            generalize hP : payM m u = P at *
            have HPE := Lib.hid hP
            clear hP
            go_upto_region 12 with (go_at_call 29; refine (HL.out _ (HT.out.step HB5.out)).mono ?_; rintro r W6 ⟨rfl, hb6⟩)
            have HB6 := Lib.hid (bel_step HB5.out hb6)
            have HM6 := Lib.hid (HM5.out.step hb6)
            obtain ⟨f0, f1, f2, f3, f4, f5, f6⟩ := HF5.out.step hb6
            obtain ⟨d0, d1, d2, d3, d4, d5, d6, d7⟩ := HM6.out
            clear hb6 e0 e1 e2 e3 e4 e5 e6 e7 HB5
            go_upto_region 13 with (go_at_call 30; refine (HPY2.out _ (HT.out.step HB6.out) (HD.out.step HB6.out)).mono ?_; rintro r W7 ⟨v7, rfl, ho7, hb7⟩; obtain ⟨a7, c7', rfl, _, _, _⟩ := ho7.isB.shape)
            have HB7 := Lib.hid (bel_step HB6.out hb7)
            have HP7 := Lib.hid ho7.isB
            obtain ⟨g0, g1, g2, g3, g4, g5, g6, g7⟩ := HM6.out.step hb7
            clear ho7 hb7 d0 d1 d2 d3 d4 d5 d6 d7 f0 f1 f2 f3 f4 f5 f6 HB6
            by_cases hlong : 131072 < P.length
            · have hI : (131072 : Int) < (P.length : Int) := by omega
              have HC := Lib.hid (HCL.out hlong)
              go_wp2_with fail
              go_ret2
              exact HEB.out _ 5 HC.out (by omega) HB7.out
            · have hI : ¬ (131072 : Int) < (P.length : Int) := by omega
              have HC := Lib.hid (HCO.out hlong)
              have HEN2 := Lib.hid (fun v W h => HENC.out v W h (by omega))
              go_wp2_with (go_at_call 17; refine (HEN2.out _ _ HP7.out).mono ?_; rintro r W8 ⟨v8, rfl, ho8, hb8⟩)
              go_ret2
              refine ⟨_, by rw [HC.out]; rfl, ?_, bel_step HB7.out hb8⟩
              have hz7 := HB7.out.size
              unfold encM
              rw [HC.out, if_pos rfl, HPN.out]
              exact ho8.mono hz7
end Go.Proofs.Ytbfpjldincnihaa
