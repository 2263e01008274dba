/- The walk of the law HopUnused: it returns true. No condition. -/
import Derived.Test.YtbfpjldincnihaaLawsF
namespace Go.Proofs.Ytbfpjldincnihaa
open Go.RowKit
set_option linter.unusedVariables false
set_option linter.unusedSimpArgs false

theorem MBox.set_id {w : World} {b : Nat} {k id nm tt of : Int} {tx : List UInt8} {lv dv : Value} (h : MBox w b k id nm tt of tx lv dv) (x : Int) : MBox (w.setCell ⟨b, 1, none⟩ (.int .i64 x)) b k x nm tt of tx lv dv := Joins.block_setCell (i := 1) h (.int .i64 x)
theorem form_id {m : Msg} (h : hasB m.kind 0 = false) (hn : m.id ≠ 0) : codeM m = 2 := by
  apply code_form
  obtain ⟨h0, h1, h2, h3, h4, h5, h6⟩ := has_flds m.kind
  rw [h0] at h
  have : rightM m (usesF m.kind) = false := by
    unfold rightM
    rw [h]
    simp [hn]
  rw [this, Bool.and_false]
theorem form_num {m : Msg} (h : hasB m.kind 1 = false) (hn : m.num ≠ 0) : codeM m = 2 := by
  apply code_form
  obtain ⟨h0, h1, h2, h3, h4, h5, h6⟩ := has_flds m.kind
  rw [h1] at h
  have : rightM m (usesF m.kind) = false := by
    unfold rightM
    rw [h]
    simp [hn]
  rw [this, Bool.and_false]
theorem form_tot {m : Msg} (h : hasB m.kind 2 = false) (hn : m.tot ≠ 0) : codeM m = 2 := by
  apply code_form
  obtain ⟨h0, h1, h2, h3, h4, h5, h6⟩ := has_flds m.kind
  rw [h2] at h
  have : rightM m (usesF m.kind) = false := by
    unfold rightM
    rw [h]
    simp [hn]
  rw [this, Bool.and_false]
theorem form_off {m : Msg} (h : hasB m.kind 3 = false) (hn : m.off ≠ 0) : codeM m = 2 := by
  apply code_form
  obtain ⟨h0, h1, h2, h3, h4, h5, h6⟩ := has_flds m.kind
  rw [h3] at h
  have : rightM m (usesF m.kind) = false := by
    unfold rightM
    rw [h]
    simp [hn]
  rw [this, Bool.and_false]
theorem form_txt {m : Msg} (h : hasB m.kind 4 = false) (hn : m.txt ≠ []) : codeM m = 2 := by
  apply code_form
  obtain ⟨h0, h1, h2, h3, h4, h5, h6⟩ := has_flds m.kind
  rw [h4] at h
  have : rightM m (usesF m.kind) = false := by
    unfold rightM
    rw [h]
    simp [hn]
  rw [this, Bool.and_false]
theorem form_lst {m : Msg} (h : hasB m.kind 5 = false) (hn : m.lst ≠ []) : codeM m = 2 := by
  apply code_form
  obtain ⟨h0, h1, h2, h3, h4, h5, h6⟩ := has_flds m.kind
  rw [h5] at h
  have : rightM m (usesF m.kind) = false := by
    unfold rightM
    rw [h]
    simp [hn]
  rw [this, Bool.and_false]
theorem form_dat {m : Msg} (h : hasB m.kind 6 = false) (hn : m.dat ≠ []) : codeM m = 2 := by
  apply code_form
  obtain ⟨h0, h1, h2, h3, h4, h5, h6⟩ := has_flds m.kind
  rw [h6] at h
  have : rightM m (usesF m.kind) = false := by
    unfold rightM
    rw [h]
    simp [hn]
  rw [this, Bool.and_false]
/-- Encode of a message that uses a field that its kind has not. -/
theorem henc_form {m : Msg} (hc : codeM m = 2) (la da : Option Addr) (lc dc : Nat) (w : World) (hT : IsT w (.slice la m.lst.length lc) m.lst) (hD : IsB w (.slice da m.dat.length dc) m.dat) :
    Calls Try.prog 14 #[m.val (.slice la m.lst.length lc) (.slice da m.dat.length dc)] w fun e w' => (∃ a c, e = .returned (.tuple #[.slice a 0 c, .iface 43 (.int .i64 2)])) ∧ Below w.heap.size w w' := by
  refine (henc_any m la da lc dc w hT hD).mono ?_
  rintro e w' ⟨u, rfl, ho, hb⟩
  have he : encM m = [] := by unfold encM; rw [hc]; rfl
  rw [he] at ho
  obtain ⟨a, c, rfl, _⟩ := ho.isB.shape
  exact ⟨⟨a, c, by rw [hc]; rfl⟩, hb⟩
theorem IsT.onlyB {w w' : World} {g o cap n b : Nat} {ts : List (List UInt8)} (h : IsT w (.slice (some ⟨g, o, none⟩) n cap) ts) (ho : Only b w w') (hn : g ≠ b) : IsT w' (.slice (some ⟨g, o, none⟩) n cap) ts := by
  rcases h with h | ⟨h0, g', o', cap', hv, h1, h2, h3⟩
  · exact .inl h
  · simp only [Value.slice.injEq, Option.some.injEq, Addr.mk.injEq] at hv
    obtain ⟨⟨rfl, rfl, _⟩, rfl, rfl⟩ := hv
    exact .inr ⟨h0, _, _, _, rfl, h1, h2, fun k s hk => keep_only ho hn (h3 k s hk)⟩
theorem newT (w : World) (s : List UInt8) : IsT (w.alloc (.cells #[.string ⟨s.toArray⟩] 9)) (.slice (some ⟨w.heap.size, 0, none⟩) 1 1) [s] := by
  refine .inr ⟨by simp, w.heap.size, 0, 1, rfl, by simp, by decide, fun k t hk => ?_⟩
  cases k with
  | zero =>
    simp at hk
    subst hk
    rw [cell_of_row _ _ _ _ _ _ (heap_alloc_new w _)]
    rfl
  | succ k => simp at hk

set_option maxRecDepth 100000 in
set_option maxHeartbeats 4000000 in
theorem hopUnused_walk (m : Msg) (la da : Option Addr) (lc dc : Nat) (c : UInt8) (n : Int) (w : World) (hT : IsT w (.slice la m.lst.length lc) m.lst) (hD : IsB w (.slice da m.dat.length dc) m.dat) :
    Calls Try.prog 9 #[m.val (.slice la m.lst.length lc) (.slice da m.dat.length dc), .int .u8 c.toNat, .int .i64 n] w fun e w' => e = .returned (.bool true) ∧ Below w.heap.size w w' := by
  have HT := Lib.hid hT
  have HD := Lib.hid hD
  have HLG := Lib.hid (fun W h => lawlarge_all m la da lc dc W h)
  have HHS := Lib.hid (fun j W => has_any m.kind j W)
  have HB0 := Lib.hid (bel_new w (.cells #[.int .i64 m.kind, .int .i64 m.id, .int .i64 m.num, .int .i64 m.tot, .int .i64 m.off, .string ⟨m.txt.toArray⟩, .slice la m.lst.length lc, .slice da m.dat.length dc] 25))
  have hmb := MBox.new w m.kind m.id m.num m.tot m.off m.txt (.slice la m.lst.length lc) (.slice da m.dat.length dc)
  have HM0 := Lib.hid hmb
  obtain ⟨c0, c1, c2, c3, c4, c5, c6, c7⟩ := hmb.cells
  have hc256 := c.toNat_lt
  obtain ⟨i, hi, hi7⟩ : ∃ i : Nat, ((c.toNat : Int) % 7) = (i : Int) ∧ i < 7 := ⟨c.toNat % 7, by omega, Nat.mod_lt _ (by decide)⟩
  have HI := Lib.hid hi
  clear hi
  unfold Msg.val at *
  clear hT hD hmb
  go_enter Try.func9, Try.ntmps9
  go_upto_region 1 with fail
  generalize w.alloc (.cells #[.int .i64 m.kind, .int .i64 m.id, .int .i64 m.num, .int .i64 m.tot, .int .i64 m.off, .string ⟨m.txt.toArray⟩, .slice la m.lst.length lc, .slice da m.dat.length dc] 25) = W1 at *
  go_upto_region 3 with (first | (go_at_call 12; refine (HLG.out _ (HT.out.step HB0.out)).mono ?_; rintro r W2 ⟨b, rfl, hb, hb2⟩; cases b) | (go_at_call 13; refine (awake_any _).mono ?_; rintro r W3 ⟨rfl, hb3⟩))
  rotate_left
  · go_ret
    exact ⟨rfl, bel_step (bel_step HB0.out hb2) hb3⟩
  · have HB3 := Lib.hid (bel_step (bel_step HB0.out hb2) hb3)
    have HM3 := Lib.hid ((HM0.out.step hb2).step hb3)
    obtain ⟨d0, d1, d2, d3, d4, d5, d6, d7⟩ := HM3.out.cells
    clear hb hb2 hb3 c0 c1 c2 c3 c4 c5 c6 c7 HM0 HB0 HLG
    go_upto_region 4 with fail
    rw [HI.out]
    by_cases hn0 : n = 0
    · subst hn0
      go_wp2_with fail
      go_ret
      exact ⟨rfl, HB3.out⟩
    · have hnb : (n == 0) = false := by simpa using hn0
      have HH := Lib.hid (fun W => HHS.out (i : Int) W)
      cases hh : hasB m.kind (i : Int) with
      | true =>
        rw [hh] at HH
        clear hh
        go_wp2_with (go_at_call 25; refine (HH.out _).mono ?_; rintro r W4 ⟨rfl, hb4⟩)
        go_ret
        exact ⟨rfl, bel_step HB3.out hb4⟩
      | false =>
        rw [hh] at HH
        have HNH := Lib.hid hh
        have HN0 := Lib.hid hn0
        clear hh hn0
        go_upto_region 6 with (go_at_call 25; refine (HH.out _).mono ?_; rintro r W4 ⟨rfl, hb4⟩)
        have HB4 := Lib.hid (bel_step HB3.out hb4)
        have HM4 := Lib.hid (HM3.out.step hb4)
        obtain ⟨e0, e1, e2, e3, e4, e5, e6, e7⟩ := HM4.out.cells
        have fz := fun k => HM4.out.frozen k
        have f1 := fz 1
        have f2 := fz 2
        have f3 := fz 3
        have f4 := fz 4
        have f5 := fz 5
        have f6 := fz 6
        have f7 := fz 7
        have hz4 := HB4.out.size
        clear hb4 HB3 HM3 d0 d1 d2 d3 d4 d5 d6 d7 HH HHS fz
        have hcs : i = 0 ∨ i = 1 ∨ i = 2 ∨ i = 3 ∨ i = 4 ∨ i = 5 ∨ i = 6 := by omega
        clear HI hi7 hc256
        obtain ⟨km, im, nm, tm, om, xm, sm, bm⟩ := m
        dsimp only at *
        rcases hcs with rfl | rfl | rfl | rfl | rfl | rfl | rfl
        · have HF := Lib.hid (fun W h1 h2 => henc_form (form_id (m := ⟨km, n, nm, tm, om, xm, sm, bm⟩) HNH.out HN0.out) la da lc dc W h1 h2)
          unfold Msg.val at HF
          dsimp only at HF
          have HM5 := Lib.hid (HM4.out.set_id n)
          have HB5 := Lib.hid (HB4.out.trans ((Only.set (b := w.heap.size) (k := 1) (u := .int .i64 n) (w := W4)).below (B := w.heap.size) (Nat.le_refl _) hz4))
          go_upto_region 20 with fail
          clear HB4 HM4 e0 e1 e2 e3 e4 e5 e6 e7 f1 f2 f3 f4 f5 f6 f7
          generalize W4.setCell ⟨w.heap.size, 1, none⟩ (.int .i64 n) = W5 at *
          obtain ⟨e0, e1, e2, e3, e4, e5, e6, e7⟩ := HM5.out.cells
          go_wp2_with (first | (go_at_call 14; (refine (HF.out _ (HT.out.step HB5.out) (HD.out.step HB5.out)).mono ?_); rintro r W6 ⟨⟨a6, c6, rfl⟩, hb6⟩) | (go_at_call 23; (refine (is_yes 2 (by decide) _).mono ?_); rintro r W7 ⟨rfl, rfl⟩))
          go_ret
          exact ⟨rfl, bel_step HB5.out hb6⟩
        · have HF := Lib.hid (fun W h1 h2 => henc_form (form_num (m := ⟨km, im, n, tm, om, xm, sm, bm⟩) HNH.out HN0.out) la da lc dc W h1 h2)
          unfold Msg.val at HF
          dsimp only at HF
          have HM5 := Lib.hid (HM4.out.set_num n)
          have HB5 := Lib.hid (HB4.out.trans ((Only.set (b := w.heap.size) (k := 2) (u := .int .i64 n) (w := W4)).below (B := w.heap.size) (Nat.le_refl _) hz4))
          go_upto_region 20 with fail
          clear HB4 HM4 e0 e1 e2 e3 e4 e5 e6 e7 f1 f2 f3 f4 f5 f6 f7
          generalize W4.setCell ⟨w.heap.size, 2, none⟩ (.int .i64 n) = W5 at *
          obtain ⟨e0, e1, e2, e3, e4, e5, e6, e7⟩ := HM5.out.cells
          go_wp2_with (first | (go_at_call 14; (refine (HF.out _ (HT.out.step HB5.out) (HD.out.step HB5.out)).mono ?_); rintro r W6 ⟨⟨a6, c6, rfl⟩, hb6⟩) | (go_at_call 23; (refine (is_yes 2 (by decide) _).mono ?_); rintro r W7 ⟨rfl, rfl⟩))
          go_ret
          exact ⟨rfl, bel_step HB5.out hb6⟩
        · have HF := Lib.hid (fun W h1 h2 => henc_form (form_tot (m := ⟨km, im, nm, n, om, xm, sm, bm⟩) HNH.out HN0.out) la da lc dc W h1 h2)
          unfold Msg.val at HF
          dsimp only at HF
          have HM5 := Lib.hid (HM4.out.set_tot n)
          have HB5 := Lib.hid (HB4.out.trans ((Only.set (b := w.heap.size) (k := 3) (u := .int .i64 n) (w := W4)).below (B := w.heap.size) (Nat.le_refl _) hz4))
          go_upto_region 20 with fail
          clear HB4 HM4 e0 e1 e2 e3 e4 e5 e6 e7 f1 f2 f3 f4 f5 f6 f7
          generalize W4.setCell ⟨w.heap.size, 3, none⟩ (.int .i64 n) = W5 at *
          obtain ⟨e0, e1, e2, e3, e4, e5, e6, e7⟩ := HM5.out.cells
          go_wp2_with (first | (go_at_call 14; (refine (HF.out _ (HT.out.step HB5.out) (HD.out.step HB5.out)).mono ?_); rintro r W6 ⟨⟨a6, c6, rfl⟩, hb6⟩) | (go_at_call 23; (refine (is_yes 2 (by decide) _).mono ?_); rintro r W7 ⟨rfl, rfl⟩))
          go_ret
          exact ⟨rfl, bel_step HB5.out hb6⟩
        · have HF := Lib.hid (fun W h1 h2 => henc_form (form_off (m := ⟨km, im, nm, tm, n, xm, sm, bm⟩) HNH.out HN0.out) la da lc dc W h1 h2)
          unfold Msg.val at HF
          dsimp only at HF
          have HM5 := Lib.hid (HM4.out.set_off n)
          have HB5 := Lib.hid (HB4.out.trans ((Only.set (b := w.heap.size) (k := 4) (u := .int .i64 n) (w := W4)).below (B := w.heap.size) (Nat.le_refl _) hz4))
          go_upto_region 20 with fail
          clear HB4 HM4 e0 e1 e2 e3 e4 e5 e6 e7 f1 f2 f3 f4 f5 f6 f7
          generalize W4.setCell ⟨w.heap.size, 4, none⟩ (.int .i64 n) = W5 at *
          obtain ⟨e0, e1, e2, e3, e4, e5, e6, e7⟩ := HM5.out.cells
          go_wp2_with (first | (go_at_call 14; (refine (HF.out _ (HT.out.step HB5.out) (HD.out.step HB5.out)).mono ?_); rintro r W6 ⟨⟨a6, c6, rfl⟩, hb6⟩) | (go_at_call 23; (refine (is_yes 2 (by decide) _).mono ?_); rintro r W7 ⟨rfl, rfl⟩))
          go_ret
          exact ⟨rfl, bel_step HB5.out hb6⟩
        · have HF := Lib.hid (fun W h1 h2 => henc_form (form_txt (m := ⟨km, im, nm, tm, om, [120], sm, bm⟩) HNH.out (by simp)) la da lc dc W h1 h2)
          unfold Msg.val at HF
          dsimp only at HF
          have HM5 := Lib.hid (HM4.out.set_txt [120])
          have HB5 := Lib.hid (HB4.out.trans ((Only.set (b := w.heap.size) (k := 5) (u := .string ⟨#[120]⟩) (w := W4)).below (B := w.heap.size) (Nat.le_refl _) hz4))
          go_upto_region 20 with fail
          clear HB4 HM4 e0 e1 e2 e3 e4 e5 e6 e7 f1 f2 f3 f4 f5 f6 f7
          generalize W4.setCell ⟨w.heap.size, 5, none⟩ (.string ⟨#[120]⟩) = W5 at *
          obtain ⟨e0, e1, e2, e3, e4, e5, e6, e7⟩ := HM5.out.cells
          go_wp2_with (first | (go_at_call 14; (refine (HF.out _ (HT.out.step HB5.out) (HD.out.step HB5.out)).mono ?_); rintro r W6 ⟨⟨a6, c6, rfl⟩, hb6⟩) | (go_at_call 23; (refine (is_yes 2 (by decide) _).mono ?_); rintro r W7 ⟨rfl, rfl⟩))
          go_ret
          exact ⟨rfl, bel_step HB5.out hb6⟩
        · have HF := Lib.hid (fun W h1 h2 => henc_form (form_lst (m := ⟨km, im, nm, tm, om, xm, [[]], bm⟩) HNH.out (by simp)) (some ⟨W4.heap.size, 0, none⟩) da 1 dc W h1 h2)
          unfold Msg.val at HF
          dsimp only [List.length_cons, List.length_nil] at HF
          have hna := bel_new W4 (.cells #[.string ⟨#[]⟩] 9)
          have hmA := HM4.out.step hna
          have HBA := Lib.hid (bel_step HB4.out hna)
          have HNA := Lib.hid (newT W4 [])
          have hwne : w.heap.size ≠ W4.heap.size := fun h => by have := HM4.out.lt; omega
          have HNEQ := Lib.hid hwne
          have HM5 := Lib.hid (hmA.set_lst (.slice (some ⟨W4.heap.size, 0, none⟩) 1 1))
          obtain ⟨g0, g1, g2, g3, g4, g5, g6, g7⟩ := hmA.cells
          have k6 := hmA.frozen 6
          have hzA := HBA.out.size
          have HB5 := Lib.hid (HBA.out.trans ((Only.set (b := w.heap.size) (k := 6) (u := .slice (some ⟨W4.heap.size, 0, none⟩) 1 1) (w := W4.alloc (.cells #[.string ⟨#[]⟩] 9))).below (B := w.heap.size) (Nat.le_refl _) hzA))
          have HON := Lib.hid (Only.set (b := w.heap.size) (k := 6) (u := .slice (some ⟨W4.heap.size, 0, none⟩) 1 1) (w := W4.alloc (.cells #[.string ⟨#[]⟩] 9)))
          have HN5 := Lib.hid (HNA.out.onlyB HON.out hwne.symm)
          clear hna hmA hwne HON HNA HNEQ HBA hzA
          go_upto_region 20 with fail
          clear HB4 HM4 e0 e1 e2 e3 e4 e5 e6 e7 f1 f2 f3 f4 f5 f6 f7 g0 g1 g2 g3 g4 g5 g6 g7 k6
          generalize (W4.alloc (.cells #[.string ⟨#[]⟩] 9)).setCell ⟨w.heap.size, 6, none⟩ (.slice (some ⟨W4.heap.size, 0, none⟩) 1 1) = W5 at *
          obtain ⟨e0, e1, e2, e3, e4, e5, e6, e7⟩ := HM5.out.cells
          go_wp2_with (first | (go_at_call 14; (refine (HF.out _ HN5.out (HD.out.step HB5.out)).mono ?_); rintro r W6 ⟨⟨a6, c6, rfl⟩, hb6⟩) | (go_at_call 23; (refine (is_yes 2 (by decide) _).mono ?_); rintro r W7 ⟨rfl, rfl⟩))
          go_ret
          exact ⟨rfl, bel_step HB5.out hb6⟩
        · have HF := Lib.hid (fun W h1 h2 => henc_form (form_dat (m := ⟨km, im, nm, tm, om, xm, sm, [0]⟩) HNH.out (by simp)) la (some ⟨W4.heap.size, 0, none⟩) lc 1 W h1 h2)
          unfold Msg.val at HF
          dsimp only [List.length_cons, List.length_nil] at HF
          have hna := bel_new W4 (.cells #[.int .u8 0] 5)
          have hmA := HM4.out.step hna
          have HBA := Lib.hid (bel_step HB4.out hna)
          have HNA := Lib.hid ((IsB.one W4 0 0 rfl))
          have hwne : w.heap.size ≠ W4.heap.size := fun h => by have := HM4.out.lt; omega
          have HNEQ := Lib.hid hwne
          have HM5 := Lib.hid (hmA.set_dat (.slice (some ⟨W4.heap.size, 0, none⟩) 1 1))
          obtain ⟨g0, g1, g2, g3, g4, g5, g6, g7⟩ := hmA.cells
          have k6 := hmA.frozen 7
          have hzA := HBA.out.size
          have HB5 := Lib.hid (HBA.out.trans ((Only.set (b := w.heap.size) (k := 7) (u := .slice (some ⟨W4.heap.size, 0, none⟩) 1 1) (w := W4.alloc (.cells #[.int .u8 0] 5))).below (B := w.heap.size) (Nat.le_refl _) hzA))
          have HON := Lib.hid (Only.set (b := w.heap.size) (k := 7) (u := .slice (some ⟨W4.heap.size, 0, none⟩) 1 1) (w := W4.alloc (.cells #[.int .u8 0] 5)))
          have HN5 := Lib.hid (HNA.out.onlyN HON.out hmA.noB)
          clear hna hmA hwne HON HNA HNEQ HBA hzA
          go_upto_region 20 with fail
          clear HB4 HM4 e0 e1 e2 e3 e4 e5 e6 e7 f1 f2 f3 f4 f5 f6 f7 g0 g1 g2 g3 g4 g5 g6 g7 k6
          generalize (W4.alloc (.cells #[.int .u8 0] 5)).setCell ⟨w.heap.size, 7, none⟩ (.slice (some ⟨W4.heap.size, 0, none⟩) 1 1) = W5 at *
          obtain ⟨e0, e1, e2, e3, e4, e5, e6, e7⟩ := HM5.out.cells
          go_wp2_with (first | (go_at_call 14; (refine (HF.out _ (HT.out.step HB5.out) HN5.out).mono ?_); rintro r W6 ⟨⟨a6, c6, rfl⟩, hb6⟩) | (go_at_call 23; (refine (is_yes 2 (by decide) _).mono ?_); rintro r W7 ⟨rfl, rfl⟩))
          go_ret
          exact ⟨rfl, bel_step HB5.out hb6⟩
end Go.Proofs.Ytbfpjldincnihaa
