/- The walks of base.Texts and of the statements' own take. No condition beyond what a cursor in memory is. -/
import Derived.Test.YtnieoaadhbcjiaaCurTexts
namespace Go.Proofs.Ytnieoaadhbcjiaa
open Go.RowKit
set_option linter.unusedVariables false
set_option linter.unusedSimpArgs false

theorem IsT.drews {w : World} {v : Value} {ts : List (List UInt8)} (h : IsT w v ts) (n : Nat) : IsT (w.drewN n) v ts := h
set_option maxHeartbeats 1000000 in
/-- Two lists that are the same. -/
theorem texts_same (a b : Value) (ts : List (List UInt8)) (w : World) (ha : IsT w a ts) (hb : IsT w b ts) :
    Calls Try.prog 32 #[a, b] w fun e w' => e = .returned (.bool true) ∧ ∃ n, w' = w.drewN n := by
  rcases ha with ⟨rfl, aa, ca, rfl⟩ | ⟨h0, ba, oa, ca, rfl, h1, h2, h3⟩
  · obtain ⟨ab, cb, rfl⟩ := hb.shape
    clear hb
    go_enter Try.func32, Try.ntmps32
    go_wp2
    refine wp_loop_rounds 1 ?_
    rw [rounds_succ]
    go_wp2
    go_ret
    exact ⟨rfl, 0, rfl⟩
  · rcases hb with ⟨rfl, _⟩ | ⟨_, bb, ob, cb, rfl, g1, g2, g3⟩
    · exact absurd rfl h0
    · have H3 := Lib.hid h3
      have G3 := Lib.hid g3
      unfold maxLen at h2
      have hl9 : (ts.length : Int) ≤ 9223372036854775807 := by omega
      clear h3 g3 g1 g2 h1 h2
      go_enter Try.func32, Try.ntmps32
      go_wp2
      go_loopw [13] (fun i wr => ∃ k n : Nat, i = .int .i64 k ∧ k ≤ ts.length ∧ wr = w.drewN n) (fun i _ => ts.length - (intOf i).toNat)
      case atStart => exact ⟨0, 0, rfl, Nat.zero_le _, rfl⟩
      case round =>
        obtain ⟨k, n, rfl, hk, rfl⟩ := hrel
        by_cases hlt : k < ts.length
        · obtain ⟨s, hs⟩ : ∃ s, ts[k]? = some s := ⟨_, List.getElem?_eq_getElem hlt⟩
          have x1 := H3.out k s hs
          have x2 := G3.out k s hs
          have hk0 : (0 : Int) ≤ (k : Int) := by omega
          have hk1 : (k : Int) < (ts.length : Int) := by omega
          clear hs
          go_wp2_with fail
          go_quiet (fail)
          go_wp2_with fail
          go_roundw
          case rel => exact ⟨k + 1, _, by go_num, by omega, rfl⟩
          case measure => simp [intOf]; omega
        · go_wp2
          go_ret
          exact ⟨rfl, n, rfl⟩

theorem CurO.off {B : Nat} {w w' : World} {b g : Nat} {o : Option (List UInt8)} (h : CurO B w b o) (ho : Only g w w') (hg : b ≠ g) (hn : NoB w g) : CurO B w' b o := by
  have hlt := h.lt
  have hk : ∀ {x y : Value}, Box2 w b 84 x y → Box2 w' b 84 x y := fun h => (ho.block b hlt (fun e => hg (by injection e))).trans h
  cases o with
  | none => exact hk h
  | some l =>
    obtain ⟨a, c, h, hI, hL⟩ := h
    exact ⟨a, c, hk h, hI.onlyN ho hn, hL⟩
theorem Box2.only {w w' : World} {b g : Nat} {t : TypeId} {x y : Value} (h : Box2 w b t x y) (ho : Only g w w') (hg : b ≠ g) : Box2 w' b t x y := (ho.block b h.lt (fun e => hg (by injection e))).trans h
theorem RCurO.only {B g : Nat} {w w' : World} {v : Value} {o : Option (List UInt8)} (h : RCurO B w v o) (ho : Only g w w') (hn : NoB w g) : RCurO B w' v o := by
  cases o with
  | none => exact h
  | some l => obtain ⟨a, c, rfl, h, hL⟩ := h; exact ⟨a, c, rfl, h.onlyN ho hn, hL⟩
theorem RCurO.form {B : Nat} {w : World} {v : Value} {o : Option (List UInt8)} (h : RCurO B w v o) : ∃ a n c q, v = .agg #[.slice a n c, .bool q] := by
  cases o with
  | none => exact ⟨_, _, _, _, h⟩
  | some l => obtain ⟨a, c, rfl, _⟩ := h; exact ⟨_, _, _, _, rfl⟩
theorem CurO.drew {B : Nat} {w : World} {b : Nat} {o : Option (List UInt8)} (h : CurO B w b o) : CurO B w.drew b o := by
  cases o with
  | none => exact h
  | some l => exact h
theorem CurO.drewN {B : Nat} {w : World} {b : Nat} {o : Option (List UInt8)} (h : CurO B w b o) (n : Nat) : CurO B (w.drewN n) b o := by
  cases o with
  | none => exact h
  | some l => exact h
theorem RCurO.drew {B : Nat} {w : World} {v : Value} {o : Option (List UInt8)} (h : RCurO B w v o) : RCurO B w.drew v o := by
  cases o with
  | none => exact h
  | some l => exact h
theorem Box2.drew {w : World} {b : Nat} {t : TypeId} {x y : Value} (h : Box2 w b t x y) : Box2 w.drew b t x y := h
theorem CurO.noB {B : Nat} {w : World} {b : Nat} {o : Option (List UInt8)} (h : CurO B w b o) : NoB w b := by
  cases o with
  | none => exact Box2.noB h (by intro n h; cases h) (by intro n h; cases h)
  | some l => obtain ⟨a, c, h, _⟩ := h; exact h.noB (by intro n h; cases h) (by intro n h; cases h)
theorem Only.new2 {b g : Nat} {w w' : World} {u v : Value} (h : Only b w w') (hg : w.heap.size ≤ g) : Only b w ((w'.setCell ⟨g, 0, none⟩ u).setCell ⟨g, 1, none⟩ v) :=
  h.bel (((Below.refl w.heap.size w').setCell (p := ⟨g, 0, none⟩) hg _).setCell (p := ⟨g, 1, none⟩) hg _) (Nat.le_refl _)
theorem keep_only {w w' : World} {b g o : Nat} {v : Value} (ho : Only b w w') (hn : g ≠ b) (hc : w.cell? ⟨g, o, none⟩ = some v) : w'.cell? ⟨g, o, none⟩ = some v :=
  (World.cell?_of_block (ho.block g (World.block_lt_of_cell? w _ hc) (fun e => hn (by injection e)))).trans hc
def TakePost (B C b : Nat) (w : World) (o : Option (List UInt8)) (e : Ending) (w' : World) : Prop :=
  ∃ v, e = .returned (.tuple #[v, .bool true]) ∧ RCurO B w' v o ∧ CurO C w' b o ∧ Only b w w'

set_option maxHeartbeats 1000000 in
theorem take_num (B C b : Nat) (kind : Nat) (v : Value) (o : Option (List UInt8)) (w : World) (hk : kind % 3 = 0) (hk2 : kind < 256) (hv : RCurO B w v o) (hc : CurO C w b o) (hs : shortO o) :
    Calls Try.prog 24 #[.pointer (some ⟨b, 0, none⟩), v, .int .u8 kind] w (TakePost B C b w (numO o)) := by
  obtain ⟨a1, n1, c1, q1, rfl⟩ := hv.form
  have hN := fun W h9 => rnum_any B o (.agg #[.slice a1 n1 c1, .bool q1]) W h9 hs
  have hU := fun W h9 => uintc_any C b o W h9
  have hbl := hc.lt
  have hB := bel_alloc (x := .cells #[.slice none 0 0, .bool false] 49) (bel_new w (.cells #[.slice a1 n1 c1, .bool q1] 49))
  have hx1 := Box2.new1 w (.cells #[.slice a1 n1 c1, .bool q1] 49) 49 (.slice none 0 0) (.bool false)
  have HB := Lib.hid hB
  have HN := Lib.hid hN
  have HU := Lib.hid hU
  have HV := Lib.hid (hv.step hB)
  have HC := Lib.hid (hc.step hB)
  have HX1 := Lib.hid hx1
  have hk0 : ((kind : Int) % 3 == 0) = true := by simp; omega
  have hki : (kind : Int) < 256 := by omega
  have hki0 : (0 : Int) ≤ (kind : Int) := by omega
  clear hN hU hv hc hB hx1 hk
  go_enter Try.func24, Try.ntmps24
  go_upto_region 4 with (go_at_call 44; refine (HN.out _ HV.out).mono ?_; rintro e w2 ⟨v2, rfl, hv2, hb2⟩; obtain ⟨a2, n2, c2, q2, rfl⟩ := hv2.form; have HV2 := Lib.hid hv2; clear hv2)
  have hz : w.heap.size + 1 < w2.heap.size := (HX1.out.step hb2).lt
  have hb3 := bel_alloc (x := .cells #[.slice a2 n2 c2, .bool q2] 49) hb2
  have hxN := Box2.new w2 49 (.slice a2 n2 c2) (.bool q2)
  have hxR := HX1.out.step hb3
  have hcA := HC.out.step hb3
  have hrA := HV2.out.step (bel_new w2 (.cells #[.slice a2 n2 c2, .bool q2] 49))
  have hBW := HB.out.trans (hb3.mono HB.out.size)
  clear hb2 hb3 HV HN HC HX1 HB HV2
  have hzW : (w2.alloc (.cells #[.slice a2 n2 c2, .bool q2] 49)).heap.size = w2.heap.size + 1 := by simp [go_sem]
  generalize w2.alloc (.cells #[.slice a2 n2 c2, .bool q2] 49) = W at *
  have hS : Only (w.heap.size + 1) W ((W.setCell ⟨w.heap.size + 1, 0, none⟩ (.slice a2 n2 c2)).setCell ⟨w.heap.size + 1, 1, none⟩ (.bool q2)) := Only.set2
  have hnR := hxR.noB (by intro n h; cases h) (by intro n h; cases h)
  have hcB := hcA.off hS (by omega) hnR
  have hrB := hrA.only hS hnR
  have hxB := hxR.set2 (.slice a2 n2 c2) (.bool q2)
  have hOW : Only b w W := Only.of_below hBW
  obtain ⟨n0, n1, _, _⟩ := hxN.facts
  obtain ⟨r0, r1, r2, r3⟩ := hxR.facts
  have HCA := Lib.hid hcA
  have HCB := Lib.hid hcB
  have HRA := Lib.hid hrA
  have HRB := Lib.hid hrB
  have HXR := Lib.hid hxR
  have HXB := Lib.hid hxB
  have HOW := Lib.hid hOW
  have hne : w.heap.size + 1 ≠ b := by omega
  have hne2 : w2.heap.size ≠ b := by omega
  have hne3 : w2.heap.size ≠ w.heap.size + 1 := by omega
  clear hcA hcB hrA hrB hxN hxR hxB hOW hS hnR hBW
  go_region_held3 (fun w' => w'.cell? ⟨w2.heap.size, 0, none⟩ = some (.slice a2 n2 c2) ∧ w'.cell? ⟨w2.heap.size, 1, none⟩ = some (.bool q2))
    ((go_split_ands; refine ⟨?_, ?_⟩ <;> (repeat (with_reducible (first | assumption | refine keep_drew ?_ | refine keep_only ho5 hne2 ?_ | refine keep_set hne3 ?_)))))
    (first | (go_at_call 28; with_reducible refine (HU.out _ HCA.out.drew).mono ?_; rintro e w5 ⟨rfl, hc5, ho5⟩; obtain ⟨c0, c1, e0, e1⟩ := (HXR.out.drew.only ho5 hne).facts) | (go_at_call 28; with_reducible refine (HU.out _ HCB.out.drew).mono ?_; rintro e w5 ⟨rfl, hc5, ho5⟩; obtain ⟨c0, c1, e0, e1⟩ := (HXB.out.drew.only ho5 hne).facts))
  have hx5 := HXR.out.drew.only ho5 hne
  have hx6 := hx5.set2 (.slice a2 n2 c2) (.bool q2)
  have hn5 := hx5.noB (by intro n h; cases h) (by intro n h; cases h)
  have hc6 := hc5.off (Only.set2 (b := w.heap.size + 1) (u := .slice a2 n2 c2) (v := .bool q2)) (Ne.symm hne) hn5
  have hr6 := (HRA.out.drew.only ho5 HCA.out.drew.noB).only (Only.set2 (b := w.heap.size + 1) (u := .slice a2 n2 c2) (v := .bool q2)) hn5
  have ho6 : Only b w ((w5.setCell ⟨w.heap.size + 1, 0, none⟩ (.slice a2 n2 c2)).setCell ⟨w.heap.size + 1, 1, none⟩ (.bool q2)) := (HOW.out.trans (Only.drew.trans ho5)).new2 (by omega)
  have HC6 := Lib.hid hc6
  have HR6 := Lib.hid hr6
  have HO6 := Lib.hid ho6
  obtain ⟨y0, y1, y2, y3⟩ := hx6.facts
  clear hx5 hx6 hn5 hc6 hr6 ho6 ho5 hc5 c0 c1 e0 e1 HCA HCB HRA HRB HXR HXB HOW HU
  generalize ((w5.setCell ⟨w.heap.size + 1, 0, none⟩ (.slice a2 n2 c2)).setCell ⟨w.heap.size + 1, 1, none⟩ (.bool q2)) = W6 at *
  go_wp2
  refine bodyPost_ret (v := .tuple #[.agg #[.slice a2 n2 c2, .bool q2], .bool true]) (by simp [results, Try.results24, go_sem, y0, y1]) rfl ⟨_, rfl, HR6.out, HC6.out, HO6.out⟩
set_option maxHeartbeats 1000000 in
theorem take_text (B C b : Nat) (kind : Nat) (v : Value) (o : Option (List UInt8)) (w : World) (hk : kind % 3 = 1) (hk2 : kind < 256) (hv : RCurO B w v o) (hc : CurO C w b o) (hs : shortO o) :
    Calls Try.prog 24 #[.pointer (some ⟨b, 0, none⟩), v, .int .u8 kind] w (TakePost B C b w (wordO o)) := by
  obtain ⟨a1, n1, c1, q1, rfl⟩ := hv.form
  have hN := fun W h9 => rword_any B o (.agg #[.slice a1 n1 c1, .bool q1]) W h9 hs
  have hU := fun W h9 => textc_any C b o W h9 hs
  have hbl := hc.lt
  have hB := bel_alloc (x := .cells #[.slice none 0 0, .bool false] 49) (bel_new w (.cells #[.slice a1 n1 c1, .bool q1] 49))
  have hx1 := Box2.new1 w (.cells #[.slice a1 n1 c1, .bool q1] 49) 49 (.slice none 0 0) (.bool false)
  have HB := Lib.hid hB
  have HN := Lib.hid hN
  have HU := Lib.hid hU
  have HV := Lib.hid (hv.step hB)
  have HC := Lib.hid (hc.step hB)
  have HX1 := Lib.hid hx1
  have hk0 : ((kind : Int) % 3 == 0) = false := by simp; omega
  have hk1 : ((kind : Int) % 3 == 1) = true := by simp; omega
  have hki : (kind : Int) < 256 := by omega
  have hki0 : (0 : Int) ≤ (kind : Int) := by omega
  clear hN hU hv hc hB hx1 hk
  go_enter Try.func24, Try.ntmps24
  go_upto_region 7 with (go_at_call 45; refine (HN.out _ HV.out).mono ?_; rintro e w2 ⟨v2, rfl, hv2, hb2⟩; obtain ⟨a2, n2, c2, q2, rfl⟩ := hv2.form; have HV2 := Lib.hid hv2; clear hv2)
  have hz : w.heap.size + 1 < w2.heap.size := (HX1.out.step hb2).lt
  have hb3 := bel_alloc (x := .cells #[.slice a2 n2 c2, .bool q2] 49) hb2
  have hxN := Box2.new w2 49 (.slice a2 n2 c2) (.bool q2)
  have hxR := HX1.out.step hb3
  have hcA := HC.out.step hb3
  have hrA := HV2.out.step (bel_new w2 (.cells #[.slice a2 n2 c2, .bool q2] 49))
  have hBW := HB.out.trans (hb3.mono HB.out.size)
  clear hb2 hb3 HV HN HC HX1 HB HV2
  have hzW : (w2.alloc (.cells #[.slice a2 n2 c2, .bool q2] 49)).heap.size = w2.heap.size + 1 := by simp [go_sem]
  generalize w2.alloc (.cells #[.slice a2 n2 c2, .bool q2] 49) = W at *
  have hS : Only (w.heap.size + 1) W ((W.setCell ⟨w.heap.size + 1, 0, none⟩ (.slice a2 n2 c2)).setCell ⟨w.heap.size + 1, 1, none⟩ (.bool q2)) := Only.set2
  have hnR := hxR.noB (by intro n h; cases h) (by intro n h; cases h)
  have hcB := hcA.off hS (by omega) hnR
  have hrB := hrA.only hS hnR
  have hxB := hxR.set2 (.slice a2 n2 c2) (.bool q2)
  have hOW : Only b w W := Only.of_below hBW
  obtain ⟨n0, n1, _, _⟩ := hxN.facts
  obtain ⟨r0, r1, r2, r3⟩ := hxR.facts
  have HCA := Lib.hid hcA
  have HCB := Lib.hid hcB
  have HRA := Lib.hid hrA
  have HRB := Lib.hid hrB
  have HXR := Lib.hid hxR
  have HXB := Lib.hid hxB
  have HOW := Lib.hid hOW
  have hne : w.heap.size + 1 ≠ b := by omega
  have hne2 : w2.heap.size ≠ b := by omega
  have hne3 : w2.heap.size ≠ w.heap.size + 1 := by omega
  clear hcA hcB hrA hrB hxN hxR hxB hOW hS hnR hBW
  go_region_held3 (fun w' => w'.cell? ⟨w2.heap.size, 0, none⟩ = some (.slice a2 n2 c2) ∧ w'.cell? ⟨w2.heap.size, 1, none⟩ = some (.bool q2))
    ((go_split_ands; refine ⟨?_, ?_⟩ <;> (repeat (with_reducible (first | assumption | refine keep_drew ?_ | refine keep_only ho5 hne2 ?_ | refine keep_set hne3 ?_)))))
    (first | (go_at_call 29; with_reducible refine (HU.out _ HCA.out.drew).mono ?_; rintro e w5 ⟨rfl, hc5, ho5⟩; obtain ⟨c0, c1, e0, e1⟩ := (HXR.out.drew.only ho5 hne).facts) | (go_at_call 29; with_reducible refine (HU.out _ HCB.out.drew).mono ?_; rintro e w5 ⟨rfl, hc5, ho5⟩; obtain ⟨c0, c1, e0, e1⟩ := (HXB.out.drew.only ho5 hne).facts))
  have hx5 := HXR.out.drew.only ho5 hne
  have hx6 := hx5.set2 (.slice a2 n2 c2) (.bool q2)
  have hn5 := hx5.noB (by intro n h; cases h) (by intro n h; cases h)
  have hc6 := hc5.off (Only.set2 (b := w.heap.size + 1) (u := .slice a2 n2 c2) (v := .bool q2)) (Ne.symm hne) hn5
  have hr6 := (HRA.out.drew.only ho5 HCA.out.drew.noB).only (Only.set2 (b := w.heap.size + 1) (u := .slice a2 n2 c2) (v := .bool q2)) hn5
  have ho6 : Only b w ((w5.setCell ⟨w.heap.size + 1, 0, none⟩ (.slice a2 n2 c2)).setCell ⟨w.heap.size + 1, 1, none⟩ (.bool q2)) := (HOW.out.trans (Only.drew.trans ho5)).new2 (by omega)
  have HC6 := Lib.hid hc6
  have HR6 := Lib.hid hr6
  have HO6 := Lib.hid ho6
  obtain ⟨y0, y1, y2, y3⟩ := hx6.facts
  clear hx5 hx6 hn5 hc6 hr6 ho6 ho5 hc5 c0 c1 e0 e1 HCA HCB HRA HRB HXR HXB HOW HU
  generalize ((w5.setCell ⟨w.heap.size + 1, 0, none⟩ (.slice a2 n2 c2)).setCell ⟨w.heap.size + 1, 1, none⟩ (.bool q2)) = W6 at *
  go_wp2
  refine bodyPost_ret (v := .tuple #[.agg #[.slice a2 n2 c2, .bool q2], .bool true]) (by simp [results, Try.results24, go_sem, y0, y1]) rfl ⟨_, rfl, HR6.out, HC6.out, HO6.out⟩
theorem CurO.noS {B : Nat} {w : World} {b : Nat} {o : Option (List UInt8)} (h : CurO B w b o) : ∀ o t, w.cell? ⟨b, o, none⟩ ≠ some (.string t) := by
  have hk : ∀ {x y : Value}, Box2 w b 84 x y → (∀ t, x ≠ .string t) → (∀ t, y ≠ .string t) → ∀ o t, w.cell? ⟨b, o, none⟩ ≠ some (.string t) := by
    intro x y h hx hy o t e
    rw [cell_of_row w b o _ _ _ h] at e
    match o, e with
    | 0, e => simp at e; exact hx t e
    | 1, e => simp at e; exact hy t e
    | o + 2, e => simp at e
  cases o with
  | none => exact hk h (by intro n h; cases h) (by intro n h; cases h)
  | some l => obtain ⟨a, c, h, _⟩ := h; exact hk h (by intro n h; cases h) (by intro n h; cases h)
theorem IsT.drew {w : World} {v : Value} {ts : List (List UInt8)} (h : IsT w v ts) : IsT w.drew v ts := h
theorem IsT.only {w w' : World} {b : Nat} {v : Value} {ts : List (List UInt8)} (h : IsT w v ts) (ho : Only b w w') (hn : ∀ o t, w.cell? ⟨b, o, none⟩ ≠ some (.string t)) : IsT w' v ts := by
  rcases h with h | ⟨h0, g, off, cap, rfl, h1, h2, h3⟩
  · exact .inl h
  · refine .inr ⟨h0, g, off, cap, rfl, h1, h2, fun i s hi => ?_⟩
    exact keep_only ho (by rintro rfl; exact hn _ _ (h3 i s hi)) (h3 i s hi)

set_option maxHeartbeats 1000000 in
theorem take_texts (B C b : Nat) (kind : Nat) (v : Value) (o : Option (List UInt8)) (w : World) (hk : kind % 3 = 2) (hk2 : kind < 256) (hv : RCurO B w v o) (hc : CurO C w b o) (hs : shortO o) (hBw : B ≤ w.heap.size) (hCw : C ≤ w.heap.size) :
    Calls Try.prog 24 #[.pointer (some ⟨b, 0, none⟩), v, .int .u8 kind] w (TakePost B C b w ((o.bind wordsR).map (·.2))) := by
  obtain ⟨a1, n1, c1, q1, rfl⟩ := hv.form
  have hN := fun W h9 hw9 => rwords_any B o (.agg #[.slice a1 n1 c1, .bool q1]) W h9 hs hw9
  have hU := fun W h9 hw9 => textsc_any C b o W h9 hs hw9
  have hbl := hc.lt
  have hB := bel_alloc (x := .cells #[.slice none 0 0, .bool false] 49) (bel_new w (.cells #[.slice a1 n1 c1, .bool q1] 49))
  have hx1 := Box2.new1 w (.cells #[.slice a1 n1 c1, .bool q1] 49) 49 (.slice none 0 0) (.bool false)
  have HB := Lib.hid hB
  have HN := Lib.hid hN
  have HU := Lib.hid hU
  have HV := Lib.hid (hv.step hB)
  have HC := Lib.hid (hc.step hB)
  have HX1 := Lib.hid hx1
  have hk0 : ((kind : Int) % 3 == 0) = false := by simp; omega
  have hk1 : ((kind : Int) % 3 == 1) = false := by simp; omega
  have hki : (kind : Int) < 256 := by omega
  have hki0 : (0 : Int) ≤ (kind : Int) := by omega
  clear hN hU hv hc hB hx1 hk
  go_enter Try.func24, Try.ntmps24
  go_upto_region 9 with (go_at_call 46; refine (HN.out _ HV.out (Nat.le_trans hBw HB.out.size)).mono ?_; rintro e w2 ⟨v2, u2, rfl, hv2, hT2, hsh2, hb2⟩; obtain ⟨au, cu, nu, rfl⟩ := hsh2; have HT2 := Lib.hid hT2; clear hT2; obtain ⟨a2, n2, c2, q2, rfl⟩ := hv2.form; have HV2 := Lib.hid hv2; clear hv2)
  have hz : w.heap.size + 1 < w2.heap.size := (HX1.out.step hb2).lt
  have hb3 := bel_alloc (x := .cells #[.slice a2 n2 c2, .bool q2] 49) hb2
  have hxN := Box2.new w2 49 (.slice a2 n2 c2) (.bool q2)
  have hxR := HX1.out.step hb3
  have hcA := HC.out.step hb3
  have hrA := HV2.out.step (bel_new w2 (.cells #[.slice a2 n2 c2, .bool q2] 49))
  have hTA := HT2.out.step (bel_new w2 (.cells #[.slice a2 n2 c2, .bool q2] 49))
  have hBW := HB.out.trans (hb3.mono HB.out.size)
  clear hb2 hb3 HV HN HC HX1 HB HV2
  have hzW : (w2.alloc (.cells #[.slice a2 n2 c2, .bool q2] 49)).heap.size = w2.heap.size + 1 := by simp [go_sem]
  generalize w2.alloc (.cells #[.slice a2 n2 c2, .bool q2] 49) = W at *
  have hS : Only (w.heap.size + 1) W ((W.setCell ⟨w.heap.size + 1, 0, none⟩ (.slice a2 n2 c2)).setCell ⟨w.heap.size + 1, 1, none⟩ (.bool q2)) := Only.set2
  have hnR := hxR.noB (by intro n h; cases h) (by intro n h; cases h)
  have hcB := hcA.off hS (by omega) hnR
  have hrB := hrA.only hS hnR
  have hxB := hxR.set2 (.slice a2 n2 c2) (.bool q2)
  have hOW : Only b w W := Only.of_below hBW
  obtain ⟨n0, n1, _, _⟩ := hxN.facts
  obtain ⟨r0, r1, r2, r3⟩ := hxR.facts
  have HCA := Lib.hid hcA
  have HTA := Lib.hid hTA
  have hCW : C ≤ W.drew.heap.size := Nat.le_trans hCw hBW.size
  have HCB := Lib.hid hcB
  have HRA := Lib.hid hrA
  have HRB := Lib.hid hrB
  have HXR := Lib.hid hxR
  have HXB := Lib.hid hxB
  have HOW := Lib.hid hOW
  have hne : w.heap.size + 1 ≠ b := by omega
  have hne2 : w2.heap.size ≠ b := by omega
  have hne3 : w2.heap.size ≠ w.heap.size + 1 := by omega
  clear hcA hcB hrA hrB hxN hxR hxB hOW hS hnR hBW
  go_region_held3 (fun w' => w'.cell? ⟨w2.heap.size, 0, none⟩ = some (.slice a2 n2 c2) ∧ w'.cell? ⟨w2.heap.size, 1, none⟩ = some (.bool q2))
    ((go_split_ands; refine ⟨?_, ?_⟩ <;> (repeat (with_reducible (first | assumption | refine keep_drewN ?_ | refine keep_drew ?_ | refine keep_only ho5 hne2 ?_ | refine keep_set hne3 ?_)))))
    (first | (go_at_call 30; (with_reducible refine (HU.out _ HCA.out.drew hCW).mono ?_); rintro e w5 ⟨u5, rfl, hT5, hsh5, hc5, ho5⟩; obtain ⟨a5, c5, n5, rfl⟩ := hsh5; have HT5 := Lib.hid hT5; clear hT5; have HT6 := Lib.hid (IsT.only HTA.out.drew ho5 HCA.out.drew.noS); obtain ⟨c0, c1, e0, e1⟩ := (HXR.out.drew.only ho5 hne).facts) | (go_at_call 32; with_reducible refine (texts_same _ _ _ _ HT5.out HT6.out).mono ?_; rintro e w7 ⟨rfl, nd, rfl⟩))
  have ho5 : Only b W.drew (w5.drewN nd) := ho5.trans (Only.of_below (bel_draws (Below.refl _ _) nd))
  have hc5 : CurO C (w5.drewN nd) b ((o.bind wordsR).map (·.2)) := hc5.drewN nd
  clear c0 c1 e0 e1
  generalize w5.drewN nd = w5 at *
  have hx5 := HXR.out.drew.only ho5 hne
  have hx6 := hx5.set2 (.slice a2 n2 c2) (.bool q2)
  have hn5 := hx5.noB (by intro n h; cases h) (by intro n h; cases h)
  have hc6 := hc5.off (Only.set2 (b := w.heap.size + 1) (u := .slice a2 n2 c2) (v := .bool q2)) (Ne.symm hne) hn5
  have hr6 := (HRA.out.drew.only ho5 HCA.out.drew.noB).only (Only.set2 (b := w.heap.size + 1) (u := .slice a2 n2 c2) (v := .bool q2)) hn5
  have ho6 : Only b w ((w5.setCell ⟨w.heap.size + 1, 0, none⟩ (.slice a2 n2 c2)).setCell ⟨w.heap.size + 1, 1, none⟩ (.bool q2)) := (HOW.out.trans (Only.drew.trans ho5)).new2 (by omega)
  have HC6 := Lib.hid hc6
  have HR6 := Lib.hid hr6
  have HO6 := Lib.hid ho6
  obtain ⟨y0, y1, y2, y3⟩ := hx6.facts
  clear hx5 hx6 hn5 hc6 hr6 ho6 ho5 hc5 HCA HCB HRA HRB HXR HXB HOW HU
  generalize ((w5.setCell ⟨w.heap.size + 1, 0, none⟩ (.slice a2 n2 c2)).setCell ⟨w.heap.size + 1, 1, none⟩ (.bool q2)) = W6 at *
  go_wp2
  refine bodyPost_ret (v := .tuple #[.agg #[.slice a2 n2 c2, .bool q2], .bool true]) (by simp [results, Try.results24, go_sem, y0, y1]) rfl ⟨_, rfl, HR6.out, HC6.out, HO6.out⟩

/-- What is left behind the next value. -/
def nextO (kind : Nat) (o : Option (List UInt8)) : Option (List UInt8) :=
  if kind % 3 = 0 then numO o else if kind % 3 = 1 then wordO o else (o.bind wordsR).map (·.2)
theorem take_law (B C b : Nat) (kind : Nat) (v : Value) (o : Option (List UInt8)) (w : World) (hk2 : kind < 256) (hv : RCurO B w v o) (hc : CurO C w b o) (hs : shortO o) (hBw : B ≤ w.heap.size) (hCw : C ≤ w.heap.size) :
    Calls Try.prog 24 #[.pointer (some ⟨b, 0, none⟩), v, .int .u8 kind] w (TakePost B C b w (nextO kind o)) := by
  unfold nextO
  by_cases h0 : kind % 3 = 0
  · rw [if_pos h0]; exact take_num B C b kind v o w h0 hk2 hv hc hs
  · rw [if_neg h0]
    by_cases h1 : kind % 3 = 1
    · rw [if_pos h1]; exact take_text B C b kind v o w h1 hk2 hv hc hs
    · rw [if_neg h1]; exact take_texts B C b kind v o w (by omega) hk2 hv hc hs hBw hCw
theorem wordsF_bd : ∀ (n : Nat) (l r : List UInt8) (ts : List (List UInt8)), wordsF n l = some (ts, r) → r.length ≤ l.length
  | 0, l, r, ts, h => by simp [wordsF] at h; rw [← h.2]; exact Nat.le_refl _
  | n + 1, l, r, ts, h => by
    simp only [wordsF] at h
    split at h
    · cases h
    · rename_i s r1 hw
      have hb := wordR_bd hw
      cases hf : wordsF n r1 with
      | none => rw [hf] at h; cases h
      | some x =>
        rw [hf] at h
        simp only [Option.map_some, Option.some.injEq, Prod.mk.injEq] at h
        have := wordsF_bd n r1 x.2 x.1 hf
        rw [← h.2]
        omega
theorem shortO.after {kind : Nat} {o : Option (List UInt8)} (h : shortO o) : shortO (nextO kind o) := by
  intro l hl
  cases o with
  | none => unfold nextO at hl; split at hl <;> (try split at hl) <;> cases hl
  | some ll =>
    have h9 := h ll rfl
    unfold nextO at hl
    split at hl
    · simp only [numO, Option.bind_some, Option.map_eq_some_iff] at hl
      obtain ⟨⟨n, r⟩, hr, rfl⟩ := hl
      have := numR_bd hr
      simp only []
      omega
    · split at hl
      · simp only [wordO, Option.bind_some, Option.map_eq_some_iff] at hl
        obtain ⟨⟨n, r⟩, hr, rfl⟩ := hl
        have := wordR_bd hr
        simp only []
        omega
      · simp only [Option.bind_some, Option.map_eq_some_iff] at hl
        obtain ⟨⟨n, r⟩, hr, rfl⟩ := hl
        unfold wordsR at hr
        split at hr
        · cases hr
        · rename_i n1 r1 hn
          have h1 := numR_bd hn
          split at hr
          · have h2 := wordsF_bd _ _ _ _ hr
            simp only []
            omega
          · cases hr

/-- A new cursor, and where its bytes lie. -/
theorem read_hi (v : Value) (l : List UInt8) (w : World) (h : IsB w v l) (hl : l.length ≤ 140737488355328) :
    Calls Try.prog 23 #[v] w fun e w' => ∃ b a c, e = .returned (.pointer (some ⟨b, 0, none⟩)) ∧ w.heap.size ≤ b ∧ Box2 w' b 84 (.slice a l.length c) .nilIface ∧ IsB w' (.slice a l.length c) l ∧
      (l ≠ [] → ∃ g off, a = some ⟨g, off, none⟩ ∧ w.heap.size ≤ g ∧ g < w'.heap.size) ∧ Below w.heap.size w w' := by
  obtain ⟨a, cap, rfl, h1, h2, h3⟩ := h.shape
  have H := Lib.hid h
  unfold maxLen at h2
  clear h h3
  go_enter Try.func23, Try.ntmps23
  go_wp2_with (at_builtin; refine wpList_app rfl (.tmp 3) (.tmp 4) rfl w.heap.size _ [] rfl (OwnB.made _ _ (Nat.le_refl _)) _ l rfl (H.out.step (bel_new _ _)) (by simp; omega) (by simp) ?_; intro v2 w2 ho2 hb2 hz2 hn2; rw [List.nil_append] at ho2; obtain ⟨a2, cap2, rfl, _⟩ := ho2.isB.shape)
  go_ret
  have hB : Below w.heap.size w w2 := (bel_new w _).trans hb2
  refine ⟨w2.heap.size, a2, cap2, rfl, hB.size, Box2.new w2 84 _ _, ho2.isB.step (bel_new _ _), fun hl0 => ?_, hB.trans ((bel_new w2 _).mono hB.size)⟩
  obtain ⟨g, cp, hv, hg1, hg2⟩ := ho2.shape hl0
  simp only [Value.slice.injEq] at hv
  exact ⟨g, 0, hv.1, hg1, Nat.lt_of_lt_of_le hg2 (bel_new w2 _).size⟩
end Go.Proofs.Ytnieoaadhbcjiaa
