/- The walk of the law RecordWrites: it returns true. Conditions: the slices' readings, and a bound of their bulk. -/
import Derived.Test.YtnieoaadhbcjiaaPut
import Derived.Maps.AppendAt
namespace Go.Proofs.Ytnieoaadhbcjiaa
open Go.RowKit
set_option linter.unusedVariables false
set_option linter.unusedSimpArgs false

def formsV (vs : List Val) : List UInt8 := vs.flatMap formV
theorem forms_take {vs : List Val} {k : Nat} {x : Val} (h : vs[k]? = some x) : formsV (vs.take (k + 1)) = formsV (vs.take k) ++ formV x := by
  obtain ⟨hk, rfl⟩ := List.getElem?_eq_some_iff.1 h
  rw [List.take_succ_eq_append_getElem hk, formsV, List.flatMap_append]
  simp only [List.flatMap_cons, List.flatMap_nil, List.append_nil, formsV]
theorem forms_len (vs : List Val) : (formsV vs).length ≤ sizeV vs := by
  induction vs with
  | nil => simp [formsV]
  | cons x r ih =>
    have h1 := formV_len x
    have e1 : (formsV (x :: r)).length = (formV x).length + (formsV r).length := by simp only [formsV, List.flatMap_cons, List.length_append]
    have e2 : sizeV (x :: r) = lenV x + sizeV r := by simp [sizeV]
    omega
theorem IsB.ten (w : World) : IsB (w.alloc (.cells #[.int .u8 1, .int .u8 2, .int .u8 3, .int .u8 4, .int .u8 5, .int .u8 6, .int .u8 7, .int .u8 8, .int .u8 9, .int .u8 10] 5)) (.slice (some ⟨w.heap.size, 0, none⟩) 10 10) [1, 2, 3, 4, 5, 6, 7, 8, 9, 10] := by
  refine .inr ⟨by simp, w.heap.size, 0, 10, rfl, by simp, by unfold maxLen; omega, fun i d hi => ?_⟩
  have hc := cell_of_row (w.alloc (.cells #[.int .u8 1, .int .u8 2, .int .u8 3, .int .u8 4, .int .u8 5, .int .u8 6, .int .u8 7, .int .u8 8, .int .u8 9, .int .u8 10] 5)) w.heap.size (0 + i) _ _ _ (heap_alloc_new w _)
  rw [hc]
  match i, hi with
  | 0, hi => simp at hi; subst hi; rfl
  | 1, hi => simp at hi; subst hi; rfl
  | 2, hi => simp at hi; subst hi; rfl
  | 3, hi => simp at hi; subst hi; rfl
  | 4, hi => simp at hi; subst hi; rfl
  | 5, hi => simp at hi; subst hi; rfl
  | 6, hi => simp at hi; subst hi; rfl
  | 7, hi => simp at hi; subst hi; rfl
  | 8, hi => simp at hi; subst hi; rfl
  | 9, hi => simp at hi; subst hi; rfl
  | i + 10, hi => simp at hi

/-- append of whatever bytes to bytes of the call's own, and which block grows. -/
theorem wpList_appG {ops : Array Oper} {rest : List Oper} {o : Oper} {a : Act} {Q : Exit → Act → World → Prop} {w : World} (hgd : o.guard = none) (s x : Operand)
    (ho : o.op = .call { callee := .builtin .append, args := #[s, x], argTypes := #[23, 23] })
    (base : Nat) (v : Value) (l : List UInt8) (hs : a.eval s = v) (hown : OwnB w base v l) (u : Value) (l2 : List UInt8) (hx : a.eval x = u) (hu : IsB w u l2)
    (hb : l.length + l2.length ≤ 140737488355328) (hbase : base ≤ w.heap.size)
    (h : ∀ v' w', OwnB w' base v' (l ++ l2) → Below base w w' → w.heap.size ≤ w'.heap.size → w.grownBy w' v.ownBlock → (v'.ownBlock = v.ownBlock ∨ v'.ownBlock = some w.heap.size) → wpList Try.prog ops Q rest (a.put o.dst v') w') : wpList Try.prog ops Q (o :: rest) a w := by
  obtain ⟨i0, hi, hz0, hz1, hz2⟩ := info_parts info5
  rcases hu.news with ⟨rfl, rfl⟩ | ⟨ad, cap, rfl, hc, hm, hcells⟩
  · refine wpList_append_own_none hgd s x 23 ho base 5 i0 1 Try.underlying23 hi v l.length (l.map bcell) hs hown hx ?_
    exact h v w (by simpa using hown) (Below.refl _ _) (Nat.le_refl _) (World.grownBy.refl _ _) (.inl rfl)
  · refine wpList_append_own_at _ hgd s x 23 ho base 5 i0 (.int .u8 0) 1 1 Try.underlying23 hi hz0 hz1 hz2 rfl (by decide) v l.length (l.map bcell) hs hown ad l2.length cap (l2.map bcell) hx (by simp) hcells (bcell_one l2)
      (by unfold maxLen; omega) (by omega) hbase ?_
    intro v' w' hown' hgrow hnil hat
    refine h v' w' (by simpa [OwnB] using hown') ?_ hgrow.size hgrow hat
    exact (Below.refl base w).grown hgrow hbase fun k hk => (World.ownsRow.lt hown k hk).1
theorem slice_upto (g n c : Nat) (h : (n : Int) ≤ (c : Int)) (W : World) : (Instr.sliceAt 23 (.slice (some ⟨g, 0, none⟩) (n + 10) c) none (some (.int .i64 n)) none).run Try.prog W = .ok (.slice (some ⟨g, 0, none⟩) n c) W := by
  have h0 : (0 : Int) ≤ n := by omega
  simp [go_sem, Try.underlying23, h, h0]
theorem OwnB.grown {w w' : World} {base : Nat} {row : Option Nat} {v : Value} {l : List UInt8} (h : OwnB w base v l) (hg : w.grownBy w' row) (hn : v.ownBlock = none ∨ v.ownBlock ≠ row) : OwnB w' base v l :=
  World.ownsRow.kept h hg hn
theorem OwnB.cut {w : World} {base g n c : Nat} {l r : List UInt8} (h : OwnB w base (.slice (some ⟨g, 0, none⟩) n c) (l ++ r)) : OwnB w base (.slice (some ⟨g, 0, none⟩) l.length c) l := by
  obtain ⟨h0, h1⟩ := h
  refine ⟨by simp, ?_⟩
  rcases h1 with ⟨h1, _⟩ | ⟨g', cap, cur, h2, h3, h4, h5, h6, h7, h8⟩
  · cases h1
  · simp only [Value.slice.injEq, Option.some.injEq, Addr.mk.injEq] at h2
    obtain ⟨⟨rfl, _, _⟩, rfl, rfl⟩ := h2
    refine .inr ⟨g, c, cur, rfl, h3, h4, by simp only [List.length_append] at h5; omega, h6, h7, ?_⟩
    have := congrArg (List.take (l.length * 1)) h8
    rw [List.take_take, List.map_append, List.take_append_of_le_length (by simp), List.take_of_length_le (l := l.map bcell) (by simp)] at this
    rw [← this]
    congr 1
    simp only [List.length_append]
    omega

set_option maxRecDepth 100000 in
set_option maxHeartbeats 4000000 in
theorem writes_walk (va vb : Value) (vs : List Val) (l : List UInt8) (w : World) (ha : IsV w va vs) (hb : IsB w vb l) (hs : sizeV vs ≤ 1000000000) (hvl : vs.length ≤ 1000000000) :
    Calls Try.prog 3 #[va, vb] w fun e w' => e = .returned (.bool true) ∧ Below w.heap.size w w' := by
  have HA := Lib.hid ha
  have HB := Lib.hid hb
  obtain ⟨aa, ca, rfl⟩ := ha.shape
  obtain ⟨ab, cb, rfl, hcb, hcb2, _⟩ := hb.shape
  have hSZ := fun W h => size_any (.slice aa vs.length ca) vs W h hs hvl
  have HSZ := Lib.hid hSZ
  have HCB := Lib.hid hcb2
  clear ha hb hSZ hcb2
  by_cases hbig : 3000 < sizeV vs ∨ 3000 < l.length
  · rcases Nat.lt_or_ge 3000 (sizeV vs) with h3 | h3
    · have h3' : (3000 : Int) < (sizeV vs : Int) := by omega
      clear hs hbig
      go_enter Try.func3, Try.ntmps3
      go_wp2_with fail
      refine (awake_any _).mono ?_
      rintro e w1 ⟨rfl, hb⟩
      have H1 := Lib.hid (HA.out.step hb)
      go_wp2_with (go_at_call 14; refine (HSZ.out _ H1.out).mono ?_; rintro e w' ⟨rfl, rfl⟩)
      refine (awake_any _).mono ?_
      rintro e w2 ⟨rfl, hb2⟩
      go_wp2_with fail
      go_ret
      exact ⟨rfl, bel_step hb hb2⟩
    · have h3' : (sizeV vs : Int) ≤ 3000 := by omega
      have h4' : (3000 : Int) < (l.length : Int) := by omega
      clear hs hbig
      go_enter Try.func3, Try.ntmps3
      go_wp2_with fail
      refine (awake_any _).mono ?_
      rintro e w1 ⟨rfl, hb⟩
      have H1 := Lib.hid (HA.out.step hb)
      go_wp2_with (go_at_call 14; refine (HSZ.out _ H1.out).mono ?_; rintro e w' ⟨rfl, rfl⟩)
      refine (awake_any _).mono ?_
      rintro e w2 ⟨rfl, hb2⟩
      go_wp2_with fail
      go_ret
      exact ⟨rfl, bel_step hb hb2⟩
  have h3' : (sizeV vs : Int) ≤ 3000 := by omega
  have h4' : (l.length : Int) ≤ 3000 := by omega
  have hd1 : decide ((3000 : Int) < (sizeV vs : Int)) = false := by simp; omega
  have hd2 : decide ((3000 : Int) < (l.length : Int)) = false := by simp; omega
  have hsz : sizeV vs ≤ 3000 ∧ l.length ≤ 3000 := by omega
  have HS := Lib.hid hsz
  have hvi : (vs.length : Int) ≤ 1000000000 := by omega
  clear hs hbig hsz
  go_enter Try.func3, Try.ntmps3
  go_wp2_with fail
  refine (awake_any _).mono ?_
  rintro e w1 ⟨rfl, hb⟩
  have H1 := Lib.hid (HA.out.step hb)
  have hz1 : w.heap.size ≤ w1.heap.size := hb.size
  go_upto_region 4 with (first | (go_at_call 14; refine (HSZ.out _ H1.out).mono ?_; rintro e w' ⟨rfl, rfl⟩) | (at_builtin; refine wpList_app rfl (.tmp 23) (.tmp 24) rfl w1.heap.size _ [] rfl (OwnB.made _ _ (Nat.le_refl _)) _ l rfl ((HB.out.step hb).step (bel_new _ _)) (by have := HS.out; simp; omega) (by simp) ?_; intro v2 w2 ho2 hb2 hz2 hn2; rw [List.nil_append] at ho2; have HO2 := Lib.hid ho2; clear ho2 hn2; have hz2' : w1.heap.size ≤ w2.heap.size := Nat.le_trans (bel_new _ _).size hz2) | (at_builtin; refine wpList_app rfl (.tmp 25) (.tmp 26) rfl w1.heap.size _ l rfl (HO2.out.step (bel_new _ _)) _ _ rfl (IsB.ten w2) (by have := HS.out; simp; omega) (by simp; omega) ?_; intro v3 w3 ho3 hb3 hz3 hn3; obtain ⟨g3, c3, hv3, hg31, hg32⟩ := ho3.shape (by simp)))
  have hl10 : (l ++ [1, 2, 3, 4, 5, 6, 7, 8, 9, 10] : List UInt8).length = l.length + 10 := by simp
  rw [hl10] at hv3
  subst hv3
  obtain ⟨_, _, hv, hcc, hcc2, _⟩ := ho3.isB.shape
  simp only [Value.slice.injEq] at hv
  obtain ⟨rfl, hjunk, rfl⟩ := hv
  clear hjunk
  have hlc : (l.length : Int) ≤ (c3 : Int) := by omega
  have hsl := fun W => slice_upto g3 l.length c3 hlc W
  have hgot := ho3.cut
  have hB3 : Below w1.heap.size w1 w3 := (((bel_new w1 _).trans hb2).trans ((bel_new w2 _).mono hz2')).trans hb3
  have hBw : Below w.heap.size w w3 := bel_step hb hB3
  have HG := Lib.hid hgot
  have HR := Lib.hid ho3.isB
  have HBW := Lib.hid hBw
  have HB3 := Lib.hid (HB.out.step hBw)
  have HA3 := Lib.hid (HA.out.step hBw)
  clear hl10 hcc hcc2 hgot ho3 hB3 hBw hb2 hz2 hb3 hz3 hn3 HO2 hz2' HB H1 hb
  go_upto_region 6 with (at_builtin; refine wpList_app rfl (.tmp 32) (.tmp 33) rfl w3.heap.size _ [] rfl (OwnB.made _ _ (Nat.le_refl _)) _ l rfl (HB3.out.step (bel_new _ _)) (by have := HS.out; simp; omega) (by simp) ?_; intro v4 w4 ho4 hb4 hz4 hn4; rw [List.nil_append] at ho4; have HO4 := Lib.hid ho4; clear ho4 hn4)
  have hB34 : Below w3.heap.size w3 w4 := (bel_new w3 _).trans hb4
  have HB34 := Lib.hid hB34
  have hob : ∀ g, v4.ownBlock = some g → w3.heap.size ≤ g := fun g hg => (World.ownsRow.lt HO4.out g hg).1
  have hap : (Value.slice (some ⟨g3, 0, none⟩) l.length c3).ownBlock ≠ v4.ownBlock := by
    intro e
    have := hob g3 (by rw [← e]; rfl)
    omega
  have HAP := Lib.hid hap
  clear hB34 hob hap hb4 hz4
  go_wp2_with fail
  go_loopw [6, 7, 8] (fun gv wv i wr => ∃ (k : Nat), i = .int .i64 k ∧ k ≤ vs.length ∧ OwnB wr w1.heap.size gv (l ++ formsV (vs.take k)) ∧ OwnB wr w3.heap.size wv (l ++ formsV (vs.take k)) ∧ (gv.ownBlock = none ∨ gv.ownBlock ≠ wv.ownBlock) ∧ Below w3.heap.size w3 wr) (fun _ _ i _ => vs.length - (intOf i).toNat)
  case atStart => exact ⟨0, rfl, Nat.zero_le _, by simpa [formsV] using HG.out.step HB34.out, by simpa [formsV] using HO4.out, .inr HAP.out, HB34.out⟩
  case round =>
    obtain ⟨k, rfl, hk, hG, hO, hap, hB⟩ := hrel
    clear HG HO4 HAP HB34
    have HG := Lib.hid hG
    have HO := Lib.hid hO
    have HAP := Lib.hid hap
    have HB := Lib.hid hB
    have hzw : w3.heap.size ≤ wr.heap.size := hB.size
    have hsh : ∃ a5 c5, u6 = .slice a5 (l ++ formsV (vs.take k)).length c5 := by obtain ⟨x, y, h, _⟩ := hG.isB.shape; exact ⟨x, y, h⟩
    clear hG hO hap hB
    by_cases hlt : k < vs.length
    · obtain ⟨gv, off, cv, x, hv, hkx, hat⟩ := (HA3.out.step HB.out).elem hlt
      simp only [Value.slice.injEq] at hv
      obtain ⟨rfl, _, rfl⟩ := hv
      obtain ⟨hk256, x0, x1, x2, u, x3, hT⟩ := hat
      have hft := forms_take hkx
      have hfl : (formsV (vs.take k)).length + lenV x ≤ 3000 := by
        have h1 := forms_len (vs.take k)
        have h2 := sizeV_take hkx
        have h3 := sizeV_le vs (k + 1)
        have := HS.out
        omega
      have hfx := formV_len x
      have hll := HS.out.2
      have hP := fun W h9 h8 => put_any u6 u (l ++ formsV (vs.take k)) x W h9 h8 hk256 (by simp only [List.length_append]; omega)
      have hF := fun W h8 => form_any u x W h8 hk256 (by omega)
      have HFT := Lib.hid hft
      have HP := Lib.hid hP
      have HF := Lib.hid hF
      have HT := Lib.hid hT
      have HLL := Lib.hid (show (l ++ formsV (vs.take k)).length + (formV x).length ≤ 1000000 by simp only [List.length_append]; omega)
      have hk0 : (0 : Int) ≤ (k : Int) := by omega
      have hk1 : (k : Int) < (vs.length : Int) := by omega
      obtain ⟨au, cu, rfl⟩ := hT.shape
      clear hft hfl hfx hll hP hF hT hkx
      go_wp2_with (first | (go_at_call 15; refine (HP.out _ HG.out.isB HT.out).mono ?_; rintro e w5 ⟨v5, rfl, ho5, hb5⟩; have HO5 := Lib.hid ho5; have HB5 := Lib.hid hb5; have x0 := keep_at hb5 x0; have x1 := keep_at hb5 x1; have x2 := keep_at hb5 x2; have x3 := keep_at hb5 x3; clear ho5 hb5) | (go_at_call 16; refine (HF.out _ (HT.out.step HB5.out)).mono ?_; rintro e w6 ⟨v6, rfl, ho6, hb6⟩; have HO6 := Lib.hid ho6; have HB6 := Lib.hid hb6; clear ho6 hb6) | (at_builtin; refine wpList_appG rfl (.tmp 47) (.tmp 52) rfl w3.heap.size _ _ rfl ((HO.out.step HB5.out).step HB6.out) _ (formV x) rfl HO6.out.isB (by have := HLL.out; omega) (Nat.le_trans hzw (Nat.le_trans HB5.out.size HB6.out.size)) ?_; intro v7 w7 ho7 hb7 hz7 hg7 hat7))
      have hne5 : ∀ g, u7.ownBlock = some g → g < wr.heap.size := fun g hg => (World.ownsRow.lt HO.out g hg).2
      have hge5 : ∀ g, v5.ownBlock = some g → wr.heap.size ≤ g ∧ g < w5.heap.size := fun g hg => World.ownsRow.lt HO5.out g hg
      have hap5 : v5.ownBlock = none ∨ v5.ownBlock ≠ u7.ownBlock := by
        cases h5 : v5.ownBlock with
        | none => exact .inl rfl
        | some g =>
          right
          intro e
          have h1 := hge5 g h5
          have h2 := hne5 g e.symm
          omega
      have hap7 : v5.ownBlock = none ∨ v5.ownBlock ≠ v7.ownBlock := by
        rcases hat7 with e | e
        · rw [e]; exact hap5
        · rw [e]
          cases h5 : v5.ownBlock with
          | none => exact .inl rfl
          | some g =>
            right
            intro e
            have h1 := hge5 g h5
            have h2 := HB6.out.size
            simp only [Option.some.injEq] at e
            omega
      have hfin := ((HO5.out.step HB6.out).grown hg7 hap5).mono (B := w1.heap.size) (by omega)
      go_roundw
      case rel => exact ⟨k + 1, by go_num, by omega, by rw [HFT.out, ← List.append_assoc]; exact hfin, by rw [HFT.out, ← List.append_assoc]; exact ho7, hap7, (HB.out.trans ((HB5.out.trans (HB6.out.mono HB5.out.size)).mono hzw)).trans hb7⟩
      case measure => simp [intOf]; omega
    · have hfin : vs.take k = vs := List.take_of_length_le (by omega)
      rw [hfin] at HG HO
      have hr9 : IsB wr (.slice (some ⟨g3, 0, none⟩) (l.length + 10) c3) (l ++ [1, 2, 3, 4, 5, 6, 7, 8, 9, 10]) := by
        have := HR.out
        exact this.bel (fun _ => ⟨g3, 0, rfl, hg32⟩) HB.out
      have hcells : ∀ j : Nat, j < 10 → wr.cell? ⟨g3, l.length + j, none⟩ = some (.int .u8 ((j : Int) + 1)) := by
        intro j hj
        rcases hr9 with ⟨h, _⟩ | ⟨_, b, off, cap, hv, _, _, hc⟩
        · simp at h
        · simp only [Value.slice.injEq, Option.some.injEq, Addr.mk.injEq] at hv
          obtain ⟨⟨rfl, rfl, _⟩, _, rfl⟩ := hv
          have h9 := hc (l.length + j) (UInt8.ofNat (j + 1)) (by
            rw [List.getElem?_append_right (by omega), show l.length + j - l.length = j by omega]
            match j, hj with
            | 0, _ => rfl
            | 1, _ => rfl
            | 2, _ => rfl
            | 3, _ => rfl
            | 4, _ => rfl
            | 5, _ => rfl
            | 6, _ => rfl
            | 7, _ => rfl
            | 8, _ => rfl
            | 9, _ => rfl)
          rw [Nat.zero_add] at h9
          rw [h9, UInt8.toNat_ofNat']
          congr 2
          omega
      have HC := Lib.hid hcells
      clear hfin hr9 hcells hsh
      obtain ⟨wo, rfl⟩ : ∃ wo : World, wo = wr := ⟨_, rfl⟩
      go_wp2_with fail
      go_loop [9] (fun i => ∃ j : Nat, i = .int .i64 j ∧ j ≤ 10) (fun i => 10 - (intOf i).toNat)
      case atStart => exact ⟨0, rfl, by omega⟩
      case round =>
        obtain ⟨j, rfl, hj⟩ := hrel
        by_cases hlt : j < 10
        · have hcell := HC.out j hlt
          have hj0 : (0 : Int) ≤ (j : Int) := by omega
          have hj1 : (j : Int) < 10 := by omega
          have hmod : ((j : Int) + 1) % 256 = (j : Int) + 1 := by omega
          go_wp2_with fail
          go_round
          case rel => exact ⟨j + 1, by go_num, by omega⟩
          case measure => simp [intOf]; omega
        · obtain rfl : j = 10 := by omega
          have hby := bytes_any _ _ _ _ _ HG.out.isB HO.out.isB
          rw [beq_self_eq_true] at hby
          have HBY := Lib.hid hby
          clear hby
          go_wp2_with (go_at_call 17; refine (HBY.out).mono ?_; rintro e w' ⟨rfl, rfl⟩)
          go_ret
          exact ⟨rfl, HBW.out.trans (HB.out.mono HBW.out.size)⟩
end Go.Proofs.Ytnieoaadhbcjiaa
