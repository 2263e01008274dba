/- The walks of the statements' own Same and empty. No condition beyond lists' lengths. -/
import Derived.Test.YtbfpjldincnihaaSameM
namespace Go.Proofs.Ytbfpjldincnihaa
open Go.RowKit
set_option linter.unusedVariables false
set_option linter.unusedSimpArgs false

theorem IsN.base {w : World} {b c : Nat} {v : Value} {ns : List Int} (h : IsN w c v ns) (hb : b ≤ c) : IsN w b v ns := by
  rcases h with h | ⟨h0, g, hv, hg, hl, hc⟩
  · exact .inl h
  · exact .inr ⟨h0, g, hv, Nat.le_trans hb hg, hl, hc⟩
theorem undrew {W w' : World} (h : Below W.drew.heap.size W.drew w') : Below W.heap.size W w' := (bel_drew (Below.refl W.heap.size W)).trans h
set_option maxRecDepth 100000 in
set_option maxHeartbeats 8000000 in
theorem rsame_eq (k a1 a2 a3 a4 b1 b2 b3 b4 : Int) (tx dt : List UInt8) (ls ls2 : List (List UInt8)) (la da la2 da2 : Option Addr) (lc dc lc2 dc2 : Nat) (w : World) (hT : IsT w (.slice la ls.length lc) ls) (hD : IsB w (.slice da dt.length dc) dt)
    (hT2 : IsT w (.slice la2 ls.length lc2) ls2) (hD2 : IsB w (.slice da2 dt.length dc2) dt) (hl : ls.length ≤ 1000000) (hll : ls2.length = ls.length) :
    Calls Try.prog 21 #[.agg #[.int .i64 k, .int .i64 a1, .int .i64 a2, .int .i64 a3, .int .i64 a4, .string ⟨tx.toArray⟩, .slice la ls.length lc, .slice da dt.length dc], .agg #[.int .i64 k, .int .i64 b1, .int .i64 b2, .int .i64 b3, .int .i64 b4, .string ⟨tx.toArray⟩, .slice la2 ls.length lc2, .slice da2 dt.length dc2]] w fun e w' => ∃ b : Bool, e = .returned (.bool b) ∧ (b = true ↔ ([a1, a2, a3, a4] = [b1, b2, b3, b4] ∧ ls = ls2)) ∧ Below w.heap.size w w' := by
  have HT := Lib.hid hT
  have HT2 := Lib.hid hT2
  have HLL := Lib.hid hll
  have HNM := Lib.hid (fun W => numbers_any k a1 a2 a3 a4 tx la da ls.length lc dt.length dc W)
  have HNN := Lib.hid (fun W => numbers_any k b1 b2 b3 b4 tx la2 da2 ls.length lc2 dt.length dc2 W)
  have HB1 := Lib.hid (bel_alloc (x := (.cells #[.int .i64 k, .int .i64 b1, .int .i64 b2, .int .i64 b3, .int .i64 b4, .string ⟨tx.toArray⟩, .slice la2 ls.length lc2, .slice da2 dt.length dc2] 25)) (bel_new w (.cells #[.int .i64 k, .int .i64 a1, .int .i64 a2, .int .i64 a3, .int .i64 a4, .string ⟨tx.toArray⟩, .slice la ls.length lc, .slice da dt.length dc] 25)))
  have hb1 := bel_new (w.alloc (.cells #[.int .i64 k, .int .i64 a1, .int .i64 a2, .int .i64 a3, .int .i64 a4, .string ⟨tx.toArray⟩, .slice la ls.length lc, .slice da dt.length dc] 25)) (.cells #[.int .i64 k, .int .i64 b1, .int .i64 b2, .int .i64 b3, .int .i64 b4, .string ⟨tx.toArray⟩, .slice la2 ls.length lc2, .slice da2 dt.length dc2] 25)
  have hm0 := (MCells.box w k a1 a2 a3 a4 tx (.slice la ls.length lc) (.slice da dt.length dc)).step hb1
  have hm1 := MCells.box (w.alloc (.cells #[.int .i64 k, .int .i64 a1, .int .i64 a2, .int .i64 a3, .int .i64 a4, .string ⟨tx.toArray⟩, .slice la ls.length lc, .slice da dt.length dc] 25)) k b1 b2 b3 b4 tx (.slice la2 ls.length lc2) (.slice da2 dt.length dc2)
  clear hb1
  rw [show (w.alloc (.cells #[.int .i64 k, .int .i64 a1, .int .i64 a2, .int .i64 a3, .int .i64 a4, .string ⟨tx.toArray⟩, .slice la ls.length lc, .slice da dt.length dc] 25)).heap.size = w.heap.size + 1 by simp [go_sem]] at hm1
  have hlli : (ls.length : Int) ≤ 1000000 := by omega
  have HM0 := Lib.hid hm0
  have HM1 := Lib.hid hm1
  obtain ⟨c0, c1, c2, c3, c4, c5, c6, c7⟩ := hm0
  obtain ⟨d0, d1, d2, d3, d4, d5, d6, d7⟩ := hm1
  have t0 := run_str _ _ _ (hD.step HB1.out)
  have t1 := run_str _ _ _ (hD2.step HB1.out)
  clear hT hD hT2 hD2 hl hll
  go_enter Try.func21, Try.ntmps21
  go_upto_region 1 with fail
  generalize (w.alloc (.cells #[.int .i64 k, .int .i64 a1, .int .i64 a2, .int .i64 a3, .int .i64 a4, .string ⟨tx.toArray⟩, .slice la ls.length lc, .slice da dt.length dc] 25)).alloc (.cells #[.int .i64 k, .int .i64 b1, .int .i64 b2, .int .i64 b3, .int .i64 b4, .string ⟨tx.toArray⟩, .slice la2 ls.length lc2, .slice da2 dt.length dc2] 25) = W1 at *
  go_upto_region 3 with fail
  have HBC := Lib.hid (Below.refl W1.heap.size W1)
  go_cut [5, 6] (fun x y wx => IsN wx W1.heap.size x [a1, a2, a3, a4] ∧ IsN wx W1.heap.size y [b1, b2, b3, b4] ∧ Below W1.heap.size W1 wx)
  case first =>
    go_region_with (go_at_call 32; (first | ((with_reducible refine (HNM.out _).mono ?_); (rintro r W4 ⟨v4, rfl, hN4, hb4⟩; have HN4 := Lib.hid (hN4.base HBC.out.size); clear hN4; (first | replace hb4 := undrew hb4 | skip); (try replace HN5 := Lib.hid (HN5.out.step hb4)); replace HM0 := Lib.hid (HM0.out.step hb4); replace HM1 := Lib.hid (HM1.out.step hb4); obtain ⟨c0, c1, c2, c3, c4, c5, c6, c7⟩ := HM0.out; obtain ⟨d0, d1, d2, d3, d4, d5, d6, d7⟩ := HM1.out; replace HBC := Lib.hid (bel_step HBC.out hb4))) | ((with_reducible refine (HNN.out _).mono ?_); rintro r W5 ⟨v5, rfl, hN5, hb5⟩; have HN5 := Lib.hid (hN5.base HBC.out.size); clear hN5; (first | replace hb5 := undrew hb5 | skip); (try replace HN4 := Lib.hid (HN4.out.step hb5)); replace HM0 := Lib.hid (HM0.out.step hb5); replace HM1 := Lib.hid (HM1.out.step hb5); obtain ⟨c0, c1, c2, c3, c4, c5, c6, c7⟩ := HM0.out; obtain ⟨d0, d1, d2, d3, d4, d5, d6, d7⟩ := HM1.out; replace HBC := Lib.hid (bel_step HBC.out hb5))))
    all_goals
      go_wp2_with fail
      go_meet
      exact ⟨HN4.out, HN5.out, HBC.out⟩
  case rest =>
    obtain ⟨hx, hy, hbx⟩ := hcut
    obtain ⟨ax, rfl⟩ := hx.shape
    obtain ⟨ay, rfl⟩ := hy.shape
    have HX := Lib.hid hx
    have HY := Lib.hid hy
    have HB2 := Lib.hid (bel_step HB1.out hbx)
    replace HM0 := Lib.hid (HM0.out.step hbx)
    replace HM1 := Lib.hid (HM1.out.step hbx)
    clear hx hy hbx HBC t0 t1 c0 c1 c2 c3 c4 c5 c6 c7 d0 d1 d2 d3 d4 d5 d6 d7
    go_wp2_with fail
    go_loopw [45] (fun i wr => ∃ q : Nat, i = .int .i64 q ∧ q ≤ 4 ∧ [a1, a2, a3, a4].take q = [b1, b2, b3, b4].take q ∧ Below wc.heap.size wc wr) (fun i _ => 4 - (intOf i).toNat)
    case atStart => exact ⟨0, rfl, by omega, rfl, Below.refl _ _⟩
    case round =>
      obtain ⟨q, rfl, hq, heq, hbr⟩ := hrel
      have HEQ := Lib.hid heq
      have HXR := Lib.hid (HX.out.step hbr)
      have HYR := Lib.hid (HY.out.step hbr)
      have HBR := Lib.hid hbr
      clear heq hbr
      by_cases hlt : q < 4
      · obtain ⟨g1, hv1, he1⟩ := HXR.out.elem (k := q) (by simpa using hlt)
        obtain ⟨g2, hv2, he2⟩ := HYR.out.elem (k := q) (by simpa using hlt)
        simp only [Value.slice.injEq] at hv1 hv2
        obtain ⟨rfl, _⟩ := hv1
        obtain ⟨rfl, _⟩ := hv2
        have hq0 : (0 : Int) ≤ (q : Int) := by omega
        have hq1 : (q : Int) < 4 := by omega
        have HE1 := Lib.hid (show [a1, a2, a3, a4][q]? = some ([a1, a2, a3, a4][q]'(by simpa using hlt)) from List.getElem?_eq_getElem (by simpa using hlt))
        have HE2 := Lib.hid (show [b1, b2, b3, b4][q]? = some ([b1, b2, b3, b4][q]'(by simpa using hlt)) from List.getElem?_eq_getElem (by simpa using hlt))
        obtain ⟨x, hx9⟩ : ∃ x, [a1, a2, a3, a4][q]'(by simpa using hlt) = x := ⟨_, rfl⟩
        obtain ⟨y, hy9⟩ : ∃ y, [b1, b2, b3, b4][q]'(by simpa using hlt) = y := ⟨_, rfl⟩
        rw [hx9] at he1 HE1
        rw [hy9] at he2 HE2
        clear hx9 hy9
        by_cases hxy : x = y
        · subst hxy
          go_wp2_with fail
          go_quiet (fail)
          go_wp2_with fail
          go_roundw
          case rel => exact ⟨q + 1, by go_num, by omega, by rw [take_more HE1.out, take_more HE2.out, HEQ.out], bel_drewN HBR.out⟩
          case measure => simp [intOf]; omega
        · have hxb : (x == y) = false := by simpa using hxy
          have HNE := Lib.hid (show ¬ ([a1, a2, a3, a4] = [b1, b2, b3, b4]) from fun h => hxy (by
            have h1 := HE1.out
            have h2 := HE2.out
            rw [h, h2] at h1
            injection h1 with h1
            exact h1.symm))
          clear hxy HE1 HE2
          go_wp2_with fail
          go_quiet (fail)
          go_wp2_with fail
          go_ret
          exact ⟨_, rfl, by simp only [Bool.false_eq_true, false_iff, not_and]; intro h; exact absurd h HNE.out, bel_drewN (bel_step HB2.out HBR.out)⟩
      · have hq4 : q = 4 := by omega
        have hqi : (q : Int) = 4 := by omega
        rw [hqi]
        subst hq4
        clear hqi hlt
        have HNQ := Lib.hid (show [a1, a2, a3, a4] = [b1, b2, b3, b4] from HEQ.out)
        have HB3 := Lib.hid (bel_step HB2.out HBR.out)
        replace HM0 := Lib.hid (HM0.out.step HBR.out)
        replace HM1 := Lib.hid (HM1.out.step HBR.out)
        obtain ⟨c0, c1, c2, c3, c4, c5, c6, c7⟩ := HM0.out
        obtain ⟨d0, d1, d2, d3, d4, d5, d6, d7⟩ := HM1.out
        have HTR := Lib.hid (HT.out.step HB3.out)
        have HTR2 := Lib.hid (HT2.out.step HB3.out)
        clear HEQ HX HY HXR HYR HBR
        go_wp2_with fail
        go_loopw [61] (fun i wy => ∃ k n : Nat, i = .int .i64 k ∧ k ≤ ls.length ∧ ls.take k = ls2.take k ∧ wy = wr.drewN n) (fun i _ => ls.length - (intOf i).toNat)
        case atStart => exact ⟨0, 0, rfl, Nat.zero_le _, rfl, rfl⟩
        case round =>
          obtain ⟨k, nd, rfl, hk, heq, hwy⟩ := hrel
          have HEQ := Lib.hid heq
          rw [hwy]
          clear heq hwy
          by_cases hlt : k < ls.length
          · obtain ⟨g1, o1, p1, e, hv1, he, hat1⟩ := HTR.out.elem2 hlt
            have hg := HTR2.out
            rw [← HLL.out] at hg
            obtain ⟨g2, o2, p2, f, hv2, hf, hat2⟩ := hg.elem2 (k := k) (by have := HLL.out; omega)
            simp only [Value.slice.injEq] at hv1 hv2
            obtain ⟨rfl, _, rfl⟩ := hv1
            obtain ⟨rfl, _, rfl⟩ := hv2
            have HE := Lib.hid he
            have HF := Lib.hid hf
            have hq0 : (0 : Int) ≤ (k : Int) := by omega
            have hq1 : (k : Int) < (ls.length : Int) := by omega
            clear he hf hg
            by_cases hef : e = f
            · subst hef
              go_wp2_with fail
              go_quiet (fail)
              go_wp2_with fail
              go_roundw
              case rel => exact ⟨k + 1, _, by go_num, by omega, by rw [take_more HE.out, take_more HF.out, HEQ.out], rfl⟩
              case measure => simp [intOf]; omega
            · have HNE := Lib.hid (show ls ≠ ls2 from fun h => hef (by
                have h1 := HE.out
                have h2 := HF.out
                rw [h, h2] at h1
                injection h1 with h1
                exact h1.symm))
              have hbe : (e == f) = false := by simpa using hef
              clear HE HF HEQ
              go_wp2_with fail
              go_quiet (fail)
              go_wp2_with fail
              go_ret
              exact ⟨_, rfl, by simpa using fun _ _ _ _ => HNE.out, bel_drewN (bel_drewN HB3.out)⟩
          · obtain rfl : k = ls.length := by omega
            go_wp2_with fail
            go_ret
            exact ⟨_, rfl, by have h1 := HEQ.out; rw [List.take_length, ← HLL.out, List.take_length] at h1; simp only [true_iff]; exact ⟨HNQ.out, h1⟩, bel_drewN HB3.out⟩

set_option maxRecDepth 100000 in
set_option maxHeartbeats 8000000 in
theorem rsame_any (m n : Msg) (la da la2 da2 : Option Addr) (lc dc lc2 dc2 : Nat) (w : World) (hT : IsT w (.slice la m.lst.length lc) m.lst) (hD : IsB w (.slice da m.dat.length dc) m.dat)
    (hT2 : IsT w (.slice la2 n.lst.length lc2) n.lst) (hD2 : IsB w (.slice da2 n.dat.length dc2) n.dat) (hl : m.lst.length ≤ 1000000) :
    Calls Try.prog 21 #[m.val (.slice la m.lst.length lc) (.slice da m.dat.length dc), n.val (.slice la2 n.lst.length lc2) (.slice da2 n.dat.length dc2)] w fun e w' => ∃ b : Bool, e = .returned (.bool b) ∧ (b = true ↔ m = n) ∧ Below w.heap.size w w' := by
  obtain ⟨k, a1, a2, a3, a4, tx, ls, dt⟩ := m
  obtain ⟨k2, b1, b2, b3, b4, tx2, ls2, dt2⟩ := n
  unfold Msg.val
  dsimp only at *
  by_cases hfst : k = k2 ∧ tx = tx2 ∧ dt = dt2 ∧ ls2.length = ls.length
  · obtain ⟨rfl, rfl, rfl, h4⟩ := hfst
    rw [h4] at hT2 ⊢
    refine (rsame_eq k a1 a2 a3 a4 b1 b2 b3 b4 tx dt ls ls2 la da la2 da2 lc dc lc2 dc2 w hT hD hT2 hD2 hl h4).mono ?_
    rintro e w' ⟨b, rfl, hb, hB⟩
    refine ⟨b, rfl, hb.trans ?_, hB⟩
    simp only [Msg.mk.injEq, List.cons.injEq, and_true, true_and]
    constructor
    · rintro ⟨⟨h1, h2, h3, h4⟩, h5⟩; exact ⟨h1, h2, h3, h4, h5⟩
    · rintro ⟨h1, h2, h3, h4, h5⟩; exact ⟨⟨h1, h2, h3, h4⟩, h5⟩
  · have HNE := Lib.hid (show ¬ (Msg.mk k a1 a2 a3 a4 tx ls dt = Msg.mk k2 b1 b2 b3 b4 tx2 ls2 dt2) from fun h => hfst (by
      simp only [Msg.mk.injEq] at h
      obtain ⟨h0, _, _, _, _, h5, h6, h7⟩ := h
      exact ⟨h0, h5, h7, by rw [h6]⟩))
    have hcs : k ≠ k2 ∨ (k = k2 ∧ (tx ≠ tx2 ∨ (tx = tx2 ∧ (dt ≠ dt2 ∨ (dt = dt2 ∧ (ls.length : Int) ≠ (ls2.length : Int)))))) := by
      by_cases h0 : k = k2
      · by_cases h1 : tx = tx2
        · by_cases h2 : dt = dt2
          · exact .inr ⟨h0, .inr ⟨h1, .inr ⟨h2, fun h => hfst ⟨h0, h1, h2, by omega⟩⟩⟩⟩
          · exact .inr ⟨h0, .inr ⟨h1, .inl h2⟩⟩
        · exact .inr ⟨h0, .inl h1⟩
      · exact .inl h0
    have HB1 := Lib.hid (bel_alloc (x := (.cells #[.int .i64 k2, .int .i64 b1, .int .i64 b2, .int .i64 b3, .int .i64 b4, .string ⟨tx2.toArray⟩, .slice la2 ls2.length lc2, .slice da2 dt2.length dc2] 25)) (bel_new w (.cells #[.int .i64 k, .int .i64 a1, .int .i64 a2, .int .i64 a3, .int .i64 a4, .string ⟨tx.toArray⟩, .slice la ls.length lc, .slice da dt.length dc] 25)))
    have t0 := run_str _ _ _ (hD.step HB1.out)
    have t1 := run_str _ _ _ (hD2.step HB1.out)
    clear hT hT2 hD hD2 hl hfst
    rcases hcs with h1 | ⟨rfl, h1 | ⟨rfl, h1 | ⟨rfl, h1⟩⟩⟩
    all_goals
      have hx := beq_eq_false_iff_ne.2 h1
      go_enter Try.func21, Try.ntmps21
      go_wp2_with fail
      go_ret
      exact ⟨_, rfl, by simpa using HNE.out, HB1.out⟩

theorem nil_T (w : World) : IsT w (.slice none 0 0) [] := .inl ⟨rfl, none, 0, rfl, Nat.zero_le _, fun _ => rfl⟩
def zeroM : Msg := ⟨0, 0, 0, 0, 0, [], [], []⟩
set_option maxRecDepth 100000 in
theorem empty_any (m : Msg) (la da : Option Addr) (lc dc : Nat) (w : World) (hT : IsT w (.slice la m.lst.length lc) m.lst) (hD : IsB w (.slice da m.dat.length dc) m.dat) (hl : m.lst.length ≤ 1000000) :
    Calls Try.prog 22 #[m.val (.slice la m.lst.length lc) (.slice da m.dat.length dc)] w fun e w' => ∃ b : Bool, e = .returned (.bool b) ∧ (b = true ↔ m = zeroM) ∧ Below w.heap.size w w' := by
  have HS := Lib.hid (fun W hT hD => rsame_any m zeroM la da none none lc dc 0 0 W hT hD (nil_T W) (OwnB.nil W 0).isB hl)
  have HB := Lib.hid (bel_new w (.cells #[.int .i64 m.kind, .int .i64 m.id, .int .i64 m.num, .int .i64 m.tot, .int .i64 m.off, .string ⟨m.txt.toArray⟩, .slice la m.lst.length lc, .slice da m.dat.length dc] 25))
  have HT := Lib.hid (hT.step HB.out)
  have HD := Lib.hid (hD.step HB.out)
  clear hT hD
  unfold Msg.val at *
  go_enter Try.func22, Try.ntmps22
  go_wp2_with (go_at_call 21; refine (HS.out _ HT.out HD.out).mono ?_; rintro r W2 ⟨b, rfl, hb, hb2⟩)
  go_ret
  exact ⟨b, rfl, hb, bel_step HB.out hb2⟩
end Go.Proofs.Ytbfpjldincnihaa
