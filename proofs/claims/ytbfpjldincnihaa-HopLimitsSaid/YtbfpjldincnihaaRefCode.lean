/- The walk of the reference's Code. No condition. -/
import Derived.Test.YtbfpjldincnihaaLawLarge
namespace Go.Proofs.Ytbfpjldincnihaa
open Go.RowKit
set_option linter.unusedVariables false
set_option linter.unusedSimpArgs false

/-- The number of the error of Encode, but for the length of the payload. -/
def codeR (m : Msg) : Int := if (okK m.kind && rightM m (usesF m.kind)) = false then 2 else if ¬ rangeM m then 1 else if largeM m = true then 5 else 0
theorem has_flds (k : Int) : hasB k 0 = (usesF k).id ∧ hasB k 1 = (usesF k).num ∧ hasB k 2 = (usesF k).tot ∧ hasB k 3 = (usesF k).off ∧ hasB k 4 = (usesF k).txt ∧ hasB k 5 = (usesF k).lst ∧ hasB k 6 = (usesF k).dat := by
  unfold hasB usesL usesF
  repeat' split
  all_goals simp
theorem uses_nil (k : Int) : (okK k = true ∧ 0 < (usesL k).length) ∨ (okK k = false ∧ (usesL k).length = 0) := by
  unfold okK usesL
  simp only [decide_eq_true_eq, decide_eq_false_iff_not]
  repeat' split
  all_goals first | (refine .inl ⟨by omega, by simp⟩) | (refine .inr ⟨by omega, by simp⟩)
theorem right_iff (m : Msg) : rightM m (usesF m.kind) = true ↔
    (∀ j : Nat, j < 4 → nM m.id m.num m.tot m.off j = 0 ∨ hasB m.kind (j : Int) = true) ∧ (m.txt = [] ∨ hasB m.kind 4 = true) ∧ (m.lst = [] ∨ hasB m.kind 5 = true) ∧ (m.dat = [] ∨ hasB m.kind 6 = true) := by
  obtain ⟨h0, h1, h2, h3, h4, h5, h6⟩ := has_flds m.kind
  constructor
  · intro h
    unfold rightM at h
    simp only [Bool.and_eq_true, Bool.or_eq_true, decide_eq_true_eq] at h
    obtain ⟨⟨⟨⟨⟨⟨g0, g1⟩, g2⟩, g3⟩, g4⟩, g5⟩, g6⟩ := h
    refine ⟨fun j hj => ?_, by rw [h4]; exact g4.symm, by rw [h5]; exact g5.symm, by rw [h6]; exact g6.symm⟩
    match j, hj with
    | 0, _ => rw [show ((0 : Nat) : Int) = 0 from rfl, h0]; exact g0.symm
    | 1, _ => rw [show ((1 : Nat) : Int) = 1 from rfl, h1]; exact g1.symm
    | 2, _ => rw [show ((2 : Nat) : Int) = 2 from rfl, h2]; exact g2.symm
    | 3, _ => rw [show ((3 : Nat) : Int) = 3 from rfl, h3]; exact g3.symm
  · rintro ⟨h, g4, g5, g6⟩
    have q0 := h 0 (by omega)
    have q1 := h 1 (by omega)
    have q2 := h 2 (by omega)
    have q3 := h 3 (by omega)
    rw [show ((0 : Nat) : Int) = 0 from rfl, h0] at q0
    rw [show ((1 : Nat) : Int) = 1 from rfl, h1] at q1
    rw [show ((2 : Nat) : Int) = 2 from rfl, h2] at q2
    rw [show ((3 : Nat) : Int) = 3 from rfl, h3] at q3
    rw [h4] at g4
    rw [h5] at g5
    rw [h6] at g6
    unfold rightM
    simp only [Bool.and_eq_true, Bool.or_eq_true, decide_eq_true_eq]
    exact ⟨⟨⟨⟨⟨⟨q0.symm, q1.symm⟩, q2.symm⟩, q3.symm⟩, g4.symm⟩, g5.symm⟩, g6.symm⟩
theorem codeR_kind {m : Msg} (h : okK m.kind = false) : codeR m = 2 := by unfold codeR; rw [if_pos (by rw [h]; rfl)]
theorem codeR_form {m : Msg} (h : ¬ rightM m (usesF m.kind) = true) : codeR m = 2 := by unfold codeR; rw [if_pos (by rw [Bool.not_eq_true] at h; rw [h, Bool.and_false])]
theorem codeR_range {m : Msg} (h : okK m.kind = true) (hr : rightM m (usesF m.kind) = true) (h2 : ¬ rangeM m) : codeR m = 1 := by unfold codeR; rw [if_neg (by rw [h, hr]; simp), if_pos h2]
theorem codeR_large {m : Msg} (h : okK m.kind = true) (hr : rightM m (usesF m.kind) = true) (h2 : rangeM m) (h3 : largeM m = true) : codeR m = 5 := by unfold codeR; rw [if_neg (by rw [h, hr]; simp), if_neg (by simpa using h2), if_pos h3]
theorem codeR_ok {m : Msg} (h : okK m.kind = true) (hr : rightM m (usesF m.kind) = true) (h2 : rangeM m) (h3 : ¬ largeM m = true) : codeR m = 0 := by unfold codeR; rw [if_neg (by rw [h, hr]; simp), if_neg (by simpa using h2), if_neg h3]

set_option maxRecDepth 100000 in
set_option maxHeartbeats 8000000 in
theorem code_any (m : Msg) (la da : Option Addr) (lc dc : Nat) (w : World) (hT : IsT w (.slice la m.lst.length lc) m.lst) :
    Calls Try.prog 15 #[m.val (.slice la m.lst.length lc) (.slice da m.dat.length dc)] w fun e w' => e = .returned (.int .i64 (codeR m)) ∧ Below w.heap.size w w' := by
  have HT := Lib.hid hT
  have HU := Lib.hid (fun W => Uses_any m.kind W)
  have HS := Lib.hid (fun j W => has_any m.kind j W)
  have HNU := Lib.hid (fun W => numbers_any m.kind m.id m.num m.tot m.off m.txt la da m.lst.length lc m.dat.length dc W)
  have HUN := Lib.hid (uses_nil m.kind)
  have HCK := Lib.hid (fun h => codeR_kind (m := m) h)
  have HCF := Lib.hid (fun h => codeR_form (m := m) h)
  have HCR := Lib.hid (fun h hr h2 => codeR_range (m := m) h hr h2)
  have HCL := Lib.hid (fun h hr h2 h3 => codeR_large (m := m) h hr h2 h3)
  have HCO := Lib.hid (fun h hr h2 h3 => codeR_ok (m := m) h hr h2 h3)
  have HRI := Lib.hid (right_iff m)
  have HLG := Lib.hid (show largeM m = _ from rfl)
  generalize codeR m = CR at *
  have HB0 := Lib.hid (bel_new w (.cells #[.int .i64 m.kind, .int .i64 m.id, .int .i64 m.num, .int .i64 m.tot, .int .i64 m.off, .string ⟨m.txt.toArray⟩, .slice la m.lst.length lc, .slice da m.dat.length dc] 25))
  have hm0 := MCells.box w m.kind m.id m.num m.tot m.off m.txt (.slice la m.lst.length lc) (.slice da m.dat.length dc)
  have HM0 := Lib.hid hm0
  obtain ⟨c0, c1, c2, c3, c4, c5, c6, c7⟩ := hm0
  unfold Msg.val at *
  clear hT
  go_enter Try.func15, Try.ntmps15
  go_upto_region 1 with fail
  generalize w.alloc (.cells #[.int .i64 m.kind, .int .i64 m.id, .int .i64 m.num, .int .i64 m.tot, .int .i64 m.off, .string ⟨m.txt.toArray⟩, .slice la m.lst.length lc, .slice da m.dat.length dc] 25) = W1 at *
  generalize usesL m.kind = L at *
  rcases HUN.out with ⟨hok, hL⟩ | ⟨hok, hL⟩
  case inr =>
    have HC := Lib.hid (HCK.out hok)
    have hL' : (L.length : Int) = 0 := by omega
    clear hok HUN
    go_wp2_with (go_at_call 31; refine (HU.out _).mono ?_; rintro r W2 ⟨v2, rfl, hN, hb2⟩; obtain ⟨a2, rfl⟩ := hN.shape; clear hN)
    go_ret
    exact ⟨ret_int (by rw [HC.out]), bel_step HB0.out hb2⟩
  case inl =>
    have HOK := Lib.hid hok
    have hL' : ¬ (L.length : Int) = 0 := by omega
    clear hok HUN
    go_upto_region 3 with (go_at_call 31; refine (HU.out _).mono ?_; rintro r W2 ⟨v2, rfl, hN, hb2⟩; obtain ⟨a2, rfl⟩ := hN.shape; clear hN)
    have HB2 := Lib.hid (bel_step HB0.out hb2)
    have HM2 := Lib.hid (HM0.out.step hb2)
    obtain ⟨d0, d1, d2, d3, d4, d5, d6, d7⟩ := HM2.out
    clear HB0 HM0 hb2 c0 c1 c2 c3 c4 c5 c6 c7 hL hL' HU
    go_upto_region 4 with (go_at_call 32; refine (HNU.out _).mono ?_; rintro r W3 ⟨v3, rfl, hN, hb3⟩; have HN := Lib.hid hN; obtain ⟨a3, rfl⟩ := hN.shape; clear hN)
    have HB3 := Lib.hid (bel_step HB2.out hb3)
    have HM3 := Lib.hid (HM2.out.step hb3)
    clear HB2 HM2 hb3 d0 d1 d2 d3 d4 d5 d6 d7 HNU
    go_wp2_with fail
    go_loopw [16] (fun i wr => ∃ k : Nat, i = .int .i64 k ∧ k ≤ 4 ∧ (∀ j : Nat, j < k → nM m.id m.num m.tot m.off j = 0 ∨ hasB m.kind (j : Int) = true) ∧ Below W3.heap.size W3 wr) (fun i _ => 4 - (intOf i).toNat)
    case atStart => exact ⟨0, rfl, by omega, fun j hj => absurd hj (by omega), Below.refl _ _⟩
    case round =>
      obtain ⟨q, rfl, hq, hall, hbr⟩ := hrel
      have HA := Lib.hid hall
      have HBR := Lib.hid hbr
      have HMR := Lib.hid (HM3.out.step hbr)
      have HNR := Lib.hid (HN.out.step hbr)
      clear hall hbr
      obtain ⟨d0, d1, d2, d3, d4, d5, d6, d7⟩ := HMR.out
      by_cases hlt : q < 4
      · obtain ⟨g, hv, hc⟩ := HNR.out.elem (k := q) (by simpa using hlt)
        simp only [Value.slice.injEq] at hv
        obtain ⟨rfl, _⟩ := hv
        have hx : ([m.id, m.num, m.tot, m.off][q]'(by simpa using hlt)) = nM m.id m.num m.tot m.off q := by
          match q, hlt with
          | 0, _ | 1, _ | 2, _ | 3, _ => rfl
        rw [hx] at hc
        have hq0 : (0 : Int) ≤ (q : Int) := by omega
        have hq1 : (q : Int) < 4 := by omega
        clear hx
        have HBAD := Lib.hid (fun (h : ¬ (nM m.id m.num m.tot m.off q = 0 ∨ hasB m.kind (q : Int) = true)) => HCF.out (fun hr => h ((HRI.out.1 hr).1 q hlt)))
        obtain ⟨x, hx9⟩ : ∃ x, nM m.id m.num m.tot m.off q = x := ⟨_, rfl⟩
        rw [hx9] at hc HBAD
        have HX := Lib.hid hx9
        clear hx9
        by_cases hx0 : x = 0
        · subst hx0
          go_wp2_with fail
          go_roundw
          case rel => exact ⟨q + 1, by go_num, by omega, fun j hj => by
            rcases Nat.lt_or_ge j q with h | h
            · exact HA.out j h
            · obtain rfl : j = q := by omega
              exact .inl HX.out, HBR.out⟩
          case measure => simp [intOf]; omega
        · have hxb : (x == 0) = false := by simpa using hx0
          have HH := Lib.hid (fun W => HS.out (q : Int) W)
          cases hh : hasB m.kind (q : Int) with
          | true =>
            rw [hh] at HH
            have HHB := Lib.hid hh
            clear hh HBAD
            go_wp2_with (go_at_call 25; refine (HH.out _).mono ?_; rintro r W4 ⟨rfl, hb4⟩)
            go_roundw
            case rel => exact ⟨q + 1, by go_num, by omega, fun j hj => by
              rcases Nat.lt_or_ge j q with h | h
              · exact HA.out j h
              · obtain rfl : j = q := by omega
                exact .inr HHB.out, bel_step HBR.out hb4⟩
            case measure => simp [intOf]; omega
          | false =>
            have HC := Lib.hid (HBAD.out (by rw [hh]; simpa using hx0))
            rw [hh] at HH
            clear hh HBAD
            go_wp2_with (go_at_call 25; refine (HH.out _).mono ?_; rintro r W4 ⟨rfl, hb4⟩)
            go_ret
            exact ⟨ret_int (by rw [HC.out]), bel_step (bel_step HB3.out HBR.out) hb4⟩
      · have hq4 : q = 4 := by omega
        have hqi : (q : Int) = 4 := by omega
        rw [hqi]
        subst hq4
        clear hqi
        have HB4 := Lib.hid (bel_step HB3.out HBR.out)
        have HH4 := Lib.hid (fun W => HS.out 4 W)
        have HH5 := Lib.hid (fun W => HS.out 5 W)
        have HH6 := Lib.hid (fun W => HS.out 6 W)
        clear HBR HN HM3 HB3 hlt
        go_upto_region 10 with fail
        by_cases hbad : (m.txt ≠ [] ∧ hasB m.kind 4 = false) ∨ (m.lst ≠ [] ∧ hasB m.kind 5 = false) ∨ (m.dat ≠ [] ∧ hasB m.kind 6 = false)
        · have HC := Lib.hid (HCF.out (fun hr => by
            obtain ⟨_, g4, g5, g6⟩ := HRI.out.1 hr
            rcases hbad with ⟨h1, h2⟩ | ⟨h1, h2⟩ | ⟨h1, h2⟩
            · rw [h2] at g4; simp [h1] at g4
            · rw [h2] at g5; simp [h1] at g5
            · rw [h2] at g6; simp [h1] at g6))
          have hcs : (m.txt ≠ [] ∧ hasB m.kind 4 = false) ∨ ((m.txt = [] ∨ (m.txt ≠ [] ∧ hasB m.kind 4 = true)) ∧ (((0 : Int) < m.lst.length ∧ hasB m.kind 5 = false) ∨ ((m.lst = [] ∨ ((0 : Int) < m.lst.length ∧ hasB m.kind 5 = true)) ∧ ((0 : Int) < m.dat.length ∧ hasB m.kind 6 = false)))) := by
            have e4 : hasB m.kind 4 = true ∨ hasB m.kind 4 = false := by cases hasB m.kind 4 <;> simp
            have e5 : hasB m.kind 5 = true ∨ hasB m.kind 5 = false := by cases hasB m.kind 5 <;> simp
            have g4 := Classical.em (m.txt = [])
            have g5 := Classical.em (m.lst = [])
            have g6 : m.lst ≠ [] → (0 : Int) < m.lst.length := fun h => by have := List.length_pos_iff.2 h; omega
            have g7 : m.dat ≠ [] → (0 : Int) < m.dat.length := fun h => by have := List.length_pos_iff.2 h; omega
            grind
          clear hbad
          obtain ⟨kk, id, nm, tt, of, tx, ls, dt⟩ := m
          dsimp only at *
          rcases hcs with ⟨h1, h2⟩ | ⟨rfl | ⟨h1, h2⟩, ⟨h3, h4⟩ | ⟨rfl | ⟨h3, h4⟩, h5, h6⟩⟩
          all_goals
            try rw [h2] at HH4
            try rw [h4] at HH5
            try rw [h6] at HH6
            go_wp2_with (first | (go_at_call 25; (first | (with_reducible refine (HH4.out _).mono ?_; rintro r W4 ⟨rfl, hb4⟩) | (with_reducible refine (HH5.out _).mono ?_; rintro r W4 ⟨rfl, hb4⟩) | (with_reducible refine (HH6.out _).mono ?_; rintro r W4 ⟨rfl, hb4⟩)); replace HB4 := Lib.hid (bel_step HB4.out hb4); replace HMR := Lib.hid (HMR.out.step hb4); clear hb4; obtain ⟨d0, d1, d2, d3, d4, d5, d6, d7⟩ := HMR.out))
            go_ret
            exact ⟨ret_int (by rw [HC.out]), HB4.out⟩
        · have hgd : (m.txt = [] ∨ (m.txt ≠ [] ∧ hasB m.kind 4 = true)) ∧ (m.lst = [] ∨ ((0 : Int) < m.lst.length ∧ hasB m.kind 5 = true)) ∧ (m.dat = [] ∨ ((0 : Int) < m.dat.length ∧ hasB m.kind 6 = true)) := by
            have e4 : hasB m.kind 4 = true ∨ hasB m.kind 4 = false := by cases hasB m.kind 4 <;> simp
            have e5 : hasB m.kind 5 = true ∨ hasB m.kind 5 = false := by cases hasB m.kind 5 <;> simp
            have e6 : hasB m.kind 6 = true ∨ hasB m.kind 6 = false := by cases hasB m.kind 6 <;> simp
            have g4 := Classical.em (m.txt = [])
            have g5 := Classical.em (m.lst = [])
            have g8 := Classical.em (m.dat = [])
            have g6 : m.lst ≠ [] → (0 : Int) < m.lst.length := fun h => by have := List.length_pos_iff.2 h; omega
            have g7 : m.dat ≠ [] → (0 : Int) < m.dat.length := fun h => by have := List.length_pos_iff.2 h; omega
            grind
          have HR := Lib.hid (HRI.out.2 ⟨HA.out, hgd.1.imp id (·.2), hgd.2.1.imp id (·.2), hgd.2.2.imp id (·.2)⟩)
          have HGD := Lib.hid hgd
          have HB5 := Lib.hid (Below.refl wr.heap.size wr)
          clear hbad hgd HRI HA HCF HCK
          go_cut [64] (fun b wx => b = .bool false ∧ Below wr.heap.size wr wx)
          case first =>
            have hgd := HGD.out
            obtain ⟨kk, id, nm, tt, of, tx, ls, dt⟩ := m
            dsimp only at *
            rcases hgd with ⟨rfl | ⟨h1, h2⟩, rfl | ⟨h3, h4⟩, rfl | ⟨h5, h6⟩⟩
            all_goals
              try rw [h2] at HH4
              try rw [h4] at HH5
              try rw [h6] at HH6
              go_wp2_with (first | (go_at_call 25; (first | (with_reducible refine (HH4.out _).mono ?_; rintro r W4 ⟨rfl, hb4⟩) | (with_reducible refine (HH5.out _).mono ?_; rintro r W4 ⟨rfl, hb4⟩) | (with_reducible refine (HH6.out _).mono ?_; rintro r W4 ⟨rfl, hb4⟩)); replace HB5 := Lib.hid (bel_step HB5.out hb4); replace HMR := Lib.hid (HMR.out.step hb4); clear hb4; obtain ⟨d0, d1, d2, d3, d4, d5, d6, d7⟩ := HMR.out))
              go_meet
              exact ⟨rfl, HB5.out⟩
          case rest =>
            obtain ⟨rfl, hbc⟩ := hcut
            have HB6 := Lib.hid (bel_step HB4.out hbc)
            have HM6 := Lib.hid (HMR.out.step hbc)
            have HN6 := Lib.hid (HNR.out.step hbc)
            clear HB5 HB4 HMR HNR hbc d0 d1 d2 d3 d4 d5 d6 d7 HH4 HH5 HH6 HS HGD
            go_wp2_with fail
            go_loopw [67] (fun i wy => ∃ k : Nat, i = .int .i64 k ∧ k ≤ 4 ∧ (∀ j, j < k → inR (nM m.id m.num m.tot m.off j)) ∧ wy = wc) (fun i _ => 4 - (intOf i).toNat)
            case atStart => exact ⟨0, rfl, by omega, fun j hj => absurd hj (by omega), rfl⟩
            case round =>
              obtain ⟨k, rfl, hk, hall, rfl⟩ := hrel
              have HA := Lib.hid hall
              clear hall
              by_cases hlt : k < 4
              · obtain ⟨g, hv, hcell⟩ := HN6.out.elem (k := k) (by simpa using hlt)
                simp only [Value.slice.injEq] at hv
                obtain ⟨rfl, _⟩ := hv
                have hx : ([m.id, m.num, m.tot, m.off][k]'(by simpa using hlt)) = nM m.id m.num m.tot m.off k := by
                  match k, hlt with
                  | 0, _ | 1, _ | 2, _ | 3, _ => rfl
                rw [hx] at hcell
                clear hx
                have hk0 : (0 : Int) ≤ (k : Int) := by omega
                have hk1 : (k : Int) < 4 := by omega
                have HBAD := Lib.hid (fun (h : ¬ inR (nM m.id m.num m.tot m.off k)) => show ¬ rangeM m from fun ⟨g0, g1, g2, g3⟩ => by
                  match k, hlt with
                  | 0, _ => exact h g0
                  | 1, _ => exact h g1
                  | 2, _ => exact h g2
                  | 3, _ => exact h g3)
                by_cases hr : inR (nM m.id m.num m.tot m.off k)
                · have HR2 := Lib.hid hr
                  obtain ⟨r1, r2⟩ := hr
                  generalize hx : nM m.id m.num m.tot m.off k = x at *
                  have HX := Lib.hid hx
                  clear hx
                  go_wp2_with fail
                  go_roundw
                  case rel => exact ⟨k + 1, by go_num, by omega, fun j hj => by
                    rcases Nat.lt_or_ge j k with h | h
                    · exact HA.out j h
                    · obtain rfl : j = k := by omega
                      rw [HX.out]; exact HR2.out, by first | rfl | trivial⟩
                  case measure => simp [intOf]; omega
                · have HC := Lib.hid (HCR.out HOK.out HR.out (HBAD.out hr))
                  have hr2 : nM m.id m.num m.tot m.off k < 0 ∨ (¬ nM m.id m.num m.tot m.off k < 0 ∧ 1099511627776 < nM m.id m.num m.tot m.off k) := by unfold inR at hr; omega
                  clear hr HBAD
                  generalize nM m.id m.num m.tot m.off k = x at *
                  rcases hr2 with r1 | ⟨r1, r2⟩
                  all_goals
                    go_wp2_with fail
                    go_ret
                    exact ⟨ret_int (by rw [HC.out]), HB6.out⟩
              · have hq4 : k = 4 := by omega
                have hqi : (k : Int) = 4 := by omega
                rw [hqi]
                subst hq4
                clear hqi
                have HRG := Lib.hid (show rangeM m from ⟨HA.out 0 (by omega), HA.out 1 (by omega), HA.out 2 (by omega), HA.out 3 (by omega)⟩)
                have HCL2 := Lib.hid (fun h => HCL.out HOK.out HR.out HRG.out h)
                have HCO2 := Lib.hid (fun h => HCO.out HOK.out HR.out HRG.out h)
                have HT6 := Lib.hid (HT.out.step HB6.out)
                clear HCL HCO HCR HR HRG HA HN6 HT hlt
                obtain ⟨d0, d1, d2, d3, d4, d5, d6, d7⟩ := HM6.out
                obtain ⟨kk, id, nm, tt, of, tx, ls, dt⟩ := m
                dsimp only at *
                have hsz : ((ByteArray.mk tx.toArray).size : Int) = (tx.length : Int) := by simp [ByteArray.size]
                by_cases h1 : 8192 < tx.length
                · have h1' : (8192 : Int) < (tx.length : Int) := by omega
                  have HC := Lib.hid (HCL2.out (by simp [largeM, h1]))
                  clear h1
                  go_wp2_with fail
                  go_ret
                  exact ⟨ret_int (by rw [HC.out]), HB6.out⟩
                · have h1' : ¬ (8192 : Int) < (tx.length : Int) := by omega
                  by_cases h2 : 65536 < dt.length
                  · have h2' : (65536 : Int) < (dt.length : Int) := by omega
                    have HC := Lib.hid (HCL2.out (by simp [largeM, h2]))
                    clear h1 h2
                    go_wp2_with fail
                    go_ret
                    exact ⟨ret_int (by rw [HC.out]), HB6.out⟩
                  · have h2' : ¬ (65536 : Int) < (dt.length : Int) := by omega
                    by_cases h3 : 1024 < ls.length
                    · have h3' : (1024 : Int) < (ls.length : Int) := by omega
                      have HC := Lib.hid (HCL2.out (by simp [largeM, h3]))
                      clear h1 h2 h3
                      go_wp2_with fail
                      go_ret
                      exact ⟨ret_int (by rw [HC.out]), HB6.out⟩
                    · have h3' : ¬ (1024 : Int) < (ls.length : Int) := by omega
                      have HLM := Lib.hid (show largeM (Msg.mk kk id nm tt of tx ls dt) = ls.any longT by simp [largeM, h1, h2, h3])
                      clear h1 h2 h3
                      go_wp2_with fail
                      go_loopw [102] (fun i wy => ∃ k : Nat, i = .int .i64 k ∧ k ≤ ls.length ∧ (ls.take k).any longT = false ∧ wy = wr) (fun i _ => ls.length - (intOf i).toNat)
                      case atStart => exact ⟨0, rfl, Nat.zero_le _, rfl, rfl⟩
                      case round =>
                        obtain ⟨k, rfl, hk, hall, rfl⟩ := hrel
                        have HA := Lib.hid hall
                        clear hall
                        by_cases hlt : k < ls.length
                        · obtain ⟨g, o, cap', hv, hc⟩ := HT6.out.elem hlt
                          simp only [Value.slice.injEq] at hv
                          obtain ⟨rfl, _, rfl⟩ := hv
                          have hq0 : (0 : Int) ≤ (k : Int) := by omega
                          have hq1 : (k : Int) < (ls.length : Int) := by omega
                          have HTK := Lib.hid (show ls.take (k + 1) = ls.take k ++ [ls[k]] by rw [List.take_add_one, List.getElem?_eq_getElem hlt]; rfl)
                          have HME := Lib.hid (List.getElem_mem hlt)
                          generalize ls[k] = s at *
                          have hsz2 : ((ByteArray.mk s.toArray).size : Int) = (s.length : Int) := by simp [ByteArray.size]
                          by_cases hb : 2048 < s.length
                          · have hb' : (2048 : Int) < (s.length : Int) := by omega
                            have HC := Lib.hid (HCL2.out (by rw [HLM.out]; simp only [List.any_eq_true]; exact ⟨s, HME.out, by simpa [longT] using hb⟩))
                            clear hb
                            go_wp2_with fail
                            go_ret
                            exact ⟨ret_int (by rw [HC.out]), HB6.out⟩
                          · have hb' : ¬ (2048 : Int) < (s.length : Int) := by omega
                            have HLS := Lib.hid (show longT s = false by simpa [longT] using hb)
                            clear hb
                            go_wp2_with fail
                            go_roundw
                            case rel => exact ⟨k + 1, by go_num, by omega, by rw [HTK.out, List.any_append, HA.out]; simp [HLS.out], by first | rfl | trivial⟩
                            case measure => simp [intOf]; omega
                        · obtain rfl : k = ls.length := by omega
                          have HC := Lib.hid (HCO2.out (by rw [HLM.out]; have := HA.out; rw [List.take_length] at this; rw [this]; simp))
                          go_wp2_with fail
                          go_ret
                          exact ⟨ret_int (by rw [HC.out]), HB6.out⟩
end Go.Proofs.Ytbfpjldincnihaa
