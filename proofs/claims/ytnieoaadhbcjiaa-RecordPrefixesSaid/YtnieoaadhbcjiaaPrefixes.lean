/- The walk of the law RecordPrefixes: it returns true. No condition beyond the slices' reading. -/
import Derived.Test.YtnieoaadhbcjiaaPrefBase
namespace Go.Proofs.Ytnieoaadhbcjiaa
open Go.RowKit
set_option linter.unusedVariables false
set_option linter.unusedSimpArgs false

set_option maxRecDepth 100000 in
set_option maxHeartbeats 4000000 in
theorem prefixes_walk (k0 n0 : Int) (u1 u2 : Value) (l t : List UInt8) (w : World) (h1 : IsB w u1 l) (h2 : IsB w u2 t) : Calls Try.prog 11 #[.int .i64 k0, .int .i64 n0, .agg #[u1, u2]] w fun e w' => e = .returned (.bool true) ∧ Below w.heap.size w w' := by
  have H1 := Lib.hid h1
  have H2 := Lib.hid h2
  obtain ⟨a1, c1, rfl, _⟩ := h1.shape
  obtain ⟨a2, c2, rfl, _⟩ := h2.shape
  clear h1 h2
  by_cases hl : 300 < l.length ∨ 300 < t.length
  · have hl' : (300 : Int) < (l.length : Int) ∨ (¬ (300 : Int) < (l.length : Int) ∧ (300 : Int) < (t.length : Int)) := by omega
    clear hl
    rcases hl' with hl' | ⟨hl', ht'⟩
    all_goals
      go_enter Try.func11, Try.ntmps11
      go_wp2_with fail
      refine (awake_any _).mono ?_
      rintro e w1 ⟨rfl, hb⟩
      have x0 := keep_at hb (show World.cell? _ ⟨w.heap.size, 0, none⟩ = some (.slice a1 l.length c1) by simp [go_sem])
      have x1 := keep_at hb (show World.cell? _ ⟨w.heap.size, 1, none⟩ = some (.slice a2 t.length c2) by simp [go_sem])
      go_wp2_with fail
      refine (awake_any _).mono ?_
      rintro e w2 ⟨rfl, hb2⟩
      go_wp2_with fail
      go_ret
      exact ⟨rfl, bel_step (bel_step (bel_new w _) hb) hb2⟩
  · have hl1 : (l.length : Int) ≤ 300 := by omega
    have hl2 : (t.length : Int) ≤ 300 := by omega
    have hl3 : l.length ≤ 300 := by omega
    have hl4 : t.length ≤ 300 := by omega
    have HL3 := Lib.hid hl3
    have HL4 := Lib.hid hl4
    clear hl hl3 hl4
    obtain ⟨k, hk⟩ : ∃ n : Nat, clipI k0 0 126 = (n : Int) := ⟨(clipI k0 0 126).toNat, by have := clip_bd k0 0 126 (by omega); omega⟩
    obtain ⟨n, hn⟩ : ∃ m : Nat, clipI n0 0 1099511627776 = (m : Int) := ⟨(clipI n0 0 1099511627776).toNat, by have := clip_bd n0 0 1099511627776 (by omega); omega⟩
    have hkb : 1 ≤ 1 + k ∧ 1 + k ≤ 127 := by have := clip_bd k0 0 126 (by omega); omega
    have hnb : n ≤ 1099511627776 := by have := clip_bd n0 0 1099511627776 (by omega); omega
    have hC1 : ∀ W, Calls Try.prog 31 #[.int .i64 k0, .int .i64 0, .int .i64 126] W fun e w' => e = .returned (.int .i64 (k : Int)) ∧ W = w' := fun W => by
      have := clip_any k0 0 126 W
      rwa [hk] at this
    have hC2 : ∀ W, Calls Try.prog 31 #[.int .i64 n0, .int .i64 0, .int .i64 1099511627776] W fun e w' => e = .returned (.int .i64 (n : Int)) ∧ W = w' := fun W => by
      have := clip_any n0 0 1099511627776 W
      rwa [hn] at this
    have HC1 := Lib.hid hC1
    have HC2 := Lib.hid hC2
    have HKB := Lib.hid hkb
    have HNB := Lib.hid hnb
    have hk3 : (k : Int) ≤ 126 := by omega
    clear hk hn hC1 hC2 hkb hnb
    go_enter Try.func11, Try.ntmps11
    go_wp2_with fail
    refine (awake_any _).mono ?_
    rintro e w1 ⟨rfl, hb⟩
    have x0 := keep_at hb (show World.cell? _ ⟨w.heap.size, 0, none⟩ = some (.slice a1 l.length c1) by simp [go_sem])
    have x1 := keep_at hb (show World.cell? _ ⟨w.heap.size, 1, none⟩ = some (.slice a2 t.length c2) by simp [go_sem])
    have hB := bel_step (bel_new w _) hb
    have hE : ∀ u W, IsB W u l → Calls Try.prog 20 #[.agg #[.int .i64 (1 + (k : Int)), .int .i64 (n : Int), u]] W fun e w' => ∃ u', e = .returned (.tuple #[u', .nilIface]) ∧ OwnB w' W.heap.size u' (encP (1 + k) n l) ∧ Below W.heap.size W w' := fun u W h => by
      have h9 := enc_ok (1 + k) n u l W HKB.out (by have := HNB.out; omega) h (by have := HL3.out; omega)
      rwa [show ((1 + k : Nat) : Int) = 1 + (k : Int) by omega] at h9
    have HE := Lib.hid hE
    clear hE
    go_upto_region 5 with (go_at_call 31; first | (with_reducible refine (HC1.out _).mono ?_; rintro e w' ⟨rfl, rfl⟩) | (with_reducible refine (HC2.out _).mono ?_; rintro e w' ⟨rfl, rfl⟩))
    refine (HE.out _ _ (H1.out.step hB)).mono ?_
    rintro e w2 ⟨u, rfl, ho, hb2⟩
    have hB2 := bel_step hB hb2
    have x0 := keep_at hb2 x0
    have x1 := keep_at hb2 x1
    have hdE := fun q => dec_enc (1 + k) n l q HKB.out HNB.out (by have := HL3.out; omega)
    have hdP := fun i => dec_pre (1 + k) n l i HKB.out HNB.out (by have := HL3.out; omega)
    obtain ⟨E, hEE⟩ : ∃ E, E = encP (1 + k) n l := ⟨_, rfl⟩
    rw [← hEE] at ho hdE hdP
    have hEl : E.length ≤ 400 := by
      rw [hEE, encP_len]
      have := HL3.out
      have := numB_len n
      have := numB_len l.length
      omega
    have hEl' : (E.length : Int) ≤ 400 := by omega
    have hI := ho.isB
    obtain ⟨au, cu, rfl, _⟩ := hI.shape
    have HI := Lib.hid hI
    have HDE := Lib.hid hdE
    have HDP := Lib.hid hdP
    have HEL := Lib.hid hEl
    clear ho hI hdE hdP hEE hEl HE
    have hDC : ∀ v W, IsB W v (E ++ t) → Calls Try.prog 33 #[v] W fun e w' => ∃ u, e = .returned (.tuple #[.agg #[.int .i64 (1 + (k : Int)), .int .i64 (n : Int), u], .int .i64 (E.length : Int), .nilIface]) ∧ OwnB w' W.heap.size u l ∧ Below W.heap.size W w' := fun v W h => by
      refine (dec_any v (E ++ t) W h (by have := HEL.out; have := HL4.out; simp; omega)).mono ?_
      intro e w' h9
      rw [HDE.out] at h9
      obtain ⟨u9, h9, h10, h11⟩ := h9
      exact ⟨u9, by rw [h9, show ((1 + k : Nat) : Int) = 1 + (k : Int) by omega], h10, h11⟩
    have HDC := Lib.hid hDC
    clear hDC
    have hws : w.heap.size < w2.heap.size := Nat.lt_of_lt_of_le (World.block_lt_of_cell? _ _ x1) (Nat.le_refl _)
    go_upto_region 7 with fail
    go_cut [10, 11, 12] (fun e p sz wx => ∃ g u, e = .nilIface ∧ p = .pointer (some ⟨g, 0, none⟩) ∧ sz = .int .i64 (E.length : Int) ∧ wx.cell? ⟨g, 0, none⟩ = some (.int .i64 (1 + (k : Int))) ∧ wx.cell? ⟨g, 1, none⟩ = some (.int .i64 (n : Int)) ∧ wx.cell? ⟨g, 2, none⟩ = some u ∧ IsB wx u l ∧ IsB wx (.slice au E.length cu) E ∧ Below w.heap.size w wx ∧ wx.cell? ⟨w.heap.size, 0, none⟩ = some (.slice a1 l.length c1) ∧ w.heap.size < wx.heap.size)
    case first =>
      go_region_held3 (fun w' => w'.cell? ⟨w.heap.size, 1, none⟩ = some (.slice a2 t.length c2))
        ((repeat (with_reducible (first | assumption | refine keep_drew ?_ | refine keep_alloc ?_ | refine keep_lt hb3 hws ?_ | refine keep_lt hb4 hws ?_ | refine keep_at hb5 ?_ | refine keep_set (by omega) ?_))))
        (first
          | (go_at_call 33; refine (HDC.out _ _ (by first | exact ho4.isB | exact (OwnB.alloc ho4).isB)).mono ?_; rintro e w5 ⟨u5, rfl, ho5, hb5⟩; obtain ⟨a5, c5, rfl, hq5⟩ := ho5.isB.shape; have hs5 : w2.heap.size ≤ w5.heap.size := size_bel hb5 (by repeat (with_reducible (first | exact Nat.le_refl _ | assumption | refine size_drew ?_ | refine size_alloc ?_))); (first | (have dC := keep_blk hb5 dB; obtain ⟨d0, d1, d2, f0, f1, f2⟩ := box_cells dC) | (have dC := keep_blk hb5 (new_blk (w := w4) rfl); obtain ⟨d0, d1, d2, f0, f1, f2⟩ := box_cells dC) | skip))
          | (refine step_apk (by rfl) _ _ (by rfl) w2.heap.size _ [] (by rfl) (by first | exact OwnB.drew (OwnB.made' (w2.alloc box40) _ (w2.heap.size + 1) (by simp [go_sem]) (by omega)) | exact OwnB.drew (OwnB.made _ _ (by repeat (with_reducible (first | exact Nat.le_refl _ | refine size_drew ?_ | refine size_alloc ?_ | refine size_bel hb3 ?_ | refine size_bel hb4 ?_)))) | exact OwnB.drew (OwnB.alloc (OwnB.made _ _ (by repeat (with_reducible (first | exact Nat.le_refl _ | refine size_drew ?_ | refine size_alloc ?_ | refine size_bel hb3 ?_ | refine size_bel hb4 ?_))))) | exact OwnB.made _ _ (by repeat (with_reducible (first | exact Nat.le_refl _ | refine size_drew ?_ | refine size_alloc ?_ | refine size_bel hb3 ?_ | refine size_bel hb4 ?_))) | exact OwnB.alloc (OwnB.made _ _ (by repeat (with_reducible (first | exact Nat.le_refl _ | refine size_drew ?_ | refine size_alloc ?_ | refine size_bel hb3 ?_ | refine size_bel hb4 ?_))))) _ E (by rfl) (by exact HI.out.step (by repeat (with_reducible (first | exact Below.refl _ _ | refine bel_drew ?_ | refine bel_alloc ?_)))) (by have := HEL.out; simp; omega) (by repeat (with_reducible (first | exact Nat.le_refl _ | refine size_drew ?_ | refine size_alloc ?_ | refine size_bel hb3 ?_ | refine size_bel hb4 ?_))) ?_; intro v3 w3 ho3 hb3 hz3 hP3; have hs3 : w2.heap.size ≤ w3.heap.size := size_bel hb3 (by repeat (with_reducible (first | exact Nat.le_refl _ | assumption | refine size_drew ?_ | refine size_alloc ?_))); (first | (have dA := hP3 w2.heap.size (by exact old_blk (new_blk (w := w2) rfl))) | (have dA := hP3 (w2.heap.size + 1) (by exact new_blk (w := w2.alloc (.cells #[] 5)) (by simp [go_sem]))) | skip))
          | (refine step_apk (by rfl) _ _ (by rfl) w2.heap.size _ E (by rfl) (by first | exact ho3 | exact OwnB.alloc ho3) _ t (by rfl) (by exact H2.out.step (by repeat (with_reducible (first | assumption | refine bel_drew ?_ | refine bel_alloc ?_ | refine bel_app ?_ hb3 (by omega))))) (by have := HEL.out; have := HL4.out; omega) (by repeat (with_reducible (first | exact Nat.le_refl _ | refine size_drew ?_ | refine size_alloc ?_ | refine size_bel hb3 ?_ | refine size_bel hb4 ?_))) ?_; intro v4 w4 ho4 hb4 hz4 hP4; have hs4 : w2.heap.size ≤ w4.heap.size := size_bel hb4 (by repeat (with_reducible (first | exact Nat.le_refl _ | assumption | refine size_drew ?_ | refine size_alloc ?_))); (first | (have dB := hP4 _ dA) | (have dB := hP4 w3.heap.size (by exact new_blk (w := w3) rfl)) | skip)))
      all_goals
        go_wp2_with fail
        go_meet
        have hB52 : Below w2.heap.size w2 w5 := by repeat (with_reducible (first | exact Below.refl _ _ | refine bel_drew ?_ | refine bel_alloc ?_ | refine bel_app ?_ hb3 (Nat.le_refl _) | refine bel_app ?_ hb4 (Nat.le_refl _) | refine bel_step ?_ hb5))
        have hB5w := bel_step hB2 hB52
        have hI5 := HI.out.step hB52
        have hX5 := keep_at hB52 x0
        first
          | exact ⟨_, _, rfl, rfl, rfl, fin_box dC hB5w (by omega) ho5.isB hI5 hX5⟩
          | exact ⟨_, _, rfl, rfl, rfl, fin_new hB5w ho5.isB hI5 hX5⟩
    case rest =>
      obtain ⟨g, ur, rfl, rfl, rfl, g0, g1, g2, hUl, hUE, hB6, x6, hs6⟩ := hcut
      obtain ⟨ag, cg, rfl, _⟩ := hUl.shape
      have HUL := Lib.hid hUl
      have HUE := Lib.hid hUE
      clear hUl hUE HI HDC
      have hA : ∀ W, IsB W (.slice ag l.length cg) l → IsB W (.slice a1 l.length c1) l → Calls Try.prog 17 #[.slice ag l.length cg, .slice a1 l.length c1] W fun e w' => e = .returned (.bool true) ∧ W = w' := fun W h h' => by
        have := bytes_any _ _ l l W h h'
        rwa [beq_self_eq_true] at this
      have HA := Lib.hid hA
      clear hA
      go_upto_region 10 with (go_at_call 17; refine (HA.out _ HUL.out (H1.out.step hB6)).mono ?_; rintro e w' ⟨rfl, rfl⟩)
      have hq : ∀ (q : Nat) (W : World), q ≤ E.length → q < E.length → IsB W (.slice au E.length cu) E → Calls Try.prog 33 #[.slice au q cu] W fun e w' => e = .returned (.tuple #[.agg #[.int .i64 0, .int .i64 0, .slice none 0 0], .int .i64 0, .iface 55 (.int .i64 21)]) ∧ Below W.heap.size W w' := fun q W h1 h2 hI => by
        have h9 := dec_any _ (E.take q) W (hI.upto q h1) (by have := HEL.out; simp; omega)
        rw [HDP.out q h2] at h9
        exact h9
      have HQ := Lib.hid hq
      clear hq HDP HA HUL
      have HB6 := Lib.hid hB6
      clear hB6 g0 g1 g2 x6 hB hB2 x0 x1 hws
      go_upto_region 11 with fail
      go_loopw [13] (fun i wr => ∃ q : Nat, i = .int .i64 q ∧ q ≤ E.length ∧ IsB wr (.slice au E.length cu) E ∧ Below w.heap.size w wr) (fun i _ => E.length - (intOf i).toNat)
      case atStart => exact ⟨0, rfl, Nat.zero_le _, HUE.out, HB6.out⟩
      case round =>
        obtain ⟨q, rfl, hq, hE, hBr⟩ := hrel
        have HE9 := Lib.hid hE
        have HBR := Lib.hid hBr
        clear hE hBr
        by_cases hlt : q < E.length
        · have hlt' : (q : Int) < (E.length : Int) := by omega
          go_wp2_with (first | (go_at_call 33; refine (HQ.out q _ (by omega) hlt HE9.out).mono ?_; rintro e w7 ⟨rfl, hb7⟩) | (go_at_call 26; refine (is_yes 21 (by omega) _).mono ?_; rintro e w' ⟨rfl, rfl⟩))
          refine ⟨⟨q + 1, rfl, hlt, (HE9.out.step hb7).step (bel_new _ _), bel_alloc (bel_step HBR.out hb7)⟩, ?_⟩
          show E.length - ((q : Int) + 1).toNat < E.length - ((q : Int)).toNat
          omega
        · have hge : (E.length : Int) ≤ (q : Int) := by omega
          go_wp2_with fail
          go_ret
          exact ⟨rfl, HBR.out⟩
end Go.Proofs.Ytnieoaadhbcjiaa
