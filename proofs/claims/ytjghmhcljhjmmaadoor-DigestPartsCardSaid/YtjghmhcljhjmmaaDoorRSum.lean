/- The walk of the reference's Sum: it is plain SHA-256. No condition beyond the sizes. -/
import Derived.Test.YtjghmhcljhjmmaaDoorPadded
import Derived.Test.YtjghmhcljhjmmaaDoorBlock
namespace Go.Proofs.YtjghmhcljhjmmaaDoor
open Go.RowKit
set_option linter.unusedVariables false
set_option linter.unusedSimpArgs false

theorem IsB.four_drew (w : World) {a b c d : Int} {x y z t : UInt8} (ha : a = (x.toNat : Int)) (hb : b = (y.toNat : Int)) (hc : c = (z.toNat : Int)) (hd : d = (t.toNat : Int)) :
    IsB (w.alloc (.cells #[.int .u8 a, .int .u8 b, .int .u8 c, .int .u8 d] 5)).drew (.slice (some ⟨w.heap.size, 0, none⟩) 4 4) [x, y, z, t] := IsB.four w ha hb hc hd
theorem keep_base {W w' : World} {B b o : Nat} {v : Value} (h : Below B W w') (hb : b < B) (hc : W.cell? ⟨b, o, none⟩ = some v) : w'.cell? ⟨b, o, none⟩ = some v :=
  (World.cell?_of_block (h.block b hb)).trans hc
theorem IsB.mid {w : World} {g off N cap m : Nat} {P : List UInt8} (h : IsB w (.slice (some ⟨g, off, none⟩) N cap) P) (hN : N = P.length) (hm : m + 64 ≤ N) :
    IsB w (.slice (some ⟨g, off + m, none⟩) 64 (cap - m)) ((P.drop m).take 64) := by
  subst hN
  rcases h with ⟨rfl, _⟩ | ⟨hne, b, off', cap', hv, g1, g2, hc⟩
  · simp at hm
  · simp only [Value.slice.injEq, Option.some.injEq, Addr.mk.injEq] at hv
    obtain ⟨⟨rfl, rfl, _⟩, _, rfl⟩ := hv
    have hl : ((P.drop m).take 64).length = 64 := by rw [List.length_take, List.length_drop]; omega
    refine .inr ⟨by intro h0; rw [h0] at hl; simp at hl, g, off + m, cap - m, by rw [hl], by rw [hl]; omega, by omega, fun i c hi => ?_⟩
    rw [List.getElem?_take] at hi
    split at hi
    · rw [List.getElem?_drop] at hi
      have := hc (m + i) c hi
      rwa [← Nat.add_assoc] at this
    · cases hi
set_option maxRecDepth 20000 in
set_option maxHeartbeats 4000000 in
theorem rsum_any (v : Value) (l : List UInt8) (w : World) (hv : IsB w v l) (hl : l.length ≤ 1099511627000) : Calls Tryd.prog 14 #[v] w (OwnR w (shaP l)) := by
  have HV := Lib.hid hv
  obtain ⟨R, hR⟩ : ∃ R, R = shaP l := ⟨_, rfl⟩
  rw [← hR]
  have HR := Lib.hid hR
  clear hv hR
  go_enter Tryd.func14, Tryd.ntmps14
  go_upto_region 2 with fail
  have HS1 := Lib.hid (VBlk.box 48 w (stV iv))
  have HB1 := Lib.hid (bel_new w (.cells (stV iv).toArray 48))
  have HV1 := Lib.hid (HV.out.step HB1.out)
  change Code.wp _ _ _ _ (w.alloc (.cells (stV iv).toArray 48))
  generalize w.alloc (.cells (stV iv).toArray 48) = W1 at *
  obtain ⟨bS, hbS⟩ : ∃ bS, bS = w.heap.size := ⟨_, rfl⟩
  have hbw : w.heap.size ≤ bS := by omega
  rw [← hbS] at HS1 ⊢
  obtain ⟨P, hP⟩ : ∃ P, P = l ++ tailP l.length := ⟨_, rfl⟩
  have hPl : P.length % 64 = 0 := by
    rw [hP]
    unfold tailP
    simp only [List.length_append, List.length_cons, List.length_replicate, lenB_len]
    have := zeros_at l.length
    omega
  have hPs : P.length ≤ 1099511627776 := by
    rw [hP]
    unfold tailP
    simp only [List.length_append, List.length_cons, List.length_replicate, lenB_len]
    have := zeros_le l.length
    omega
  have hPR : shaP l = outP (blocksP (P.length / 64) iv P) := by
    rw [hP]
    unfold shaP
    rw [List.length_append]
  rw [hPR] at HR
  have HC := Lib.hid (fun (u : Value) (W : World) (h : IsB W u l) => padded_any u l W h (by omega))
  rw [← hP] at HC
  clear hP hPR hbS
  go_wp2_with (go_at_call 26; refine (HC.out v _ HV1.out).mono ?_; rintro e w2 ⟨v2, rfl, hO2, hB2⟩)
  obtain ⟨a, cap, rfl, hc1, hc2, hc3⟩ := hO2.isB.shape
  obtain ⟨N, hN⟩ : ∃ N, N = P.length := ⟨_, rfl⟩
  rw [← hN] at hO2 hc1 hPl hPs ⊢
  have HO2 := Lib.hid hO2
  have HN := Lib.hid hN
  have HB2 := Lib.hid (bel_step HB1.out hB2)
  have HS2 := Lib.hid (HS1.out.step hB2)
  clear hO2 hB2 HS1 HB1 HV1 HC hN
  go_wp2_with fail
  go_loopw [5] (fun i wr => ∃ m k : Nat, i = .int .i64 m ∧ Hid (m = k * 64) ∧ m ≤ N ∧ VBlk 48 wr bS (stV (blocksP k iv P)) ∧ IsB wr (.slice a N cap) P ∧ Below w.heap.size w wr) (fun i _ => N - (intOf i).toNat)
  case atStart => exact ⟨0, 0, rfl, Lib.hid rfl, by omega, HS2.out, HO2.out.isB, HB2.out⟩
  case round =>
    obtain ⟨m, k, rfl, HM, hmN, hS, hP, hbl⟩ := hrel
    have HS := Lib.hid hS
    have HP := Lib.hid hP
    have HBL := Lib.hid hbl
    clear hS hP hbl
    by_cases hlt : m < N
    · have hm64 : m + 64 ≤ N := by have := HM.out; omega
      obtain ⟨g, off, rfl⟩ : ∃ g off, a = some ⟨g, off, none⟩ := by
        rcases HP.out with ⟨h0, _⟩ | ⟨_, g, off, cap', he, _⟩
        · have := HN.out
          rw [h0] at this
          simp at this
          omega
        · simp only [Value.slice.injEq] at he
          exact ⟨g, off, he.1⟩
      go_upto_region 6 with fail
      obtain ⟨c0, c1, c2, c3, c4, c5, c6, c7⟩ := st_cells HS.out
      have HXk := Lib.hid (show (P.drop m).take 64 = (P.drop (k * 64)).take 64 by rw [HM.out])
      have HL := Lib.hid (show ((P.drop m).take 64).length = 64 by rw [List.length_take, List.length_drop, ← HN.out]; omega)
      have HBF := Lib.hid (HP.out.mid HN.out hm64)
      have HSN := Lib.hid (blocks_snoc k iv P)
      generalize blocksP k iv P = st at *
      generalize hXm : (P.drop m).take 64 = Xm at *
      clear hXm
      have e0 := cell_regrown c0
      have e1 := cell_regrown c1
      have e2 := cell_regrown c2
      have e3 := cell_regrown c3
      have e4 := cell_regrown c4
      have e5 := cell_regrown c5
      have e6 := cell_regrown c6
      have e7 := cell_regrown c7
      clear c0 c1 c2 c3 c4 c5 c6 c7
      have hw64 : IntKind.i64.wrap ((m : Int) + 64) = (m : Int) + 64 := IntWalk.i64_in _ (by omega)
      have i0 : (0 : Int) ≤ (m : Int) := by omega
      have i1 : (m : Int) ≤ (m : Int) + 64 := by omega
      have i2 : (m : Int) + 64 ≤ (cap : Int) := by omega
      have i3 : ¬ cap = m := by omega
      refine wp_region_last_of (fun w' => ∃ q : Regrown, w' = Go.Sort.grow (redrawn wr q.d) q.os) rfl rfl (by kernel_rfl) (by kernel_rfl) (by kernel_rfl) (by kernel_rfl) ⟨⟨wr.drawn + 1, #[]⟩, by rw [Go.Sort.grow_empty]; rfl⟩ ?_
      dsimp only [idleLast, lastOf, idle]
      repeat (go_big_quiet_step ((go_at_call 27; refine Calls.regrown_of (block_any st Xm _ _ (HBF.out.step (below_regrown _ _ _)) HL.out))))
      refine wpQuiet_nil ?_
      intro w6 hw6
      have hb6 : Below wr.heap.size wr w6 := by obtain ⟨q, rfl⟩ := hw6; exact below_regrown wr q.d q.os
      have H6 := Lib.hid (HS.out.step hb6)
      have HU6 := Lib.hid (HP.out.step hb6)
      have HB6 := Lib.hid (bel_step HBL.out hb6)
      rw [← HXk.out] at HSN
      generalize mixP st Xm = M at *
      refine wpList_store_mid rfl 48 (.tmp 3) (.tmp 23) rfl bS 0 (stV M).toArray rfl rfl (H6.out.there 0 8 (by rw [stV_len]; omega)) size48 (all_oneCell_toArray (wV_one M.list)) ?_
      rw [List.toList_toArray]
      have H7 := Lib.hid (show VBlk 48 (w6.setCells bS 0 (stV M)) bS (stV M) from H6.out.whole rfl)
      have HU7 := Lib.hid (HU6.out.keepV H6.out (stV M))
      have HB7 := Lib.hid (bel_setMany (b := bS) (stV M) 0 w6 HB6.out hbw)
      generalize w6.setCells bS 0 (stV M) = W7 at *
      clear e0 e1 e2 e3 e4 e5 e6 e7 hw6 hb6 HBF HP HS HBL hw64
      go_wp2_with fail
      go_roundw
      case rel => exact ⟨m + 64, k + 1, by go_num, Lib.hid (by rw [HM.out]; omega), hm64, by rw [HSN.out]; exact H7.out, HU7.out, HB7.out⟩
      case measure => simp [intOf]; omega
    · obtain rfl : m = N := by omega
      have hk2 : k = P.length / 64 := by have := HM.out; have := HN.out; omega
      have HRR := Lib.hid (show R = outP (blocksP k iv P) by rw [HR.out, hk2])
      clear hk2 HR hlt
      generalize blocksP k iv P = st at *
      go_wp2_with fail
      go_loopw [6, 24] (fun u i wr => ∃ j : Nat, i = .int .i64 j ∧ j ≤ 8 ∧ OwnB wr (bS + 1) u ((st.list.take j).flatMap word4B) ∧ VBlk 48 wr bS (stV st) ∧ Below w.heap.size w wr) (fun _ i _ => 8 - (intOf i).toNat)
      case atStart => exact ⟨0, rfl, by omega, OwnB.nil _ _, HS.out, HBL.out⟩
      case round =>
        obtain ⟨j, rfl, hj, ho, hS, hbl⟩ := hrel
        have HO := Lib.hid ho
        have HS3 := Lib.hid hS
        have HB := Lib.hid hbl
        clear ho hS hbl
        by_cases hlt : j < 8
        · have hx : wr.cell? ⟨bS, j, none⟩ = some (wV (st.list.getD j 0)) := by rw [HS3.out.cell]; exact stV_at st hlt
          have HTK := Lib.hid (outP_take st j hlt)
          have hlb2 : ((st.list.take j).flatMap word4B).length + 4 ≤ 140737488355328 := by have := out_take_len st j hj; omega
          generalize (st.list.take j).flatMap word4B = L5 at *
          generalize st.list.getD j 0 = x at *
          unfold wV at hx
          have q0 := word_byte x 24
          have q1 := word_byte x 16
          have q2 := word_byte x 8
          have q3 := word_byte x 0
          have HW4 := Lib.hid (show word4B x = [UInt8.ofNat (x.toNat / 2 ^ 24), UInt8.ofNat (x.toNat / 2 ^ 16), UInt8.ofNat (x.toNat / 2 ^ 8), UInt8.ofNat (x.toNat / 2 ^ 0)] by simp [word4B])
          generalize UInt8.ofNat (x.toNat / 2 ^ 24) = b0 at *
          generalize UInt8.ofNat (x.toNat / 2 ^ 16) = b1 at *
          generalize UInt8.ofNat (x.toNat / 2 ^ 8) = b2 at *
          generalize UInt8.ofNat (x.toNat / 2 ^ 0) = b3 at *
          have HQ0 := Lib.hid (show (wn x : Int) / 16777216 % 256 = (b0.toNat : Int) from q0)
          have HQ1 := Lib.hid (show (wn x : Int) / 65536 % 256 = (b1.toNat : Int) from q1)
          have HQ2 := Lib.hid (show (wn x : Int) / 256 % 256 = (b2.toNat : Int) from q2)
          have HQ3 := Lib.hid (show (wn x : Int) % 256 = (b3.toNat : Int) by rw [← q3]; simp)
          have hj0 : (0 : Int) ≤ (j : Int) := by omega
          have hj8 : (j : Int) < 8 := by omega
          clear q0 q1 q2 q3
          go_upto_region 11 with fail
          have hlb4 : L5.length + [b0, b1, b2, b3].length ≤ 140737488355328 := hlb2
          have hbs2 : bS + 1 ≤ wr.heap.size := HS3.out.lt
          go_region_held3 (fun w' => w'.cell? ⟨bS, j, none⟩ = some (.int .u32 (wn x : Int))) ((repeat (with_reducible (first | assumption | refine keep_drew ?_ | refine keep_alloc ?_ | refine keep_base hb' (Nat.lt_succ_self bS) ?_)))) ((refine step_app ?_ (.tmp 27) (.tmp 47) ?_ (bS + 1) u6 L5 ?_ ?_ (.slice (some ⟨wr.heap.size, 0, none⟩) 4 4) [b0, b1, b2, b3] ?_ ?_ hlb4 ?_ ?_; rfl; rfl; rfl; exact HO.out.step (bel_drew (bel_new wr _)); rfl; exact IsB.four_drew wr HQ0.out HQ1.out HQ2.out HQ3.out; (first | (simp [go_sem]; omega) | omega); intro v' w' ho' hb' hz'))
          have HO3 := Lib.hid ho'
          have HS5 := Lib.hid (show VBlk 48 w' bS (stV st) from (hb'.block bS (Nat.lt_succ_self bS)).trans (HS3.out.step (bel_drew (bel_new wr _))))
          have HB5 := Lib.hid ((bel_step HB.out (bel_drew (bel_new wr _))).trans (hb'.mono (Nat.le_succ_of_le hbw)))
          clear ho' hb' hz' hx hlb2 hlb4 hbs2
          go_wp2_with fail
          exact ⟨⟨j + 1, by go_num, by omega, by rw [HTK.out, HW4.out]; exact HO3.out, HS5.out, HB5.out⟩, by simp [intOf]; omega⟩
        · obtain rfl : j = 8 := by omega
          have hoR := HO.out
          rw [show st.list.take 8 = st.list from rfl, show st.list.flatMap word4B = outP st from rfl, ← HRR.out] at hoR
          have HOR := Lib.hid (hoR.mono (Nat.le_succ_of_le hbw))
          clear hoR HO
          go_wp2_with fail
          go_ret
          exact ⟨_, rfl, HOR.out, HB.out⟩
end Go.Proofs.YtjghmhcljhjmmaaDoor
