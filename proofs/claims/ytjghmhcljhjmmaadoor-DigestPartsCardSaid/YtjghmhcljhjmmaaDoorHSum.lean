/- The walk of a Hash's Sum. The one condition beyond the sizes: the constants lie as the program's text lays them. -/
import Derived.Test.YtjghmhcljhjmmaaDoorClone
import Derived.Test.YtjghmhcljhjmmaaDoorMake
namespace Go.Proofs.YtjghmhcljhjmmaaDoor
open Go.RowKit
set_option linter.unusedVariables false
set_option linter.unusedSimpArgs false

def padR (m j : Nat) : List UInt8 := 128 :: List.replicate j 0
def tailR (m t : Nat) : List UInt8 := 128 :: List.replicate (zerosN m) 0 ++ lenB t
theorem zeros_lt (m j : Nat) (h : j < zerosN m) : (m + 1 + j) % 64 ≠ 56 := by unfold zerosN at h; omega
theorem zeros_at (m : Nat) : (m + 1 + zerosN m) % 64 = 56 := by unfold zerosN; omega
theorem zeros_le (m : Nat) : zerosN m < 64 := by unfold zerosN; omega
theorem rep_snoc (j : Nat) : List.replicate (j + 1) (0 : UInt8) = List.replicate j 0 ++ [0] := by
  rw [List.replicate_succ']
theorem lenB_len (t : Nat) : (lenB t).length = 8 := rfl
theorem lenB_at (t j : Nat) (h : j < 8) : (((8 * t : Nat) : Int) / ((2 ^ (8 * (7 - j)) : Nat) : Int)) % 256 = (((lenB t).getD j 0).toNat : Int) := by
  match j, h with
  | 0, _ | 1, _ | 2, _ | 3, _ | 4, _ | 5, _ | 6, _ | 7, _ => simp [lenB]; try omega
  | n + 8, h => exact absurd h (by omega)
theorem lenB_take (t j : Nat) (h : j < 8) : (lenB t).take (j + 1) = (lenB t).take j ++ [(lenB t).getD j 0] := by
  match j, h with
  | 0, _ | 1, _ | 2, _ | 3, _ | 4, _ | 5, _ | 6, _ | 7, _ => rfl
  | n + 8, h => exact absurd h (by omega)
theorem outP_take (s : S8) (k : Nat) (h : k < 8) : (s.list.take (k + 1)).flatMap word4B = (s.list.take k).flatMap word4B ++ word4B (s.list.getD k 0) := by
  match k, h with
  | 0, _ | 1, _ | 2, _ | 3, _ | 4, _ | 5, _ | 6, _ | 7, _ => simp [S8.list]
  | n + 8, h => exact absurd h (by omega)
theorem out_len (s : S8) : (outP s).length = 32 := rfl
theorem out_take_len (s : S8) (k : Nat) (h : k ≤ 8) : ((s.list.take k).flatMap word4B).length ≤ 32 := by
  match k, h with
  | 0, _ | 1, _ | 2, _ | 3, _ | 4, _ | 5, _ | 6, _ | 7, _ | 8, _ => simp [S8.list, word4B]
  | n + 9, h => exact absurd h (by omega)
theorem word_byte (x : W32) (n : Nat) : ((wn x : Int) / ((2 ^ n : Nat) : Int)) % 256 = ((UInt8.ofNat (x.toNat / 2 ^ n)).toNat : Int) := by
  unfold wn
  rw [UInt8.toNat_ofNat', ← Int.natCast_ediv]
  omega
theorem idx_st (s : S8) (k : Nat) (h : k < 8) (W : World) : (Instr.index 48 (.agg (stV s).toArray) (.int .i64 (k : Int))).run Tryd.prog W = .ok (wV (s.list.getD k 0)) W := by
  have hk : k = 0 ∨ k = 1 ∨ k = 2 ∨ k = 3 ∨ k = 4 ∨ k = 5 ∨ k = 6 ∨ k = 7 := by omega
  rcases hk with rfl | rfl | rfl | rfl | rfl | rfl | rfl | rfl <;> rfl
theorem IsB.four (w : World) {a b c d : Int} {x y z t : UInt8} (ha : a = (x.toNat : Int)) (hb : b = (y.toNat : Int)) (hc : c = (z.toNat : Int)) (hd : d = (t.toNat : Int)) :
    IsB (w.alloc (.cells #[.int .u8 a, .int .u8 b, .int .u8 c, .int .u8 d] 5)) (.slice (some ⟨w.heap.size, 0, none⟩) 4 4) [x, y, z, t] := by
  refine .inr ⟨by simp, w.heap.size, 0, 4, rfl, by simp, by unfold maxLen; omega, fun i e hi => ?_⟩
  match i, hi with
  | 0, hi => simp at hi; subst hi; subst ha; simp [go_sem]
  | 1, hi => simp at hi; subst hi; subst hb; simp [go_sem]
  | 2, hi => simp at hi; subst hi; subst hc; simp [go_sem]
  | 3, hi => simp at hi; subst hi; subst hd; simp [go_sem]
/-- Bytes where a block of words is written. -/
theorem IsB.keepV {w : World} {u : Value} {l : List UInt8} {b : Nat} {s : S8} (h : IsB w u l) (hb : VBlk 48 w b (stV s)) (vs : List Value) : IsB (w.setCells b 0 vs) u l := by
  rcases h with h | ⟨h0, g, off, cap', rfl, h1, h2, h3⟩
  · exact .inl h
  · refine .inr ⟨h0, g, off, cap', rfl, h1, h2, fun i c hi => ?_⟩
    have hc := h3 i c hi
    have hg : g ≠ b := by
      rintro rfl
      rw [hb.cell] at hc
      obtain ⟨x, _, hx⟩ := List.mem_map.1 (List.mem_of_getElem? hc)
      simp [wV] at hx
    rw [World.cell?_of_block (setMany_other b vs 0 w g hg)]
    exact hc
/-- 'v[64:]' of whatever bytes. -/
theorem IsB.cut {w : World} {n : Nat} {a : Option Addr} {cap : Nat} {l : List UInt8} (h : IsB w (.slice a n cap) l) (hn : n = l.length) (h64 : 64 ≤ n) :
    ∃ g off, a = some ⟨g, off, none⟩ ∧ (cap ≠ 64 → IsB w (.slice (some ⟨g, off + 64, none⟩) (n - 64) (cap - 64)) (l.drop 64)) ∧ (cap = 64 → IsB w (.slice (some ⟨g, off, none⟩) 0 0) (l.drop 64)) := by
  subst hn
  rcases h with ⟨rfl, _⟩ | ⟨hne, b, off, cap', hv, g1, g2, hc⟩
  · simp at h64
  · simp only [Value.slice.injEq] at hv
    obtain ⟨rfl, _, rfl⟩ := hv
    refine ⟨b, off, rfl, fun hc64 => ?_, fun hc64 => ?_⟩
    · by_cases h0 : l.drop 64 = []
      · have hl : l.length = 64 := by have := congrArg List.length h0; rw [List.length_drop, List.length_nil] at this; omega
        rw [h0, hl]
        exact IsB.empty w _ _ (by omega) (fun h => by cases h)
      · refine .inr ⟨h0, b, off + 64, cap - 64, by rw [List.length_drop], by rw [List.length_drop]; omega, by omega, fun i c hi => ?_⟩
        rw [List.getElem?_drop] at hi
        have := hc (64 + i) c hi
        rwa [← Nat.add_assoc] at this
    · have hl : l.drop 64 = [] := List.eq_nil_of_length_eq_zero (by rw [List.length_drop]; omega)
      rw [hl]
      exact IsB.empty w _ _ (Nat.zero_le _) (fun h => by cases h)
set_option maxRecDepth 20000 in
set_option maxHeartbeats 4000000 in
theorem hsum_any (base p : Nat) (ob : Option Nat) (s : S8) (rest : List UInt8) (tot : Nat) (w : World) (hk : KW w)
    (h : HBk w base p ob s rest tot) (ht : tot ≤ 1099511627776) (hr : rest.length ≤ 1099511627776) :
    Calls Tryd.prog 18 #[.pointer (some ⟨p, 0, none⟩)] w (OwnR w (outP (blocksP ((rest ++ tailR rest.length tot).length / 64) s (rest ++ tailR rest.length tot)))) := by
  obtain ⟨v, hbp, hp, hO, hob, hne⟩ := h
  have HK := Lib.hid hk
  have HP := Lib.hid hp
  have HV := Lib.hid hO.isB
  have c8 := (hst_cells hp).2.2.2.2.2.2.2.2.1
  have hlb : rest.length + 1 ≤ 140737488355328 := by omega
  clear hk hp hO hob hne
  obtain ⟨R, hR⟩ : ∃ R, R = outP (blocksP ((rest ++ tailR rest.length tot).length / 64) s (rest ++ tailR rest.length tot)) := ⟨_, rfl⟩
  rw [← hR]
  have HR := Lib.hid hR
  clear hR
  go_enter Tryd.func18, Tryd.ntmps18
  go_wp2_with (first | (go_at_call 29; refine (clone_any v rest _ HV.out hr).mono ?_; rintro e w1 ⟨v1, rfl, hO1, hB1⟩; have HO1 := Lib.hid hO1; have HB1 := Lib.hid hB1; clear hO1 hB1) | (at_builtin; refine wpList_app rfl (.tmp 15) (.tmp 16) rfl w.heap.size _ rest rfl (HO1.out.step (bel_new _ _)) _ [128] rfl (IsB.one _ _ _ rfl) hlb (by have := HB1.out.size; simp; omega) ?_; intro v2 w2 hO2 hB2 hs2 hn2; have HO2 := Lib.hid hO2; have HB2 := Lib.hid ((bel_step HB1.out (bel_new _ _)).trans hB2); clear hO2 hB2 hs2 hn2))
  obtain ⟨m, hm⟩ : ∃ m, m = rest.length := ⟨_, rfl⟩
  rw [← hm] at hr hlb
  have HM := Lib.hid hm
  clear hm
  obtain ⟨Z, hZ⟩ : ∃ Z, Z = zerosN m := ⟨_, rfl⟩
  have hz1 : Z < 64 := by rw [hZ]; exact zeros_le m
  have HZ := Lib.hid hZ
  clear hZ c8
  go_loopg [3] Z (fun g u wr => ∃ j, g + j = Z ∧ OwnB wr w.heap.size u (rest ++ 128 :: List.replicate j 0) ∧ Below w.heap.size w wr)
  case atStart => exact ⟨0, by omega, HO2.out, HB2.out⟩
  case round =>
    obtain ⟨j, hg, ho, hbl⟩ := hrel
    have hlen : (rest ++ 128 :: List.replicate j 0).length = m + 1 + j := by rw [HM.out]; simp; omega
    obtain ⟨a, cap, hu, hc1, hc2, _⟩ := ho.isB.shape
    rw [hlen] at hu
    have HO := Lib.hid ho
    have HBL := Lib.hid hbl
    have HL := Lib.hid hlen
    have hG := Lib.hid hg
    clear ho hbl hlen hc1 hc2 hg
    subst hu
    obtain ⟨N, hN⟩ : ∃ N, N = m + 1 + j := ⟨_, rfl⟩
    rw [← hN] at HO
    have hNi : (N : Int) ≤ 1099511627776 + 65 := by have := hG.out; omega
    by_cases hlt : j < Z
    · have hq := zeros_lt m j (by rw [← HZ.out]; exact hlt)
      rw [← hN] at hq ⊢
      have HN := Lib.hid hN
      have hqi : ((N : Int) % 64 == 56) = false := by simp; omega
      have hqj : ((N : Int) % 64 != 56) = true := by simp; omega
      have hjZ : j < Z := hlt
      clear hN hq hlt
      go_upto_region 5 with fail
      generalize Value.slice a N cap = u at *
      have HT := Lib.hid (show (rest ++ 128 :: List.replicate j 0) ++ [0] = rest ++ 128 :: List.replicate (j + 1) 0 by rw [rep_snoc]; simp)
      have hlb2 : (rest ++ 128 :: List.replicate j (0 : UInt8)).length + [0].length ≤ 140737488355328 := by rw [HL.out]; simp only [List.length_cons, List.length_nil]; omega
      clear hqi hqj
      go_wp2_with (at_builtin; refine wpList_app rfl (.tmp 22) (.tmp 23) rfl w.heap.size _ _ rfl (HO.out.step (bel_new _ _)) _ [0] rfl (IsB.one _ _ _ rfl) hlb2 (by have := HBL.out.size; simp; omega) ?_; intro v3 w3 hO3 hB3 hs3 hn3; have HO3 := Lib.hid hO3; have HB3 := Lib.hid ((HBL.out.trans ((bel_new wr _).mono HBL.out.size)).trans hB3); clear hO3 hB3 hs3 hn3)
      go_roundg (gk - 1)
      case rel => exact ⟨j + 1, by have := hG.out; omega, by rw [← HT.out]; exact HO3.out, HB3.out⟩
      case measure => have := hG.out; omega
    · obtain rfl : j = Z := by have := hG.out; omega
      have hq := zeros_at m
      rw [← HZ.out, ← hN] at hq
      have HN56 := Lib.hid hq
      have hqi : ((N : Int) % 64 == 56) = true := by simp; omega
      have hqj : ((N : Int) % 64 != 56) = false := by simp; omega
      have HL1 := Lib.hid (show (rest ++ 128 :: List.replicate j (0 : UInt8)).length = N by rw [HL.out, hN])
      have HN := Lib.hid hN
      rw [← hN]
      have hN65 : N ≤ m + 64 := by omega
      have HT := Lib.hid (show rest ++ tailR rest.length tot = (rest ++ 128 :: List.replicate j (0 : UInt8)) ++ lenB tot by
        unfold tailR
        rw [← HM.out, ← HZ.out]
        simp)
      generalize rest ++ 128 :: List.replicate j (0 : UInt8) = L1 at *
      clear hN hq hlt HO2 HB2 HL
      have hP : VBlk 52 wr p (hC s v tot) := HP.out.bel HBL.out HP.out.lt
      go_wp2_with fail
      generalize Value.slice a N cap = u at *
      have HPr := Lib.hid hP
      clear hP
      go_loopg [3, 4] 8 (fun g u i wr => ∃ k : Nat, g + k = 8 ∧ i = .int .i64 (7 - (k : Int)) ∧ OwnB wr w.heap.size u (L1 ++ (lenB tot).take k) ∧ Below w.heap.size w wr)
      case atStart => exact ⟨0, by omega, rfl, by rw [List.take_zero, List.append_nil]; exact HO.out, HBL.out⟩
      case round =>
        obtain ⟨k, hg, rfl, ho, hbl⟩ := hrel
        have HO1 := Lib.hid ho
        have HB1 := Lib.hid hbl
        have hP : VBlk 52 wr p (hC s v tot) := HP.out.bel hbl HP.out.lt
        have c9 := (hst_cells hP).2.2.2.2.2.2.2.2.2
        have hkg : k ≤ 8 := by omega
        have HG := Lib.hid hg
        clear ho hbl hP hg
        by_cases hlt : k < 8
        · have h1 : (0 : Int) ≤ 7 - (k : Int) := by omega
          have HE := Lib.hid (show 8 * (tot : Int) / 2 ^ (8 * (7 - k)) % 256 = (((lenB tot).getD k 0).toNat : Int) by
            have := lenB_at tot k hlt
            rw [Int.natCast_mul, Int.natCast_pow] at this
            exact this)
          have HTK := Lib.hid (show L1 ++ (lenB tot).take k ++ [(lenB tot).getD k 0] = L1 ++ (lenB tot).take (k + 1) by rw [lenB_take tot k hlt, List.append_assoc])
          have hlb2 : (L1 ++ (lenB tot).take k).length + [(lenB tot).getD k 0].length ≤ 140737488355328 := by
            rw [List.length_append, HL1.out, List.length_take, lenB_len]
            simp only [List.length_cons, List.length_nil]
            omega
          generalize (lenB tot).getD k 0 = c at *
          go_wp2_with (at_builtin; refine wpList_app rfl (.tmp 29) (.tmp 39) rfl w.heap.size _ _ rfl (HO1.out.step (bel_new _ _)) _ [c] rfl (IsB.one _ _ _ HE.out) hlb2 (by have := HB1.out.size; simp; omega) ?_; intro v3 w3 hO3 hB3 hs3 hn3; have HO3 := Lib.hid hO3; have HB3 := Lib.hid ((HB1.out.trans ((bel_new wr _).mono HB1.out.size)).trans hB3); clear hO3 hB3 hs3 hn3)
          go_roundg (gk - 1)
          case rel => exact ⟨k + 1, by have := HG.out; omega, by go_num, by rw [← HTK.out]; exact HO3.out, HB3.out⟩
          case measure => have := HG.out; omega
        · obtain rfl : k = 8 := by omega
          have hi1 : (7 - ((8 : Nat) : Int)) = -1 := by omega
          rw [hi1]
          clear hi1 c9
          rw [List.take_of_length_le (by rw [lenB_len]; omega), ← HT.out] at HO1
          have HXL := Lib.hid (show (rest ++ tailR rest.length tot).length = N + 8 by rw [HT.out, List.length_append, HL1.out, lenB_len])
          have hN64 : (N + 8) % 64 = 0 := by have := HN56.out; omega
          generalize rest ++ tailR rest.length tot = X at *
          have HU := Lib.hid HO1.out.isB
          have hP : VBlk 52 wr p (hC s v tot) := HP.out.bel HB1.out HP.out.lt
          have HRG := Lib.hid (hP.range 0 (stV s) (fun j x hj => by
            rw [Nat.zero_add]
            have h8 : j < 8 := (List.getElem?_eq_some_iff.1 hj).1
            rw [← hj, hC, List.getElem?_append_left (by rw [stV_len]; exact h8)]))
          clear hP HO1 HT
          obtain ⟨SV, hSV⟩ : ∃ SV, SV = stV s := ⟨_, rfl⟩
          have HSV := Lib.hid hSV
          have HSVL := Lib.hid (show SV.length = 8 by rw [hSV]; rfl)
          have HO8 := Lib.hid (all_oneCell_toArray (wV_one s.list))
          rw [show s.list.map wV = stV s from rfl] at HO8
          rw [← hSV] at HRG HO8
          have HSA := Lib.hid (show SV.toArray.size = 8 by rw [List.size_toArray]; exact HSVL.out)
          have HI8 := Lib.hid (show (Tryd.prog.info? 48).map (·.size) = some SV.length by rw [HSVL.out]; exact size48)
          have HI8a := Lib.hid (show (Tryd.prog.info? 48).map (·.size) = some SV.toArray.size by rw [List.size_toArray, HSVL.out]; exact size48)
          clear hSV
          go_upto_region 10 with fail
          refine wp_region_list ?_
          refine wpList_plain rfl fun K hK => ?_
          go_simp
          refine hK _ _ ?_
          clear hK K
          refine wpList_plain rfl fun K hK => ?_
          go_simp
          refine hK _ _ ?_
          clear hK K
          refine wpList_plain rfl fun K hK => ?_
          go_simp
          refine hK _ _ ?_
          clear hK K
          refine wpList_load_mid rfl 48 (.tmp 43) rfl p 0 rfl SV _ HRG.out Tryd.underlying48 rfl HI8.out ?_
          refine wpList_plain rfl fun K hK => ?_
          go_simp
          refine hK _ _ ?_
          clear hK K
          refine wpList_store_mid rfl 48 (.tmp 5) (.tmp 44) rfl wr.heap.size 0 SV.toArray rfl rfl (by have := (zs_box wr).there 0 8 (by rw [stV_len]; omega); rw [HSA.out]; exact this) HI8a.out HO8.out ?_
          rw [List.toList_toArray]
          have HU4 := Lib.hid (HU.out.step (show Below wr.heap.size wr ((wr.alloc z8).setCells wr.heap.size 0 SV) from bel_setMany SV 0 _ (bel_new wr z8) (Nat.le_refl _)))
          have HS4 := Lib.hid ((zs_box wr).whole (d := SV) (by rw [stV_len, HSVL.out]))
          have HB4 := Lib.hid (bel_setMany SV 0 _ (bel_step HB1.out (bel_new wr z8)) (show w.heap.size ≤ wr.heap.size from HB1.out.size))
          change wpList _ _ _ _ _ ((wr.alloc z8).setCells wr.heap.size 0 SV)
          generalize (wr.alloc z8).setCells wr.heap.size 0 SV = W4 at *
          obtain ⟨bS, hbS⟩ : ∃ bS, bS = wr.heap.size := ⟨_, rfl⟩
          have hbw : w.heap.size ≤ bS := by rw [hbS]; exact HB1.out.size
          rw [← hbS] at HS4 ⊢
          clear hbS HRG HBL HB1 HU
          go_wp2_with fail
          go_simp
          rw [HSV.out] at HS4
          go_loopg [3] (X.length / 64) (fun g u wr => ∃ k : Nat, g + k = X.length / 64 ∧ IsB wr u (X.drop (k * 64)) ∧ VBlk 48 wr bS (stV (blocksP k s X)) ∧ Below w.heap.size w wr)
          case atStart => exact ⟨0, by omega, by rw [Nat.zero_mul, List.drop_zero]; exact HU4.out, HS4.out, HB4.out⟩
          case round =>
            obtain ⟨k, hg, hu, hS, hbl⟩ := hrel
            obtain ⟨a, cap, rfl, hc1, hc2, _⟩ := hu.shape
            obtain ⟨n, hn⟩ : ∃ n, n = (X.drop (k * 64)).length := ⟨_, rfl⟩
            have hn' : n = N + 8 - k * 64 := by rw [hn, List.length_drop, HXL.out]
            have hg' : gk + k = (N + 8) / 64 := by rw [hg, HXL.out]
            rw [← hn] at hu hc1 ⊢
            have HN1 := Lib.hid hn
            have HN' := Lib.hid hn'
            have HG := Lib.hid hg'
            have HG0 := Lib.hid hg
            have HU := Lib.hid hu
            have HS := Lib.hid hS
            have HBL := Lib.hid hbl
            clear hn hn' hg hg' hu hS hbl
            by_cases hlt : 0 < n
            · have h64 : 64 ≤ n := by have := HN'.out; have := HN56.out; omega
              go_upto_region 12 with fail
              obtain ⟨c0, c1, c2, c3, c4, c5, c6, c7⟩ := st_cells HS.out
              generalize hst : blocksP k s X = st at *
              have HST := Lib.hid hst
              clear hst
              have e0 := cell_regrown c0
              have e1 := cell_regrown c1
              have e2 := cell_regrown c2
              have e3 := cell_regrown c3
              have e4 := cell_regrown c4
              have e5 := cell_regrown c5
              have e6 := cell_regrown c6
              have e7 := cell_regrown c7
              clear c0 c1 c2 c3 c4 c5 c6 c7
              have hci : (64 : Int) ≤ (cap : Int) := by omega
              have HL := Lib.hid (show ((X.drop (k * 64)).take 64).length = 64 by rw [List.length_take, ← HN1.out]; omega)
              have HBF := Lib.hid (show IsB wr (.slice a 64 cap) ((X.drop (k * 64)).take 64) from (show IsB wr (.slice a (X.drop (k * 64)).length cap) (X.drop (k * 64)) by rw [← HN1.out]; exact HU.out).first 64 (by rw [← HN1.out]; exact h64))
              have HKr := Lib.hid (HK.out.step HBL.out)
              generalize hXk : (X.drop (k * 64)).take 64 = Xk at *
              refine wp_region_last_of (fun w' => ∃ q : Regrown, w' = Go.Sort.grow (redrawn wr q.d) q.os) rfl rfl (by kernel_rfl) (by kernel_rfl) (by kernel_rfl) (by kernel_rfl) ⟨⟨wr.drawn + 1, #[]⟩, by rw [Go.Sort.grow_empty]; rfl⟩ ?_
              dsimp only [idleLast, lastOf, idle]
              repeat (go_big_quiet_step ((go_at_call 28; refine Calls.regrown_of (mix_any st Xk _ _ (HKr.out.step (below_regrown _ _ _)) (HBF.out.step (below_regrown _ _ _)) HL.out))))
              refine wpQuiet_nil ?_
              intro w6 hw6
              have hb6 : Below wr.heap.size wr w6 := by obtain ⟨q, rfl⟩ := hw6; exact below_regrown wr q.d q.os
              have H6 := Lib.hid (HS.out.step hb6)
              have HU6 := Lib.hid (HU.out.step hb6)
              have HB6 := Lib.hid (bel_step HBL.out hb6)
              have HSN := Lib.hid (show blocksP (k + 1) s X = mixP st Xk by rw [blocks_snoc, HST.out, hXk])
              generalize mixP st Xk = M at *
              refine wpList_store_mid rfl 48 (.tmp 5) (.tmp 51) rfl bS 0 (stV M).toArray rfl rfl (H6.out.there 0 8 (by rw [stV_len]; omega)) size48 (all_oneCell_toArray (wV_one M.list)) ?_
              rw [List.toList_toArray]
              have H7 := Lib.hid (show VBlk 48 (w6.setCells bS 0 (stV M)) bS (stV M) from H6.out.whole rfl)
              have HU7 := Lib.hid (HU6.out.keepV H6.out (stV M))
              have HB7 := Lib.hid (bel_setMany (b := bS) (stV M) 0 w6 HB6.out hbw)
              generalize w6.setCells bS 0 (stV M) = W7 at *
              clear e0 e1 e2 e3 e4 e5 e6 e7 hw6 hb6 HBF HKr HU HS HBL
              obtain ⟨g, off, hag, hod1, hod2⟩ := IsB.cut HU7.out HN1.out h64
              subst hag
              have HOD1 := Lib.hid hod1
              have HOD2 := Lib.hid hod2
              clear hod1 hod2
              by_cases hcc : cap = 64
              · subst hcc
                obtain rfl : n = 64 := by omega
                have HOD := Lib.hid (HOD2.out rfl)
                clear HOD1 HOD2
                go_wp2_with fail
                go_roundg (gk - 1)
                case rel => exact ⟨k + 1, by have := HG.out; have := HG0.out; have := HN'.out; omega, by rw [Nat.add_mul, Nat.one_mul, ← List.drop_drop]; exact HOD.out, by rw [HSN.out]; exact H7.out, HB7.out⟩
                case measure => have := HG.out; have := HN'.out; omega
              · go_wp2_with fail
                go_roundg (gk - 1)
                case rel => exact ⟨k + 1, by have := HG.out; have := HG0.out; have := HN'.out; omega, by rw [Nat.add_mul, Nat.one_mul, ← List.drop_drop]; exact HOD1.out hcc, by rw [HSN.out]; exact H7.out, HB7.out⟩
                case measure => have := HG.out; have := HN'.out; omega
            · obtain rfl : n = 0 := by omega
              have hk2 : k = X.length / 64 := by have := HG.out; have := HG0.out; have := HN'.out; have := HXL.out; omega
              have HRR := Lib.hid (show R = outP (blocksP k s X) by rw [HR.out, hk2])
              clear hk2 HR hlt hc1
              obtain ⟨mv, hm, ho⟩ := make_own 32 (by omega) wr
              rw [show ((32 : Nat) : Int) = (32 : Int) from rfl] at hm
              have HO5 := Lib.hid (ho.mono HBL.out.size)
              have HB5 := Lib.hid (bel_step HBL.out (bel_new wr (.cells (madeCells #[.int .u8 0] 32) 5)))
              have HS5 := Lib.hid (HS.out.alloc (.cells (madeCells #[.int .u8 0] 32) 5))
              clear ho
              generalize hst : blocksP k s X = st at *
              clear hst
              obtain ⟨CV, hCV⟩ : ∃ CV, CV = stV st := ⟨_, rfl⟩
              have hix := idx_st st
              rw [← hCV] at hix HS5
              have HIX := Lib.hid hix
              have HRG5 := Lib.hid (range_all HS5.out)
              have HI5 := Lib.hid (show (Tryd.prog.info? 48).map (·.size) = some CV.length by rw [hCV, stV_len]; exact size48)
              clear hix hCV HS HU
              go_upto_region 15 with fail
              generalize wr.alloc (.cells (madeCells #[.int .u8 0] 32) 5) = W5 at *
              refine wp_region_list ?_
              refine wpList_load_mid rfl 48 (.tmp 5) rfl bS 0 rfl CV _ HRG5.out Tryd.underlying48 rfl HI5.out ?_
              go_wp2_with fail
              go_simp
              have HBL5 := HBL
              clear HBL
              go_loopw [6, 56] (fun u i wr => ∃ k : Nat, i = .int .i64 k ∧ k ≤ 8 ∧ OwnB wr w.heap.size u ((st.list.take k).flatMap word4B) ∧ Below w.heap.size w wr) (fun _ i _ => 8 - (intOf i).toNat)
              case atStart => exact ⟨0, rfl, by omega, HO5.out, HB5.out⟩
              case round =>
                obtain ⟨k, rfl, hk, ho, hbl⟩ := hrel
                have HO := Lib.hid ho
                have HB := Lib.hid hbl
                clear ho hbl
                by_cases hlt : k < 8
                · have hx := HIX.out k hlt
                  have HTK := Lib.hid (outP_take st k hlt)
                  have hlb2 : ((st.list.take k).flatMap word4B).length + 4 ≤ 140737488355328 := by have := out_take_len st k hk; omega
                  generalize (st.list.take k).flatMap word4B = L5 at *
                  generalize st.list.getD k 0 = x at *
                  unfold wV at hx
                  have q0 := word_byte x 24
                  have q1 := word_byte x 16
                  have q2 := word_byte x 8
                  have q3 := word_byte x 0
                  have HW4 := Lib.hid (show word4B x = [UInt8.ofNat (x.toNat / 2 ^ 24), UInt8.ofNat (x.toNat / 2 ^ 16), UInt8.ofNat (x.toNat / 2 ^ 8), UInt8.ofNat (x.toNat / 2 ^ 0)] by simp [word4B])
                  generalize UInt8.ofNat (x.toNat / 2 ^ 24) = b0 at *
                  generalize UInt8.ofNat (x.toNat / 2 ^ 16) = b1 at *
                  generalize UInt8.ofNat (x.toNat / 2 ^ 8) = b2 at *
                  generalize UInt8.ofNat (x.toNat / 2 ^ 0) = b3 at *
                  have HQ0 := Lib.hid (show (wn x : Int) / 16777216 % 256 = (b0.toNat : Int) from q0)
                  have HQ1 := Lib.hid (show (wn x : Int) / 65536 % 256 = (b1.toNat : Int) from q1)
                  have HQ2 := Lib.hid (show (wn x : Int) / 256 % 256 = (b2.toNat : Int) from q2)
                  have HQ3 := Lib.hid (show (wn x : Int) % 256 = (b3.toNat : Int) by rw [← q3]; simp)
                  clear q0 q1 q2 q3
                  go_wp2_with (at_builtin; refine wpList_app rfl (.tmp 59) (.tmp 71) rfl w.heap.size _ _ rfl (HO.out.step (bel_new _ _)) _ [b0, b1, b2, b3] rfl (IsB.four _ HQ0.out HQ1.out HQ2.out HQ3.out) hlb2 (by have := HB.out.size; simp; omega) ?_; intro v3 w3 hO3 hB3 hs3 hn3; have HO3 := Lib.hid hO3; have HB3 := Lib.hid ((HB.out.trans ((bel_new wr _).mono HB.out.size)).trans hB3); clear hO3 hB3 hs3 hn3)
                  go_roundw
                  case rel => exact ⟨k + 1, by go_num, by omega, by rw [HTK.out, HW4.out]; exact HO3.out, HB3.out⟩
                  case measure => simp [intOf]; omega
                · obtain rfl : k = 8 := by omega
                  have hoR := HO.out
                  rw [show st.list.take 8 = st.list from rfl, show st.list.flatMap word4B = outP st from rfl, ← HRR.out] at hoR
                  have HOR := Lib.hid hoR
                  clear hoR HO
                  go_wp2_with fail
                  go_ret
                  exact ⟨_, rfl, HOR.out, HB.out⟩
end Go.Proofs.YtjghmhcljhjmmaaDoor
