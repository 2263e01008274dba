/- HMAC in plain Lean; the walk of the program's padded. The one condition beyond the sizes: the constants lie as the program's text lays them. -/
import Derived.Test.YtjghmhcljhjmmaaDoorSum
import Derived.Test.YtjghmhcljhjmmaaDoorMessage
import Derived.Laws.CopyOwn
namespace Go.Proofs.YtjghmhcljhjmmaaDoor
open Go.RowKit
set_option linter.unusedVariables false
set_option linter.unusedSimpArgs false

def keyP (k : List UInt8) : List UInt8 := if 64 < k.length then shaP k else k
def padK (k : List UInt8) : List UInt8 := keyP k ++ List.replicate (64 - (keyP k).length) 0
def maskP (k : List UInt8) (m : UInt8) : List UInt8 := (padK k).map (· ^^^ m)
def hmacP (k b : List UInt8) : List UInt8 := shaP (maskP k 92 ++ shaP (maskP k 54 ++ b))
theorem keyP_len (k : List UInt8) : (keyP k).length ≤ 64 := by
  unfold keyP
  split
  · show (shaP k).length ≤ 64
    rw [show (shaP k).length = 32 from rfl]; omega
  · omega
theorem padK_len (k : List UInt8) : (padK k).length = 64 := by
  have := keyP_len k
  unfold padK
  simp
  omega
theorem maskP_len (k : List UInt8) (m : UInt8) : (maskP k m).length = 64 := by unfold maskP; rw [List.length_map, padK_len]
/-- The bytes masked as far as k. -/
def maskK (p : List UInt8) (m : UInt8) (k : Nat) : List UInt8 := (p.take k).map (· ^^^ m) ++ p.drop k
theorem maskK_zero (p : List UInt8) (m : UInt8) : maskK p m 0 = p := by simp [maskK]
theorem maskK_len (p : List UInt8) (m : UInt8) (k : Nat) : (maskK p m k).length = p.length := by simp [maskK]; omega
theorem maskK_all (p : List UInt8) (m : UInt8) : maskK p m p.length = p.map (· ^^^ m) := by simp [maskK]
theorem maskK_at (p : List UInt8) (m : UInt8) (k : Nat) (h : k < p.length) : (maskK p m k)[k]? = some (p[k]) := by
  unfold maskK
  rw [List.getElem?_append_right (by simp; omega)]
  simp [Nat.min_eq_left (Nat.le_of_lt h)]
theorem maskK_set (p : List UInt8) (m : UInt8) (k : Nat) (h : k < p.length) : (maskK p m k).set k (p[k] ^^^ m) = maskK p m (k + 1) := by
  unfold maskK
  have hl : ((p.take k).map (· ^^^ m)).length = k := by simp; omega
  rw [List.set_append_right _ _ (by omega), hl, Nat.sub_self, List.drop_eq_getElem_cons h, List.set_cons_zero, List.take_succ_eq_append_getElem h, List.map_append]
  simp
theorem VBlk.ownB {w : World} {b base : Nat} {l : List UInt8} (h : VBlk 5 w b (l.map bcell)) (hb : base ≤ b) (hl : l.length ≤ 140737488355328) : OwnB w base (.slice (some ⟨b, 0, none⟩) l.length l.length) l := by
  refine ⟨by simp, .inr ⟨b, l.length, (l.map bcell).toArray, rfl, hb, h, Nat.le_refl _, by unfold maxLen; omega, by simp, by simp [List.take_of_length_le]⟩⟩
theorem xor_byte (c m : UInt8) : bits .xor .u8 (c.toNat : Int) (m.toNat : Int) = ((c ^^^ m).toNat : Int) := by
  rw [u8_xor_nat _ _ c.toNat_lt m.toNat_lt, UInt8.toNat_xor]
theorem size5 : (Tryd.prog.info? 5).map (·.size) = some 1 := by kernel_rfl
theorem splice_pad {P : List UInt8} (K : List UInt8) (hK : K.length ≤ 64) (hP : P = K ++ List.replicate (64 - K.length) 0) : splice ((List.replicate 64 (0 : UInt8)).map bcell) 0 (K.map bcell) = P.map bcell := by
  rw [hP, splice, List.take_zero, List.nil_append, List.length_map, Nat.zero_add, ← List.map_drop, List.drop_replicate, ← List.map_append]
/-- The source of a copy. -/
theorem IsB.src {w : World} {a : Option Addr} {n cap : Nat} {l : List UInt8} (h : IsB w (.slice a n cap) l) (B : Nat) : 0 < (l.map bcell).length → some (⟨B, 0, none⟩ : Addr) = some ⟨B, 0, none⟩ ∧ ∃ ad, a = some ad ∧ ∀ j v, (l.map bcell)[j]? = some v → w.cell? (ad.add j) = some v := by
  intro h0
  refine ⟨rfl, ?_⟩
  rcases h.news with ⟨rfl, _⟩ | ⟨ad, cap', hv, _, _, hc⟩
  · simp at h0
  · simp only [Value.slice.injEq] at hv
    exact ⟨ad, hv.1, hc⟩
set_option maxRecDepth 20000 in
set_option maxHeartbeats 4000000 in
theorem mask_any (v : Value) (key : List UInt8) (m : UInt8) (w : World) (hk : KW w) (hv : IsB w v key) (hl : key.length ≤ 1099511627776) :
    Calls Tryd.prog 30 #[v, .int .u8 (m.toNat : Int)] w (OwnR w (maskP key m)) := by
  have HK := Lib.hid hk
  have HV := Lib.hid hv
  have HR := Lib.hid (show maskP key m = (padK key).map (· ^^^ m) from rfl)
  have HPK := Lib.hid (show padK key = keyP key ++ List.replicate (64 - (keyP key).length) 0 from rfl)
  have HKL := Lib.hid (keyP_len key)
  have HPL := Lib.hid (padK_len key)
  generalize maskP key m = R at *
  obtain ⟨a, cap, rfl, h1, h2, _⟩ := hv.shape
  clear hk hv
  by_cases hlt : 64 < key.length
  · have HKP := Lib.hid (show keyP key = shaP key by unfold keyP; rw [if_pos hlt])
    have HC := Lib.hid (fun (u : Value) (h : IsB w u key) => sum_any u key w HK.out h hl)
    rw [← HKP.out] at HC
    clear HKP
    generalize keyP key = K at *
    generalize padK key = PK at *
    go_enter Tryd.func30, Tryd.ntmps30
    go_upto_region 3 with (go_at_call 12; refine (HC.out _ HV.out).mono ?_; rintro e W1 ⟨v1, rfl, ho1, hb1⟩; obtain ⟨ua, uc, rfl, hu1, hu2, _⟩ := ho1.isB.shape; have HU := Lib.hid ho1.isB; have HB1 := Lib.hid hb1; clear ho1 hb1)
    have HKL' := Lib.hid (show K.length ≤ 64 from HKL.out)
    have hmk := make_full 64 (by omega) W1
    rw [show ((64 : Nat) : Int) = (64 : Int) from rfl] at hmk
    have HVB := Lib.hid (VBlk.box 5 W1 ((List.replicate 64 (0 : UInt8)).map bcell))
    have HB2 := Lib.hid (bel_step HB1.out (bel_new W1 (.cells ((List.replicate 64 (0 : UInt8)).map bcell).toArray 5)))
    have HU2 := Lib.hid (HU.out.step (bel_new W1 (.cells ((List.replicate 64 (0 : UInt8)).map bcell).toArray 5)))
    obtain ⟨B, hB⟩ : ∃ B, B = W1.heap.size := ⟨_, rfl⟩
    have hbw : w.heap.size ≤ B := by rw [hB]; exact HB1.out.size
    rw [← hB] at hmk HVB
    clear hB HB1 HU
    generalize W1.alloc (.cells ((List.replicate 64 (0 : UInt8)).map bcell).toArray 5) = W2 at *
    go_upto_region 4 with fail
    clear hmk
    refine wp_region_list ?_
    refine wpList_plain rfl fun K hK => ?_
    go_simp
    refine hK _ _ ?_
    clear hK K
    refine wpList_plain rfl fun K hK => ?_
    go_simp
    refine hK _ _ ?_
    clear hK K
    have hc : (K.map bcell).length = Nat.min K.length 64 := by rw [List.length_map]; exact (Nat.min_eq_left HKL'.out).symm
    refine wpList_copy_splice rfl (.tmp 13) (.tmp 14) 22 22 rfl 5 Tryd.underlying22 size5 (some ⟨B, 0, none⟩) ua 64 64 K.length uc rfl rfl B 0 ((List.replicate 64 (0 : UInt8)).map bcell) 5 HVB.out (K.map bcell) hc (IsB.src HU2.out B) (by rw [List.length_map, List.length_map, List.length_replicate]; have := HKL'.out; omega) (bcell_one K) w.heap.size w HB2.out hbw ?_
    intro W3 h3 hb3
    have H3 := Lib.hid (show VBlk 5 W3 B (PK.map bcell) from (splice_pad K HKL'.out HPK.out) ▸ h3.out)
    have HB3 := Lib.hid hb3
    clear h3 hb3 HB2 HU2 HVB hc
    go_wp2_with fail
    go_loopw [18] (fun i wr => ∃ k : Nat, i = .int .i64 k ∧ k ≤ 64 ∧ VBlk 5 wr B ((maskK PK m k).map bcell) ∧ Below w.heap.size w wr) (fun i _ => 64 - (intOf i).toNat)
    case atStart => exact ⟨0, rfl, by omega, by rw [maskK_zero]; exact H3.out, HB3.out⟩
    case round =>
      obtain ⟨k, rfl, hk, hv, hbl⟩ := hrel
      have HV1 := Lib.hid hv
      have HB4 := Lib.hid hbl
      by_cases hlt2 : k < 64
      · have hc := maskK_at PK m k (by rw [HPL.out]; exact hlt2)
        have hs := maskK_set PK m k (by rw [HPL.out]; exact hlt2)
        have HS := Lib.hid hs
        generalize PK[k]'(by rw [HPL.out]; exact hlt2) = c at *
        have hcell : wr.cell? ⟨B, k, none⟩ = some (.int .u8 (c.toNat : Int)) := by rw [hv.cell, List.getElem?_map, hc]; rfl
        have hf := hv.frozen k
        have hx := xor_byte c m
        have hk0 : (0 : Int) ≤ (k : Int) := by omega
        have hkN : (k : Int) < 64 := by omega
        clear hv hbl hc hs
        go_wp2_with fail
        refine ⟨⟨k + 1, by go_num, by omega, ?_, HB4.out.setCell (p := ⟨B, k, none⟩) hbw _⟩, by simp [intOf]; omega⟩
        have := HV1.out.set k (bcell (c ^^^ m))
        rw [← List.map_set, HS.out] at this
        exact this
      · obtain rfl : k = 64 := by omega
        have hm : maskK PK m 64 = R := by rw [HR.out, ← maskK_all, HPL.out]
        rw [hm] at hv
        have HRL := Lib.hid (show R.length = 64 by rw [HR.out, List.length_map, HPL.out])
        have HO := Lib.hid (hv.ownB hbw (by rw [HRL.out]; omega))
        rw [HRL.out] at HO
        clear hv hm HV1 hbl
        go_wp2_with fail
        go_ret
        exact ⟨_, rfl, HO.out, HB4.out⟩
  · have HKP := show keyP key = key by unfold keyP; rw [if_neg hlt]
    rw [HKP] at HPK HKL
    clear HKP HK
    generalize padK key = PK at *
    obtain ⟨K, rfl⟩ : ∃ K, K = key := ⟨_, rfl⟩
    obtain ⟨ua, rfl⟩ : ∃ x, x = a := ⟨_, rfl⟩
    obtain ⟨uc, rfl⟩ : ∃ x, x = cap := ⟨_, rfl⟩
    go_enter Tryd.func30, Tryd.ntmps30
    go_upto_region 3 with fail
    have HU := HV
    have HB1 := Lib.hid (Below.refl w.heap.size w)
    clear HV
    have HKL' := Lib.hid (show K.length ≤ 64 from HKL.out)
    have hmk := make_full 64 (by omega) w
    rw [show ((64 : Nat) : Int) = (64 : Int) from rfl] at hmk
    have HVB := Lib.hid (VBlk.box 5 w ((List.replicate 64 (0 : UInt8)).map bcell))
    have HB2 := Lib.hid (bel_step HB1.out (bel_new w (.cells ((List.replicate 64 (0 : UInt8)).map bcell).toArray 5)))
    have HU2 := Lib.hid (HU.out.step (bel_new w (.cells ((List.replicate 64 (0 : UInt8)).map bcell).toArray 5)))
    obtain ⟨B, hB⟩ : ∃ B, B = w.heap.size := ⟨_, rfl⟩
    have hbw : w.heap.size ≤ B := by rw [hB]; exact HB1.out.size
    rw [← hB] at hmk HVB
    clear hB HB1 HU
    generalize w.alloc (.cells ((List.replicate 64 (0 : UInt8)).map bcell).toArray 5) = W2 at *
    go_upto_region 4 with fail
    clear hmk
    refine wp_region_list ?_
    refine wpList_plain rfl fun K hK => ?_
    go_simp
    refine hK _ _ ?_
    clear hK K
    refine wpList_plain rfl fun K hK => ?_
    go_simp
    refine hK _ _ ?_
    clear hK K
    have hc : (K.map bcell).length = Nat.min K.length 64 := by rw [List.length_map]; exact (Nat.min_eq_left HKL'.out).symm
    refine wpList_copy_splice rfl (.tmp 13) (.tmp 14) 22 22 rfl 5 Tryd.underlying22 size5 (some ⟨B, 0, none⟩) ua 64 64 K.length uc rfl rfl B 0 ((List.replicate 64 (0 : UInt8)).map bcell) 5 HVB.out (K.map bcell) hc (IsB.src HU2.out B) (by rw [List.length_map, List.length_map, List.length_replicate]; have := HKL'.out; omega) (bcell_one K) w.heap.size w HB2.out hbw ?_
    intro W3 h3 hb3
    have H3 := Lib.hid (show VBlk 5 W3 B (PK.map bcell) from (splice_pad K HKL'.out HPK.out) ▸ h3.out)
    have HB3 := Lib.hid hb3
    clear h3 hb3 HB2 HU2 HVB hc
    go_wp2_with fail
    go_loopw [18] (fun i wr => ∃ k : Nat, i = .int .i64 k ∧ k ≤ 64 ∧ VBlk 5 wr B ((maskK PK m k).map bcell) ∧ Below w.heap.size w wr) (fun i _ => 64 - (intOf i).toNat)
    case atStart => exact ⟨0, rfl, by omega, by rw [maskK_zero]; exact H3.out, HB3.out⟩
    case round =>
      obtain ⟨k, rfl, hk, hv, hbl⟩ := hrel
      have HV1 := Lib.hid hv
      have HB4 := Lib.hid hbl
      by_cases hlt2 : k < 64
      · have hc := maskK_at PK m k (by rw [HPL.out]; exact hlt2)
        have hs := maskK_set PK m k (by rw [HPL.out]; exact hlt2)
        have HS := Lib.hid hs
        generalize PK[k]'(by rw [HPL.out]; exact hlt2) = c at *
        have hcell : wr.cell? ⟨B, k, none⟩ = some (.int .u8 (c.toNat : Int)) := by rw [hv.cell, List.getElem?_map, hc]; rfl
        have hf := hv.frozen k
        have hx := xor_byte c m
        have hk0 : (0 : Int) ≤ (k : Int) := by omega
        have hkN : (k : Int) < 64 := by omega
        clear hv hbl hc hs
        go_wp2_with fail
        refine ⟨⟨k + 1, by go_num, by omega, ?_, HB4.out.setCell (p := ⟨B, k, none⟩) hbw _⟩, by simp [intOf]; omega⟩
        have := HV1.out.set k (bcell (c ^^^ m))
        rw [← List.map_set, HS.out] at this
        exact this
      · obtain rfl : k = 64 := by omega
        have hm : maskK PK m 64 = R := by rw [HR.out, ← maskK_all, HPL.out]
        rw [hm] at hv
        have HRL := Lib.hid (show R.length = 64 by rw [HR.out, List.length_map, HPL.out])
        have HO := Lib.hid (hv.ownB hbw (by rw [HRL.out]; omega))
        rw [HRL.out] at HO
        clear hv hm HV1 hbl
        go_wp2_with fail
        go_ret
        exact ⟨_, rfl, HO.out, HB4.out⟩
end Go.Proofs.YtjghmhcljhjmmaaDoor
