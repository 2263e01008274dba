/- The walk of the reference's Hmac. No condition beyond the sizes. -/
import Derived.Test.YtjghmhcljhjmmaaDoorPair
import Derived.Test.YtjghmhcljhjmmaaDoorHmac
import Derived.Test.YtjghmhcljhjmmaaDoorRSum
namespace Go.Proofs.YtjghmhcljhjmmaaDoor
open Go.RowKit
set_option linter.unusedVariables false
set_option linter.unusedSimpArgs false

set_option maxRecDepth 20000 in
set_option maxHeartbeats 4000000 in
theorem rhmac_any (u v : Value) (key b : List UInt8) (w : World) (hu : IsB w u key) (hv : IsB w v b) (hl : key.length + b.length ≤ 1099511620000) :
    Calls Tryd.prog 20 #[u, v] w (OwnR w (hmacP key b)) := by
  have HU := Lib.hid hu
  have HV := Lib.hid hv
  have HL := Lib.hid hl
  have HR := Lib.hid (show hmacP key b = shaP ((padK key).map (· ^^^ 92) ++ shaP ((padK key).map (· ^^^ 54) ++ b)) from rfl)
  have HPK := Lib.hid (show padK key = keyP key ++ List.replicate (64 - (keyP key).length) 0 from rfl)
  have HKL := Lib.hid (keyP_len key)
  have HPL := Lib.hid (padK_len key)
  generalize hmacP key b = R at *
  obtain ⟨a, cap, rfl, h1, h2, _⟩ := hu.shape
  clear hu hv hl
  by_cases hlt : 64 < key.length
  · have HKP := Lib.hid (show keyP key = shaP key by unfold keyP; rw [if_pos hlt])
    have HC := Lib.hid (fun (x : Value) (h : IsB w x key) => rsum_any x key w h (by have := HL.out; omega))
    rw [← HKP.out] at HC
    clear HKP
    have HBL := Lib.hid (show b.length ≤ 1099511620000 by have := HL.out; omega)
    generalize keyP key = K at *
    generalize padK key = PK at *
    go_enter Tryd.func20, Tryd.ntmps20
    go_upto_region 3 with (go_at_call 14; refine (HC.out _ HU.out).mono ?_; rintro e W1 ⟨v1, rfl, ho1, hb1⟩; obtain ⟨ua, uc, rfl, hu1, hu2, _⟩ := ho1.isB.shape; have HKB := Lib.hid ho1.isB; have HB1 := Lib.hid hb1; clear ho1 hb1)
    go_wp2_with fail
    have HVW := Lib.hid (HV.out.step HB1.out)
    go_loopw [5, 6, 14] (fun x y i wr => ∃ k : Nat, i = .int .i64 k ∧ k ≤ 64 ∧ PairO wr W1.heap.size x ((PK.take k).map (· ^^^ 54)) y ((PK.take k).map (· ^^^ 92)) ∧ Below W1.heap.size W1 wr) (fun _ _ i _ => 64 - (intOf i).toNat)
    case atStart => exact ⟨0, rfl, by omega, PairO.nil _ _, Below.refl _ _⟩
    case round =>
      obtain ⟨k, rfl, hk, hP, hbl⟩ := hrel
      have HB2 := Lib.hid hbl
      have HPr := Lib.hid hP
      have HKW := Lib.hid (HKB.out.step hbl)
      clear hbl hP
      have hwr : W1.heap.size ≤ wr.heap.size := HB2.out.size
      by_cases hlt2 : k < 64
      · obtain ⟨c, hc⟩ : ∃ c, PK[k]? = some c := ⟨_, List.getElem?_eq_getElem (by rw [HPL.out]; exact hlt2)⟩
        have HS54 := Lib.hid (show (PK.take (k + 1)).map (· ^^^ 54) = (PK.take k).map (· ^^^ 54) ++ [c ^^^ 54] by
          obtain ⟨h1, h2⟩ := List.getElem?_eq_some_iff.1 hc
          rw [mask_snoc PK 54 k h1, h2])
        have HS92 := Lib.hid (show (PK.take (k + 1)).map (· ^^^ 92) = (PK.take k).map (· ^^^ 92) ++ [c ^^^ 92] by
          obtain ⟨h1, h2⟩ := List.getElem?_eq_some_iff.1 hc
          rw [mask_snoc PK 92 k h1, h2])
        have HL54 := Lib.hid (show ((PK.take k).map (· ^^^ 54)).length + [c ^^^ 54].length ≤ 140737488355328 by rw [List.length_map, List.length_take]; simp only [List.length_cons, List.length_nil]; omega)
        have HL92 := Lib.hid (show ((PK.take k).map (· ^^^ 92)).length + [c ^^^ 92].length ≤ 140737488355328 by rw [List.length_map, List.length_take]; simp only [List.length_cons, List.length_nil]; omega)
        have HX54 := Lib.hid (xor_byte54 c)
        have HX92 := Lib.hid (xor_byte92 c)
        have hk0 : (0 : Int) ≤ (k : Int) := by omega
        have hk64 : (k : Int) < 64 := by omega
        by_cases hlk : k < K.length
        · have hck : K[k]? = some c := by
            have h := padK_key K HKL.out k hlk
            rw [← HPK.out, hc] at h
            rw [List.getElem?_eq_getElem hlk, h]
          have HCK := Lib.hid hck
          rcases HKW.out with ⟨h0, _⟩ | ⟨_, g, off, cap', he, _, _, hcl⟩
          · rw [h0] at hck; simp at hck
          · have hcell := hcl k c hck
            simp only [Value.slice.injEq] at he
            obtain ⟨he1, _, he3⟩ := he
            subst he1 he3
            have hki : (k : Int) < (K.length : Int) := by omega
            clear hcl hck hc
            generalize (PK.take k).map (· ^^^ 54) = X54 at *
            generalize (PK.take k).map (· ^^^ 92) = X92 at *
            go_wp2_with (first | (at_builtin; refine wpList_appO rfl (.tmp 25) (.tmp 28) rfl W1.heap.size _ X54 rfl (HPr.out.fst.step (bel_new _ _)) _ [c ^^^ 54] rfl (IsB.one _ _ _ HX54.out) HL54.out (Nat.le_trans hwr (bel_new wr _).size) ?_; intro vA wA hoA hbA hkA hnA; have HP1 := Lib.hid ((HPr.out.step (bel_new wr _)).grown hoA hkA hnA); have HB3 := Lib.hid ((bel_step HB2.out (bel_new wr _)).trans hbA); clear hoA hbA hkA hnA) | (at_builtin; refine wpList_appO rfl (.tmp 30) (.tmp 33) rfl W1.heap.size _ X92 rfl (HP1.out.snd.step (bel_new _ _)) _ [c ^^^ 92] rfl (IsB.one _ _ _ HX92.out) HL92.out (by have := HB3.out.size; simp [go_sem]; omega) ?_; intro vB wB hoB hbB hkB hnB; have HP2 := Lib.hid (((HP1.out.step (bel_new wA _)).swap.grown hoB hkB hnB).swap); have HB4 := Lib.hid ((bel_step HB3.out (bel_new wA _)).trans hbB); clear hoB hbB hkB hnB))
            go_roundw
            case rel => exact ⟨k + 1, by go_num, by omega, by rw [HS54.out, HS92.out]; exact HP2.out, HB4.out⟩
            case measure => simp [intOf]; omega
        · have hc0 : c = 0 := by
            have h := padK_zero K HKL.out k (by omega) hlt2
            rw [← HPK.out, hc] at h
            injection h
          subst hc0
          have hki : ¬ (k : Int) < (K.length : Int) := by omega
          have hkb : decide ((k : Int) < (K.length : Int)) = false := by rw [decide_eq_false_iff_not]; exact hki
          clear hc
          generalize (PK.take k).map (· ^^^ 54) = X54 at *
          generalize (PK.take k).map (· ^^^ 92) = X92 at *
          go_wp2_with (first | (at_builtin; refine wpList_appO rfl (.tmp 25) (.tmp 28) rfl W1.heap.size _ X54 rfl (HPr.out.fst.step (bel_new _ _)) _ [0 ^^^ 54] rfl (IsB.one _ _ _ HX54.out) HL54.out (Nat.le_trans hwr (bel_new wr _).size) ?_; intro vA wA hoA hbA hkA hnA; have HP1 := Lib.hid ((HPr.out.step (bel_new wr _)).grown hoA hkA hnA); have HB3 := Lib.hid ((bel_step HB2.out (bel_new wr _)).trans hbA); clear hoA hbA hkA hnA) | (at_builtin; refine wpList_appO rfl (.tmp 30) (.tmp 33) rfl W1.heap.size _ X92 rfl (HP1.out.snd.step (bel_new _ _)) _ [0 ^^^ 92] rfl (IsB.one _ _ _ HX92.out) HL92.out (by have := HB3.out.size; simp [go_sem]; omega) ?_; intro vB wB hoB hbB hkB hnB; have HP2 := Lib.hid (((HP1.out.step (bel_new wA _)).swap.grown hoB hkB hnB).swap); have HB4 := Lib.hid ((bel_step HB3.out (bel_new wA _)).trans hbB); clear hoB hbB hkB hnB))
          go_roundw
          case rel => exact ⟨k + 1, by go_num, by omega, by rw [HS54.out, HS92.out]; exact HP2.out, HB4.out⟩
          case measure => simp [intOf]; omega
      · obtain rfl : k = 64 := by omega
        rw [show (((64 : Nat)) : Int) = (64 : Int) from rfl]
        rw [List.take_of_length_le (by rw [HPL.out]; omega)] at HPr
        have HVr := Lib.hid (HVW.out.step HB2.out)
        have HLM := Lib.hid (show (PK.map (· ^^^ 54)).length = 64 ∧ (PK.map (· ^^^ 92)).length = 64 by rw [List.length_map, List.length_map, HPL.out]; exact ⟨rfl, rfl⟩)
        generalize PK.map (· ^^^ 54) = M5 at *
        generalize PK.map (· ^^^ 92) = M9 at *
        have HL5 := Lib.hid (show M5.length + b.length ≤ 140737488355328 by rw [HLM.out.1]; have := HBL.out; omega)
        have HL6 := Lib.hid (show (M5 ++ b).length ≤ 1099511627000 by rw [List.length_append, HLM.out.1]; have := HBL.out; omega)
        have HL9 := Lib.hid (show M9.length + (shaP (M5 ++ b)).length ≤ 140737488355328 by rw [HLM.out.2, sha32]; omega)
        have HL7 := Lib.hid (show (M9 ++ shaP (M5 ++ b)).length ≤ 1099511627000 by rw [List.length_append, HLM.out.2, sha32]; omega)
        have hbw : w.heap.size ≤ W1.heap.size := HB1.out.size
        go_wp2_with (first | (at_builtin; refine wpList_appO rfl (.tmp 37) (.tmp 38) rfl W1.heap.size _ M5 rfl HPr.out.fst _ b rfl HVr.out HL5.out hwr ?_; intro v3 w3 ho3 hb3 hk3 hn3; have HP3 := Lib.hid (HPr.out.grown ho3 hk3 hn3); have HB3 := Lib.hid (HB2.out.trans hb3); clear ho3 hb3 hk3 hn3) | (go_at_call 14; (with_reducible refine (rsum_any v3 (M5 ++ b) _ HP3.out.fst.isB HL6.out).mono ?_); rintro e w4 ⟨v4, rfl, ho4, hb4⟩; have HO4 := Lib.hid ho4.isB; have HP4 := Lib.hid (HP3.out.step hb4); have HB4 := Lib.hid (bel_step HB3.out hb4); clear ho4 hb4) | (at_builtin; refine wpList_appO rfl (.tmp 36) (.tmp 40) rfl W1.heap.size _ M9 rfl HP4.out.snd _ _ rfl HO4.out HL9.out HB4.out.size ?_; intro v5 w5 ho5 hb5 hk5 hn5; have HO5 := Lib.hid ho5.isB; have HB5 := Lib.hid (HB4.out.trans hb5); clear ho5 hb5 hk5 hn5) | (go_at_call 14; (with_reducible refine (rsum_any v5 _ _ HO5.out HL7.out).mono ?_); rintro e w6 ⟨v6, rfl, ho6, hb6⟩; have HO6 := Lib.hid (ho6.mono (Nat.le_trans hbw HB5.out.size)); have HB6 := Lib.hid (bel_step HB1.out (bel_step HB5.out hb6)); clear ho6 hb6))
        go_ret
        exact ⟨_, rfl, by rw [HR.out]; exact HO6.out, HB6.out⟩
  · have HKP := show keyP key = key by unfold keyP; rw [if_neg hlt]
    have HBL := Lib.hid (show b.length ≤ 1099511620000 by have := HL.out; omega)
    rw [HKP] at HPK HKL
    clear HKP
    generalize padK key = PK at *
    obtain ⟨K, rfl⟩ : ∃ K, K = key := ⟨_, rfl⟩
    obtain ⟨ua, rfl⟩ : ∃ x, x = a := ⟨_, rfl⟩
    obtain ⟨uc, rfl⟩ : ∃ x, x = cap := ⟨_, rfl⟩
    go_enter Tryd.func20, Tryd.ntmps20
    go_upto_region 3 with fail
    have HKB := HU
    have HB1 := Lib.hid (Below.refl w.heap.size w)
    clear HU
    go_wp2_with fail
    have HVW := Lib.hid (HV.out.step HB1.out)
    go_loopw [5, 6, 14] (fun x y i wr => ∃ k : Nat, i = .int .i64 k ∧ k ≤ 64 ∧ PairO wr w.heap.size x ((PK.take k).map (· ^^^ 54)) y ((PK.take k).map (· ^^^ 92)) ∧ Below w.heap.size w wr) (fun _ _ i _ => 64 - (intOf i).toNat)
    case atStart => exact ⟨0, rfl, by omega, PairO.nil _ _, Below.refl _ _⟩
    case round =>
      obtain ⟨k, rfl, hk, hP, hbl⟩ := hrel
      have HB2 := Lib.hid hbl
      have HPr := Lib.hid hP
      have HKW := Lib.hid (HKB.out.step hbl)
      clear hbl hP
      have hwr : w.heap.size ≤ wr.heap.size := HB2.out.size
      by_cases hlt2 : k < 64
      · obtain ⟨c, hc⟩ : ∃ c, PK[k]? = some c := ⟨_, List.getElem?_eq_getElem (by rw [HPL.out]; exact hlt2)⟩
        have HS54 := Lib.hid (show (PK.take (k + 1)).map (· ^^^ 54) = (PK.take k).map (· ^^^ 54) ++ [c ^^^ 54] by
          obtain ⟨h1, h2⟩ := List.getElem?_eq_some_iff.1 hc
          rw [mask_snoc PK 54 k h1, h2])
        have HS92 := Lib.hid (show (PK.take (k + 1)).map (· ^^^ 92) = (PK.take k).map (· ^^^ 92) ++ [c ^^^ 92] by
          obtain ⟨h1, h2⟩ := List.getElem?_eq_some_iff.1 hc
          rw [mask_snoc PK 92 k h1, h2])
        have HL54 := Lib.hid (show ((PK.take k).map (· ^^^ 54)).length + [c ^^^ 54].length ≤ 140737488355328 by rw [List.length_map, List.length_take]; simp only [List.length_cons, List.length_nil]; omega)
        have HL92 := Lib.hid (show ((PK.take k).map (· ^^^ 92)).length + [c ^^^ 92].length ≤ 140737488355328 by rw [List.length_map, List.length_take]; simp only [List.length_cons, List.length_nil]; omega)
        have HX54 := Lib.hid (xor_byte54 c)
        have HX92 := Lib.hid (xor_byte92 c)
        have hk0 : (0 : Int) ≤ (k : Int) := by omega
        have hk64 : (k : Int) < 64 := by omega
        by_cases hlk : k < K.length
        · have hck : K[k]? = some c := by
            have h := padK_key K HKL.out k hlk
            rw [← HPK.out, hc] at h
            rw [List.getElem?_eq_getElem hlk, h]
          have HCK := Lib.hid hck
          rcases HKW.out with ⟨h0, _⟩ | ⟨_, g, off, cap', he, _, _, hcl⟩
          · rw [h0] at hck; simp at hck
          · have hcell := hcl k c hck
            simp only [Value.slice.injEq] at he
            obtain ⟨he1, _, he3⟩ := he
            subst he1 he3
            have hki : (k : Int) < (K.length : Int) := by omega
            clear hcl hck hc
            generalize (PK.take k).map (· ^^^ 54) = X54 at *
            generalize (PK.take k).map (· ^^^ 92) = X92 at *
            go_wp2_with (first | (at_builtin; refine wpList_appO rfl (.tmp 25) (.tmp 28) rfl w.heap.size _ X54 rfl (HPr.out.fst.step (bel_new _ _)) _ [c ^^^ 54] rfl (IsB.one _ _ _ HX54.out) HL54.out (Nat.le_trans hwr (bel_new wr _).size) ?_; intro vA wA hoA hbA hkA hnA; have HP1 := Lib.hid ((HPr.out.step (bel_new wr _)).grown hoA hkA hnA); have HB3 := Lib.hid ((bel_step HB2.out (bel_new wr _)).trans hbA); clear hoA hbA hkA hnA) | (at_builtin; refine wpList_appO rfl (.tmp 30) (.tmp 33) rfl w.heap.size _ X92 rfl (HP1.out.snd.step (bel_new _ _)) _ [c ^^^ 92] rfl (IsB.one _ _ _ HX92.out) HL92.out (by have := HB3.out.size; simp [go_sem]; omega) ?_; intro vB wB hoB hbB hkB hnB; have HP2 := Lib.hid (((HP1.out.step (bel_new wA _)).swap.grown hoB hkB hnB).swap); have HB4 := Lib.hid ((bel_step HB3.out (bel_new wA _)).trans hbB); clear hoB hbB hkB hnB))
            go_roundw
            case rel => exact ⟨k + 1, by go_num, by omega, by rw [HS54.out, HS92.out]; exact HP2.out, HB4.out⟩
            case measure => simp [intOf]; omega
        · have hc0 : c = 0 := by
            have h := padK_zero K HKL.out k (by omega) hlt2
            rw [← HPK.out, hc] at h
            injection h
          subst hc0
          have hki : ¬ (k : Int) < (K.length : Int) := by omega
          have hkb : decide ((k : Int) < (K.length : Int)) = false := by rw [decide_eq_false_iff_not]; exact hki
          clear hc
          generalize (PK.take k).map (· ^^^ 54) = X54 at *
          generalize (PK.take k).map (· ^^^ 92) = X92 at *
          go_wp2_with (first | (at_builtin; refine wpList_appO rfl (.tmp 25) (.tmp 28) rfl w.heap.size _ X54 rfl (HPr.out.fst.step (bel_new _ _)) _ [0 ^^^ 54] rfl (IsB.one _ _ _ HX54.out) HL54.out (Nat.le_trans hwr (bel_new wr _).size) ?_; intro vA wA hoA hbA hkA hnA; have HP1 := Lib.hid ((HPr.out.step (bel_new wr _)).grown hoA hkA hnA); have HB3 := Lib.hid ((bel_step HB2.out (bel_new wr _)).trans hbA); clear hoA hbA hkA hnA) | (at_builtin; refine wpList_appO rfl (.tmp 30) (.tmp 33) rfl w.heap.size _ X92 rfl (HP1.out.snd.step (bel_new _ _)) _ [0 ^^^ 92] rfl (IsB.one _ _ _ HX92.out) HL92.out (by have := HB3.out.size; simp [go_sem]; omega) ?_; intro vB wB hoB hbB hkB hnB; have HP2 := Lib.hid (((HP1.out.step (bel_new wA _)).swap.grown hoB hkB hnB).swap); have HB4 := Lib.hid ((bel_step HB3.out (bel_new wA _)).trans hbB); clear hoB hbB hkB hnB))
          go_roundw
          case rel => exact ⟨k + 1, by go_num, by omega, by rw [HS54.out, HS92.out]; exact HP2.out, HB4.out⟩
          case measure => simp [intOf]; omega
      · obtain rfl : k = 64 := by omega
        rw [show (((64 : Nat)) : Int) = (64 : Int) from rfl]
        rw [List.take_of_length_le (by rw [HPL.out]; omega)] at HPr
        have HVr := Lib.hid (HVW.out.step HB2.out)
        have HLM := Lib.hid (show (PK.map (· ^^^ 54)).length = 64 ∧ (PK.map (· ^^^ 92)).length = 64 by rw [List.length_map, List.length_map, HPL.out]; exact ⟨rfl, rfl⟩)
        generalize PK.map (· ^^^ 54) = M5 at *
        generalize PK.map (· ^^^ 92) = M9 at *
        have HL5 := Lib.hid (show M5.length + b.length ≤ 140737488355328 by rw [HLM.out.1]; have := HBL.out; omega)
        have HL6 := Lib.hid (show (M5 ++ b).length ≤ 1099511627000 by rw [List.length_append, HLM.out.1]; have := HBL.out; omega)
        have HL9 := Lib.hid (show M9.length + (shaP (M5 ++ b)).length ≤ 140737488355328 by rw [HLM.out.2, sha32]; omega)
        have HL7 := Lib.hid (show (M9 ++ shaP (M5 ++ b)).length ≤ 1099511627000 by rw [List.length_append, HLM.out.2, sha32]; omega)
        have hbw : w.heap.size ≤ w.heap.size := HB1.out.size
        go_wp2_with (first | (at_builtin; refine wpList_appO rfl (.tmp 37) (.tmp 38) rfl w.heap.size _ M5 rfl HPr.out.fst _ b rfl HVr.out HL5.out hwr ?_; intro v3 w3 ho3 hb3 hk3 hn3; have HP3 := Lib.hid (HPr.out.grown ho3 hk3 hn3); have HB3 := Lib.hid (HB2.out.trans hb3); clear ho3 hb3 hk3 hn3) | (go_at_call 14; (with_reducible refine (rsum_any v3 (M5 ++ b) _ HP3.out.fst.isB HL6.out).mono ?_); rintro e w4 ⟨v4, rfl, ho4, hb4⟩; have HO4 := Lib.hid ho4.isB; have HP4 := Lib.hid (HP3.out.step hb4); have HB4 := Lib.hid (bel_step HB3.out hb4); clear ho4 hb4) | (at_builtin; refine wpList_appO rfl (.tmp 36) (.tmp 40) rfl w.heap.size _ M9 rfl HP4.out.snd _ _ rfl HO4.out HL9.out HB4.out.size ?_; intro v5 w5 ho5 hb5 hk5 hn5; have HO5 := Lib.hid ho5.isB; have HB5 := Lib.hid (HB4.out.trans hb5); clear ho5 hb5 hk5 hn5) | (go_at_call 14; (with_reducible refine (rsum_any v5 _ _ HO5.out HL7.out).mono ?_); rintro e w6 ⟨v6, rfl, ho6, hb6⟩; have HO6 := Lib.hid (ho6.mono (Nat.le_trans hbw HB5.out.size)); have HB6 := Lib.hid (bel_step HB1.out (bel_step HB5.out hb6)); clear ho6 hb6))
        go_ret
        exact ⟨_, rfl, by rw [HR.out]; exact HO6.out, HB6.out⟩
end Go.Proofs.YtjghmhcljhjmmaaDoor
