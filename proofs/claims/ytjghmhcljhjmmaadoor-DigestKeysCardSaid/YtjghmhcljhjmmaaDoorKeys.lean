/- The walk of the law DigestKeys: it returns true wherever the constants lie as the program's text lays them. -/
import Derived.Test.YtjghmhcljhjmmaaDoorSums
import Derived.Test.YtjghmhcljhjmmaaDoorRHmac
namespace Go.Proofs.YtjghmhcljhjmmaaDoor
open Go.RowKit
set_option linter.unusedVariables false
set_option linter.unusedSimpArgs false

theorem keyP_short (k : List UInt8) (h : k.length ≤ 64) : keyP k = k := by unfold keyP; rw [if_neg (by omega)]
theorem keyP_key (k : List UInt8) : keyP (keyP k) = keyP k := keyP_short _ (keyP_len k)
/-- A key with zero bytes behind it. -/
theorem padK_more (K : List UInt8) (j : Nat) (h : K.length + j ≤ 64) : padK (K ++ List.replicate j 0) = padK K := by
  unfold padK
  rw [keyP_short K (by omega), keyP_short (K ++ List.replicate j 0) (by simp; omega)]
  simp only [List.length_append, List.length_replicate, List.append_assoc, List.replicate_append_replicate]
  congr 2
  omega
theorem padK_keyP (k : List UInt8) : padK (keyP k) = padK k := by unfold padK; rw [keyP_key]
theorem hmacP_pad {k k' : List UInt8} (h : padK k' = padK k) (b : List UInt8) : hmacP k' b = hmacP k b := by unfold hmacP maskP; rw [h]
/-- Own bytes that lie behind what an append writes. -/
theorem OwnO.aside {w w' : World} {n : Nat} {v x : Value} {l : List UInt8} (h : OwnO w n x l) (ha : ∀ k, v.ownBlock = some k → k < n) (hk : ∀ k, k < w.heap.size → v.ownBlock ≠ some k → w'.heap[k]? = w.heap[k]?) : OwnO w' n x l :=
  h.keep fun k hx => hk k (h.lt hx).1 fun hv => by have h1 := ha k hv; have h2 := (h.lt hx).2; omega
set_option maxRecDepth 20000 in
set_option maxHeartbeats 4000000 in
theorem keys_walk (u v : Value) (key b : List UInt8) (z : Int) (w : World) (hk : KW w) (hu : IsB w u key) (hv : IsB w v b) (hku : key.length ≤ 140737488351232) (hkv : b.length ≤ 140737488351232) (hz : 0 ≤ z ∧ z < 256) :
    Calls Tryd.prog 7 #[u, v, .int .u8 z] w fun e w' => e = .returned (.bool true) ∧ Below w.heap.size w w' := by
  have HK := Lib.hid hk
  have HU := Lib.hid hu
  have HV := Lib.hid hv
  obtain ⟨hz0, hz1⟩ := hz
  obtain ⟨a, cap, rfl, h1, h2, _⟩ := hu.shape
  obtain ⟨a', cap', rfl, h1', h2', _⟩ := hv.shape
  have h3 : (key.length : Int) ≤ 140737488355328 := by omega
  have h4 : (b.length : Int) ≤ 140737488355328 := by omega
  clear hk hv hu
  by_cases hlt : key.length + b.length ≤ 1500
  · have HL := Lib.hid (show key.length + b.length ≤ 1500 from hlt)
    have hli : ¬ (1500 : Int) < (key.length : Int) + (b.length : Int) := by omega
    go_enter Tryd.func7, Tryd.ntmps7
    go_upto_region 3 with (go_at_call 11; refine (awake_any _ HK.out).mono ?_; rintro e w1 ⟨rfl, hb1⟩; have HB1 := Lib.hid hb1; clear hb1)
    generalize Value.slice a key.length cap = u at *
    generalize Value.slice a' b.length cap' = v at *
    clear h1 h2 h1' h2' h3 h4 hli hlt hku hkv
    have HO := Lib.hid (OwnB.made w1 w1.heap.size (Nat.le_refl _))
    have HU2 := Lib.hid ((HU.out.step HB1.out).step (bel_new w1 (.cells #[] 5)))
    have HB2 := Lib.hid (bel_step HB1.out (bel_new w1 (.cells #[] 5)))
    have hlb : 0 + key.length ≤ 140737488355328 := by have := HL.out; omega
    have hbs : w1.heap.size ≤ (w1.alloc (.cells #[] 5)).heap.size := by simp [go_sem]
    go_upto_region 4 with (at_builtin; refine wpList_app rfl (.tmp 23) (.tmp 24) rfl w1.heap.size _ [] rfl HO.out _ key rfl HU2.out hlb hbs ?_; intro v3 w3 ho3 hb3 hs3 hn3; have HO3 := Lib.hid (show OwnB w3 w.heap.size v3 key from OwnB.mono ho3 HB1.out.size); have HB3 := Lib.hid (HB2.out.trans (hb3.mono HB1.out.size)); clear ho3 hb3 hs3 hn3)
    obtain ⟨ka, kc, rfl, hkc1, hkc2, _⟩ := HO3.out.isB.shape
    go_upto_if 28 with fail
    obtain ⟨q, hq⟩ : ∃ q, q = decide ((64 : Int) < (key.length : Int)) := ⟨_, rfl⟩
    rw [← hq]
    have HQ := Lib.hid hq
    clear hq
    go_cut [7] (fun x wx => OwnB wx w.heap.size x (keyP key) ∧ Below w.heap.size w wx)
    case first =>
      cases q
      · have HKP := Lib.hid (keyP_short key (by have := of_decide_eq_false HQ.out.symm; omega))
        go_wp2_with fail
        go_meet
        exact ⟨by rw [HKP.out]; exact HO3.out, HB3.out⟩
      · have HKP := Lib.hid (show shaP key = keyP key by unfold keyP; rw [if_pos (by have := of_decide_eq_true HQ.out.symm; omega)])
        go_wp2_with (go_at_call 12; refine (sum_any _ key _ (HK.out.step HB3.out) HO3.out.isB (by have := HL.out; omega)).mono ?_; rintro e w4 ⟨v4, rfl, ho4, hb4⟩; have HO4 := Lib.hid (ho4.mono HB3.out.size); have HB4 := Lib.hid (bel_step HB3.out hb4); clear ho4 hb4)
        go_meet
        exact ⟨by rw [← HKP.out]; exact HO4.out, HB4.out⟩
    case rest =>
      obtain ⟨hO, hB⟩ := hcut
      have HO4 := Lib.hid hO
      have HB4 := Lib.hid hB
      clear hO hB
      have HKL := Lib.hid (keyP_len key)
      have HPD := Lib.hid (padK_keyP key)
      obtain ⟨Z, hZ⟩ : ∃ Z : Nat, (Z : Int) = z % 65 := ⟨(z % 65).toNat, by omega⟩
      have hZ65 : (Z : Int) < 65 := by omega
      generalize keyP key = K at *
      have HM := Lib.hid (fun (u1 : Value) (K1 : List UInt8) (W : World) (hp : padK K1 = padK key) (h1 : KW W) (h2 : IsB W u1 K1) (h3 : IsB W v b) (h4 : K1.length ≤ 2000) => by
        have h := hmac_any u1 v K1 b W h1 h2 h3 (by have := HL.out; omega)
        rwa [hmacP_pad hp] at h)
      have HR := Lib.hid (show hmacP key b = shaP ((padK key).map (· ^^^ 92) ++ shaP ((padK key).map (· ^^^ 54) ++ b)) from rfl)
      generalize hmacP key b = R at *
      go_wp2_with (first | (go_at_call 19; (with_reducible refine (HM.out u key _ rfl (HK.out.step HB4.out) (HU.out.step HB4.out) (HV.out.step HB4.out) (by have := HL.out; omega)).mono ?_); rintro e w5 ⟨v5, rfl, ho5, hb5⟩; have HO5 := Lib.hid ho5.isB; have HO45 := Lib.hid (HO4.out.step hb5); have HB5 := Lib.hid (bel_step HB4.out hb5); clear ho5 hb5) | (go_at_call 19; (with_reducible refine (HM.out u7 K _ HPD.out (HK.out.step HB5.out) HO45.out.isB (HV.out.step HB5.out) (by have := HKL.out; omega)).mono ?_); rintro e w6 ⟨v6, rfl, ho6, hb6⟩; have HO6 := Lib.hid ho6.isB; have HO56 := Lib.hid (HO5.out.step hb6); have HO46 := Lib.hid (HO45.out.step hb6); have HB6 := Lib.hid (bel_step HB5.out hb6); clear ho6 hb6) | (go_at_call 13; refine (bytes_same v5 v6 _ _ HO56.out HO6.out).mono ?_; rintro e w7 ⟨rfl, rfl⟩))
      rw [← hZ]
      clear hZ
      go_loopw [7, 41] (fun x i wr => ∃ k j : Nat, i = .int .u8 k ∧ k ≤ Z ∧ K.length + j ≤ 64 ∧ OwnB wr w.heap.size x (K ++ List.replicate j 0) ∧ Below w.heap.size w wr) (fun _ i _ => 65 - (intOf i).toNat)
      case atStart => exact ⟨0, 0, rfl, by omega, by have := HKL.out; omega, by rw [List.replicate_zero, List.append_nil]; exact HO46.out, HB6.out⟩
      case round =>
        obtain ⟨k, j, rfl, hk, hj, ho, hbl⟩ := hrel
        have HO := Lib.hid ho
        have HB := Lib.hid hbl
        clear hbl
        have hlen : (K ++ List.replicate j (0 : UInt8)).length = K.length + j := by simp
        by_cases hlt : k < Z
        · obtain ⟨xa, xc, hx, _, _, _⟩ := ho.isB.shape
          rw [hlen] at hx
          have HLN := Lib.hid hlen
          clear ho hlen
          obtain ⟨n, hn⟩ : ∃ n, n = K.length + j := ⟨_, rfl⟩
          rw [← hn] at hx HLN
          have HN := Lib.hid hn
          have hn64 : n ≤ 64 := by omega
          clear hn hj
          have hki : (k : Int) < (Z : Int) := by omega
          by_cases hl2 : n < 64
          · subst hx
            go_upto_region 11 with fail
            generalize Value.slice xa n xc = x at *
            have hlb : (K ++ List.replicate j (0 : UInt8)).length + [0].length ≤ 140737488355328 := by rw [HLN.out]; simp only [List.length_cons, List.length_nil]; omega
            have HT := Lib.hid (show (K ++ List.replicate j (0 : UInt8)) ++ [0] = K ++ List.replicate (j + 1) 0 by rw [rep_snoc, List.append_assoc])
            go_wp2_with (at_builtin; refine wpList_app rfl (.tmp 46) (.tmp 47) rfl w.heap.size _ _ rfl (HO.out.step (bel_new _ _)) _ [0] rfl (IsB.one _ _ _ rfl) hlb (by have := HB.out.size; simp; omega) ?_; intro v8 w8 ho8 hb8 hs8 hn8; have HO8 := Lib.hid ho8; have HB8 := Lib.hid ((bel_step HB.out (bel_new wr _)).trans hb8); clear ho8 hb8 hs8 hn8)
            go_roundw
            case rel => exact ⟨k + 1, j + 1, by go_num, by omega, by have := HN.out; omega, by rw [← HT.out]; exact HO8.out, HB8.out⟩
            case measure => simp [intOf]; omega
          · subst hx
            go_wp2_with fail
            go_roundw
            case rel => exact ⟨k + 1, j, by go_num, by omega, by have := HN.out; omega, HO.out, HB.out⟩
            case measure => simp [intOf]; omega
        · obtain rfl : k = Z := by omega
          have HPJ := Lib.hid (show padK (K ++ List.replicate j 0) = padK key by rw [padK_more K j hj, HPD.out])
          have HJL := Lib.hid (show (K ++ List.replicate j (0 : UInt8)).length ≤ 64 by rw [hlen]; exact hj)
          have HPKK := Lib.hid (show padK key = (K ++ List.replicate j 0) ++ List.replicate (64 - (K ++ List.replicate j (0 : UInt8)).length) 0 by
            rw [← HPJ.out]
            unfold padK
            rw [keyP_short (K ++ List.replicate j (0 : UInt8)) (by rw [hlen]; exact hj)])
          generalize K ++ List.replicate j (0 : UInt8) = K1 at *
          clear hlen hlt hk hj ho HO5 HO45 HO46 HO4 HO6 HO56
          have HB6' := HB6
          clear HB6
          go_wp2_with (first | (go_at_call 19; (with_reducible refine (HM.out u key _ rfl (HK.out.step HB.out) (HU.out.step HB.out) (HV.out.step HB.out) (by have := HL.out; omega)).mono ?_); rintro e w8 ⟨v8, rfl, ho8, hb8⟩; have HO8 := Lib.hid ho8.isB; have HO78 := Lib.hid (HO.out.step hb8); have HB8 := Lib.hid (bel_step HB.out hb8); clear ho8 hb8) | (go_at_call 19; (with_reducible refine (HM.out u7 K1 _ HPJ.out (HK.out.step HB8.out) HO78.out.isB (HV.out.step HB8.out) (by have := HJL.out; omega)).mono ?_); rintro e W1 ⟨v9, rfl, ho9, hb9⟩; have HO9 := Lib.hid ho9.isB; have HO89 := Lib.hid (HO8.out.step hb9); have HKB := Lib.hid (HO78.out.step hb9).isB; have HB1 := Lib.hid (bel_step HB8.out hb9); clear ho9 hb9) | (go_at_call 13; refine (bytes_same v8 v9 _ _ HO89.out HO9.out).mono ?_; rintro e w9 ⟨rfl, rfl⟩))
          have HVW := Lib.hid (HV.out.step HB1.out)
          have HPL := Lib.hid (padK_len key)
          have HBL := Lib.hid (show b.length ≤ 1500 by have := HL.out; omega)
          have HUW := Lib.hid (HU.out.step HB1.out)
          have HKW1 := Lib.hid (HK.out.step HB1.out)
          have HRW := Lib.hid (fun (W : World) (h1 : KW W) (h2 : IsB W u key) (h3 : IsB W v b) => HM.out u key W rfl h1 h2 h3 (by have := HL.out; omega))
          generalize padK key = PK at *
          obtain ⟨ua, uc, hu7, _, _, _⟩ := HKB.out.shape
          subst hu7
          clear HO HO8 HO78 HO9 HO89 HB HB8 HPJ
          go_loopw [8, 9, 58] (fun x y i wr => ∃ k : Nat, i = .int .i64 k ∧ k ≤ 64 ∧ PairO wr W1.heap.size x ((PK.take k).map (· ^^^ 54)) y ((PK.take k).map (· ^^^ 92)) ∧ Below W1.heap.size W1 wr) (fun _ _ i _ => 64 - (intOf i).toNat)
          case atStart => exact ⟨0, rfl, by omega, PairO.nil _ _, Below.refl _ _⟩
          case round =>
            obtain ⟨k, rfl, hk, hP, hbl⟩ := hrel
            have HB2 := Lib.hid hbl
            have HPr := Lib.hid hP
            have HKW := Lib.hid (HKB.out.step hbl)
            clear hbl hP
            have hwr : W1.heap.size ≤ wr.heap.size := HB2.out.size
            by_cases hlt2 : k < 64
            · obtain ⟨c, hc⟩ : ∃ c, PK[k]? = some c := ⟨_, List.getElem?_eq_getElem (by rw [HPL.out]; exact hlt2)⟩
              have HS54 := Lib.hid (show (PK.take (k + 1)).map (· ^^^ 54) = (PK.take k).map (· ^^^ 54) ++ [c ^^^ 54] by
                obtain ⟨h1, h2⟩ := List.getElem?_eq_some_iff.1 hc
                rw [mask_snoc PK 54 k h1, h2])
              have HS92 := Lib.hid (show (PK.take (k + 1)).map (· ^^^ 92) = (PK.take k).map (· ^^^ 92) ++ [c ^^^ 92] by
                obtain ⟨h1, h2⟩ := List.getElem?_eq_some_iff.1 hc
                rw [mask_snoc PK 92 k h1, h2])
              have HL54 := Lib.hid (show ((PK.take k).map (· ^^^ 54)).length + [c ^^^ 54].length ≤ 140737488355328 by rw [List.length_map, List.length_take]; simp only [List.length_cons, List.length_nil]; omega)
              have HL92 := Lib.hid (show ((PK.take k).map (· ^^^ 92)).length + [c ^^^ 92].length ≤ 140737488355328 by rw [List.length_map, List.length_take]; simp only [List.length_cons, List.length_nil]; omega)
              have HX54 := Lib.hid (xor_byte54 c)
              have HX92 := Lib.hid (xor_byte92 c)
              have hk0 : (0 : Int) ≤ (k : Int) := by omega
              have hk64 : (k : Int) < 64 := by omega
              by_cases hlk : k < K1.length
              · have hck : K1[k]? = some c := by
                  have h := padK_key K1 HJL.out k hlk
                  rw [← HPKK.out, hc] at h
                  rw [List.getElem?_eq_getElem hlk, h]
                have HCK := Lib.hid hck
                rcases HKW.out with ⟨h0, _⟩ | ⟨_, g, off, cap', he, _, _, hcl⟩
                · rw [h0] at hck; simp at hck
                · have hcell := hcl k c hck
                  simp only [Value.slice.injEq] at he
                  obtain ⟨he1, _, he3⟩ := he
                  subst he1 he3
                  have hki : (k : Int) < (K1.length : Int) := by omega
                  clear hcl hck hc
                  generalize (PK.take k).map (· ^^^ 54) = X54 at *
                  generalize (PK.take k).map (· ^^^ 92) = X92 at *
                  go_wp2_with (first | (at_builtin; refine wpList_appO rfl (.tmp 69) (.tmp 72) rfl W1.heap.size _ X54 rfl (HPr.out.fst.step (bel_new _ _)) _ [c ^^^ 54] rfl (IsB.one _ _ _ HX54.out) HL54.out (Nat.le_trans hwr (bel_new wr _).size) ?_; intro vA wA hoA hbA hkA hnA; have HP1 := Lib.hid ((HPr.out.step (bel_new wr _)).grown hoA hkA hnA); have HB3 := Lib.hid ((bel_step HB2.out (bel_new wr _)).trans hbA); clear hoA hbA hkA hnA) | (at_builtin; refine wpList_appO rfl (.tmp 74) (.tmp 77) rfl W1.heap.size _ X92 rfl (HP1.out.snd.step (bel_new _ _)) _ [c ^^^ 92] rfl (IsB.one _ _ _ HX92.out) HL92.out (by have := HB3.out.size; simp [go_sem]; omega) ?_; intro vB wB hoB hbB hkB hnB; have HP2 := Lib.hid (((HP1.out.step (bel_new wA _)).swap.grown hoB hkB hnB).swap); have HB4 := Lib.hid ((bel_step HB3.out (bel_new wA _)).trans hbB); clear hoB hbB hkB hnB))
                  go_roundw
                  case rel => exact ⟨k + 1, by go_num, by omega, by rw [HS54.out, HS92.out]; exact HP2.out, HB4.out⟩
                  case measure => simp [intOf]; omega
              · have hc0 : c = 0 := by
                  have h := padK_zero K1 HJL.out k (by omega) hlt2
                  rw [← HPKK.out, hc] at h
                  injection h
                subst hc0
                have hki : ¬ (k : Int) < (K1.length : Int) := by omega
                have hkb : decide ((k : Int) < (K1.length : Int)) = false := by rw [decide_eq_false_iff_not]; exact hki
                clear hc
                generalize (PK.take k).map (· ^^^ 54) = X54 at *
                generalize (PK.take k).map (· ^^^ 92) = X92 at *
                go_wp2_with (first | (at_builtin; refine wpList_appO rfl (.tmp 69) (.tmp 72) rfl W1.heap.size _ X54 rfl (HPr.out.fst.step (bel_new _ _)) _ [0 ^^^ 54] rfl (IsB.one _ _ _ HX54.out) HL54.out (Nat.le_trans hwr (bel_new wr _).size) ?_; intro vA wA hoA hbA hkA hnA; have HP1 := Lib.hid ((HPr.out.step (bel_new wr _)).grown hoA hkA hnA); have HB3 := Lib.hid ((bel_step HB2.out (bel_new wr _)).trans hbA); clear hoA hbA hkA hnA) | (at_builtin; refine wpList_appO rfl (.tmp 74) (.tmp 77) rfl W1.heap.size _ X92 rfl (HP1.out.snd.step (bel_new _ _)) _ [0 ^^^ 92] rfl (IsB.one _ _ _ HX92.out) HL92.out (by have := HB3.out.size; simp [go_sem]; omega) ?_; intro vB wB hoB hbB hkB hnB; have HP2 := Lib.hid (((HP1.out.step (bel_new wA _)).swap.grown hoB hkB hnB).swap); have HB4 := Lib.hid ((bel_step HB3.out (bel_new wA _)).trans hbB); clear hoB hbB hkB hnB))
                go_roundw
                case rel => exact ⟨k + 1, by go_num, by omega, by rw [HS54.out, HS92.out]; exact HP2.out, HB4.out⟩
                case measure => simp [intOf]; omega
            · obtain rfl : k = 64 := by omega
              rw [show (((64 : Nat)) : Int) = (64 : Int) from rfl]
              rw [List.take_of_length_le (by rw [HPL.out]; omega)] at HPr
              have HLM := Lib.hid (show (PK.map (· ^^^ 54)).length = 64 ∧ (PK.map (· ^^^ 92)).length = 64 by rw [List.length_map, List.length_map, HPL.out]; exact ⟨rfl, rfl⟩)
              generalize PK.map (· ^^^ 54) = M5 at *
              generalize PK.map (· ^^^ 92) = M9 at *
              have HL5 := Lib.hid (show M5.length + b.length ≤ 140737488355328 by rw [HLM.out.1]; have := HBL.out; omega)
              have HL6 := Lib.hid (show (M5 ++ b).length ≤ 1099511627776 by rw [List.length_append, HLM.out.1]; have := HBL.out; omega)
              have HL9 := Lib.hid (show M9.length + (shaP (M5 ++ b)).length ≤ 140737488355328 by rw [HLM.out.2, sha32]; omega)
              have HL7 := Lib.hid (show (M9 ++ shaP (M5 ++ b)).length ≤ 1099511627776 by rw [List.length_append, HLM.out.2, sha32]; omega)
              have HA5 := Lib.hid (fun (k : Nat) (h : u8.ownBlock = some k) => (HPr.out.fst.lt h).1)
              have HA9 := Lib.hid (fun (k : Nat) (h : u9.ownBlock = some k) => (HPr.out.snd.lt h).1)
              go_wp2_with (first | (go_at_call 19; (with_reducible refine (HRW.out _ (HKW1.out.step HB2.out) (HUW.out.step HB2.out) (HVW.out.step HB2.out)).mono ?_); rintro e w2 ⟨v2, rfl, ho2, hb2⟩; have HO2 := Lib.hid ho2.ownO; have HP2 := Lib.hid (HPr.out.step hb2); have HB3 := Lib.hid (bel_step HB2.out hb2); clear ho2 hb2) | (at_builtin; refine wpList_appO rfl (.tmp 84) (.tmp 85) rfl W1.heap.size u8 M5 rfl HP2.out.fst v b rfl (HVW.out.step HB3.out) HL5.out HB3.out.size ?_; intro v3 w3 ho3 hb3 hk3 hn3; have HP3 := Lib.hid (HP2.out.grown ho3 hk3 hn3); have HB4 := Lib.hid (HB3.out.trans hb3); have HO3 := Lib.hid (HO2.out.aside HA5.out hk3); clear ho3 hb3 hk3 hn3) | (go_at_call 12; (with_reducible refine (sum_any v3 (M5 ++ b) _ (HKW1.out.step HB4.out) HP3.out.fst.isB HL6.out).mono ?_); rintro e w4 ⟨v4, rfl, ho4, hb4⟩; have HS4 := Lib.hid ho4.isB; have HP4 := Lib.hid (HP3.out.step hb4); have HO4 := Lib.hid (HO3.out.step hb4); have HB5 := Lib.hid (bel_step HB4.out hb4); clear ho4 hb4) | (at_builtin; refine wpList_appO rfl (.tmp 83) (.tmp 87) rfl W1.heap.size u9 M9 rfl HP4.out.snd v4 _ rfl HS4.out HL9.out HB5.out.size ?_; intro v5' w5 ho5 hb5 hk5 hn5; have HS5 := Lib.hid ho5.isB; have HB6 := Lib.hid (HB5.out.trans hb5); have HO5 := Lib.hid (HO4.out.aside HA9.out hk5); clear ho5 hb5 hk5 hn5) | (go_at_call 12; (with_reducible refine (sum_any v5' _ _ (HKW1.out.step HB6.out) HS5.out HL7.out).mono ?_); rintro e w6' ⟨v6', rfl, ho6, hb6⟩; have HS6 := Lib.hid ho6.isB; have HO6 := Lib.hid (HO5.out.step hb6).isB; have HB7 := Lib.hid (bel_step HB6.out hb6); clear ho6 hb6) | (go_at_call 13; refine (bytes_same v2 v6' R _ HO6.out (by rw [HR.out]; exact HS6.out)).mono ?_; rintro e w9 ⟨rfl, rfl⟩))
              go_ret
              exact ⟨rfl, bel_step HB1.out HB7.out⟩
  · have hli : (1500 : Int) < (key.length : Int) + (b.length : Int) := by omega
    go_enter Tryd.func7, Tryd.ntmps7
    go_wp2_with (first | (go_at_call 11; with_reducible refine (awake_any w HK.out).mono ?_; rintro e w1 ⟨rfl, hb1⟩; have HB1 := Lib.hid hb1; clear hb1) | (go_at_call 11; refine (awake_any _ (HK.out.step HB1.out)).mono ?_; rintro e w2 ⟨rfl, hb2⟩; have HB2 := Lib.hid (bel_step HB1.out hb2); clear hb2))
    go_ret
    exact ⟨rfl, HB2.out⟩
end Go.Proofs.YtjghmhcljhjmmaaDoor
