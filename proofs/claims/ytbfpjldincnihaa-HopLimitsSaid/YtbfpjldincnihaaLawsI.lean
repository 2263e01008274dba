/- The walk of the law HopLimits: it returns true. No condition. -/
import Derived.Test.YtbfpjldincnihaaLims
namespace Go.Proofs.Ytbfpjldincnihaa
open Go.RowKit
set_option linter.unusedVariables false
set_option linter.unusedSimpArgs false

set_option maxRecDepth 100000 in
set_option maxHeartbeats 4000000 in
theorem hopLimits_walk (x y z : UInt8) (long : Bool) (w : World) :
    Calls Try.prog 10 #[.agg #[.int .u8 x.toNat, .int .u8 y.toNat, .int .u8 z.toNat], .bool long] w fun e w' => e = .returned (.bool true) ∧ Below w.heap.size w w' := by
  have hx := x.toNat_lt
  have hy := y.toNat_lt
  have hz := z.toNat_lt
  obtain ⟨n1, hn1, hb1⟩ : ∃ n : Nat, 8190 + (x.toNat : Int) % 5 = n ∧ 8190 ≤ n ∧ n ≤ 8194 := ⟨8190 + x.toNat % 5, by omega, by omega, by omega⟩
  obtain ⟨n2, hn2, hb2⟩ : ∃ n : Nat, 65534 + (y.toNat : Int) % 5 = n ∧ 65534 ≤ n ∧ n ≤ 65538 := ⟨65534 + y.toNat % 5, by omega, by omega, by omega⟩
  obtain ⟨n3, hn3, hb3⟩ : ∃ n : Nat, 1022 + (z.toNat : Int) % 5 = n ∧ 1022 ≤ n ∧ n ≤ 1026 := ⟨1022 + z.toNat % 5, by omega, by omega, by omega⟩
  have HN := Lib.hid (And.intro hn1 (And.intro hn2 hn3))
  have HBN := Lib.hid (And.intro hb1 (And.intro hb2 hb3))
  clear hn1 hn2 hn3 hb1 hb2 hb3
  have HB0 := Lib.hid (bel_new w (.cells #[.int .u8 x.toNat, .int .u8 y.toNat, .int .u8 z.toNat] 51))
  have hc : ∀ j v, (#[.int .u8 x.toNat, .int .u8 y.toNat, .int .u8 z.toNat] : Array Value)[j]? = some v → (w.alloc (.cells #[.int .u8 x.toNat, .int .u8 y.toNat, .int .u8 z.toNat] 51)).cell? ⟨w.heap.size, j, none⟩ = some v := fun j v hj => (cell_of_row _ _ _ _ _ _ (heap_alloc_new w _)).trans hj
  have c0 := hc 0 _ rfl
  have c1 := hc 1 _ rfl
  have c2 := hc 2 _ rfl
  clear hc
  go_enter Try.func10, Try.ntmps10
  go_upto_region 1 with fail
  generalize w.alloc (.cells #[.int .u8 x.toNat, .int .u8 y.toNat, .int .u8 z.toNat] 51) = W1 at *
  go_upto_region 3 with (go_at_call 13; refine (awake_any _).mono ?_; rintro r W2 ⟨rfl, hb2⟩)
  have HB2 := Lib.hid (bel_step HB0.out hb2)
  replace c0 := keep_at hb2 c0
  replace c1 := keep_at hb2 c1
  replace c2 := keep_at hb2 c2
  clear hb2 HB0
  go_quiet (fail)
  go_upto_region 4 with fail
  obtain ⟨h1, h2, h3⟩ := HN.out
  rw [h1, h2, h3]
  clear h1 h2 h3 HN c0 c1 c2 hx hy hz
  replace HB2 := Lib.hid (bel_drewN (n := nq) HB2.out)
  generalize W2.drewN nq = W3 at *
  obtain ⟨⟨l1, l2⟩, ⟨l3, l4⟩, l5, l6⟩ := HBN.out
  clear HBN
  have hmk1 := make_bytes n1 (by omega)
  have hmk2 := make_bytes n2 (by omega)
  have hmk3 := make_texts n3 (by omega)
  have hst1 := run_str _ _ _ (zeros_isB n1 (by omega) W3)
  have HZ2 := Lib.hid (fun W => zeros_isB n2 (by omega) W)
  have HZ3 := Lib.hid (fun W => empties_isT n3 (by omega) W)
  have hr1 : (List.replicate n1 (0 : UInt8)).length = n1 := List.length_replicate
  have hr2 : (List.replicate n2 (0 : UInt8)).length = n2 := List.length_replicate
  have hr3 : (List.replicate n3 ([] : List UInt8)).length = n3 := List.length_replicate
  have hf3 : ((List.replicate n3 ([] : List UInt8)).flatMap textB).length + 12 ≤ 131072 := by
    rw [flat_same n3 1 [] (by decide)]
    omega
  have hs3 : (List.replicate n3 ([] : List UInt8)).any longT = false := by
    rw [List.any_eq_false]
    intro x hx
    rw [(List.mem_replicate.1 hx).2]
    decide
  generalize List.replicate n1 (0 : UInt8) = Z1 at *
  generalize List.replicate n2 (0 : UInt8) = Z2 at *
  generalize List.replicate n3 ([] : List UInt8) = Z3 at *
  have hc1 := code_head Z1 (by omega)
  have hc2 := code_body Z2 (by omega)
  have hc3 := code_list Z3 hf3 hs3
  have HL1 := Lib.hid (fun W => lim_any ⟨2, 0, 0, 0, 0, Z1, [], []⟩ _ hc1 none none 0 0 W (nil_T W) ((OwnB.nil W 0).isB))
  have HL2 := Lib.hid (fun da dc W hD => lim_any ⟨3, 0, 0, 0, 0, [], [], Z2⟩ _ hc2 none da 0 dc W (nil_T W) hD)
  have HL3 := Lib.hid (fun la lc W hT => lim_any ⟨8, 0, 0, 0, 0, [], Z3, []⟩ _ hc3 la none lc 0 W hT ((OwnB.nil W 0).isB))
  unfold Msg.val LimPost at HL1 HL2 HL3
  dsimp only [List.length_nil] at HL1 HL2 HL3
  rw [hr1] at HL1
  rw [hr2] at HL2
  rw [hr3] at HL3
  clear hc1 hc2 hc3 hf3 hs3 hr1 hr2 hr3
  have hn1 := bel_new W3 (.cells (madeCells #[.int .u8 0] n1) 5)
  have HB4 := Lib.hid (bel_step HB2.out hn1)
  clear hn1
  go_upto_region 5 with (go_at_call 14; refine (HL1.out _).mono ?_; rintro r W5 ⟨a1, L1, k1, E1, rfl, hE1, hb5⟩)
  have HE1 := Lib.hid hE1
  have HB5 := Lib.hid (bel_step HB4.out hb5)
  clear hE1 hb5 hst1 HB4 HL1 hmk1
  have hn2 := bel_new W5 (.cells (madeCells #[.int .u8 0] n2) 5)
  have HB6 := Lib.hid (bel_step HB5.out hn2)
  have HZ6 := Lib.hid (HZ2.out W5)
  clear hn2
  go_upto_region 6 with (go_at_call 14; refine (HL2.out _ _ _ HZ6.out).mono ?_; rintro r W7 ⟨a2, L2, k2, E2, rfl, hE2, hb7⟩)
  have HE2 := Lib.hid hE2
  have HB7 := Lib.hid (bel_step HB6.out hb7)
  clear hE2 hb7 HB6 HL2 hmk2 HZ2 HZ6 HB5
  have hn3 := bel_new W7 (.cells (madeCells #[.string ⟨#[]⟩] n3) 9)
  have HB8 := Lib.hid (bel_step HB7.out hn3)
  have HZ8 := Lib.hid (HZ3.out W7)
  clear hn3
  go_upto_region 7 with (go_at_call 14; refine (HL3.out _ _ _ HZ8.out).mono ?_; rintro r W9 ⟨a3, L3, k3, E3, rfl, hE3, hb9⟩)
  have HE3 := Lib.hid hE3
  have HB9 := Lib.hid (bel_step HB8.out hb9)
  clear hE3 hb9 HB8 HL3 hmk3 HZ3 HZ8 HB7 HB2
  go_cut [75] (fun b wx => b = .bool false ∧ wx = W9)
  case first =>
    rcases HE1.out with ⟨p1, rfl⟩ | ⟨p1, rfl, rfl⟩ <;> rcases HE2.out with ⟨p2, rfl⟩ | ⟨p2, rfl, rfl⟩ <;> rcases HE3.out with ⟨p3, rfl⟩ | ⟨p3, rfl, rfl⟩
    all_goals
      have q1 : (n1 : Int) ≤ 8192 ↔ n1 ≤ 8192 := by omega
      have q2 : (n2 : Int) ≤ 65536 ↔ n2 ≤ 65536 := by omega
      have q3 : (n3 : Int) ≤ 1024 ↔ n3 ≤ 1024 := by omega
      simp only [p1, p2, p3, iff_true, iff_false] at q1 q2 q3
      clear p1 p2 p3
      go_wp2_with fail
      go_meet
      exact ⟨rfl, rfl⟩
  case rest =>
    obtain ⟨rfl, hw⟩ := hcut
    have hw2 := hw.symm
    clear hw
    subst hw2
    have HF1 := Lib.hid (show E1 = .nilIface ∨ (E1 = .iface 43 (.int .i64 5) ∧ L1 = 0) from HE1.out.imp (·.2) (·.2))
    have HF2 := Lib.hid (show E2 = .nilIface ∨ (E2 = .iface 43 (.int .i64 5) ∧ L2 = 0) from HE2.out.imp (·.2) (·.2))
    have HF3 := Lib.hid (show E3 = .nilIface ∨ (E3 = .iface 43 (.int .i64 5) ∧ L3 = 0) from HE3.out.imp (·.2) (·.2))
    clear HE1 HE2 HE3 l1 l2 l3 l4 l5 l6
    go_upto_region 9 with fail
    go_cut [79, 80, 81] (fun a b c wx => a = .slice (some ⟨W9.heap.size, 0, none⟩) 3 3 ∧ b = .int .i64 3 ∧ c = .int .i64 0 ∧ wx.cell? ⟨W9.heap.size, 0, none⟩ = some E1 ∧ wx.cell? ⟨W9.heap.size, 1, none⟩ = some E2 ∧ wx.cell? ⟨W9.heap.size, 2, none⟩ = some E3 ∧ Below W9.heap.size W9 wx)
    case first =>
      have g1 : E1 = .nilIface ∨ E1 = .iface 43 (.int .i64 5) := HF1.out.imp id (·.1)
      have g2 : E2 = .nilIface ∨ E2 = .iface 43 (.int .i64 5) := HF2.out.imp id (·.1)
      have g3 : E3 = .nilIface ∨ E3 = .iface 43 (.int .i64 5) := HF3.out.imp id (·.1)
      clear HF1 HF2 HF3
      rcases g1 with rfl | rfl <;> rcases g2 with rfl | rfl <;> rcases g3 with rfl | rfl
      all_goals
        go_wp2_with fail
        go_meet
        exact ⟨rfl, rfl, rfl, (cell_of_row _ _ _ _ _ _ (heap_alloc_new W9 _)).trans rfl, (cell_of_row _ _ _ _ _ _ (heap_alloc_new W9 _)).trans rfl, (cell_of_row _ _ _ _ _ _ (heap_alloc_new W9 _)).trans rfl, bel_new _ _⟩
    case rest =>
      obtain ⟨rfl, rfl, rfl, hc0, hc1, hc2, hbd⟩ := hcut
      have HB10 := Lib.hid (bel_step HB9.out hbd)
      have HC0 := Lib.hid hc0
      have HC1 := Lib.hid hc1
      have HC2 := Lib.hid hc2
      clear hc0 hc1 hc2 hbd HB9
      go_wp2_with fail
      go_loopw [81] (fun i wr => ∃ q : Nat, i = .int .i64 q ∧ q ≤ 3 ∧ Below wc.heap.size wc wr) (fun i _ => 3 - (intOf i).toNat)
      case atStart => exact ⟨0, rfl, by omega, Below.refl _ _⟩
      case round =>
        obtain ⟨q, rfl, hq, hbr⟩ := hrel
        have HBR := Lib.hid (bel_step HB10.out hbr)
        have HBD := Lib.hid hbr
        have d0 := keep_at hbr HC0.out
        have d1 := keep_at hbr HC1.out
        have d2 := keep_at hbr HC2.out
        clear hbr
        have hcs : q = 0 ∨ q = 1 ∨ q = 2 ∨ q = 3 := by omega
        rcases hcs with rfl | rfl | rfl | rfl
        · clear HF2 HF3 d1 d2
          rcases HF1.out with rfl | ⟨rfl, rfl⟩
          · go_wp2_with fail
            first | exact ⟨⟨1, rfl, by omega, HBD.out⟩, by simp [intOf]⟩ | (go_roundw; case rel => exact ⟨1, rfl, by omega, HBD.out⟩; case measure => simp [intOf])
          · go_wp2_with (go_at_call 23; (refine (is_yes 5 (by decide) _).mono ?_); rintro r W7 ⟨rfl, rfl⟩)
            exact ⟨⟨1, rfl, by omega, bel_alloc HBD.out⟩, by simp [intOf]⟩
        · clear HF1 HF3 d0 d2
          rcases HF2.out with rfl | ⟨rfl, rfl⟩
          · go_wp2_with fail
            first | exact ⟨⟨2, rfl, by omega, HBD.out⟩, by simp [intOf]⟩ | (go_roundw; case rel => exact ⟨2, rfl, by omega, HBD.out⟩; case measure => simp [intOf])
          · go_wp2_with (go_at_call 23; (refine (is_yes 5 (by decide) _).mono ?_); rintro r W7 ⟨rfl, rfl⟩)
            exact ⟨⟨2, rfl, by omega, bel_alloc HBD.out⟩, by simp [intOf]⟩
        · clear HF1 HF2 d0 d1
          rcases HF3.out with rfl | ⟨rfl, rfl⟩
          · go_wp2_with fail
            first | exact ⟨⟨3, rfl, by omega, HBD.out⟩, by simp [intOf]⟩ | (go_roundw; case rel => exact ⟨3, rfl, by omega, HBD.out⟩; case measure => simp [intOf])
          · go_wp2_with (go_at_call 23; (refine (is_yes 5 (by decide) _).mono ?_); rintro r W7 ⟨rfl, rfl⟩)
            exact ⟨⟨3, rfl, by omega, bel_alloc HBD.out⟩, by simp [intOf]⟩
        · clear d0 d1 d2 HF1 HF2 HF3 HC0 HC1 HC2 HBD
          cases long
          · have hmk : ∀ W : World, (Instr.makeSlice 23 (.int .i64 2048) (.int .i64 2048)).run Try.prog W = .ok (.slice (some ⟨W.heap.size, 0, none⟩) 2048 2048) (W.alloc (.cells (madeCells #[.int .u8 0] 2048) 5)) := make_bytes 2048 (by decide)
            have HZZ := Lib.hid (fun W => zeros_isB 2048 (by decide) W)
            have hzl : (List.replicate 2048 (0 : UInt8)).length = 2048 := List.length_replicate
            generalize List.replicate 2048 (0 : UInt8) = Z at *
            have hZT : (textB Z).length ≤ 2058 ∧ 2049 ≤ (textB Z).length := by
              have h1 := numB_len Z.length
              have h2 := List.length_pos_iff.2 (numB_ne Z.length)
              unfold textB
              rw [List.length_append]
              omega
            have HZT := Lib.hid hZT
            have HZL := Lib.hid hzl
            have hzlb : longT Z = false := by simp [longT, hzl]
            have HZB := Lib.hid hzlb
            clear hZT hzl hzlb
            go_upto_region 20 with fail
            obtain ⟨W0, hW0⟩ : ∃ W0, wr = W0 := ⟨_, rfl⟩
            rw [hW0] at HBR ⊢
            clear hW0
            go_loopw [17, 107] (fun u i wy => ∃ k : Nat, i = .int .i64 k ∧ k ≤ 63 ∧ OwnT wy W0.heap.size u (List.replicate k Z) ∧ Below W0.heap.size W0 wy) (fun _ i _ => 63 - (intOf i).toNat)
            case atStart => exact ⟨0, rfl, by omega, OwnT.nil _ _, Below.refl _ _⟩
            case round =>
              obtain ⟨k, rfl, hk, ho, hby⟩ := hrel
              have HO := Lib.hid ho
              have HBY := Lib.hid hby
              have hzy := hby.size
              clear ho hby
              by_cases hlt : k < 63
              · have hk0 : (0 : Int) ≤ (k : Int) := by omega
                have hk1 : (k : Int) < 63 := by omega
                have hst := run_str _ _ _ (HZZ.out wr)
                have hna := bel_new wr (.cells (madeCells #[.int .u8 0] 2048) 5)
                have HA := Lib.hid (bel_alloc (x := .cells #[.string ⟨Z.toArray⟩] 9) hna)
                have hcl := (cell_of_row _ _ 0 _ _ _ (heap_alloc_new (wr.alloc (.cells (madeCells #[.int .u8 0] 2048) 5)) (.cells #[.string ⟨Z.toArray⟩] 9))).trans (show (#[.string ⟨Z.toArray⟩] : Array Value)[0]? = some (.string ⟨Z.toArray⟩) from rfl)
                rw [show (wr.alloc (.cells (madeCells #[.int .u8 0] 2048) 5)).heap.size = wr.heap.size + 1 by simp [go_sem]] at hcl
                have HCL := Lib.hid hcl
                clear hcl
                have HRL := Lib.hid (show (List.replicate k Z).length = k from List.length_replicate)
                clear hna
                go_wp2_with (at_builtin; (refine wpList_appT rfl (.tmp 109) (.tmp 112) rfl W0.heap.size _ (List.replicate k Z) rfl (HO.out.step HA.out) _ Z rfl HCL.out (by rw [HRL.out]; omega) (Nat.le_trans hzy HA.out.size) ?_; intro v4 w4 ho4 hb4 hz4))
                refine ⟨⟨v4, _, _, _, _, _, _, _, _, ⟨k + 1, ?num, by omega, by rw [List.replicate_succ']; exact ho4, HBY.out.trans ((HA.out.mono hzy).trans hb4)⟩, rfl⟩, ?meas⟩
                case num => first | rfl | go_num
                case meas =>
                  show 63 - (intOf (Value.int .i64 ((k : Int) + 1))).toNat < 63 - (intOf (Value.int .i64 (k : Int))).toNat
                  simp [intOf]
                  omega
              · obtain rfl : k = 63 := by omega
                have htl : (List.replicate 63 Z).length = 63 := List.length_replicate
                have ht0 : (List.replicate 63 Z)[0]? = some Z := rfl
                have hcT := code_63 Z HZT.out.1 HZB.out
                have hcX := code_x Z HZL.out
                generalize List.replicate 63 Z = T at *
                have hTne : T ≠ [] := fun e => by rw [e] at htl; simp at htl
                obtain ⟨g, cap, rfl, hg1, hg2⟩ := HO.out.form hTne
                have HOI := Lib.hid HO.out.isT
                have HOK := Lib.hid (fun W h1 => lim_ok ⟨8, 0, 0, 0, 0, [], T, []⟩ hcT (some ⟨g, 0, none⟩) none cap 0 W h1 ((OwnB.nil W 0).isB))
                have HBD := Lib.hid (fun W h1 => lim_bad ⟨8, 0, 0, 0, 0, [], T.set 0 (Z ++ [120]), []⟩ hcX (some ⟨g, 0, none⟩) none cap 0 W h1 ((OwnB.nil W 0).isB))
                unfold Msg.val at HOK HBD
                dsimp only [List.length_nil] at HOK HBD
                rw [List.length_set] at HBD
                rw [htl] at HOK HBD HOI ⊢
                have HTL := Lib.hid htl
                have HT0 := Lib.hid ht0
                have HBZ := Lib.hid (bel_step HBR.out HBY.out)
                clear htl ht0 hcT hcX hTne
                go_upto_region 26 with (go_at_call 14; refine (HOK.out _ HOI.out).mono ?_; rintro r W11 ⟨⟨a9, n9, c9, rfl⟩, hb11⟩)
                have ho11 := HO.out.step hb11
                obtain ⟨e0, f0⟩ := ho11.at rfl 0 Z HT0.out
                have HPT := Lib.hid (ho11.put rfl 0 (Z ++ [120]))
                have HB11 := Lib.hid (bel_step HBZ.out hb11)
                clear ho11 hb11 HOK HOI
                have hzl := HZL.out
                go_upto_region 27 with fail
                rw [add_x]
                have HB12 := Lib.hid (HB11.out.trans ((Only.set (b := g) (k := 0) (u := .string ⟨(Z ++ [120]).toArray⟩) (w := W11)).below (B := w.heap.size) (Nat.le_trans HBR.out.size hg1) HB11.out.size))
                have HIT := Lib.hid (show IsT (W11.setCell ⟨g, 0, none⟩ (.string ⟨(Z ++ [120]).toArray⟩)) (.slice (some ⟨g, 0, none⟩) 63 cap) (T.set 0 (Z ++ [120])) from by have h9 := HPT.out.isT; rw [HTL.out] at h9; exact h9)
                clear e0 f0 hzl
                generalize W11.setCell ⟨g, 0, none⟩ (.string ⟨(Z ++ [120]).toArray⟩) = W12 at *
                go_wp2_with (first | (go_at_call 14; (refine (HBD.out _ HIT.out).mono ?_); rintro r W13 ⟨⟨a8, n8, c8, rfl⟩, hb13⟩) | (go_at_call 23; (refine (is_yes 5 (by decide) _).mono ?_); rintro r W14 ⟨rfl, rfl⟩))
                go_ret
                exact ⟨rfl, bel_step HB12.out hb13⟩
          · have hmk : ∀ W : World, (Instr.makeSlice 23 (.int .i64 2048) (.int .i64 2048)).run Try.prog W = .ok (.slice (some ⟨W.heap.size, 0, none⟩) 2048 2048) (W.alloc (.cells (madeCells #[.int .u8 0] 2048) 5)) := make_bytes 2048 (by decide)
            have HZZ := Lib.hid (fun W => zeros_isB 2048 (by decide) W)
            have hzl : (List.replicate 2048 (0 : UInt8)).length = 2048 := List.length_replicate
            generalize List.replicate 2048 (0 : UInt8) = Z at *
            have hZT : (textB Z).length ≤ 2058 ∧ 2049 ≤ (textB Z).length := by
              have h1 := numB_len Z.length
              have h2 := List.length_pos_iff.2 (numB_ne Z.length)
              unfold textB
              rw [List.length_append]
              omega
            have HZT := Lib.hid hZT
            have HZL := Lib.hid hzl
            have hzlb : longT Z = false := by simp [longT, hzl]
            have HZB := Lib.hid hzlb
            clear hZT hzl hzlb
            go_upto_region 20 with fail
            obtain ⟨W0, hW0⟩ : ∃ W0, wr = W0 := ⟨_, rfl⟩
            rw [hW0] at HBR ⊢
            clear hW0
            go_loopw [17, 107] (fun u i wy => ∃ k : Nat, i = .int .i64 k ∧ k ≤ 64 ∧ OwnT wy W0.heap.size u (List.replicate k Z) ∧ Below W0.heap.size W0 wy) (fun _ i _ => 64 - (intOf i).toNat)
            case atStart => exact ⟨0, rfl, by omega, OwnT.nil _ _, Below.refl _ _⟩
            case round =>
              obtain ⟨k, rfl, hk, ho, hby⟩ := hrel
              have HO := Lib.hid ho
              have HBY := Lib.hid hby
              have hzy := hby.size
              clear ho hby
              by_cases hlt : k < 64
              · have hk0 : (0 : Int) ≤ (k : Int) := by omega
                have hk1 : (k : Int) < 64 := by omega
                have hst := run_str _ _ _ (HZZ.out wr)
                have hna := bel_new wr (.cells (madeCells #[.int .u8 0] 2048) 5)
                have HA := Lib.hid (bel_alloc (x := .cells #[.string ⟨Z.toArray⟩] 9) hna)
                have hcl := (cell_of_row _ _ 0 _ _ _ (heap_alloc_new (wr.alloc (.cells (madeCells #[.int .u8 0] 2048) 5)) (.cells #[.string ⟨Z.toArray⟩] 9))).trans (show (#[.string ⟨Z.toArray⟩] : Array Value)[0]? = some (.string ⟨Z.toArray⟩) from rfl)
                rw [show (wr.alloc (.cells (madeCells #[.int .u8 0] 2048) 5)).heap.size = wr.heap.size + 1 by simp [go_sem]] at hcl
                have HCL := Lib.hid hcl
                clear hcl
                have HRL := Lib.hid (show (List.replicate k Z).length = k from List.length_replicate)
                clear hna
                go_wp2_with (at_builtin; (refine wpList_appT rfl (.tmp 109) (.tmp 112) rfl W0.heap.size _ (List.replicate k Z) rfl (HO.out.step HA.out) _ Z rfl HCL.out (by rw [HRL.out]; omega) (Nat.le_trans hzy HA.out.size) ?_; intro v4 w4 ho4 hb4 hz4))
                refine ⟨⟨v4, _, _, _, _, _, _, _, _, ⟨k + 1, ?num, by omega, by rw [List.replicate_succ']; exact ho4, HBY.out.trans ((HA.out.mono hzy).trans hb4)⟩, rfl⟩, ?meas⟩
                case num => first | rfl | go_num
                case meas =>
                  show 64 - (intOf (Value.int .i64 ((k : Int) + 1))).toNat < 64 - (intOf (Value.int .i64 (k : Int))).toNat
                  simp [intOf]
                  omega
              · obtain rfl : k = 64 := by omega
                have htl : (List.replicate 64 Z).length = 64 := List.length_replicate
                have hcT := code_64 Z HZT.out.2 HZB.out
                generalize List.replicate 64 Z = T at *
                have hTne : T ≠ [] := fun e => by rw [e] at htl; simp at htl
                obtain ⟨g, cap, rfl, hg1, hg2⟩ := HO.out.form hTne
                have HOI := Lib.hid HO.out.isT
                have HBD := Lib.hid (fun W h1 => lim_bad ⟨8, 0, 0, 0, 0, [], T, []⟩ hcT (some ⟨g, 0, none⟩) none cap 0 W h1 ((OwnB.nil W 0).isB))
                unfold Msg.val at HBD
                dsimp only [List.length_nil] at HBD
                rw [htl] at HBD HOI ⊢
                have HBZ := Lib.hid (bel_step HBR.out HBY.out)
                clear htl hcT hTne
                go_wp2_with (first | (go_at_call 14; refine (HBD.out _ HOI.out).mono ?_; rintro r W11 ⟨⟨a9, n9, c9, rfl⟩, hb11⟩) | (go_at_call 23; (refine (is_yes 5 (by decide) _).mono ?_); rintro r W14 ⟨rfl, rfl⟩))
                go_ret
                exact ⟨rfl, bel_step HBZ.out hb11⟩
end Go.Proofs.Ytbfpjldincnihaa
