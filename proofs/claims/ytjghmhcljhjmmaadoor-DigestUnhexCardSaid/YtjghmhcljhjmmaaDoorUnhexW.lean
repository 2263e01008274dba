/- The walk of Unhex. No condition beyond the sizes. -/
import Derived.Test.YtjghmhcljhjmmaaDoorConv
namespace Go.Proofs.YtjghmhcljhjmmaaDoor
open Go.RowKit
set_option linter.unusedVariables false
set_option linter.unusedSimpArgs false

def errF : Value := .iface 45 (.int .i64 2)
/-- What Unhex returns. -/
def UnR (w : World) (r : Option (List UInt8)) (e : Ending) (w' : World) : Prop :=
  match r with
  | some l => ∃ v, e = .returned (.tuple #[v, .nilIface]) ∧ OwnB w' w.heap.size v l ∧ Below w.heap.size w w'
  | none => e = .returned (.tuple #[.slice none 0 0, errF]) ∧ Below w.heap.size w w'
theorem UnR.no {w w' : World} {R : Option (List UInt8)} (h : R = none) (hb : Below w.heap.size w w') : UnR w R (.returned (.tuple #[.slice none 0 0, .iface 45 (.int .i64 2)])) w' := by
  subst h
  exact ⟨rfl, hb⟩
theorem UnR.yes {w w' : World} {R : Option (List UInt8)} {l : List UInt8} {v : Value} (h : R = some l) (ho : OwnB w' w.heap.size v l) (hb : Below w.heap.size w w') : UnR w R (.returned (.tuple #[v, .nilIface])) w' := by
  subst h
  exact ⟨v, rfl, ho, hb⟩
theorem unhex_odd : ∀ (n : Nat) (l : List UInt8), l.length ≤ n → ¬ l.length % 2 = 0 → unhexP l = none
  | _, [], _, h => absurd rfl h
  | _, [_], _, _ => rfl
  | 0, _ :: _ :: _, h, _ => by simp at h
  | n + 1, a :: b :: r, hn, h => by
    have := unhex_odd n r (by simp at hn; omega) (by simp at h; omega)
    rw [unhexP, this]
    cases digN a <;> cases digN b <;> rfl
set_option maxRecDepth 20000 in
set_option maxHeartbeats 4000000 in
theorem unhex_any (s : ByteArray) (w : World) (hs : s.size ≤ 140737488351232) : Calls Tryd.prog 22 #[.string s] w (UnR w (unhexP s.data.toList)) := by
  obtain ⟨R, hR⟩ : ∃ R, R = unhexP s.data.toList := ⟨_, rfl⟩
  rw [← hR]
  have HR := Lib.hid hR
  clear hR
  by_cases hev : s.size % 2 = 0
  · have hm0 : ((s.size : Int) % 2 == 0) = true := by simp; omega
    have hm1 : ((s.size : Int) % 2 != 0) = false := by simp; omega
    go_enter Tryd.func22, Tryd.ntmps22
    go_wp2_with fail
    clear hm0 hm1
    go_loopw [4, 5] (fun u i wr => ∃ k : Nat, i = .int .i64 k ∧ k ≤ s.size ∧ Hid (k % 2 = 0) ∧ (∃ l, OwnB wr w.heap.size u l ∧ Hid (l.length ≤ k) ∧ Hid (unhexP s.data.toList = (unhexP (s.data.toList.drop k)).map (l ++ ·))) ∧ Below w.heap.size w wr) (fun _ i _ => s.size - (intOf i).toNat)
    case atStart => exact ⟨0, rfl, Nat.zero_le _, Lib.hid rfl, ⟨[], OwnB.nil _ _, Lib.hid (Nat.le_refl _), Lib.hid (by rw [List.drop_zero]; cases unhexP s.data.toList <;> rfl)⟩, Below.refl _ _⟩
    case round =>
      obtain ⟨k, rfl, hk, HE, ⟨l, ho, HLL, HUN⟩, hbl⟩ := hrel
      have HO := Lib.hid ho
      have HB := Lib.hid hbl
      clear ho hbl
      by_cases hlt : k < s.size
      · have hlt2 : k + 1 < s.size := by have := HE.out; omega
        go_upto_region 7 with fail
        have hk0 : (0 : Int) ≤ (k : Int) := by omega
        have hk1 : (k : Int) < (s.size : Int) := by omega
        have hk2 : (k : Int) + 1 < (s.size : Int) := by omega
        have hk3 : (0 : Int) ≤ (k : Int) + 1 := by omega
        have hkw : IntKind.i64.wrap ((k : Int) + 1) = (k : Int) + 1 := IntWalk.i64_in _ (by omega)
        have hkn : ((k : Int) + 1).toNat = k + 1 := by omega
        obtain ⟨c1, hc1⟩ : ∃ c, c = s[k] := ⟨_, rfl⟩
        obtain ⟨c2, hc2⟩ : ∃ c, c = s[k + 1] := ⟨_, rfl⟩
        have hi1 : ∀ W, (Instr.index 9 (.string s) (.int .i64 (k : Int))).run Tryd.prog W = .ok (.int .u8 (c1.toNat : Int)) W := by
          intro W
          rw [hc1]
          go_simp
        have hi2 : ∀ W, (Instr.index 9 (.string s) (.int .i64 ((k : Int) + 1))).run Tryd.prog W = .ok (.int .u8 (c2.toNat : Int)) W := by
          intro W
          rw [hc2]
          go_simp
        have HC1 := Lib.hid hc1
        have HC2 := Lib.hid hc2
        clear hc1 hc2
        go_cut [6, 7] (fun a b wx => a = .int .i64 (digI c1) ∧ b = .int .i64 (digI c2) ∧ Below wr.heap.size wr wx)
        case first =>
          refine wp_region_any (by kernel_rfl) ?_
          change wpAny _ _ _ _ _ _ _ (World.drew _)
          have HW0 := Lib.hid (bel_drew (Below.refl wr.heap.size wr))
          generalize hW0 : wr.drew = W0 at *
          clear hW0
          refine wpAny_take (i := 2) (v := .string s) rfl (by kernel_rfl) (by kernel_rfl) (by kernel_rfl) (fun _ _ _ h => h) (Or.inl ⟨rfl, fun w => ?_⟩) ?_
          · go_simp
          simp only [Act.put, List.setIfInBounds_toArray, List.set_cons_zero, List.set_cons_succ]
          refine wpAny_take (i := 3) (v := .int .i64 (k : Int)) rfl (by kernel_rfl) (by kernel_rfl) (by kernel_rfl) (fun _ _ _ h => h) (Or.inl ⟨rfl, fun w => ?_⟩) ?_
          · go_simp
          simp only [Act.put, List.setIfInBounds_toArray, List.set_cons_zero, List.set_cons_succ]
          refine wpAny_take (i := 4) (v := .int .u8 (c1.toNat : Int)) rfl (by kernel_rfl) (by kernel_rfl) (by kernel_rfl) (fun _ _ _ h => h) (Or.inl ⟨rfl, fun w => ?_⟩) ?_
          · go_simp
          simp only [Act.put, List.setIfInBounds_toArray, List.set_cons_zero, List.set_cons_succ]
          refine wpAny_take (i := 8) (v := .string s) rfl (by kernel_rfl) (by kernel_rfl) (by kernel_rfl) (fun _ _ _ h => h) (Or.inl ⟨rfl, fun w => ?_⟩) ?_
          · go_simp
          simp only [Act.put, List.setIfInBounds_toArray, List.set_cons_zero, List.set_cons_succ]
          refine wpAny_take (i := 9) (v := .int .i64 (k : Int)) rfl (by kernel_rfl) (by kernel_rfl) (by kernel_rfl) (fun _ _ _ h => h) (Or.inl ⟨rfl, fun w => ?_⟩) ?_
          · go_simp
          simp only [Act.put, List.setIfInBounds_toArray, List.set_cons_zero, List.set_cons_succ]
          refine wpAny_take (i := 10) (v := .int .i64 ((k : Int) + 1)) rfl (by kernel_rfl) (by kernel_rfl) (by kernel_rfl) (fun _ _ _ h => h) (Or.inl ⟨rfl, fun w => ?_⟩) ?_
          · go_simp
          simp only [Act.put, List.setIfInBounds_toArray, List.set_cons_zero, List.set_cons_succ]
          refine wpAny_take (i := 11) (v := .int .u8 (c2.toNat : Int)) rfl (by kernel_rfl) (by kernel_rfl) (by kernel_rfl) (fun _ _ _ h => h) (Or.inl ⟨rfl, fun w => ?_⟩) ?_
          · go_simp
          simp only [Act.put, List.setIfInBounds_toArray, List.set_cons_zero, List.set_cons_succ]
          clear hk0 hk1 hk2 hk3 hkw hkn hi1 hi2
          refine wpAny_ready (rs := [0, 6]) (by kernel_rfl) (by simp) ?_
          refine (AllReady.cons rfl (fun K hK => ?_) (AllReady.cons rfl (fun K hK => ?_) AllReady.nil))
          · go_simp
            refine hK _ _ ?_
            clear hK K
            have HPA1 := Lib.hid (Ph.built W0)
            have HW1 := Lib.hid (bel_step HW0.out (bel_new W0 (.cells digC 5)))
            have hgA : wr.heap.size ≤ W0.heap.size := HW0.out.size
            change wpAny _ _ _ _ _ _ _ (W0.alloc (.cells digC 5))
            generalize W0.alloc (.cells digC 5) = W1 at *
            obtain ⟨gA, hg⟩ : ∃ g, g = W0.heap.size := ⟨_, rfl⟩
            rw [← hg] at HPA1 hgA ⊢
            clear hg
            refine wpAny_ready (rs := [1, 6]) (by kernel_rfl) (by simp) ?_
            refine (AllReady.cons rfl (fun K hK => ?_) (AllReady.cons rfl (fun K hK => ?_) AllReady.nil))
            · have hcv := conv_run W1 gA HPA1.out
              have HPA2 := Lib.hid (conv_ph W1 gA HPA1.out)
              have HW2 := Lib.hid (HW1.out.trans (conv_bel W1 gA HPA1.out hgA))
              generalize W1.freeze ⟨gA, 16, none⟩ 1 = W2 at *
              go_simp
              refine hK _ _ ?_
              clear hK K hcv
              refine wpAny_ready (rs := [5, 6]) (by kernel_rfl) (by simp) ?_
              refine (AllReady.cons rfl (fun K hK => ?_) (AllReady.cons rfl (fun K hK => ?_) AllReady.nil))
              · go_simp
                go_wp2_with (go_at_call 31; refine (indexb_any gA c1 _ HPA2.out.dig).mono ?_; rintro e w7 ⟨rfl, rfl⟩)
                try clear hK K
                refine wpAny_ready (rs := [6]) (by kernel_rfl) (by simp) ?_
                refine (AllReady.cons rfl (fun K hK => ?_) AllReady.nil)
                · go_simp
                  refine hK _ _ ?_
                  clear hK K
                  have HPB3 := Lib.hid (Ph.built W2)
                  have HW3 := Lib.hid (bel_step HW2.out (bel_new W2 (.cells digC 5)))
                  have hgB : wr.heap.size ≤ W2.heap.size := HW2.out.size
                  have HPA3 := Lib.hid (HPA2.out.step (bel_new W2 (.cells digC 5)))
                  have hne : gA ≠ W2.heap.size := by have := HPA2.out.lt; omega
                  change wpAny _ _ _ _ _ _ _ (W2.alloc (.cells digC 5))
                  generalize W2.alloc (.cells digC 5) = W3 at *
                  obtain ⟨gB, hg⟩ : ∃ g, g = W2.heap.size := ⟨_, rfl⟩
                  rw [← hg] at HPB3 hgB hne ⊢
                  clear hg
                  refine wpAny_ready (rs := [7]) (by kernel_rfl) (by simp) ?_
                  refine (AllReady.cons rfl (fun K hK => ?_) AllReady.nil)
                  · have hcv := conv_run W3 gB HPB3.out
                    have HPB4 := Lib.hid (conv_ph W3 gB HPB3.out)
                    have HW4 := Lib.hid (HW3.out.trans (conv_bel W3 gB HPB3.out hgB))
                    have HPA4 := Lib.hid (conv_other W3 gB gA HPB3.out HPA3.out (by first | exact hne | exact hne.symm))
                    generalize W3.freeze ⟨gB, 16, none⟩ 1 = W4 at *
                    go_simp
                    refine hK _ _ ?_
                    clear hK K hcv
                    refine wpAny_ready (rs := [12]) (by kernel_rfl) (by simp) ?_
                    refine AllReady.cons rfl (fun K hK => ?_) AllReady.nil
                    go_simp
                    go_wp2_with (go_at_call 31; refine (indexb_any gB c2 _ HPB4.out.dig).mono ?_; rintro e w7 ⟨rfl, rfl⟩)
                    try clear hK K
                    refine wpAny_ready (rs := [13]) (by kernel_rfl) (by simp) ?_
                    refine AllReady.cons rfl (fun K hK => ?_) AllReady.nil
                    go_simp
                    refine hK _ _ ?_
                    clear hK K
                    refine wpAny_ready (rs := [14]) (by kernel_rfl) (by simp) ?_
                    refine AllReady.cons rfl (fun K hK => ?_) AllReady.nil
                    go_simp
                    refine hK _ _ ?_
                    clear hK K
                    refine wpAny_done (by kernel_rfl) ?_ _
                    go_wp2_with fail
                    go_meet
                    exact ⟨rfl, rfl, HW4.out⟩
              · go_simp
                refine hK _ _ ?_
                clear hK K
                have HPB3 := Lib.hid (Ph.built W2)
                have HW3 := Lib.hid (bel_step HW2.out (bel_new W2 (.cells digC 5)))
                have hgB : wr.heap.size ≤ W2.heap.size := HW2.out.size
                have HPA3 := Lib.hid (HPA2.out.step (bel_new W2 (.cells digC 5)))
                have hne : gA ≠ W2.heap.size := by have := HPA2.out.lt; omega
                change wpAny _ _ _ _ _ _ _ (W2.alloc (.cells digC 5))
                generalize W2.alloc (.cells digC 5) = W3 at *
                obtain ⟨gB, hg⟩ : ∃ g, g = W2.heap.size := ⟨_, rfl⟩
                rw [← hg] at HPB3 hgB hne ⊢
                clear hg
                refine wpAny_ready (rs := [5, 7]) (by kernel_rfl) (by simp) ?_
                refine (AllReady.cons rfl (fun K hK => ?_) (AllReady.cons rfl (fun K hK => ?_) AllReady.nil))
                · go_simp
                  go_wp2_with (go_at_call 31; refine (indexb_any gA c1 _ HPA3.out.dig).mono ?_; rintro e w7 ⟨rfl, rfl⟩)
                  try clear hK K
                  refine wpAny_ready (rs := [7]) (by kernel_rfl) (by simp) ?_
                  refine (AllReady.cons rfl (fun K hK => ?_) AllReady.nil)
                  · have hcv := conv_run W3 gB HPB3.out
                    have HPB4 := Lib.hid (conv_ph W3 gB HPB3.out)
                    have HW4 := Lib.hid (HW3.out.trans (conv_bel W3 gB HPB3.out hgB))
                    have HPA4 := Lib.hid (conv_other W3 gB gA HPB3.out HPA3.out (by first | exact hne | exact hne.symm))
                    generalize W3.freeze ⟨gB, 16, none⟩ 1 = W4 at *
                    go_simp
                    refine hK _ _ ?_
                    clear hK K hcv
                    refine wpAny_ready (rs := [12]) (by kernel_rfl) (by simp) ?_
                    refine AllReady.cons rfl (fun K hK => ?_) AllReady.nil
                    go_simp
                    go_wp2_with (go_at_call 31; refine (indexb_any gB c2 _ HPB4.out.dig).mono ?_; rintro e w7 ⟨rfl, rfl⟩)
                    try clear hK K
                    refine wpAny_ready (rs := [13]) (by kernel_rfl) (by simp) ?_
                    refine AllReady.cons rfl (fun K hK => ?_) AllReady.nil
                    go_simp
                    refine hK _ _ ?_
                    clear hK K
                    refine wpAny_ready (rs := [14]) (by kernel_rfl) (by simp) ?_
                    refine AllReady.cons rfl (fun K hK => ?_) AllReady.nil
                    go_simp
                    refine hK _ _ ?_
                    clear hK K
                    refine wpAny_done (by kernel_rfl) ?_ _
                    go_wp2_with fail
                    go_meet
                    exact ⟨rfl, rfl, HW4.out⟩
                · have hcv := conv_run W3 gB HPB3.out
                  have HPB4 := Lib.hid (conv_ph W3 gB HPB3.out)
                  have HW4 := Lib.hid (HW3.out.trans (conv_bel W3 gB HPB3.out hgB))
                  have HPA4 := Lib.hid (conv_other W3 gB gA HPB3.out HPA3.out (by first | exact hne | exact hne.symm))
                  generalize W3.freeze ⟨gB, 16, none⟩ 1 = W4 at *
                  go_simp
                  refine hK _ _ ?_
                  clear hK K hcv
                  refine wpAny_ready (rs := [5]) (by kernel_rfl) (by simp) ?_
                  refine (AllReady.cons rfl (fun K hK => ?_) AllReady.nil)
                  · go_simp
                    go_wp2_with (go_at_call 31; refine (indexb_any gA c1 _ HPA4.out.dig).mono ?_; rintro e w7 ⟨rfl, rfl⟩)
                    try clear hK K
                    refine wpAny_ready (rs := [12]) (by kernel_rfl) (by simp) ?_
                    refine AllReady.cons rfl (fun K hK => ?_) AllReady.nil
                    go_simp
                    go_wp2_with (go_at_call 31; refine (indexb_any gB c2 _ HPB4.out.dig).mono ?_; rintro e w7 ⟨rfl, rfl⟩)
                    try clear hK K
                    refine wpAny_ready (rs := [13]) (by kernel_rfl) (by simp) ?_
                    refine AllReady.cons rfl (fun K hK => ?_) AllReady.nil
                    go_simp
                    refine hK _ _ ?_
                    clear hK K
                    refine wpAny_ready (rs := [14]) (by kernel_rfl) (by simp) ?_
                    refine AllReady.cons rfl (fun K hK => ?_) AllReady.nil
                    go_simp
                    refine hK _ _ ?_
                    clear hK K
                    refine wpAny_done (by kernel_rfl) ?_ _
                    go_wp2_with fail
                    go_meet
                    exact ⟨rfl, rfl, HW4.out⟩
            · go_simp
              refine hK _ _ ?_
              clear hK K
              have HPB2 := Lib.hid (Ph.built W1)
              have HW2 := Lib.hid (bel_step HW1.out (bel_new W1 (.cells digC 5)))
              have hgB : wr.heap.size ≤ W1.heap.size := HW1.out.size
              have HPA2 := Lib.hid (HPA1.out.step (bel_new W1 (.cells digC 5)))
              have hne : gA ≠ W1.heap.size := by have := HPA1.out.lt; omega
              change wpAny _ _ _ _ _ _ _ (W1.alloc (.cells digC 5))
              generalize W1.alloc (.cells digC 5) = W2 at *
              obtain ⟨gB, hg⟩ : ∃ g, g = W1.heap.size := ⟨_, rfl⟩
              rw [← hg] at HPB2 hgB hne ⊢
              clear hg
              refine wpAny_ready (rs := [1, 7]) (by kernel_rfl) (by simp) ?_
              refine (AllReady.cons rfl (fun K hK => ?_) (AllReady.cons rfl (fun K hK => ?_) AllReady.nil))
              · have hcv := conv_run W2 gA HPA2.out
                have HPA3 := Lib.hid (conv_ph W2 gA HPA2.out)
                have HW3 := Lib.hid (HW2.out.trans (conv_bel W2 gA HPA2.out hgA))
                have HPB3 := Lib.hid (conv_other W2 gA gB HPA2.out HPB2.out (by first | exact hne | exact hne.symm))
                generalize W2.freeze ⟨gA, 16, none⟩ 1 = W3 at *
                go_simp
                refine hK _ _ ?_
                clear hK K hcv
                refine wpAny_ready (rs := [5, 7]) (by kernel_rfl) (by simp) ?_
                refine (AllReady.cons rfl (fun K hK => ?_) (AllReady.cons rfl (fun K hK => ?_) AllReady.nil))
                · go_simp
                  go_wp2_with (go_at_call 31; refine (indexb_any gA c1 _ HPA3.out.dig).mono ?_; rintro e w7 ⟨rfl, rfl⟩)
                  try clear hK K
                  refine wpAny_ready (rs := [7]) (by kernel_rfl) (by simp) ?_
                  refine (AllReady.cons rfl (fun K hK => ?_) AllReady.nil)
                  · have hcv := conv_run W3 gB HPB3.out
                    have HPB4 := Lib.hid (conv_ph W3 gB HPB3.out)
                    have HW4 := Lib.hid (HW3.out.trans (conv_bel W3 gB HPB3.out hgB))
                    have HPA4 := Lib.hid (conv_other W3 gB gA HPB3.out HPA3.out (by first | exact hne | exact hne.symm))
                    generalize W3.freeze ⟨gB, 16, none⟩ 1 = W4 at *
                    go_simp
                    refine hK _ _ ?_
                    clear hK K hcv
                    refine wpAny_ready (rs := [12]) (by kernel_rfl) (by simp) ?_
                    refine AllReady.cons rfl (fun K hK => ?_) AllReady.nil
                    go_simp
                    go_wp2_with (go_at_call 31; refine (indexb_any gB c2 _ HPB4.out.dig).mono ?_; rintro e w7 ⟨rfl, rfl⟩)
                    try clear hK K
                    refine wpAny_ready (rs := [13]) (by kernel_rfl) (by simp) ?_
                    refine AllReady.cons rfl (fun K hK => ?_) AllReady.nil
                    go_simp
                    refine hK _ _ ?_
                    clear hK K
                    refine wpAny_ready (rs := [14]) (by kernel_rfl) (by simp) ?_
                    refine AllReady.cons rfl (fun K hK => ?_) AllReady.nil
                    go_simp
                    refine hK _ _ ?_
                    clear hK K
                    refine wpAny_done (by kernel_rfl) ?_ _
                    go_wp2_with fail
                    go_meet
                    exact ⟨rfl, rfl, HW4.out⟩
                · have hcv := conv_run W3 gB HPB3.out
                  have HPB4 := Lib.hid (conv_ph W3 gB HPB3.out)
                  have HW4 := Lib.hid (HW3.out.trans (conv_bel W3 gB HPB3.out hgB))
                  have HPA4 := Lib.hid (conv_other W3 gB gA HPB3.out HPA3.out (by first | exact hne | exact hne.symm))
                  generalize W3.freeze ⟨gB, 16, none⟩ 1 = W4 at *
                  go_simp
                  refine hK _ _ ?_
                  clear hK K hcv
                  refine wpAny_ready (rs := [5]) (by kernel_rfl) (by simp) ?_
                  refine (AllReady.cons rfl (fun K hK => ?_) AllReady.nil)
                  · go_simp
                    go_wp2_with (go_at_call 31; refine (indexb_any gA c1 _ HPA4.out.dig).mono ?_; rintro e w7 ⟨rfl, rfl⟩)
                    try clear hK K
                    refine wpAny_ready (rs := [12]) (by kernel_rfl) (by simp) ?_
                    refine AllReady.cons rfl (fun K hK => ?_) AllReady.nil
                    go_simp
                    go_wp2_with (go_at_call 31; refine (indexb_any gB c2 _ HPB4.out.dig).mono ?_; rintro e w7 ⟨rfl, rfl⟩)
                    try clear hK K
                    refine wpAny_ready (rs := [13]) (by kernel_rfl) (by simp) ?_
                    refine AllReady.cons rfl (fun K hK => ?_) AllReady.nil
                    go_simp
                    refine hK _ _ ?_
                    clear hK K
                    refine wpAny_ready (rs := [14]) (by kernel_rfl) (by simp) ?_
                    refine AllReady.cons rfl (fun K hK => ?_) AllReady.nil
                    go_simp
                    refine hK _ _ ?_
                    clear hK K
                    refine wpAny_done (by kernel_rfl) ?_ _
                    go_wp2_with fail
                    go_meet
                    exact ⟨rfl, rfl, HW4.out⟩
              · have hcv := conv_run W2 gB HPB2.out
                have HPB3 := Lib.hid (conv_ph W2 gB HPB2.out)
                have HW3 := Lib.hid (HW2.out.trans (conv_bel W2 gB HPB2.out hgB))
                have HPA3 := Lib.hid (conv_other W2 gB gA HPB2.out HPA2.out (by first | exact hne | exact hne.symm))
                generalize W2.freeze ⟨gB, 16, none⟩ 1 = W3 at *
                go_simp
                refine hK _ _ ?_
                clear hK K hcv
                refine wpAny_ready (rs := [1]) (by kernel_rfl) (by simp) ?_
                refine (AllReady.cons rfl (fun K hK => ?_) AllReady.nil)
                · have hcv := conv_run W3 gA HPA3.out
                  have HPA4 := Lib.hid (conv_ph W3 gA HPA3.out)
                  have HW4 := Lib.hid (HW3.out.trans (conv_bel W3 gA HPA3.out hgA))
                  have HPB4 := Lib.hid (conv_other W3 gA gB HPA3.out HPB3.out (by first | exact hne | exact hne.symm))
                  generalize W3.freeze ⟨gA, 16, none⟩ 1 = W4 at *
                  go_simp
                  refine hK _ _ ?_
                  clear hK K hcv
                  refine wpAny_ready (rs := [5]) (by kernel_rfl) (by simp) ?_
                  refine (AllReady.cons rfl (fun K hK => ?_) AllReady.nil)
                  · go_simp
                    go_wp2_with (go_at_call 31; refine (indexb_any gA c1 _ HPA4.out.dig).mono ?_; rintro e w7 ⟨rfl, rfl⟩)
                    try clear hK K
                    refine wpAny_ready (rs := [12]) (by kernel_rfl) (by simp) ?_
                    refine AllReady.cons rfl (fun K hK => ?_) AllReady.nil
                    go_simp
                    go_wp2_with (go_at_call 31; refine (indexb_any gB c2 _ HPB4.out.dig).mono ?_; rintro e w7 ⟨rfl, rfl⟩)
                    try clear hK K
                    refine wpAny_ready (rs := [13]) (by kernel_rfl) (by simp) ?_
                    refine AllReady.cons rfl (fun K hK => ?_) AllReady.nil
                    go_simp
                    refine hK _ _ ?_
                    clear hK K
                    refine wpAny_ready (rs := [14]) (by kernel_rfl) (by simp) ?_
                    refine AllReady.cons rfl (fun K hK => ?_) AllReady.nil
                    go_simp
                    refine hK _ _ ?_
                    clear hK K
                    refine wpAny_done (by kernel_rfl) ?_ _
                    go_wp2_with fail
                    go_meet
                    exact ⟨rfl, rfl, HW4.out⟩
          · go_simp
            refine hK _ _ ?_
            clear hK K
            have HPB1 := Lib.hid (Ph.built W0)
            have HW1 := Lib.hid (bel_step HW0.out (bel_new W0 (.cells digC 5)))
            have hgB : wr.heap.size ≤ W0.heap.size := HW0.out.size
            change wpAny _ _ _ _ _ _ _ (W0.alloc (.cells digC 5))
            generalize W0.alloc (.cells digC 5) = W1 at *
            obtain ⟨gB, hg⟩ : ∃ g, g = W0.heap.size := ⟨_, rfl⟩
            rw [← hg] at HPB1 hgB ⊢
            clear hg
            refine wpAny_ready (rs := [0, 7]) (by kernel_rfl) (by simp) ?_
            refine (AllReady.cons rfl (fun K hK => ?_) (AllReady.cons rfl (fun K hK => ?_) AllReady.nil))
            · go_simp
              refine hK _ _ ?_
              clear hK K
              have HPA2 := Lib.hid (Ph.built W1)
              have HW2 := Lib.hid (bel_step HW1.out (bel_new W1 (.cells digC 5)))
              have hgA : wr.heap.size ≤ W1.heap.size := HW1.out.size
              have HPB2 := Lib.hid (HPB1.out.step (bel_new W1 (.cells digC 5)))
              have hne : gB ≠ W1.heap.size := by have := HPB1.out.lt; omega
              change wpAny _ _ _ _ _ _ _ (W1.alloc (.cells digC 5))
              generalize W1.alloc (.cells digC 5) = W2 at *
              obtain ⟨gA, hg⟩ : ∃ g, g = W1.heap.size := ⟨_, rfl⟩
              rw [← hg] at HPA2 hgA hne ⊢
              clear hg
              refine wpAny_ready (rs := [1, 7]) (by kernel_rfl) (by simp) ?_
              refine (AllReady.cons rfl (fun K hK => ?_) (AllReady.cons rfl (fun K hK => ?_) AllReady.nil))
              · have hcv := conv_run W2 gA HPA2.out
                have HPA3 := Lib.hid (conv_ph W2 gA HPA2.out)
                have HW3 := Lib.hid (HW2.out.trans (conv_bel W2 gA HPA2.out hgA))
                have HPB3 := Lib.hid (conv_other W2 gA gB HPA2.out HPB2.out (by first | exact hne | exact hne.symm))
                generalize W2.freeze ⟨gA, 16, none⟩ 1 = W3 at *
                go_simp
                refine hK _ _ ?_
                clear hK K hcv
                refine wpAny_ready (rs := [5, 7]) (by kernel_rfl) (by simp) ?_
                refine (AllReady.cons rfl (fun K hK => ?_) (AllReady.cons rfl (fun K hK => ?_) AllReady.nil))
                · go_simp
                  go_wp2_with (go_at_call 31; refine (indexb_any gA c1 _ HPA3.out.dig).mono ?_; rintro e w7 ⟨rfl, rfl⟩)
                  try clear hK K
                  refine wpAny_ready (rs := [7]) (by kernel_rfl) (by simp) ?_
                  refine (AllReady.cons rfl (fun K hK => ?_) AllReady.nil)
                  · have hcv := conv_run W3 gB HPB3.out
                    have HPB4 := Lib.hid (conv_ph W3 gB HPB3.out)
                    have HW4 := Lib.hid (HW3.out.trans (conv_bel W3 gB HPB3.out hgB))
                    have HPA4 := Lib.hid (conv_other W3 gB gA HPB3.out HPA3.out (by first | exact hne | exact hne.symm))
                    generalize W3.freeze ⟨gB, 16, none⟩ 1 = W4 at *
                    go_simp
                    refine hK _ _ ?_
                    clear hK K hcv
                    refine wpAny_ready (rs := [12]) (by kernel_rfl) (by simp) ?_
                    refine AllReady.cons rfl (fun K hK => ?_) AllReady.nil
                    go_simp
                    go_wp2_with (go_at_call 31; refine (indexb_any gB c2 _ HPB4.out.dig).mono ?_; rintro e w7 ⟨rfl, rfl⟩)
                    try clear hK K
                    refine wpAny_ready (rs := [13]) (by kernel_rfl) (by simp) ?_
                    refine AllReady.cons rfl (fun K hK => ?_) AllReady.nil
                    go_simp
                    refine hK _ _ ?_
                    clear hK K
                    refine wpAny_ready (rs := [14]) (by kernel_rfl) (by simp) ?_
                    refine AllReady.cons rfl (fun K hK => ?_) AllReady.nil
                    go_simp
                    refine hK _ _ ?_
                    clear hK K
                    refine wpAny_done (by kernel_rfl) ?_ _
                    go_wp2_with fail
                    go_meet
                    exact ⟨rfl, rfl, HW4.out⟩
                · have hcv := conv_run W3 gB HPB3.out
                  have HPB4 := Lib.hid (conv_ph W3 gB HPB3.out)
                  have HW4 := Lib.hid (HW3.out.trans (conv_bel W3 gB HPB3.out hgB))
                  have HPA4 := Lib.hid (conv_other W3 gB gA HPB3.out HPA3.out (by first | exact hne | exact hne.symm))
                  generalize W3.freeze ⟨gB, 16, none⟩ 1 = W4 at *
                  go_simp
                  refine hK _ _ ?_
                  clear hK K hcv
                  refine wpAny_ready (rs := [5]) (by kernel_rfl) (by simp) ?_
                  refine (AllReady.cons rfl (fun K hK => ?_) AllReady.nil)
                  · go_simp
                    go_wp2_with (go_at_call 31; refine (indexb_any gA c1 _ HPA4.out.dig).mono ?_; rintro e w7 ⟨rfl, rfl⟩)
                    try clear hK K
                    refine wpAny_ready (rs := [12]) (by kernel_rfl) (by simp) ?_
                    refine AllReady.cons rfl (fun K hK => ?_) AllReady.nil
                    go_simp
                    go_wp2_with (go_at_call 31; refine (indexb_any gB c2 _ HPB4.out.dig).mono ?_; rintro e w7 ⟨rfl, rfl⟩)
                    try clear hK K
                    refine wpAny_ready (rs := [13]) (by kernel_rfl) (by simp) ?_
                    refine AllReady.cons rfl (fun K hK => ?_) AllReady.nil
                    go_simp
                    refine hK _ _ ?_
                    clear hK K
                    refine wpAny_ready (rs := [14]) (by kernel_rfl) (by simp) ?_
                    refine AllReady.cons rfl (fun K hK => ?_) AllReady.nil
                    go_simp
                    refine hK _ _ ?_
                    clear hK K
                    refine wpAny_done (by kernel_rfl) ?_ _
                    go_wp2_with fail
                    go_meet
                    exact ⟨rfl, rfl, HW4.out⟩
              · have hcv := conv_run W2 gB HPB2.out
                have HPB3 := Lib.hid (conv_ph W2 gB HPB2.out)
                have HW3 := Lib.hid (HW2.out.trans (conv_bel W2 gB HPB2.out hgB))
                have HPA3 := Lib.hid (conv_other W2 gB gA HPB2.out HPA2.out (by first | exact hne | exact hne.symm))
                generalize W2.freeze ⟨gB, 16, none⟩ 1 = W3 at *
                go_simp
                refine hK _ _ ?_
                clear hK K hcv
                refine wpAny_ready (rs := [1]) (by kernel_rfl) (by simp) ?_
                refine (AllReady.cons rfl (fun K hK => ?_) AllReady.nil)
                · have hcv := conv_run W3 gA HPA3.out
                  have HPA4 := Lib.hid (conv_ph W3 gA HPA3.out)
                  have HW4 := Lib.hid (HW3.out.trans (conv_bel W3 gA HPA3.out hgA))
                  have HPB4 := Lib.hid (conv_other W3 gA gB HPA3.out HPB3.out (by first | exact hne | exact hne.symm))
                  generalize W3.freeze ⟨gA, 16, none⟩ 1 = W4 at *
                  go_simp
                  refine hK _ _ ?_
                  clear hK K hcv
                  refine wpAny_ready (rs := [5]) (by kernel_rfl) (by simp) ?_
                  refine (AllReady.cons rfl (fun K hK => ?_) AllReady.nil)
                  · go_simp
                    go_wp2_with (go_at_call 31; refine (indexb_any gA c1 _ HPA4.out.dig).mono ?_; rintro e w7 ⟨rfl, rfl⟩)
                    try clear hK K
                    refine wpAny_ready (rs := [12]) (by kernel_rfl) (by simp) ?_
                    refine AllReady.cons rfl (fun K hK => ?_) AllReady.nil
                    go_simp
                    go_wp2_with (go_at_call 31; refine (indexb_any gB c2 _ HPB4.out.dig).mono ?_; rintro e w7 ⟨rfl, rfl⟩)
                    try clear hK K
                    refine wpAny_ready (rs := [13]) (by kernel_rfl) (by simp) ?_
                    refine AllReady.cons rfl (fun K hK => ?_) AllReady.nil
                    go_simp
                    refine hK _ _ ?_
                    clear hK K
                    refine wpAny_ready (rs := [14]) (by kernel_rfl) (by simp) ?_
                    refine AllReady.cons rfl (fun K hK => ?_) AllReady.nil
                    go_simp
                    refine hK _ _ ?_
                    clear hK K
                    refine wpAny_done (by kernel_rfl) ?_ _
                    go_wp2_with fail
                    go_meet
                    exact ⟨rfl, rfl, HW4.out⟩
            · have hcv := conv_run W1 gB HPB1.out
              have HPB2 := Lib.hid (conv_ph W1 gB HPB1.out)
              have HW2 := Lib.hid (HW1.out.trans (conv_bel W1 gB HPB1.out hgB))
              generalize W1.freeze ⟨gB, 16, none⟩ 1 = W2 at *
              go_simp
              refine hK _ _ ?_
              clear hK K hcv
              refine wpAny_ready (rs := [0]) (by kernel_rfl) (by simp) ?_
              refine (AllReady.cons rfl (fun K hK => ?_) AllReady.nil)
              · go_simp
                refine hK _ _ ?_
                clear hK K
                have HPA3 := Lib.hid (Ph.built W2)
                have HW3 := Lib.hid (bel_step HW2.out (bel_new W2 (.cells digC 5)))
                have hgA : wr.heap.size ≤ W2.heap.size := HW2.out.size
                have HPB3 := Lib.hid (HPB2.out.step (bel_new W2 (.cells digC 5)))
                have hne : gB ≠ W2.heap.size := by have := HPB2.out.lt; omega
                change wpAny _ _ _ _ _ _ _ (W2.alloc (.cells digC 5))
                generalize W2.alloc (.cells digC 5) = W3 at *
                obtain ⟨gA, hg⟩ : ∃ g, g = W2.heap.size := ⟨_, rfl⟩
                rw [← hg] at HPA3 hgA hne ⊢
                clear hg
                refine wpAny_ready (rs := [1]) (by kernel_rfl) (by simp) ?_
                refine (AllReady.cons rfl (fun K hK => ?_) AllReady.nil)
                · have hcv := conv_run W3 gA HPA3.out
                  have HPA4 := Lib.hid (conv_ph W3 gA HPA3.out)
                  have HW4 := Lib.hid (HW3.out.trans (conv_bel W3 gA HPA3.out hgA))
                  have HPB4 := Lib.hid (conv_other W3 gA gB HPA3.out HPB3.out (by first | exact hne | exact hne.symm))
                  generalize W3.freeze ⟨gA, 16, none⟩ 1 = W4 at *
                  go_simp
                  refine hK _ _ ?_
                  clear hK K hcv
                  refine wpAny_ready (rs := [5]) (by kernel_rfl) (by simp) ?_
                  refine (AllReady.cons rfl (fun K hK => ?_) AllReady.nil)
                  · go_simp
                    go_wp2_with (go_at_call 31; refine (indexb_any gA c1 _ HPA4.out.dig).mono ?_; rintro e w7 ⟨rfl, rfl⟩)
                    try clear hK K
                    refine wpAny_ready (rs := [12]) (by kernel_rfl) (by simp) ?_
                    refine AllReady.cons rfl (fun K hK => ?_) AllReady.nil
                    go_simp
                    go_wp2_with (go_at_call 31; refine (indexb_any gB c2 _ HPB4.out.dig).mono ?_; rintro e w7 ⟨rfl, rfl⟩)
                    try clear hK K
                    refine wpAny_ready (rs := [13]) (by kernel_rfl) (by simp) ?_
                    refine AllReady.cons rfl (fun K hK => ?_) AllReady.nil
                    go_simp
                    refine hK _ _ ?_
                    clear hK K
                    refine wpAny_ready (rs := [14]) (by kernel_rfl) (by simp) ?_
                    refine AllReady.cons rfl (fun K hK => ?_) AllReady.nil
                    go_simp
                    refine hK _ _ ?_
                    clear hK K
                    refine wpAny_done (by kernel_rfl) ?_ _
                    go_wp2_with fail
                    go_meet
                    exact ⟨rfl, rfl, HW4.out⟩
        case rest =>
          obtain ⟨rfl, rfl, hb⟩ := hcut
          have HB2 := Lib.hid (bel_step HB.out hb)
          have HO2 := Lib.hid (HO.out.step hb)
          have HD := Lib.hid (show s.data.toList.drop k = c1 :: c2 :: s.data.toList.drop (k + 2) by
            have h1 : k < s.data.toList.length := by rw [Array.length_toList]; exact hlt
            have h2 : k + 1 < s.data.toList.length := by rw [Array.length_toList]; exact hlt2
            rw [List.drop_eq_getElem_cons h1, List.drop_eq_getElem_cons h2, HC1.out, HC2.out]
            rfl)
          clear hb hi1 hi2 hk0 hk1 hk2 hk3 hkw hkn
          cases hd1 : digN c1 with
          | none =>
            have hdi : digI c1 = -1 := by unfold digI; rw [hd1]
            have HRN := Lib.hid (show R = none by rw [HR.out, HUN.out, HD.out, unhexP, hd1]; rfl)
            rw [hdi]
            clear hd1 hdi
            go_wp2_with fail
            go_ret2
            exact UnR.no HRN.out HB2.out
          | some p =>
            have hp := digN_lt hd1
            have hdi : digI c1 = (p : Int) := by unfold digI; rw [hd1]
            rw [hdi]
            clear hdi
            have hp0 : ¬ (p : Int) < 0 := by omega
            cases hd2 : digN c2 with
            | none =>
              have hdj : digI c2 = -1 := by unfold digI; rw [hd2]
              have HRN := Lib.hid (show R = none by rw [HR.out, HUN.out, HD.out, unhexP, hd1, hd2]; rfl)
              rw [hdj]
              clear hd1 hd2 hdj
              go_wp2_with fail
              go_ret2
              exact UnR.no HRN.out HB2.out
            | some q =>
              have hq := digN_lt hd2
              have hdj : digI c2 = (q : Int) := by unfold digI; rw [hd2]
              rw [hdj]
              have HUN2 := Lib.hid (show R = (unhexP (s.data.toList.drop (k + 2))).map ((l ++ [UInt8.ofNat (16 * p + q)]) ++ ·) by
                rw [HR.out, HUN.out, HD.out, unhexP, hd1, hd2]
                cases unhexP (s.data.toList.drop (k + 2)) with
                | none => rfl
                | some t => simp)
              have HX := Lib.hid (show 16 * (p : Int) + (q : Int) = ((UInt8.ofNat (16 * p + q)).toNat : Int) by rw [UInt8.toNat_ofNat']; omega)
              have hq0 : ¬ (q : Int) < 0 := by omega
              have hp1 : (p : Int) < 16 := by omega
              have hq1 : (q : Int) < 16 := by omega
              have hlb : l.length + [UInt8.ofNat (16 * p + q)].length ≤ 140737488355328 := by have := HLL.out; simp only [List.length_cons, List.length_nil]; omega
              generalize UInt8.ofNat (16 * p + q) = c3 at *
              clear hd1 hd2 hdj
              go_wp2_with (at_builtin; refine wpList_app rfl (.tmp 39) (.tmp 45) rfl w.heap.size _ _ rfl (HO2.out.step (bel_new _ _)) _ [c3] rfl (IsB.one _ _ _ HX.out) hlb (by have := HB2.out.size; simp; omega) ?_; intro v3 w3 hO3 hB3 hs3 hn3; have HO3 := Lib.hid hO3; have HB3 := Lib.hid ((bel_step HB2.out (bel_new wc _)).trans hB3); clear hO3 hB3 hs3 hn3)
              go_roundw
              case rel => exact ⟨k + 2, by go_num, by omega, Lib.hid (by have := HE.out; omega), ⟨_, HO3.out, Lib.hid (by have := HLL.out; simp; omega), Lib.hid (by rw [← HR.out]; exact HUN2.out)⟩, HB3.out⟩
              case measure => simp [intOf]; omega
      · obtain rfl : k = s.size := by omega
        have HRN := Lib.hid (show R = some l by
          rw [HR.out, HUN.out, List.drop_of_length_le (by rw [Array.length_toList]; exact Nat.le_refl _)]
          simp [unhexP])
        go_wp2_with fail
        go_ret2
        exact UnR.yes HRN.out HO.out HB.out
  · have hm0 : ((s.size : Int) % 2 == 0) = false := by simp; omega
    have hm1 : ((s.size : Int) % 2 != 0) = true := by simp; omega
    have HRN := Lib.hid (show R = none by rw [HR.out]; exact unhex_odd _ _ (Nat.le_refl _) (by rw [Array.length_toList]; exact hev))
    go_enter Tryd.func22, Tryd.ntmps22
    go_wp2_with fail
    go_ret2
    exact UnR.no HRN.out (Below.refl _ _)
end Go.Proofs.YtjghmhcljhjmmaaDoor
