/- The walks of the law's quoted and wrapped. Conditions: an expression, bounds on size and texts. -/
import Derived.Test.YtogkiifljdnjgaaDoorWrapP
import Derived.Test.YtogkiifljdnjgaaDoorRefLex
import Derived.BigQuiet
namespace Go.Proofs.YtogkiifljdnjgaaDoor
open Go.RowKit
set_option linter.unusedVariables false
set_option linter.unusedSimpArgs false

theorem short_take : ∀ {ks : List Tree}, shortL ks → ∀ q, shortL (ks.take q)
  | [], h, q => by rw [List.take_nil]; exact h
  | t :: ts, h, 0 => by rw [List.take_zero, shortL]; trivial
  | t :: ts, h, q + 1 => by
    rw [shortL_cons] at h
    rw [List.take_succ_cons, shortL_cons]
    exact ⟨h.1, short_take h.2 q⟩
theorem sum_mono (L : List Tree) (f g : Tree → Nat) (h : ∀ t, f t ≤ g t) : (L.map f).sum ≤ (L.map g).sum := by
  induction L with
  | nil => simp
  | cons a r ih => simp only [List.map_cons, List.sum_cons]; have := h a; omega
theorem join_take (sep : List UInt8) (f : Tree → List UInt8) {ks : List Tree} {q : Nat} {t : Tree} (h : ks[q]? = some t) : joinG sep ((ks.take (q + 1)).map f) = if q = 0 then f t else joinG sep ((ks.take q).map f) ++ (sep ++ f t) := by
  rw [take_next h, List.map_append]
  by_cases h0 : q = 0
  · subst h0
    rw [if_pos rfl]
    rfl
  · rw [if_neg h0]
    have hlt : q < ks.length := by
      rcases Nat.lt_or_ge q ks.length with h' | h'
      · exact h'
      · rw [List.getElem?_eq_none h'] at h; cases h
    refine joinG_snoc sep (f t) _ (fun e => ?_)
    have := congrArg List.length e
    rw [List.length_map, List.length_take] at this
    simp only [List.length_nil] at this
    omega
set_option maxRecDepth 20000 in
set_option maxHeartbeats 2000000 in
theorem fquote_any (s : ByteArray) (w : World) (hs : s.size ≤ 100000) :
    Calls Tryd.prog 31 #[.string s] w fun e w' => e = .returned (.string ⟨(quoL s.data.toList).toArray⟩) ∧ Below w.heap.size w w' := by
  have hsi : (s.size : Int) ≤ 100000 := by omega
  obtain ⟨R, hR⟩ : ∃ R, (⟨(quoL s.data.toList).toArray⟩ : ByteArray) = R := ⟨_, rfl⟩
  rw [hR]
  have HR := Lib.hid hR
  clear hR
  go_enter Tryd.func31, Tryd.ntmps31
  go_wp2_with fail
  go_loop [3, 7] (fun u i => ∃ k : Nat, i = .int .i64 k ∧ k ≤ s.size ∧ u = .string ⟨(34 :: (s.data.toList.take k).flatMap escB).toArray⟩) (fun _ i => s.size - (intOf i).toNat)
  case atStart => exact ⟨0, rfl, by omega, by simp⟩
  case round =>
    obtain ⟨k, rfl, hk, rfl⟩ := hrel
    have hlen : (34 :: (s.data.toList.take k).flatMap escB).length ≤ 200001 := by
      have := esc_len (s.data.toList.take k)
      rw [List.length_take] at this
      simp only [List.length_cons]; omega
    by_cases hlt : k < s.size
    · have hcb := s[k].toNat_lt
      have hk0 : (0 : Int) ≤ (k : Int) := by omega
      have hki : (k : Int) < (s.size : Int) := by omega
      have HE := Lib.hid (esc_step s k hlt)
      by_cases hq : s[k].toNat = 34 ∨ s[k].toNat = 92
      · have HE2 := Lib.hid (show escB s[k] = [92, s[k]] by rw [escB, if_pos hq])
        have hq3 : (((s[k].toNat : Int) == 34) = true) ∨ (((s[k].toNat : Int) == 34) = false ∧ ((s[k].toNat : Int) == 92) = true) := by
          rcases hq with h | h <;> simp [h]
        generalize hx : 34 :: (s.data.toList.take k).flatMap escB = out at hlen ⊢
        have HX := Lib.hid hx
        have hcat1 := run_cat out [92] (by omega) (by simp)
        have hcat2 := run_cat_one s k hlt (out ++ [92]) (by simp; omega)
        clear hcb hq hlen hx
        rcases hq3 with f1 | ⟨f1, f2⟩
        all_goals
          go_wp2_with fail
          go_round
          case rel => exact ⟨k + 1, by go_num, by omega, by rw [HE.out, HE2.out, ← HX.out]; simp⟩
          case measure => simp [intOf]; omega
      · have HE2 := Lib.hid (show escB s[k] = [s[k]] by rw [escB, if_neg hq])
        have f1 : ((s[k].toNat : Int) == 34) = false := beq_eq_false_iff_ne.2 (by omega)
        have f2 : ((s[k].toNat : Int) == 92) = false := beq_eq_false_iff_ne.2 (by omega)
        generalize hx : 34 :: (s.data.toList.take k).flatMap escB = out at hlen ⊢
        have HX := Lib.hid hx
        have hcat2 := run_cat_one s k hlt out (by omega)
        clear hcb hq hlen hx
        go_wp2_with fail
        go_round
        case rel => exact ⟨k + 1, by go_num, by omega, by rw [HE.out, HE2.out, ← HX.out]; simp⟩
        case measure => simp [intOf]; omega
    · obtain rfl : k = s.size := by omega
      rw [List.take_of_length_le (by rw [size_list]; omega)] at hlen ⊢
      have HR2 := Lib.hid (show (⟨(34 :: s.data.toList.flatMap escB ++ [34]).toArray⟩ : ByteArray) = R by rw [← HR.out]; rfl)
      generalize 34 :: s.data.toList.flatMap escB = out at hlen HR2 ⊢
      have hcat1 := run_cat out [34] (by omega) (by simp)
      clear hlen
      go_wp2_with fail
      go_ret
      exact ⟨ret_str HR2.out, Below.refl _ _⟩
def WrapC (n : Nat) : Prop := ∀ (t : Tree) (F : Nat → Prop) (w : World) (v : Value), IsT w F t v → depthT t ≤ n → sizeT t ≤ 1000 → shortT t → exprOK t = true →
  Calls Tryd.prog 29 #[v] w fun e w' => e = .returned (.string ⟨(wrapP t).toArray⟩) ∧ Below w.heap.size w w'
theorem wrap_takelen (ts : List Tree) (h : shortL ts) : (ts.map (fun t => (wrapP t).length + 4)).sum ≤ 300000 * sizeL ts := by
  have := wrapL_len ts h
  rw [wrapL_map, List.map_map] at this
  exact this
set_option maxRecDepth 20000 in
set_option maxHeartbeats 2000000 in
theorem wrap_13 (n : Nat) (HC : WrapC n) (tx : List UInt8) (ks : List Tree) (l : Int) (F : Nat → Prop) (w : World) (v : Value) (ht : IsT w F (.node 13 tx ks l) v) (hd : depthT (.node 13 tx ks l) ≤ n + 1) (hs : sizeT (.node 13 tx ks l) ≤ 1000) (hsh : shortT (.node 13 tx ks l)) (hok : exprOK (.node 13 tx ks l) = true) :
    Calls Tryd.prog 29 #[v] w fun e w' => e = .returned (.string ⟨(wrapP (.node 13 tx ks l)).toArray⟩) ∧ Below w.heap.size w w' := by
  obtain ⟨kv, rfl, hks⟩ := isT_node.1 ht
  rw [depthT_node] at hd
  rw [sizeT_node] at hs
  rw [shortT_node] at hsh
  obtain ⟨htx, hshl⟩ := hsh
  obtain ⟨a, c, rfl⟩ : ∃ a c, kv = .slice a ks.length c := by
    obtain ⟨a, c, hv, _⟩ := hks
    exact ⟨a, c, hv⟩
  have HBND := Lib.hid HC
  have HK := Lib.hid hks
  have htz := size_of_list tx _ htx
  clear ht hks HC
  obtain ⟨x, y, rfl, he0, he1⟩ := expr_two hok (by decide)
  rw [shortL_cons, shortL_cons] at hshl
  obtain ⟨hh0, hh1, -⟩ := hshl
  rw [sizeL_cons, sizeL_cons, sizeL_nil] at hs
  rw [depthL_cons, depthL_cons, depthL_nil] at hd
  have hN : ([x, y] : List Tree).length = 2 := rfl
  rw [hN] at HK ⊢
  clear hN
  obtain ⟨R, hR⟩ : ∃ R, (⟨(wrapP (.node 13 tx [x, y] l)).toArray⟩ : ByteArray) = R := ⟨_, rfl⟩
  rw [hR]
  have HQ : (⟨#[40]⟩ : ByteArray) ++ (((⟨(wrapP x).toArray⟩ : ByteArray) ++ ((⟨#[111, 114]⟩ : ByteArray) ++ (⟨(wrapP y).toArray⟩ : ByteArray))) ++ (⟨#[41]⟩ : ByteArray)) = R := by rw [← hR]; exact ba_of_list (by simp [wrapP_node, wrapL_map, asmW, inW, ByteArray.data_append])
  clear hR
  obtain ⟨bk0, off0, cap0, k00, x00, a00, m00, n00, l00, hv0, c00, c01, c02, c03, hT0⟩ := IsKids.at HK.out (k := 0) (t := x) rfl
  simp only [Value.slice.injEq] at hv0
  obtain ⟨rfl, -, rfl⟩ := hv0
  simp only [Nat.zero_mul, Nat.add_zero, Nat.one_mul, Nat.reduceMul, Nat.add_assoc, Nat.reduceAdd] at c00 c01 c02 c03
  obtain ⟨bk1, off1, cap1, k10, x10, a10, m10, n10, l10, hv1, c10, c11, c12, c13, hT1⟩ := IsKids.at HK.out (k := 1) (t := y) rfl
  simp only [Value.slice.injEq, Option.some.injEq, Addr.mk.injEq, and_true] at hv1
  obtain ⟨⟨rfl, rfl⟩, -, -⟩ := hv1
  simp only [Nat.zero_mul, Nat.add_zero, Nat.one_mul, Nat.reduceMul, Nat.add_assoc, Nat.reduceAdd] at c10 c11 c12 c13
  have hl0 := wrapP_len x hh0
  have hS0 : (⟨(wrapP x).toArray⟩ : ByteArray).size ≤ 300000100 := size_of_list _ _ (by omega)
  have HC0 := Lib.hid (fun W (hW : Below w.heap.size w W) => HBND.out x F W _ (hT0.step hW) (by omega) (by omega) hh0 he0)
  generalize (⟨(wrapP x).toArray⟩ : ByteArray) = S0 at hS0 HC0 HQ
  clear hl0 hT0
  have hl1 := wrapP_len y hh1
  have hS1 : (⟨(wrapP y).toArray⟩ : ByteArray).size ≤ 300000100 := size_of_list _ _ (by omega)
  have HC1 := Lib.hid (fun W (hW : Below w.heap.size w W) => HBND.out y F W _ (hT1.step hW) (by omega) (by omega) hh1 he1)
  generalize (⟨(wrapP y).toArray⟩ : ByteArray) = S1 at hS1 HC1 HQ
  clear hl1 hT1
  have HQ2 := Lib.hid HQ
  clear HQ he0 he1 hh0 hh1 hd hs hok HBND
  have HX0 := Lib.hid (heap_alloc_new w (.cells #[.int .i64 13, .string ⟨tx.toArray⟩, .slice (some ⟨bk0, off0, none⟩) 2 c, .int .i64 l] 26))
  have HB0 := Lib.hid (bel_new w (.cells #[.int .i64 13, .string ⟨tx.toArray⟩, .slice (some ⟨bk0, off0, none⟩) 2 c, .int .i64 l] 26))
  obtain ⟨r0, r1, r2, r3, q0, q1, q2, q3⟩ := box4 HX0.out
  go_enter Tryd.func29, Tryd.ntmps29
  go_upto_region 4 with fail
  have R1 := fun d os => cell_regrown (r0) d os
  have R2 := fun d os => cell_regrown (r1) d os
  have R3 := fun d os => cell_regrown (r2) d os
  have R4 := fun d os => cell_regrown (r3) d os
  have R5 := fun d os => cell_regrown (keep_at HB0.out c00) d os
  have R6 := fun d os => cell_regrown (keep_at HB0.out c01) d os
  have R7 := fun d os => cell_regrown (keep_at HB0.out c02) d os
  have R8 := fun d os => cell_regrown (keep_at HB0.out c03) d os
  have R9 := fun d os => cell_regrown (keep_at HB0.out c10) d os
  have R10 := fun d os => cell_regrown (keep_at HB0.out c11) d os
  have R11 := fun d os => cell_regrown (keep_at HB0.out c12) d os
  have R12 := fun d os => cell_regrown (keep_at HB0.out c13) d os
  refine wp_region_quiet_below (by kernel_rfl) (by kernel_rfl) ?_
  repeat (go_big_quiet_step (first | (go_at_call 29; (with_reducible refine Calls.regrown_of (HC0.out _ ?_)); exact HB0.out.trans ((below_regrown _ _ _).mono HB0.out.size)) | (go_at_call 29; (with_reducible refine Calls.regrown_of (HC1.out _ ?_)); exact HB0.out.trans ((below_regrown _ _ _).mono HB0.out.size))))
  clear R1 R2 R3 R4 R5 R6 R7 R8 R9 R10 R11 R12
  refine wpQuiet_nil ?_
  intro w6 hw6
  have HB6 := Lib.hid (show Below w.heap.size w w6 by obtain ⟨p, rfl⟩ := hw6; exact HB0.out.trans ((below_regrown _ p.d p.os).mono HB0.out.size))
  clear hw6
  go_wp2_with fail
  go_ret
  exact ⟨ret_str (by rw [← HQ2.out]; exact ba_of_list (by simp [ByteArray.data_append])), HB6.out⟩
set_option maxRecDepth 20000 in
set_option maxHeartbeats 2000000 in
theorem wrap_14 (n : Nat) (HC : WrapC n) (tx : List UInt8) (ks : List Tree) (l : Int) (F : Nat → Prop) (w : World) (v : Value) (ht : IsT w F (.node 14 tx ks l) v) (hd : depthT (.node 14 tx ks l) ≤ n + 1) (hs : sizeT (.node 14 tx ks l) ≤ 1000) (hsh : shortT (.node 14 tx ks l)) (hok : exprOK (.node 14 tx ks l) = true) :
    Calls Tryd.prog 29 #[v] w fun e w' => e = .returned (.string ⟨(wrapP (.node 14 tx ks l)).toArray⟩) ∧ Below w.heap.size w w' := by
  obtain ⟨kv, rfl, hks⟩ := isT_node.1 ht
  rw [depthT_node] at hd
  rw [sizeT_node] at hs
  rw [shortT_node] at hsh
  obtain ⟨htx, hshl⟩ := hsh
  obtain ⟨a, c, rfl⟩ : ∃ a c, kv = .slice a ks.length c := by
    obtain ⟨a, c, hv, _⟩ := hks
    exact ⟨a, c, hv⟩
  have HBND := Lib.hid HC
  have HK := Lib.hid hks
  have htz := size_of_list tx _ htx
  clear ht hks HC
  obtain ⟨x, y, rfl, he0, he1⟩ := expr_two hok (by decide)
  rw [shortL_cons, shortL_cons] at hshl
  obtain ⟨hh0, hh1, -⟩ := hshl
  rw [sizeL_cons, sizeL_cons, sizeL_nil] at hs
  rw [depthL_cons, depthL_cons, depthL_nil] at hd
  have hN : ([x, y] : List Tree).length = 2 := rfl
  rw [hN] at HK ⊢
  clear hN
  obtain ⟨R, hR⟩ : ∃ R, (⟨(wrapP (.node 14 tx [x, y] l)).toArray⟩ : ByteArray) = R := ⟨_, rfl⟩
  rw [hR]
  have HQ : (⟨#[40]⟩ : ByteArray) ++ (((⟨(wrapP x).toArray⟩ : ByteArray) ++ ((⟨#[97, 110, 100]⟩ : ByteArray) ++ (⟨(wrapP y).toArray⟩ : ByteArray))) ++ (⟨#[41]⟩ : ByteArray)) = R := by rw [← hR]; exact ba_of_list (by simp [wrapP_node, wrapL_map, asmW, inW, ByteArray.data_append])
  clear hR
  obtain ⟨bk0, off0, cap0, k00, x00, a00, m00, n00, l00, hv0, c00, c01, c02, c03, hT0⟩ := IsKids.at HK.out (k := 0) (t := x) rfl
  simp only [Value.slice.injEq] at hv0
  obtain ⟨rfl, -, rfl⟩ := hv0
  simp only [Nat.zero_mul, Nat.add_zero, Nat.one_mul, Nat.reduceMul, Nat.add_assoc, Nat.reduceAdd] at c00 c01 c02 c03
  obtain ⟨bk1, off1, cap1, k10, x10, a10, m10, n10, l10, hv1, c10, c11, c12, c13, hT1⟩ := IsKids.at HK.out (k := 1) (t := y) rfl
  simp only [Value.slice.injEq, Option.some.injEq, Addr.mk.injEq, and_true] at hv1
  obtain ⟨⟨rfl, rfl⟩, -, -⟩ := hv1
  simp only [Nat.zero_mul, Nat.add_zero, Nat.one_mul, Nat.reduceMul, Nat.add_assoc, Nat.reduceAdd] at c10 c11 c12 c13
  have hl0 := wrapP_len x hh0
  have hS0 : (⟨(wrapP x).toArray⟩ : ByteArray).size ≤ 300000100 := size_of_list _ _ (by omega)
  have HC0 := Lib.hid (fun W (hW : Below w.heap.size w W) => HBND.out x F W _ (hT0.step hW) (by omega) (by omega) hh0 he0)
  generalize (⟨(wrapP x).toArray⟩ : ByteArray) = S0 at hS0 HC0 HQ
  clear hl0 hT0
  have hl1 := wrapP_len y hh1
  have hS1 : (⟨(wrapP y).toArray⟩ : ByteArray).size ≤ 300000100 := size_of_list _ _ (by omega)
  have HC1 := Lib.hid (fun W (hW : Below w.heap.size w W) => HBND.out y F W _ (hT1.step hW) (by omega) (by omega) hh1 he1)
  generalize (⟨(wrapP y).toArray⟩ : ByteArray) = S1 at hS1 HC1 HQ
  clear hl1 hT1
  have HQ2 := Lib.hid HQ
  clear HQ he0 he1 hh0 hh1 hd hs hok HBND
  have HX0 := Lib.hid (heap_alloc_new w (.cells #[.int .i64 14, .string ⟨tx.toArray⟩, .slice (some ⟨bk0, off0, none⟩) 2 c, .int .i64 l] 26))
  have HB0 := Lib.hid (bel_new w (.cells #[.int .i64 14, .string ⟨tx.toArray⟩, .slice (some ⟨bk0, off0, none⟩) 2 c, .int .i64 l] 26))
  obtain ⟨r0, r1, r2, r3, q0, q1, q2, q3⟩ := box4 HX0.out
  go_enter Tryd.func29, Tryd.ntmps29
  go_upto_region 6 with fail
  have R1 := fun d os => cell_regrown (r0) d os
  have R2 := fun d os => cell_regrown (r1) d os
  have R3 := fun d os => cell_regrown (r2) d os
  have R4 := fun d os => cell_regrown (r3) d os
  have R5 := fun d os => cell_regrown (keep_at HB0.out c00) d os
  have R6 := fun d os => cell_regrown (keep_at HB0.out c01) d os
  have R7 := fun d os => cell_regrown (keep_at HB0.out c02) d os
  have R8 := fun d os => cell_regrown (keep_at HB0.out c03) d os
  have R9 := fun d os => cell_regrown (keep_at HB0.out c10) d os
  have R10 := fun d os => cell_regrown (keep_at HB0.out c11) d os
  have R11 := fun d os => cell_regrown (keep_at HB0.out c12) d os
  have R12 := fun d os => cell_regrown (keep_at HB0.out c13) d os
  refine wp_region_quiet_below (by kernel_rfl) (by kernel_rfl) ?_
  repeat (go_big_quiet_step (first | (go_at_call 29; (with_reducible refine Calls.regrown_of (HC0.out _ ?_)); exact HB0.out.trans ((below_regrown _ _ _).mono HB0.out.size)) | (go_at_call 29; (with_reducible refine Calls.regrown_of (HC1.out _ ?_)); exact HB0.out.trans ((below_regrown _ _ _).mono HB0.out.size))))
  clear R1 R2 R3 R4 R5 R6 R7 R8 R9 R10 R11 R12
  refine wpQuiet_nil ?_
  intro w6 hw6
  have HB6 := Lib.hid (show Below w.heap.size w w6 by obtain ⟨p, rfl⟩ := hw6; exact HB0.out.trans ((below_regrown _ p.d p.os).mono HB0.out.size))
  clear hw6
  go_wp2_with fail
  go_ret
  exact ⟨ret_str (by rw [← HQ2.out]; exact ba_of_list (by simp [ByteArray.data_append])), HB6.out⟩
set_option maxRecDepth 20000 in
set_option maxHeartbeats 2000000 in
theorem wrap_16 (n : Nat) (HC : WrapC n) (tx : List UInt8) (ks : List Tree) (l : Int) (F : Nat → Prop) (w : World) (v : Value) (ht : IsT w F (.node 16 tx ks l) v) (hd : depthT (.node 16 tx ks l) ≤ n + 1) (hs : sizeT (.node 16 tx ks l) ≤ 1000) (hsh : shortT (.node 16 tx ks l)) (hok : exprOK (.node 16 tx ks l) = true) :
    Calls Tryd.prog 29 #[v] w fun e w' => e = .returned (.string ⟨(wrapP (.node 16 tx ks l)).toArray⟩) ∧ Below w.heap.size w w' := by
  obtain ⟨kv, rfl, hks⟩ := isT_node.1 ht
  rw [depthT_node] at hd
  rw [sizeT_node] at hs
  rw [shortT_node] at hsh
  obtain ⟨htx, hshl⟩ := hsh
  obtain ⟨a, c, rfl⟩ : ∃ a c, kv = .slice a ks.length c := by
    obtain ⟨a, c, hv, _⟩ := hks
    exact ⟨a, c, hv⟩
  have HBND := Lib.hid HC
  have HK := Lib.hid hks
  have htz := size_of_list tx _ htx
  clear ht hks HC
  obtain ⟨x, y, rfl, he0, he1⟩ := expr_two hok (by decide)
  rw [shortL_cons, shortL_cons] at hshl
  obtain ⟨hh0, hh1, -⟩ := hshl
  rw [sizeL_cons, sizeL_cons, sizeL_nil] at hs
  rw [depthL_cons, depthL_cons, depthL_nil] at hd
  have hN : ([x, y] : List Tree).length = 2 := rfl
  rw [hN] at HK ⊢
  clear hN
  obtain ⟨R, hR⟩ : ∃ R, (⟨(wrapP (.node 16 tx [x, y] l)).toArray⟩ : ByteArray) = R := ⟨_, rfl⟩
  rw [hR]
  have HQ : (⟨#[40]⟩ : ByteArray) ++ (((⟨(wrapP x).toArray⟩ : ByteArray) ++ ((⟨tx.toArray⟩ : ByteArray) ++ (⟨(wrapP y).toArray⟩ : ByteArray))) ++ (⟨#[41]⟩ : ByteArray)) = R := by rw [← hR]; exact ba_of_list (by simp [wrapP_node, wrapL_map, asmW, inW, ByteArray.data_append])
  clear hR
  obtain ⟨bk0, off0, cap0, k00, x00, a00, m00, n00, l00, hv0, c00, c01, c02, c03, hT0⟩ := IsKids.at HK.out (k := 0) (t := x) rfl
  simp only [Value.slice.injEq] at hv0
  obtain ⟨rfl, -, rfl⟩ := hv0
  simp only [Nat.zero_mul, Nat.add_zero, Nat.one_mul, Nat.reduceMul, Nat.add_assoc, Nat.reduceAdd] at c00 c01 c02 c03
  obtain ⟨bk1, off1, cap1, k10, x10, a10, m10, n10, l10, hv1, c10, c11, c12, c13, hT1⟩ := IsKids.at HK.out (k := 1) (t := y) rfl
  simp only [Value.slice.injEq, Option.some.injEq, Addr.mk.injEq, and_true] at hv1
  obtain ⟨⟨rfl, rfl⟩, -, -⟩ := hv1
  simp only [Nat.zero_mul, Nat.add_zero, Nat.one_mul, Nat.reduceMul, Nat.add_assoc, Nat.reduceAdd] at c10 c11 c12 c13
  have hl0 := wrapP_len x hh0
  have hS0 : (⟨(wrapP x).toArray⟩ : ByteArray).size ≤ 300000100 := size_of_list _ _ (by omega)
  have HC0 := Lib.hid (fun W (hW : Below w.heap.size w W) => HBND.out x F W _ (hT0.step hW) (by omega) (by omega) hh0 he0)
  generalize (⟨(wrapP x).toArray⟩ : ByteArray) = S0 at hS0 HC0 HQ
  clear hl0 hT0
  have hl1 := wrapP_len y hh1
  have hS1 : (⟨(wrapP y).toArray⟩ : ByteArray).size ≤ 300000100 := size_of_list _ _ (by omega)
  have HC1 := Lib.hid (fun W (hW : Below w.heap.size w W) => HBND.out y F W _ (hT1.step hW) (by omega) (by omega) hh1 he1)
  generalize (⟨(wrapP y).toArray⟩ : ByteArray) = S1 at hS1 HC1 HQ
  clear hl1 hT1
  have HQ2 := Lib.hid HQ
  clear HQ he0 he1 hh0 hh1 hd hs hok HBND
  have HX0 := Lib.hid (heap_alloc_new w (.cells #[.int .i64 16, .string ⟨tx.toArray⟩, .slice (some ⟨bk0, off0, none⟩) 2 c, .int .i64 l] 26))
  have HB0 := Lib.hid (bel_new w (.cells #[.int .i64 16, .string ⟨tx.toArray⟩, .slice (some ⟨bk0, off0, none⟩) 2 c, .int .i64 l] 26))
  obtain ⟨r0, r1, r2, r3, q0, q1, q2, q3⟩ := box4 HX0.out
  go_enter Tryd.func29, Tryd.ntmps29
  go_upto_region 10 with fail
  have R1 := fun d os => cell_regrown (r0) d os
  have R2 := fun d os => cell_regrown (r1) d os
  have R3 := fun d os => cell_regrown (r2) d os
  have R4 := fun d os => cell_regrown (r3) d os
  have R5 := fun d os => cell_regrown (keep_at HB0.out c00) d os
  have R6 := fun d os => cell_regrown (keep_at HB0.out c01) d os
  have R7 := fun d os => cell_regrown (keep_at HB0.out c02) d os
  have R8 := fun d os => cell_regrown (keep_at HB0.out c03) d os
  have R9 := fun d os => cell_regrown (keep_at HB0.out c10) d os
  have R10 := fun d os => cell_regrown (keep_at HB0.out c11) d os
  have R11 := fun d os => cell_regrown (keep_at HB0.out c12) d os
  have R12 := fun d os => cell_regrown (keep_at HB0.out c13) d os
  refine wp_region_quiet_below (by kernel_rfl) (by kernel_rfl) ?_
  repeat (go_big_quiet_step (first | (go_at_call 29; (with_reducible refine Calls.regrown_of (HC0.out _ ?_)); exact HB0.out.trans ((below_regrown _ _ _).mono HB0.out.size)) | (go_at_call 29; (with_reducible refine Calls.regrown_of (HC1.out _ ?_)); exact HB0.out.trans ((below_regrown _ _ _).mono HB0.out.size))))
  clear R1 R2 R3 R4 R5 R6 R7 R8 R9 R10 R11 R12
  refine wpQuiet_nil ?_
  intro w6 hw6
  have HB6 := Lib.hid (show Below w.heap.size w w6 by obtain ⟨p, rfl⟩ := hw6; exact HB0.out.trans ((below_regrown _ p.d p.os).mono HB0.out.size))
  clear hw6
  go_wp2_with fail
  go_ret
  exact ⟨ret_str (by rw [← HQ2.out]; exact ba_of_list (by simp [ByteArray.data_append])), HB6.out⟩
set_option maxRecDepth 20000 in
set_option maxHeartbeats 2000000 in
theorem wrap_17 (n : Nat) (HC : WrapC n) (tx : List UInt8) (ks : List Tree) (l : Int) (F : Nat → Prop) (w : World) (v : Value) (ht : IsT w F (.node 17 tx ks l) v) (hd : depthT (.node 17 tx ks l) ≤ n + 1) (hs : sizeT (.node 17 tx ks l) ≤ 1000) (hsh : shortT (.node 17 tx ks l)) (hok : exprOK (.node 17 tx ks l) = true) :
    Calls Tryd.prog 29 #[v] w fun e w' => e = .returned (.string ⟨(wrapP (.node 17 tx ks l)).toArray⟩) ∧ Below w.heap.size w w' := by
  obtain ⟨kv, rfl, hks⟩ := isT_node.1 ht
  rw [depthT_node] at hd
  rw [sizeT_node] at hs
  rw [shortT_node] at hsh
  obtain ⟨htx, hshl⟩ := hsh
  obtain ⟨a, c, rfl⟩ : ∃ a c, kv = .slice a ks.length c := by
    obtain ⟨a, c, hv, _⟩ := hks
    exact ⟨a, c, hv⟩
  have HBND := Lib.hid HC
  have HK := Lib.hid hks
  have htz := size_of_list tx _ htx
  clear ht hks HC
  obtain ⟨x, y, rfl, he0, he1⟩ := expr_two hok (by decide)
  rw [shortL_cons, shortL_cons] at hshl
  obtain ⟨hh0, hh1, -⟩ := hshl
  rw [sizeL_cons, sizeL_cons, sizeL_nil] at hs
  rw [depthL_cons, depthL_cons, depthL_nil] at hd
  have hN : ([x, y] : List Tree).length = 2 := rfl
  rw [hN] at HK ⊢
  clear hN
  obtain ⟨R, hR⟩ : ∃ R, (⟨(wrapP (.node 17 tx [x, y] l)).toArray⟩ : ByteArray) = R := ⟨_, rfl⟩
  rw [hR]
  have HQ : (⟨#[40]⟩ : ByteArray) ++ (((⟨(wrapP x).toArray⟩ : ByteArray) ++ ((⟨#[43]⟩ : ByteArray) ++ (⟨(wrapP y).toArray⟩ : ByteArray))) ++ (⟨#[41]⟩ : ByteArray)) = R := by rw [← hR]; exact ba_of_list (by simp [wrapP_node, wrapL_map, asmW, inW, ByteArray.data_append])
  clear hR
  obtain ⟨bk0, off0, cap0, k00, x00, a00, m00, n00, l00, hv0, c00, c01, c02, c03, hT0⟩ := IsKids.at HK.out (k := 0) (t := x) rfl
  simp only [Value.slice.injEq] at hv0
  obtain ⟨rfl, -, rfl⟩ := hv0
  simp only [Nat.zero_mul, Nat.add_zero, Nat.one_mul, Nat.reduceMul, Nat.add_assoc, Nat.reduceAdd] at c00 c01 c02 c03
  obtain ⟨bk1, off1, cap1, k10, x10, a10, m10, n10, l10, hv1, c10, c11, c12, c13, hT1⟩ := IsKids.at HK.out (k := 1) (t := y) rfl
  simp only [Value.slice.injEq, Option.some.injEq, Addr.mk.injEq, and_true] at hv1
  obtain ⟨⟨rfl, rfl⟩, -, -⟩ := hv1
  simp only [Nat.zero_mul, Nat.add_zero, Nat.one_mul, Nat.reduceMul, Nat.add_assoc, Nat.reduceAdd] at c10 c11 c12 c13
  have hl0 := wrapP_len x hh0
  have hS0 : (⟨(wrapP x).toArray⟩ : ByteArray).size ≤ 300000100 := size_of_list _ _ (by omega)
  have HC0 := Lib.hid (fun W (hW : Below w.heap.size w W) => HBND.out x F W _ (hT0.step hW) (by omega) (by omega) hh0 he0)
  generalize (⟨(wrapP x).toArray⟩ : ByteArray) = S0 at hS0 HC0 HQ
  clear hl0 hT0
  have hl1 := wrapP_len y hh1
  have hS1 : (⟨(wrapP y).toArray⟩ : ByteArray).size ≤ 300000100 := size_of_list _ _ (by omega)
  have HC1 := Lib.hid (fun W (hW : Below w.heap.size w W) => HBND.out y F W _ (hT1.step hW) (by omega) (by omega) hh1 he1)
  generalize (⟨(wrapP y).toArray⟩ : ByteArray) = S1 at hS1 HC1 HQ
  clear hl1 hT1
  have HQ2 := Lib.hid HQ
  clear HQ he0 he1 hh0 hh1 hd hs hok HBND
  have HX0 := Lib.hid (heap_alloc_new w (.cells #[.int .i64 17, .string ⟨tx.toArray⟩, .slice (some ⟨bk0, off0, none⟩) 2 c, .int .i64 l] 26))
  have HB0 := Lib.hid (bel_new w (.cells #[.int .i64 17, .string ⟨tx.toArray⟩, .slice (some ⟨bk0, off0, none⟩) 2 c, .int .i64 l] 26))
  obtain ⟨r0, r1, r2, r3, q0, q1, q2, q3⟩ := box4 HX0.out
  go_enter Tryd.func29, Tryd.ntmps29
  go_upto_region 12 with fail
  have R1 := fun d os => cell_regrown (r0) d os
  have R2 := fun d os => cell_regrown (r1) d os
  have R3 := fun d os => cell_regrown (r2) d os
  have R4 := fun d os => cell_regrown (r3) d os
  have R5 := fun d os => cell_regrown (keep_at HB0.out c00) d os
  have R6 := fun d os => cell_regrown (keep_at HB0.out c01) d os
  have R7 := fun d os => cell_regrown (keep_at HB0.out c02) d os
  have R8 := fun d os => cell_regrown (keep_at HB0.out c03) d os
  have R9 := fun d os => cell_regrown (keep_at HB0.out c10) d os
  have R10 := fun d os => cell_regrown (keep_at HB0.out c11) d os
  have R11 := fun d os => cell_regrown (keep_at HB0.out c12) d os
  have R12 := fun d os => cell_regrown (keep_at HB0.out c13) d os
  refine wp_region_quiet_below (by kernel_rfl) (by kernel_rfl) ?_
  repeat (go_big_quiet_step (first | (go_at_call 29; (with_reducible refine Calls.regrown_of (HC0.out _ ?_)); exact HB0.out.trans ((below_regrown _ _ _).mono HB0.out.size)) | (go_at_call 29; (with_reducible refine Calls.regrown_of (HC1.out _ ?_)); exact HB0.out.trans ((below_regrown _ _ _).mono HB0.out.size))))
  clear R1 R2 R3 R4 R5 R6 R7 R8 R9 R10 R11 R12
  refine wpQuiet_nil ?_
  intro w6 hw6
  have HB6 := Lib.hid (show Below w.heap.size w w6 by obtain ⟨p, rfl⟩ := hw6; exact HB0.out.trans ((below_regrown _ p.d p.os).mono HB0.out.size))
  clear hw6
  go_wp2_with fail
  go_ret
  exact ⟨ret_str (by rw [← HQ2.out]; exact ba_of_list (by simp [ByteArray.data_append])), HB6.out⟩
set_option maxRecDepth 20000 in
set_option maxHeartbeats 2000000 in
theorem wrap_18 (n : Nat) (HC : WrapC n) (tx : List UInt8) (ks : List Tree) (l : Int) (F : Nat → Prop) (w : World) (v : Value) (ht : IsT w F (.node 18 tx ks l) v) (hd : depthT (.node 18 tx ks l) ≤ n + 1) (hs : sizeT (.node 18 tx ks l) ≤ 1000) (hsh : shortT (.node 18 tx ks l)) (hok : exprOK (.node 18 tx ks l) = true) :
    Calls Tryd.prog 29 #[v] w fun e w' => e = .returned (.string ⟨(wrapP (.node 18 tx ks l)).toArray⟩) ∧ Below w.heap.size w w' := by
  obtain ⟨kv, rfl, hks⟩ := isT_node.1 ht
  rw [depthT_node] at hd
  rw [sizeT_node] at hs
  rw [shortT_node] at hsh
  obtain ⟨htx, hshl⟩ := hsh
  obtain ⟨a, c, rfl⟩ : ∃ a c, kv = .slice a ks.length c := by
    obtain ⟨a, c, hv, _⟩ := hks
    exact ⟨a, c, hv⟩
  have HBND := Lib.hid HC
  have HK := Lib.hid hks
  have htz := size_of_list tx _ htx
  clear ht hks HC
  obtain ⟨x, y, rfl, he0, he1⟩ := expr_two hok (by decide)
  rw [shortL_cons, shortL_cons] at hshl
  obtain ⟨hh0, hh1, -⟩ := hshl
  rw [sizeL_cons, sizeL_cons, sizeL_nil] at hs
  rw [depthL_cons, depthL_cons, depthL_nil] at hd
  have hN : ([x, y] : List Tree).length = 2 := rfl
  rw [hN] at HK ⊢
  clear hN
  obtain ⟨R, hR⟩ : ∃ R, (⟨(wrapP (.node 18 tx [x, y] l)).toArray⟩ : ByteArray) = R := ⟨_, rfl⟩
  rw [hR]
  have HQ : (⟨#[40]⟩ : ByteArray) ++ (((⟨(wrapP x).toArray⟩ : ByteArray) ++ ((⟨#[45]⟩ : ByteArray) ++ (⟨(wrapP y).toArray⟩ : ByteArray))) ++ (⟨#[41]⟩ : ByteArray)) = R := by rw [← hR]; exact ba_of_list (by simp [wrapP_node, wrapL_map, asmW, inW, ByteArray.data_append])
  clear hR
  obtain ⟨bk0, off0, cap0, k00, x00, a00, m00, n00, l00, hv0, c00, c01, c02, c03, hT0⟩ := IsKids.at HK.out (k := 0) (t := x) rfl
  simp only [Value.slice.injEq] at hv0
  obtain ⟨rfl, -, rfl⟩ := hv0
  simp only [Nat.zero_mul, Nat.add_zero, Nat.one_mul, Nat.reduceMul, Nat.add_assoc, Nat.reduceAdd] at c00 c01 c02 c03
  obtain ⟨bk1, off1, cap1, k10, x10, a10, m10, n10, l10, hv1, c10, c11, c12, c13, hT1⟩ := IsKids.at HK.out (k := 1) (t := y) rfl
  simp only [Value.slice.injEq, Option.some.injEq, Addr.mk.injEq, and_true] at hv1
  obtain ⟨⟨rfl, rfl⟩, -, -⟩ := hv1
  simp only [Nat.zero_mul, Nat.add_zero, Nat.one_mul, Nat.reduceMul, Nat.add_assoc, Nat.reduceAdd] at c10 c11 c12 c13
  have hl0 := wrapP_len x hh0
  have hS0 : (⟨(wrapP x).toArray⟩ : ByteArray).size ≤ 300000100 := size_of_list _ _ (by omega)
  have HC0 := Lib.hid (fun W (hW : Below w.heap.size w W) => HBND.out x F W _ (hT0.step hW) (by omega) (by omega) hh0 he0)
  generalize (⟨(wrapP x).toArray⟩ : ByteArray) = S0 at hS0 HC0 HQ
  clear hl0 hT0
  have hl1 := wrapP_len y hh1
  have hS1 : (⟨(wrapP y).toArray⟩ : ByteArray).size ≤ 300000100 := size_of_list _ _ (by omega)
  have HC1 := Lib.hid (fun W (hW : Below w.heap.size w W) => HBND.out y F W _ (hT1.step hW) (by omega) (by omega) hh1 he1)
  generalize (⟨(wrapP y).toArray⟩ : ByteArray) = S1 at hS1 HC1 HQ
  clear hl1 hT1
  have HQ2 := Lib.hid HQ
  clear HQ he0 he1 hh0 hh1 hd hs hok HBND
  have HX0 := Lib.hid (heap_alloc_new w (.cells #[.int .i64 18, .string ⟨tx.toArray⟩, .slice (some ⟨bk0, off0, none⟩) 2 c, .int .i64 l] 26))
  have HB0 := Lib.hid (bel_new w (.cells #[.int .i64 18, .string ⟨tx.toArray⟩, .slice (some ⟨bk0, off0, none⟩) 2 c, .int .i64 l] 26))
  obtain ⟨r0, r1, r2, r3, q0, q1, q2, q3⟩ := box4 HX0.out
  go_enter Tryd.func29, Tryd.ntmps29
  go_upto_region 14 with fail
  have R1 := fun d os => cell_regrown (r0) d os
  have R2 := fun d os => cell_regrown (r1) d os
  have R3 := fun d os => cell_regrown (r2) d os
  have R4 := fun d os => cell_regrown (r3) d os
  have R5 := fun d os => cell_regrown (keep_at HB0.out c00) d os
  have R6 := fun d os => cell_regrown (keep_at HB0.out c01) d os
  have R7 := fun d os => cell_regrown (keep_at HB0.out c02) d os
  have R8 := fun d os => cell_regrown (keep_at HB0.out c03) d os
  have R9 := fun d os => cell_regrown (keep_at HB0.out c10) d os
  have R10 := fun d os => cell_regrown (keep_at HB0.out c11) d os
  have R11 := fun d os => cell_regrown (keep_at HB0.out c12) d os
  have R12 := fun d os => cell_regrown (keep_at HB0.out c13) d os
  refine wp_region_quiet_below (by kernel_rfl) (by kernel_rfl) ?_
  repeat (go_big_quiet_step (first | (go_at_call 29; (with_reducible refine Calls.regrown_of (HC0.out _ ?_)); exact HB0.out.trans ((below_regrown _ _ _).mono HB0.out.size)) | (go_at_call 29; (with_reducible refine Calls.regrown_of (HC1.out _ ?_)); exact HB0.out.trans ((below_regrown _ _ _).mono HB0.out.size))))
  clear R1 R2 R3 R4 R5 R6 R7 R8 R9 R10 R11 R12
  refine wpQuiet_nil ?_
  intro w6 hw6
  have HB6 := Lib.hid (show Below w.heap.size w w6 by obtain ⟨p, rfl⟩ := hw6; exact HB0.out.trans ((below_regrown _ p.d p.os).mono HB0.out.size))
  clear hw6
  go_wp2_with fail
  go_ret
  exact ⟨ret_str (by rw [← HQ2.out]; exact ba_of_list (by simp [ByteArray.data_append])), HB6.out⟩
set_option maxRecDepth 20000 in
set_option maxHeartbeats 2000000 in
theorem wrap_19 (n : Nat) (HC : WrapC n) (tx : List UInt8) (ks : List Tree) (l : Int) (F : Nat → Prop) (w : World) (v : Value) (ht : IsT w F (.node 19 tx ks l) v) (hd : depthT (.node 19 tx ks l) ≤ n + 1) (hs : sizeT (.node 19 tx ks l) ≤ 1000) (hsh : shortT (.node 19 tx ks l)) (hok : exprOK (.node 19 tx ks l) = true) :
    Calls Tryd.prog 29 #[v] w fun e w' => e = .returned (.string ⟨(wrapP (.node 19 tx ks l)).toArray⟩) ∧ Below w.heap.size w w' := by
  obtain ⟨kv, rfl, hks⟩ := isT_node.1 ht
  rw [depthT_node] at hd
  rw [sizeT_node] at hs
  rw [shortT_node] at hsh
  obtain ⟨htx, hshl⟩ := hsh
  obtain ⟨a, c, rfl⟩ : ∃ a c, kv = .slice a ks.length c := by
    obtain ⟨a, c, hv, _⟩ := hks
    exact ⟨a, c, hv⟩
  have HBND := Lib.hid HC
  have HK := Lib.hid hks
  have htz := size_of_list tx _ htx
  clear ht hks HC
  obtain ⟨x, y, rfl, he0, he1⟩ := expr_two hok (by decide)
  rw [shortL_cons, shortL_cons] at hshl
  obtain ⟨hh0, hh1, -⟩ := hshl
  rw [sizeL_cons, sizeL_cons, sizeL_nil] at hs
  rw [depthL_cons, depthL_cons, depthL_nil] at hd
  have hN : ([x, y] : List Tree).length = 2 := rfl
  rw [hN] at HK ⊢
  clear hN
  obtain ⟨R, hR⟩ : ∃ R, (⟨(wrapP (.node 19 tx [x, y] l)).toArray⟩ : ByteArray) = R := ⟨_, rfl⟩
  rw [hR]
  have HQ : (⟨#[40]⟩ : ByteArray) ++ (((⟨(wrapP x).toArray⟩ : ByteArray) ++ ((⟨#[42]⟩ : ByteArray) ++ (⟨(wrapP y).toArray⟩ : ByteArray))) ++ (⟨#[41]⟩ : ByteArray)) = R := by rw [← hR]; exact ba_of_list (by simp [wrapP_node, wrapL_map, asmW, inW, ByteArray.data_append])
  clear hR
  obtain ⟨bk0, off0, cap0, k00, x00, a00, m00, n00, l00, hv0, c00, c01, c02, c03, hT0⟩ := IsKids.at HK.out (k := 0) (t := x) rfl
  simp only [Value.slice.injEq] at hv0
  obtain ⟨rfl, -, rfl⟩ := hv0
  simp only [Nat.zero_mul, Nat.add_zero, Nat.one_mul, Nat.reduceMul, Nat.add_assoc, Nat.reduceAdd] at c00 c01 c02 c03
  obtain ⟨bk1, off1, cap1, k10, x10, a10, m10, n10, l10, hv1, c10, c11, c12, c13, hT1⟩ := IsKids.at HK.out (k := 1) (t := y) rfl
  simp only [Value.slice.injEq, Option.some.injEq, Addr.mk.injEq, and_true] at hv1
  obtain ⟨⟨rfl, rfl⟩, -, -⟩ := hv1
  simp only [Nat.zero_mul, Nat.add_zero, Nat.one_mul, Nat.reduceMul, Nat.add_assoc, Nat.reduceAdd] at c10 c11 c12 c13
  have hl0 := wrapP_len x hh0
  have hS0 : (⟨(wrapP x).toArray⟩ : ByteArray).size ≤ 300000100 := size_of_list _ _ (by omega)
  have HC0 := Lib.hid (fun W (hW : Below w.heap.size w W) => HBND.out x F W _ (hT0.step hW) (by omega) (by omega) hh0 he0)
  generalize (⟨(wrapP x).toArray⟩ : ByteArray) = S0 at hS0 HC0 HQ
  clear hl0 hT0
  have hl1 := wrapP_len y hh1
  have hS1 : (⟨(wrapP y).toArray⟩ : ByteArray).size ≤ 300000100 := size_of_list _ _ (by omega)
  have HC1 := Lib.hid (fun W (hW : Below w.heap.size w W) => HBND.out y F W _ (hT1.step hW) (by omega) (by omega) hh1 he1)
  generalize (⟨(wrapP y).toArray⟩ : ByteArray) = S1 at hS1 HC1 HQ
  clear hl1 hT1
  have HQ2 := Lib.hid HQ
  clear HQ he0 he1 hh0 hh1 hd hs hok HBND
  have HX0 := Lib.hid (heap_alloc_new w (.cells #[.int .i64 19, .string ⟨tx.toArray⟩, .slice (some ⟨bk0, off0, none⟩) 2 c, .int .i64 l] 26))
  have HB0 := Lib.hid (bel_new w (.cells #[.int .i64 19, .string ⟨tx.toArray⟩, .slice (some ⟨bk0, off0, none⟩) 2 c, .int .i64 l] 26))
  obtain ⟨r0, r1, r2, r3, q0, q1, q2, q3⟩ := box4 HX0.out
  go_enter Tryd.func29, Tryd.ntmps29
  go_upto_region 16 with fail
  have R1 := fun d os => cell_regrown (r0) d os
  have R2 := fun d os => cell_regrown (r1) d os
  have R3 := fun d os => cell_regrown (r2) d os
  have R4 := fun d os => cell_regrown (r3) d os
  have R5 := fun d os => cell_regrown (keep_at HB0.out c00) d os
  have R6 := fun d os => cell_regrown (keep_at HB0.out c01) d os
  have R7 := fun d os => cell_regrown (keep_at HB0.out c02) d os
  have R8 := fun d os => cell_regrown (keep_at HB0.out c03) d os
  have R9 := fun d os => cell_regrown (keep_at HB0.out c10) d os
  have R10 := fun d os => cell_regrown (keep_at HB0.out c11) d os
  have R11 := fun d os => cell_regrown (keep_at HB0.out c12) d os
  have R12 := fun d os => cell_regrown (keep_at HB0.out c13) d os
  refine wp_region_quiet_below (by kernel_rfl) (by kernel_rfl) ?_
  repeat (go_big_quiet_step (first | (go_at_call 29; (with_reducible refine Calls.regrown_of (HC0.out _ ?_)); exact HB0.out.trans ((below_regrown _ _ _).mono HB0.out.size)) | (go_at_call 29; (with_reducible refine Calls.regrown_of (HC1.out _ ?_)); exact HB0.out.trans ((below_regrown _ _ _).mono HB0.out.size))))
  clear R1 R2 R3 R4 R5 R6 R7 R8 R9 R10 R11 R12
  refine wpQuiet_nil ?_
  intro w6 hw6
  have HB6 := Lib.hid (show Below w.heap.size w w6 by obtain ⟨p, rfl⟩ := hw6; exact HB0.out.trans ((below_regrown _ p.d p.os).mono HB0.out.size))
  clear hw6
  go_wp2_with fail
  go_ret
  exact ⟨ret_str (by rw [← HQ2.out]; exact ba_of_list (by simp [ByteArray.data_append])), HB6.out⟩
set_option maxRecDepth 20000 in
set_option maxHeartbeats 2000000 in
theorem wrap_15 (n : Nat) (HC : WrapC n) (tx : List UInt8) (ks : List Tree) (l : Int) (F : Nat → Prop) (w : World) (v : Value) (ht : IsT w F (.node 15 tx ks l) v) (hd : depthT (.node 15 tx ks l) ≤ n + 1) (hs : sizeT (.node 15 tx ks l) ≤ 1000) (hsh : shortT (.node 15 tx ks l)) (hok : exprOK (.node 15 tx ks l) = true) :
    Calls Tryd.prog 29 #[v] w fun e w' => e = .returned (.string ⟨(wrapP (.node 15 tx ks l)).toArray⟩) ∧ Below w.heap.size w w' := by
  obtain ⟨kv, rfl, hks⟩ := isT_node.1 ht
  rw [depthT_node] at hd
  rw [sizeT_node] at hs
  rw [shortT_node] at hsh
  obtain ⟨htx, hshl⟩ := hsh
  obtain ⟨a, c, rfl⟩ : ∃ a c, kv = .slice a ks.length c := by
    obtain ⟨a, c, hv, _⟩ := hks
    exact ⟨a, c, hv⟩
  have HBND := Lib.hid HC
  have HK := Lib.hid hks
  have htz := size_of_list tx _ htx
  clear ht hks HC
  obtain ⟨x, rfl, he0⟩ := expr_one hok
  rw [shortL_cons] at hshl
  obtain ⟨hh0, -⟩ := hshl
  rw [sizeL_cons, sizeL_nil] at hs
  rw [depthL_cons, depthL_nil] at hd
  have hN : ([x] : List Tree).length = 1 := rfl
  rw [hN] at HK ⊢
  clear hN
  obtain ⟨R, hR⟩ : ∃ R, (⟨(wrapP (.node 15 tx [x] l)).toArray⟩ : ByteArray) = R := ⟨_, rfl⟩
  rw [hR]
  have HQ : (⟨#[40]⟩ : ByteArray) ++ (((⟨#[110, 111, 116]⟩ : ByteArray) ++ (⟨(wrapP x).toArray⟩ : ByteArray)) ++ (⟨#[41]⟩ : ByteArray)) = R := by rw [← hR]; exact ba_of_list (by simp [wrapP_node, wrapL_map, asmW, inW, ByteArray.data_append])
  clear hR
  obtain ⟨bk0, off0, cap0, k00, x00, a00, m00, n00, l00, hv0, c00, c01, c02, c03, hT0⟩ := IsKids.at HK.out (k := 0) (t := x) rfl
  simp only [Value.slice.injEq] at hv0
  obtain ⟨rfl, -, rfl⟩ := hv0
  simp only [Nat.zero_mul, Nat.add_zero, Nat.one_mul, Nat.reduceMul, Nat.add_assoc, Nat.reduceAdd] at c00 c01 c02 c03
  have hl0 := wrapP_len x hh0
  have hS0 : (⟨(wrapP x).toArray⟩ : ByteArray).size ≤ 300000100 := size_of_list _ _ (by omega)
  have HC0 := Lib.hid (fun W (hW : Below w.heap.size w W) => HBND.out x F W _ (hT0.step hW) (by omega) (by omega) hh0 he0)
  generalize (⟨(wrapP x).toArray⟩ : ByteArray) = S0 at hS0 HC0 HQ
  clear hl0 hT0
  have HQ2 := Lib.hid HQ
  clear HQ he0 hh0 hd hs hok HBND
  have HX0 := Lib.hid (heap_alloc_new w (.cells #[.int .i64 15, .string ⟨tx.toArray⟩, .slice (some ⟨bk0, off0, none⟩) 1 c, .int .i64 l] 26))
  have HB0 := Lib.hid (bel_new w (.cells #[.int .i64 15, .string ⟨tx.toArray⟩, .slice (some ⟨bk0, off0, none⟩) 1 c, .int .i64 l] 26))
  obtain ⟨r0, r1, r2, r3, q0, q1, q2, q3⟩ := box4 HX0.out
  have d00 := keep_at HB0.out c00
  have d01 := keep_at HB0.out c01
  have d02 := keep_at HB0.out c02
  have d03 := keep_at HB0.out c03
  go_enter Tryd.func29, Tryd.ntmps29
  go_wp2_with (first | (go_at_call 29; (with_reducible refine (HC0.out _ HB0.out).mono ?_); rintro e w2 ⟨rfl, hb⟩; have HB2 := Lib.hid (HB0.out.trans (hb.mono HB0.out.size)); clear hb))
  go_ret
  exact ⟨ret_str (by rw [← HQ2.out]; exact ba_of_list (by simp [ByteArray.data_append])), HB2.out⟩
set_option maxRecDepth 20000 in
set_option maxHeartbeats 2000000 in
theorem wrap_20 (n : Nat) (HC : WrapC n) (tx : List UInt8) (ks : List Tree) (l : Int) (F : Nat → Prop) (w : World) (v : Value) (ht : IsT w F (.node 20 tx ks l) v) (hd : depthT (.node 20 tx ks l) ≤ n + 1) (hs : sizeT (.node 20 tx ks l) ≤ 1000) (hsh : shortT (.node 20 tx ks l)) (hok : exprOK (.node 20 tx ks l) = true) :
    Calls Tryd.prog 29 #[v] w fun e w' => e = .returned (.string ⟨(wrapP (.node 20 tx ks l)).toArray⟩) ∧ Below w.heap.size w w' := by
  obtain ⟨kv, rfl, hks⟩ := isT_node.1 ht
  rw [depthT_node] at hd
  rw [sizeT_node] at hs
  rw [shortT_node] at hsh
  obtain ⟨htx, hshl⟩ := hsh
  obtain ⟨a, c, rfl⟩ : ∃ a c, kv = .slice a ks.length c := by
    obtain ⟨a, c, hv, _⟩ := hks
    exact ⟨a, c, hv⟩
  have HBND := Lib.hid HC
  have HK := Lib.hid hks
  have htz := size_of_list tx _ htx
  clear ht hks HC
  have HQ2 := Lib.hid (show (⟨#[40]⟩ : ByteArray) ++ (((⟨tx.toArray⟩ : ByteArray)) ++ (⟨#[41]⟩ : ByteArray)) = (⟨(wrapP (.node 20 tx ks l)).toArray⟩ : ByteArray) from ba_of_list (by simp [wrapP_node, wrapL_map, asmW, inW, ByteArray.data_append]))
  generalize (⟨(wrapP (.node 20 tx ks l)).toArray⟩ : ByteArray) = R at *
  generalize ks.length = N at *
  clear hd hs hok hshl HBND HK
  have HX0 := Lib.hid (heap_alloc_new w (.cells #[.int .i64 20, .string ⟨tx.toArray⟩, .slice a N c, .int .i64 l] 26))
  have HB0 := Lib.hid (bel_new w (.cells #[.int .i64 20, .string ⟨tx.toArray⟩, .slice a N c, .int .i64 l] 26))
  obtain ⟨r0, r1, r2, r3, q0, q1, q2, q3⟩ := box4 HX0.out
  go_enter Tryd.func29, Tryd.ntmps29
  go_wp2_with fail
  go_ret
  exact ⟨ret_str (by rw [← HQ2.out]; exact ba_of_list (by simp [ByteArray.data_append])), HB0.out⟩
set_option maxRecDepth 20000 in
set_option maxHeartbeats 2000000 in
theorem wrap_21 (n : Nat) (HC : WrapC n) (tx : List UInt8) (ks : List Tree) (l : Int) (F : Nat → Prop) (w : World) (v : Value) (ht : IsT w F (.node 21 tx ks l) v) (hd : depthT (.node 21 tx ks l) ≤ n + 1) (hs : sizeT (.node 21 tx ks l) ≤ 1000) (hsh : shortT (.node 21 tx ks l)) (hok : exprOK (.node 21 tx ks l) = true) :
    Calls Tryd.prog 29 #[v] w fun e w' => e = .returned (.string ⟨(wrapP (.node 21 tx ks l)).toArray⟩) ∧ Below w.heap.size w w' := by
  obtain ⟨kv, rfl, hks⟩ := isT_node.1 ht
  rw [depthT_node] at hd
  rw [sizeT_node] at hs
  rw [shortT_node] at hsh
  obtain ⟨htx, hshl⟩ := hsh
  obtain ⟨a, c, rfl⟩ : ∃ a c, kv = .slice a ks.length c := by
    obtain ⟨a, c, hv, _⟩ := hks
    exact ⟨a, c, hv⟩
  have HBND := Lib.hid HC
  have HK := Lib.hid hks
  have htz := size_of_list tx _ htx
  clear ht hks HC
  have HCQ := Lib.hid (fun W => fquote_any ⟨tx.toArray⟩ W htz)
  rw [show (⟨tx.toArray⟩ : ByteArray).data.toList = tx by simp] at HCQ
  have HQ2 := Lib.hid (show (⟨#[40]⟩ : ByteArray) ++ (((⟨(quoL tx).toArray⟩ : ByteArray)) ++ (⟨#[41]⟩ : ByteArray)) = (⟨(wrapP (.node 21 tx ks l)).toArray⟩ : ByteArray) from ba_of_list (by simp [wrapP_node, wrapL_map, asmW, inW, ByteArray.data_append]))
  generalize (⟨(wrapP (.node 21 tx ks l)).toArray⟩ : ByteArray) = R at *
  generalize ks.length = N at *
  clear hd hs hok hshl HBND HK
  have hqz : (⟨(quoL tx).toArray⟩ : ByteArray).size ≤ 200100 := size_of_list _ _ (by have := quoL_len tx; omega)
  generalize (⟨(quoL tx).toArray⟩ : ByteArray) = S at *
  have HX0 := Lib.hid (heap_alloc_new w (.cells #[.int .i64 21, .string ⟨tx.toArray⟩, .slice a N c, .int .i64 l] 26))
  have HB0 := Lib.hid (bel_new w (.cells #[.int .i64 21, .string ⟨tx.toArray⟩, .slice a N c, .int .i64 l] 26))
  obtain ⟨r0, r1, r2, r3, q0, q1, q2, q3⟩ := box4 HX0.out
  go_enter Tryd.func29, Tryd.ntmps29
  go_wp2_with (first | (go_at_call 31; (with_reducible refine (HCQ.out _).mono ?_); rintro e w2 ⟨rfl, hb⟩; have HB2 := Lib.hid (HB0.out.trans (hb.mono HB0.out.size)); clear hb))
  go_ret
  exact ⟨ret_str (by rw [← HQ2.out]; exact ba_of_list (by simp [ByteArray.data_append])), HB2.out⟩
set_option maxRecDepth 20000 in
set_option maxHeartbeats 2000000 in
theorem wrap_22 (n : Nat) (HC : WrapC n) (tx : List UInt8) (ks : List Tree) (l : Int) (F : Nat → Prop) (w : World) (v : Value) (ht : IsT w F (.node 22 tx ks l) v) (hd : depthT (.node 22 tx ks l) ≤ n + 1) (hs : sizeT (.node 22 tx ks l) ≤ 1000) (hsh : shortT (.node 22 tx ks l)) (hok : exprOK (.node 22 tx ks l) = true) :
    Calls Tryd.prog 29 #[v] w fun e w' => e = .returned (.string ⟨(wrapP (.node 22 tx ks l)).toArray⟩) ∧ Below w.heap.size w w' := by
  obtain ⟨kv, rfl, hks⟩ := isT_node.1 ht
  rw [depthT_node] at hd
  rw [sizeT_node] at hs
  rw [shortT_node] at hsh
  obtain ⟨htx, hshl⟩ := hsh
  obtain ⟨a, c, rfl⟩ : ∃ a c, kv = .slice a ks.length c := by
    obtain ⟨a, c, hv, _⟩ := hks
    exact ⟨a, c, hv⟩
  have HBND := Lib.hid HC
  have HK := Lib.hid hks
  have htz := size_of_list tx _ htx
  clear ht hks HC
  have HQ2 := Lib.hid (show (⟨#[40]⟩ : ByteArray) ++ (((⟨tx.toArray⟩ : ByteArray)) ++ (⟨#[41]⟩ : ByteArray)) = (⟨(wrapP (.node 22 tx ks l)).toArray⟩ : ByteArray) from ba_of_list (by simp [wrapP_node, wrapL_map, asmW, inW, ByteArray.data_append]))
  generalize (⟨(wrapP (.node 22 tx ks l)).toArray⟩ : ByteArray) = R at *
  generalize ks.length = N at *
  clear hd hs hok hshl HBND HK
  have HX0 := Lib.hid (heap_alloc_new w (.cells #[.int .i64 22, .string ⟨tx.toArray⟩, .slice a N c, .int .i64 l] 26))
  have HB0 := Lib.hid (bel_new w (.cells #[.int .i64 22, .string ⟨tx.toArray⟩, .slice a N c, .int .i64 l] 26))
  obtain ⟨r0, r1, r2, r3, q0, q1, q2, q3⟩ := box4 HX0.out
  go_enter Tryd.func29, Tryd.ntmps29
  go_wp2_with fail
  go_ret
  exact ⟨ret_str (by rw [← HQ2.out]; exact ba_of_list (by simp [ByteArray.data_append])), HB0.out⟩
set_option maxRecDepth 20000 in
set_option maxHeartbeats 2000000 in
theorem wrap_23 (n : Nat) (HC : WrapC n) (tx : List UInt8) (ks : List Tree) (l : Int) (F : Nat → Prop) (w : World) (v : Value) (ht : IsT w F (.node 23 tx ks l) v) (hd : depthT (.node 23 tx ks l) ≤ n + 1) (hs : sizeT (.node 23 tx ks l) ≤ 1000) (hsh : shortT (.node 23 tx ks l)) (hok : exprOK (.node 23 tx ks l) = true) :
    Calls Tryd.prog 29 #[v] w fun e w' => e = .returned (.string ⟨(wrapP (.node 23 tx ks l)).toArray⟩) ∧ Below w.heap.size w w' := by
  obtain ⟨kv, rfl, hks⟩ := isT_node.1 ht
  rw [depthT_node] at hd
  rw [sizeT_node] at hs
  rw [shortT_node] at hsh
  obtain ⟨htx, hshl⟩ := hsh
  obtain ⟨a, c, rfl⟩ : ∃ a c, kv = .slice a ks.length c := by
    obtain ⟨a, c, hv, _⟩ := hks
    exact ⟨a, c, hv⟩
  have HBND := Lib.hid HC
  have HK := Lib.hid hks
  have htz := size_of_list tx _ htx
  clear ht hks HC
  have HQ2 := Lib.hid (show (⟨#[40]⟩ : ByteArray) ++ (((⟨tx.toArray⟩ : ByteArray)) ++ (⟨#[41]⟩ : ByteArray)) = (⟨(wrapP (.node 23 tx ks l)).toArray⟩ : ByteArray) from ba_of_list (by simp [wrapP_node, wrapL_map, asmW, inW, ByteArray.data_append]))
  generalize (⟨(wrapP (.node 23 tx ks l)).toArray⟩ : ByteArray) = R at *
  generalize ks.length = N at *
  clear hd hs hok hshl HBND HK
  have HX0 := Lib.hid (heap_alloc_new w (.cells #[.int .i64 23, .string ⟨tx.toArray⟩, .slice a N c, .int .i64 l] 26))
  have HB0 := Lib.hid (bel_new w (.cells #[.int .i64 23, .string ⟨tx.toArray⟩, .slice a N c, .int .i64 l] 26))
  obtain ⟨r0, r1, r2, r3, q0, q1, q2, q3⟩ := box4 HX0.out
  go_enter Tryd.func29, Tryd.ntmps29
  go_wp2_with fail
  go_ret
  exact ⟨ret_str (by rw [← HQ2.out]; exact ba_of_list (by simp [ByteArray.data_append])), HB0.out⟩
set_option maxRecDepth 20000 in
set_option maxHeartbeats 2000000 in
theorem wrap_24 (n : Nat) (HC : WrapC n) (tx : List UInt8) (ks : List Tree) (l : Int) (F : Nat → Prop) (w : World) (v : Value) (ht : IsT w F (.node 24 tx ks l) v) (hd : depthT (.node 24 tx ks l) ≤ n + 1) (hs : sizeT (.node 24 tx ks l) ≤ 1000) (hsh : shortT (.node 24 tx ks l)) (hok : exprOK (.node 24 tx ks l) = true) :
    Calls Tryd.prog 29 #[v] w fun e w' => e = .returned (.string ⟨(wrapP (.node 24 tx ks l)).toArray⟩) ∧ Below w.heap.size w w' := by
  obtain ⟨kv, rfl, hks⟩ := isT_node.1 ht
  rw [depthT_node] at hd
  rw [sizeT_node] at hs
  rw [shortT_node] at hsh
  obtain ⟨htx, hshl⟩ := hsh
  obtain ⟨a, c, rfl⟩ : ∃ a c, kv = .slice a ks.length c := by
    obtain ⟨a, c, hv, _⟩ := hks
    exact ⟨a, c, hv⟩
  have HBND := Lib.hid HC
  have HK := Lib.hid hks
  have htz := size_of_list tx _ htx
  clear ht hks HC
  have hkids := expr_kids hok
  have hl : ks.length ≤ 1000 := by have := len_le_size ks; omega
  have HKI := Lib.hid hkids
  have HSH := Lib.hid hshl
  have HD := Lib.hid hd
  have HSZ := Lib.hid hs
  have hJ : ∀ q, (joinG [44] ((ks.take q).map wrapP)).length ≤ 300000000 := by
    intro q
    have h1 := wrap_takelen (ks.take q) (short_take hshl q)
    have h2 := sizeL_take_le ks q
    have h3 := joinG_len [44] (by decide) ((ks.take q).map wrapP) (300000 * sizeL (ks.take q)) (by rw [List.map_map]; refine Nat.le_trans ?_ h1; exact sum_mono _ _ _ (fun t => by simp only [Function.comp]; omega))
    omega
  have HJ := Lib.hid hJ
  obtain ⟨R, hR⟩ : ∃ R, (⟨(wrapP (.node 24 tx ks l)).toArray⟩ : ByteArray) = R := ⟨_, rfl⟩
  rw [hR]
  have HQ := Lib.hid (show (⟨#[40]⟩ : ByteArray) ++ (((⟨tx.toArray⟩ : ByteArray) ++ (⟨#[40]⟩ ++ ((⟨(joinG [44] ((ks).map wrapP)).toArray⟩ : ByteArray) ++ ⟨#[41]⟩))) ++ (⟨#[41]⟩ : ByteArray)) = R by rw [← hR]; exact ba_of_list (by simp [wrapP_node, wrapL_map, asmW, inW, ByteArray.data_append]))
  clear hR hkids hok hshl hd hs hJ
  have HX0 := Lib.hid (heap_alloc_new w (.cells #[.int .i64 24, .string ⟨tx.toArray⟩, .slice a ks.length c, .int .i64 l] 26))
  have HB0 := Lib.hid (bel_new w (.cells #[.int .i64 24, .string ⟨tx.toArray⟩, .slice a ks.length c, .int .i64 l] 26))
  obtain ⟨r0, r1, r2, r3, q0, q1, q2, q3⟩ := box4 HX0.out
  go_enter Tryd.func29, Tryd.ntmps29
  go_wp2_with fail
  go_loopw [3, 117] (fun x i wr => ∃ q : Nat, ∃ X : ByteArray, i = .int .i64 q ∧ q ≤ ks.length ∧ x = .string X ∧ X = ⟨(tx ++ (40 :: joinG [44] ((ks.take q).map wrapP))).toArray⟩ ∧ Below w.heap.size w wr ∧ wr.heap[w.heap.size]? = some (.cells #[.int .i64 24, .string ⟨tx.toArray⟩, .slice a ks.length c, .int .i64 l] 26 (0, 0))) (fun _ i _ => ks.length - (intOf i).toNat)
  case atStart => exact ⟨0, _, rfl, Nat.zero_le _, rfl, ba_of_list (by simp [ByteArray.data_append, joinG]), HB0.out, HX0.out⟩
  case round =>
    obtain ⟨q, X, rfl, hq, rfl, hX, hb, hx⟩ := hrel
    have hXs : X.size ≤ 300200000 := by rw [hX]; exact size_of_list _ _ (by have := HJ.out q; simp only [List.length_append, List.length_cons]; omega)
    have HB := Lib.hid hb
    have HX := Lib.hid hx
    have HXX := Lib.hid hX
    clear hb hx hX
    obtain ⟨d0, d1, d2, d3, y0, y1, y2, y3⟩ := box4 HX.out
    by_cases hlt : q < ks.length
    · obtain ⟨t', ht'⟩ : ∃ t', ks[q]? = some t' := ⟨_, List.getElem?_eq_getElem hlt⟩
      obtain ⟨b, off, cap, k0, x0, a0, m0, n0, l0, hv, c0, c1, c2, c3, hT⟩ := IsKids.at (HK.out.step HB.out) ht'
      simp only [Value.slice.injEq] at hv
      obtain ⟨rfl, -, rfl⟩ := hv
      have h3 := depthT_at ht'
      have h4 := sizeT_at ht'
      have h5 := shortT_at HSH.out ht'
      have h6 := exprOK_at HKI.out ht'
      have h7 := wrapP_len t' h5
      have HT := Lib.hid hT
      have HTK := Lib.hid (join_take [44] wrapP ht')
      have HCC := Lib.hid (fun W (hW : IsT W F t' (.agg #[.int .i64 k0, .string ⟨x0.toArray⟩, .slice a0 m0 n0, .int .i64 l0])) => HBND.out t' F W _ hW (by have := HD.out; omega) (by have := HSZ.out; omega) h5 h6)
      obtain ⟨S, hS⟩ : ∃ S : ByteArray, S = ⟨(wrapP t').toArray⟩ := ⟨_, rfl⟩
      have hSs : S.size ≤ 300000000 := by rw [hS]; exact size_of_list _ _ (by have := HSZ.out; omega)
      rw [← hS] at HCC
      have HS := Lib.hid hS
      have hlti : (q : Int) < (ks.length : Int) := by omega
      clear h3 h4 h5 h6 h7 hT ht' hS
      by_cases hq0 : q = 0
      · subst hq0
        simp only [Nat.zero_mul, Nat.add_zero] at c0 c1 c2 c3
        go_wp2_with (first | (go_at_call 29; (with_reducible refine (HCC.out _ (HT.out.step (bel_new _ _))).mono ?_); rintro e w2 ⟨rfl, hb1⟩; have HB2 := Lib.hid ((bel_new wr (.cells #[.int .i64 k0, .string ⟨x0.toArray⟩, .slice a0 m0 n0, .int .i64 l0] 26)).trans (hb1.mono (by simp))); clear hb1))
        go_roundw
        case rel => exact ⟨1, _, by go_num, by omega, rfl, by rw [HTK.out, if_pos trivial, HXX.out, HS.out]; exact ba_of_list (by simp [ByteArray.data_append, joinG]), HB.out.trans (HB2.out.mono HB.out.size), keep_blk HB2.out HX.out⟩
        case measure => simp [intOf]; omega
      · have hqi : (0 : Int) < (q : Int) := by omega
        go_wp2_with (first | (go_at_call 29; (with_reducible refine (HCC.out _ (HT.out.step (bel_new _ _))).mono ?_); rintro e w2 ⟨rfl, hb1⟩; have HB2 := Lib.hid ((bel_new wr (.cells #[.int .i64 k0, .string ⟨x0.toArray⟩, .slice a0 m0 n0, .int .i64 l0] 26)).trans (hb1.mono (by simp))); clear hb1))
        go_roundw
        case rel => exact ⟨q + 1, _, by go_num, by omega, rfl, by rw [HTK.out, if_neg hq0, HXX.out, HS.out]; exact ba_of_list (by simp [ByteArray.data_append]), HB.out.trans (HB2.out.mono HB.out.size), keep_blk HB2.out HX.out⟩
        case measure => simp [intOf]; omega
    · have hq2 : q = ks.length := by omega
      subst hq2
      rw [List.take_length] at HXX
      go_wp2_with fail
      go_ret
      exact ⟨ret_str (by rw [← HQ.out, HXX.out]; exact ba_of_list (by simp [ByteArray.data_append])), HB.out⟩
theorem wrap_ok (n : Nat) (HC : WrapC n) : WrapC (n + 1) := by
  intro t F w v ht hd hs hsh hok
  obtain ⟨k, tx, ks, l⟩ := t
  have HB := HC
  have hk : k = 13 ∨ k = 14 ∨ k = 15 ∨ k = 16 ∨ k = 17 ∨ k = 18 ∨ k = 19 ∨ k = 20 ∨ k = 21 ∨ k = 22 ∨ k = 23 ∨ k = 24 := by
    by_cases h : k = 13 ∨ k = 14 ∨ k = 15 ∨ k = 16 ∨ k = 17 ∨ k = 18 ∨ k = 19 ∨ k = 20 ∨ k = 21 ∨ k = 22 ∨ k = 23 ∨ k = 24
    · exact h
    · simp only [not_or] at h
      obtain ⟨h13, h14, h15, h16, h17, h18, h19, h20, h21, h22, h23, h24⟩ := h
      rw [exprOK_node] at hok
      have e : operandsP k tx = -2 := by simp [operandsP, h13, h14, h15, h16, h17, h18, h19, h20, h21, h22, h23, h24]
      rw [e] at hok
      simp [arOK] at hok
  rcases hk with rfl | rfl | rfl | rfl | rfl | rfl | rfl | rfl | rfl | rfl | rfl | rfl
  · exact wrap_13 n HB tx ks l F w v ht hd hs hsh hok
  · exact wrap_14 n HB tx ks l F w v ht hd hs hsh hok
  · exact wrap_15 n HB tx ks l F w v ht hd hs hsh hok
  · exact wrap_16 n HB tx ks l F w v ht hd hs hsh hok
  · exact wrap_17 n HB tx ks l F w v ht hd hs hsh hok
  · exact wrap_18 n HB tx ks l F w v ht hd hs hsh hok
  · exact wrap_19 n HB tx ks l F w v ht hd hs hsh hok
  · exact wrap_20 n HB tx ks l F w v ht hd hs hsh hok
  · exact wrap_21 n HB tx ks l F w v ht hd hs hsh hok
  · exact wrap_22 n HB tx ks l F w v ht hd hs hsh hok
  · exact wrap_23 n HB tx ks l F w v ht hd hs hsh hok
  · exact wrap_24 n HC tx ks l F w v ht hd hs hsh hok
theorem wrap_all : ∀ n, WrapC n
  | 0 => fun t F w v ht hd hs hsh hok => by have := depth_pos t; omega
  | n + 1 => wrap_ok n (wrap_all n)
theorem wrapped_any (t : Tree) (F : Nat → Prop) (w : World) (v : Value) (ht : IsT w F t v) (hs : sizeT t ≤ 1000) (hsh : shortT t) (hok : exprOK t = true) :
    Calls Tryd.prog 29 #[v] w fun e w' => e = .returned (.string ⟨(wrapP t).toArray⟩) ∧ Below w.heap.size w w' := wrap_all _ t F w v ht (Nat.le_refl _) hs hsh hok
end Go.Proofs.YtogkiifljdnjgaaDoor
