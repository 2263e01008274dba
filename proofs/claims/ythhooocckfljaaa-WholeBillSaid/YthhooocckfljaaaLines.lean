/- invoice's Bill at a tariff of one tier and of unit 1: the lines are those of the tenants that have hits. -/
import Derived.Test.YthhooocckfljaaaCharge
import Derived.Test.YthhooocckfljaaaTotal
namespace Go.Proofs.Ythhooocckfljaaa
open Go.RowKit Go.Maps Go.Shelf
set_option linter.unusedVariables false
set_option linter.unusedSimpArgs false

/-- A line of a bill. -/
structure Lin where
  ten : Nat
  hits : Nat
  bytes : Nat
  cents : Nat
def lcells (l : Lin) : List Value := [.int .i64 l.ten, .int .i64 l.hits, .int .i64 l.bytes, .int .i64 l.cents]
def OwnL (w : World) (base : Nat) (v : Value) (ls : List Lin) : Prop := w.ownsRow base 70 4 v ls.length (ls.flatMap lcells)
theorem OwnL.nil (w : World) (base : Nat) : OwnL w base (.slice none 0 0) [] := World.ownsRow_nil _ _ _ _
theorem OwnL.step {w w' : World} {base : Nat} {v : Value} {ls : List Lin} (h : OwnL w base v ls) (hb : Below w.heap.size w w') : OwnL w' base v ls := by
  refine World.ownsRow.kept (row := none) h ⟨hb.os, hb.tape, hb.output, hb.size, fun k hk _ => hb.block k hk⟩ ?_
  cases v.ownBlock with
  | none => exact .inl rfl
  | some g => exact .inr (by simp)
theorem OwnL.mono {w : World} {base B : Nat} {v : Value} {ls : List Lin} (h : OwnL w base v ls) (hB : B ≤ base) : OwnL w B v ls := by
  obtain ⟨h0, h1⟩ := h
  refine ⟨h0, ?_⟩
  rcases h1 with h1 | ⟨g, cap, cur, h2, h3, h4⟩
  · exact .inl h1
  · exact .inr ⟨g, cap, cur, h2, Nat.le_trans hB h3, h4⟩
theorem OwnL.shape {w : World} {base : Nat} {v : Value} {ls : List Lin} (h : OwnL w base v ls) : ∃ a c, v = .slice a ls.length c := by
  rcases h.2 with ⟨rfl, hn⟩ | ⟨g, cap, cur, rfl, _⟩
  · exact ⟨none, 0, by rw [hn]⟩
  · exact ⟨_, cap, rfl⟩
theorem flat4 : ∀ (ls : List Lin) (k : Nat) (l : Lin), ls[k]? = some l → ∀ i, i < 4 → (ls.flatMap lcells)[k * 4 + i]? = (lcells l)[i]? := by
  intro ls
  induction ls with
  | nil => intro k l hk; simp at hk
  | cons q ls ih =>
    intro k l hk i hi
    rw [List.flatMap_cons]
    cases k with
    | zero =>
      simp at hk
      subst hk
      rw [List.getElem?_append_left (by simp [lcells]; omega)]
      simp
    | succ k =>
      have hl4 : (lcells q).length = 4 := rfl
      rw [List.getElem?_append_right (by rw [hl4]; omega), hl4, show (k + 1) * 4 + i - 4 = k * 4 + i by omega]
      exact ih k l (by simpa using hk) i hi
theorem OwnL.cells {w : World} {base g c : Nat} {ls : List Lin} (h : OwnL w base (.slice (some ⟨g, 0, none⟩) ls.length c) ls) (k : Nat) (l : Lin) (hk : ls[k]? = some l) (i : Nat) (hi : i < 4) : w.cell? ⟨g, k * 4 + i, none⟩ = (lcells l)[i]? := by
  have hlt : k < ls.length := (List.getElem?_eq_some_iff.1 hk).1
  rw [World.ownsRow.cellAt h (k * 4 + i) (by omega)]
  exact flat4 ls k l hk i hi
theorem info70 : (Try.prog.info? 70).map (fun i => (i.zero, i.size, i.bytes)) = some (some (.agg #[.int .i64 0, .int .i64 0, .int .i64 0, .int .i64 0]), 4, 32) := by kernel_rfl
theorem lcells_one (l : Lin) : ∀ u ∈ lcells l, u.oneCell' = true := by
  intro u hu
  simp only [lcells, List.mem_cons, List.not_mem_nil, or_false] at hu
  rcases hu with rfl | rfl | rfl | rfl <;> rfl
/-- append of one line to lines of the call's own. -/
theorem wpList_appL {ops : Array Oper} {rest : List Oper} {o : Oper} {a : Act} {Q : Exit → Act → World → Prop} {w : World} (hgd : o.guard = none) (s x : Operand)
    (ho : o.op = .call { callee := .builtin .append, args := #[s, x], argTypes := #[63, 63] })
    (base : Nat) (v : Value) (ls : List Lin) (hs : a.eval s = v) (hown : OwnL w base v ls) (g : Nat) (l : Lin) (hx : a.eval x = .slice (some ⟨g, 0, none⟩) 1 1)
    (hcells : ∀ j u, (lcells l)[j]? = some u → w.cell? ⟨g, j, none⟩ = some u)
    (hb : ls.length ≤ 3000000) (hbase : base ≤ w.heap.size)
    (h : ∀ v' w', OwnL w' base v' (ls ++ [l]) → Below base w w' → wpList Try.prog ops Q rest (a.put o.dst v') w') : wpList Try.prog ops Q (o :: rest) a w := by
  obtain ⟨i0, hi, hz0, hz1, hz2⟩ := info_parts info70
  refine wpList_append_own _ hgd s x 63 ho base 70 i0 _ 4 32 Try.underlying63 hi hz0 hz1 hz2 rfl (by decide) v ls.length (ls.flatMap lcells) hs hown ⟨g, 0, none⟩ 1 1 (lcells l) hx rfl ?_ (lcells_one l)
    (by unfold maxLen; omega) (by omega) hbase ?_
  · intro j u hj
    have := hcells j u hj
    by_cases h0 : j = 0
    · subst h0; simpa [Addr.add] using this
    · simpa [Addr.add, h0] using this
  · intro v' w' hown' hgrow hnil
    refine h v' w' ?_ ((Below.refl base w).grown hgrow hbase fun k hk => (World.ownsRow.lt hown k hk).1)
    unfold OwnL
    rw [List.length_append, List.flatMap_append]
    simpa using hown'
theorem lin_cells (w : World) (l : Lin) : ∀ j u, (lcells l)[j]? = some u → (w.alloc (.cells (lcells l).toArray 70)).cell? ⟨w.heap.size, j, none⟩ = some u := by
  intro j u hj
  rw [cell_of_row _ _ _ _ _ _ (heap_alloc_new w _)]
  simpa using hj
/-- The lines of the first k tenants. -/
def linesP (H Y : Nat → Nat) (pr hit : Nat) : Nat → List Lin
  | 0 => []
  | k + 1 => linesP H Y pr hit k ++ if H k = 0 then [] else [⟨k, H k, Y k, upP (hit * H k + pr * Y k) 1000000⟩]
def sumL : List Lin → Nat
  | [] => 0
  | l :: ls => l.cents + sumL ls
theorem sumL_app : ∀ ls ms, sumL (ls ++ ms) = sumL ls + sumL ms
  | [], ms => by simp [sumL]
  | l :: ls, ms => by simp only [List.cons_append, sumL, sumL_app ls ms]; omega
theorem upP_le (n : Nat) (h : n < 1000000000000000000) : upP n 1000000 ≤ 1000000000001 := by
  unfold upP
  split <;> omega
theorem linesP_bd (H Y : Nat → Nat) (pr hit : Nat) (hb : ∀ t, t < 16 → hit * H t + pr * Y t < 1000000000000000000) : ∀ k, k ≤ 16 → (linesP H Y pr hit k).length ≤ k ∧ sumL (linesP H Y pr hit k) ≤ 1000000000001 * k
  | 0, _ => ⟨Nat.le_refl _, Nat.le_refl _⟩
  | k + 1, hk => by
    have ih := linesP_bd H Y pr hit hb k (by omega)
    have hu := upP_le _ (hb k (by omega))
    rw [linesP, List.length_append, sumL_app]
    split
    · simp only [List.length_nil, sumL]; omega
    · simp only [List.length_cons, List.length_nil, sumL]; omega
set_option maxRecDepth 100000 in
set_option maxHeartbeats 4000000 in
theorem bill_run (p b : Nat) (S : List Ent) (g pr hit : Nat) (lo hi : Int) (H Y : Nat → Nat) (hlh : lo ≤ hi) (hpr : pr ≤ 1099511627776) (hhit : hit ≤ 1099511627776)
    (hbd : ∀ t, t < 16 → (H t = 0 → Y t = 0) ∧ H t ≤ 1099511627776 ∧ Y t ≤ 1099511627776 ∧ hit * H t + pr * Y t < 1000000000000000000) (w : World) (h : IsSet w p b S) (hl : S.length ≤ 1000000)
    (hS : ∀ es, AllOf S es → ∀ t : Nat, t < 16 → totP (inT t lo hi) Ent.hits es = H t ∧ totP (inT t lo hi) Ent.bytes es = Y t)
    (c0 : w.cell? ⟨g, 0, none⟩ = some (.int .i64 0)) (c1 : w.cell? ⟨g, 1, none⟩ = some (.int .i64 pr)) :
    Calls Try.prog 14 #[.pointer (some ⟨p, 0, none⟩), .agg #[.slice (some ⟨g, 0, none⟩) 1 1, .int .i64 1, .int .i64 hit, .int .i64 0], .int .i64 lo, .int .i64 hi] w fun e w' =>
      ∃ v, e = .returned (.tuple #[v, .int .i64 (sumL (linesP H Y pr hit 16)), .nilIface]) ∧ OwnL w' w.heap.size v (linesP H Y pr hit 16) ∧ Below w.heap.size w w' := by
  have hn1 := bel_new w (.cells #[.slice (some ⟨g, 0, none⟩) 1 1, .int .i64 1, .int .i64 hit, .int .i64 0] 62)
  have hpl : p < w.heap.size := block_lt_of_cell h.1
  have hbl : b < w.heap.size := h.2.lt
  have hgl : g < w.heap.size := block_lt_of_cell c0
  have d0 := keep_at hn1 c0
  have d1 := keep_at hn1 c1
  have b0 : (w.alloc (.cells #[.slice (some ⟨g, 0, none⟩) 1 1, .int .i64 1, .int .i64 hit, .int .i64 0] 62)).cell? ⟨w.heap.size, 0, none⟩ = some (.slice (some ⟨g, 0, none⟩) 1 1) := by simp [go_sem]
  have b1 : (w.alloc (.cells #[.slice (some ⟨g, 0, none⟩) 1 1, .int .i64 1, .int .i64 hit, .int .i64 0] 62)).cell? ⟨w.heap.size, 1, none⟩ = some (.int .i64 1) := by simp [go_sem]
  have b2 : (w.alloc (.cells #[.slice (some ⟨g, 0, none⟩) 1 1, .int .i64 1, .int .i64 hit, .int .i64 0] 62)).cell? ⟨w.heap.size, 2, none⟩ = some (.int .i64 hit) := by simp [go_sem]
  have b3 : (w.alloc (.cells #[.slice (some ⟨g, 0, none⟩) 1 1, .int .i64 1, .int .i64 hit, .int .i64 0] 62)).cell? ⟨w.heap.size, 3, none⟩ = some (.int .i64 0) := by simp [go_sem]
  have hz : w.heap.size < (w.alloc (.cells #[.slice (some ⟨g, 0, none⟩) 1 1, .int .i64 1, .int .i64 hit, .int .i64 0] 62)).heap.size := by simp
  have HTC := Lib.hid (tcheck_run g pr hit (by omega) (by omega) (w.alloc (.cells #[.slice (some ⟨g, 0, none⟩) 1 1, .int .i64 1, .int .i64 hit, .int .i64 0] 62)) d0 d1)
  have HI1 := Lib.hid (h.step hn1 hpl hbl)
  have HN1 := Lib.hid hn1
  have hlhn : ¬ hi < lo := by omega
  have HBT := Lib.hid (fun (t : Nat) (ht : t < 16) (W : World) (hW : IsSet W p b S) => (between_run p b S t lo hi W hW hl).mono (R' := fun e w' => e = .returned (.tuple #[.int .i64 (H t), .int .i64 (Y t)]) ∧ Below W.heap.size W w') fun e w' ⟨es, hA, he, hb⟩ => ⟨by rw [he, (hS es hA t ht).1, (hS es hA t ht).2], hb⟩)
  have HCH := Lib.hid (fun (t : Nat) (ht : t < 16) (hne : 1 ≤ H t) (W : World) => charge_run g pr hit (H t) (Y t) hpr hhit (hbd t ht).2.1 (hbd t ht).2.2.1 hne (hbd t ht).2.2.2 W)
  have HZ := Lib.hid (fun (t : Nat) (ht : t < 16) (h0 : H t = 0) => (hbd t ht).1 h0)
  have HLB := Lib.hid (linesP_bd H Y pr hit fun t ht => (hbd t ht).2.2.2)
  have HUB := Lib.hid (fun (t : Nat) (ht : t < 16) => upP_le _ (hbd t ht).2.2.2)
  clear h hS c0 c1 hn1 hbd hlh hpr hhit
  go_enter Try.func14, Try.ntmps14
  go_upto_region 1 with fail
  generalize w.alloc (.cells #[.slice (some ⟨g, 0, none⟩) 1 1, .int .i64 1, .int .i64 hit, .int .i64 0] 62) = W1 at *
  go_upto_region 4 with (go_at_call 30; refine (HTC.out).mono ?_; rintro r W2 ⟨rfl, hb2⟩)
  have k0 := keep_at hb2 d0
  have k1 := keep_at hb2 d1
  have q0 := keep_at hb2 b0
  have q1 := keep_at hb2 b1
  have q2 := keep_at hb2 b2
  have q3 := keep_at hb2 b3
  have hz2 : w.heap.size < W2.heap.size := Nat.lt_of_lt_of_le hz hb2.size
  have HI2 := Lib.hid (HI1.out.step hb2 (by omega) (by omega))
  have HB2 := Lib.hid (bel_step HN1.out hb2)
  clear d0 d1 b0 b1 b2 b3 hb2 HTC HN1 hz HI1
  go_upto_region 11 with fail
  go_loopw [12, 13, 31] (fun v sm i wr => ∃ k : Nat, i = .int .i64 k ∧ k ≤ 16 ∧ sm = .int .i64 (sumL (linesP H Y pr hit k)) ∧ OwnL wr W2.heap.size v (linesP H Y pr hit k) ∧ Below W2.heap.size W2 wr) (fun _ _ i _ => 16 - (intOf i).toNat)
  case atStart => exact ⟨0, rfl, by omega, rfl, OwnL.nil _ _, Below.refl _ _⟩
  case round =>
    obtain ⟨k, rfl, hk, rfl, hO, hB⟩ := hrel
    obtain ⟨va, vc, rfl⟩ := hO.shape
    have HO := Lib.hid hO
    have HB := Lib.hid hB
    have hzr : W2.heap.size ≤ wr.heap.size := hB.size
    have g0 := keep_at hB k0
    have g1 := keep_at hB k1
    have p0 := keep_at hB q0
    have p1 := keep_at hB q1
    have p2 := keep_at hB q2
    have p3 := keep_at hB q3
    have HI := Lib.hid (HI2.out.step hB (by omega) (by omega))
    clear hO hB k0 k1 q0 q1 q2 q3
    have hlb := HLB.out k hk
    have hs0 : (0 : Int) ≤ ((sumL (linesP H Y pr hit k) : Nat) : Int) := Int.natCast_nonneg _
    have hs1 : ((sumL (linesP H Y pr hit k) : Nat) : Int) ≤ 16000000000016 := by omega
    have hlen : (linesP H Y pr hit k).length ≤ 3000000 := by omega
    by_cases hlt : k < 16
    · have hk0 : (0 : Int) ≤ (k : Int) := by omega
      have hk1 : (k : Int) < 16 := by omega
      by_cases h0 : H k = 0
      · have hy := HZ.out k hlt h0
        have HBK := Lib.hid (HBT.out k hlt wr HI.out)
        rw [h0, hy] at HBK
        have HLS := Lib.hid (show linesP H Y pr hit (k + 1) = linesP H Y pr hit k by rw [linesP, if_pos h0, List.append_nil])
        have HH0 := Lib.hid h0
        clear h0 hy hlb
        go_wp2_with (go_at_call 31; refine (HBK.out).mono ?_; rintro e w3 ⟨rfl, hb3⟩)
        go_roundw
        case rel => exact ⟨k + 1, by go_num, by omega, by rw [HLS.out], by rw [HLS.out]; exact HO.out.step hb3, bel_step HB.out hb3⟩
        case measure => simp [intOf]; omega
      · have hne : 1 ≤ H k := by omega
        have hhn : ¬ ((H k : Nat) : Int) = 0 := by omega
        have HBK := Lib.hid (HBT.out k hlt wr HI.out)
        have HCK := Lib.hid (fun W => HCH.out k hlt hne W)
        have HLS := Lib.hid (show linesP H Y pr hit (k + 1) = linesP H Y pr hit k ++ [⟨k, H k, Y k, upP (hit * H k + pr * Y k) 1000000⟩] by rw [linesP, if_neg h0])
        have hu := HUB.out k hlt
        have hu0 : (0 : Int) ≤ ((upP (hit * H k + pr * Y k) 1000000 : Nat) : Int) := Int.natCast_nonneg _
        have hu1 : ((upP (hit * H k + pr * Y k) 1000000 : Nat) : Int) ≤ 1000000000001 := by omega
        clear h0 hlb hu
        generalize upP (hit * H k + pr * Y k) 1000000 = cn at *
        have HSL := Lib.hid (show sumL (linesP H Y pr hit (k + 1)) = sumL (linesP H Y pr hit k) + cn by rw [HLS.out, sumL_app]; rfl)
        go_upto_region 15 with (go_at_call 31; refine (HBK.out).mono ?_; rintro e w3 ⟨rfl, hb3⟩)
        have g03 := keep_at hb3 g0
        have g13 := keep_at hb3 g1
        have p03 := keep_at hb3 p0
        have p13 := keep_at hb3 p1
        have p23 := keep_at hb3 p2
        have p33 := keep_at hb3 p3
        have HB3 := Lib.hid (bel_step HB.out hb3)
        have HO3 := Lib.hid (HO.out.step hb3)
        clear g0 g1 p0 p1 p2 p3 hb3 HO HB
        go_upto_region 18 with (go_at_call 32; refine (HCK.out w3 g03 g13).mono ?_; rintro e w4 ⟨rfl, hb4⟩)
        have hz4 : W2.heap.size ≤ w4.heap.size := Nat.le_trans HB3.out.size hb4.size
        have HB4 := Lib.hid (bel_step HB3.out hb4)
        have HO4 := Lib.hid ((HO3.out.step hb4).step (bel_new w4 (.cells (lcells ⟨k, H k, Y k, cn⟩).toArray 70)))
        have HLC := Lib.hid (lin_cells w4 ⟨k, H k, Y k, cn⟩)
        have HN4 := Lib.hid (bel_new w4 (.cells (lcells ⟨k, H k, Y k, cn⟩).toArray 70))
        have hz5 : W2.heap.size ≤ (w4.alloc (.cells (lcells ⟨k, H k, Y k, cn⟩).toArray 70)).heap.size := by simp; omega
        clear g03 g13 p03 p13 p23 p33 hb4 HB3 HO3
        go_wp2_with (at_builtin; refine wpList_appL rfl (.tmp 58) (.tmp 64) rfl W2.heap.size _ _ rfl HO4.out w4.heap.size ⟨k, H k, Y k, cn⟩ rfl HLC.out hlen hz5 ?_; intro v5 w5 ho5 hb5; have HO5 := Lib.hid ho5; have HB5 := Lib.hid ((bel_step HB4.out HN4.out).trans hb5); clear ho5 hb5)
        go_roundw
        case rel => exact ⟨k + 1, by go_num, by omega, by rw [HSL.out]; go_num, by rw [HLS.out]; exact HO5.out, HB5.out⟩
        case measure => simp [intOf]; omega
    · obtain rfl : k = 16 := by omega
      have HFIN := Lib.hid (bel_step HB2.out HB.out)
      go_wp2_with fail
      go_ret3
      exact ⟨_, rfl, HO.out.mono (Nat.le_of_lt hz2), HFIN.out⟩
end Go.Proofs.Ythhooocckfljaaa
