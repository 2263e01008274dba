/- The walk of the law RulelexPlaces: it returns true. No condition. -/
import Derived.Test.YtobndhpfdaddaaaPlain4
namespace Go.Proofs.Ytobndhpfdaddaaa
open Go.RowKit
set_option linter.unusedVariables false
set_option linter.unusedSimpArgs false

/-- Numbers of the call's own. -/
def icell (n : Nat) : Value := .int .i64 (n : Int)
def OwnI (w : World) (base : Nat) (v : Value) (l : List Nat) : Prop := w.ownsRow base 3 1 v l.length (l.map icell)
theorem OwnI.step {w w' : World} {base : Nat} {v : Value} {l : List Nat} (h : OwnI w base v l) (hb : Below w.heap.size w w') : OwnI w' base v l := by
  refine World.ownsRow.kept (row := none) h ⟨hb.os, hb.tape, hb.output, hb.size, fun k hk _ => hb.block k hk⟩ ?_
  cases v.ownBlock with
  | none => exact .inl rfl
  | some k => exact .inr (by simp)
theorem OwnI.one (w : World) (base : Nat) (x : Int) (n : Nat) (h : x = (n : Int)) (hb : base ≤ w.heap.size) : OwnI (w.alloc (.cells #[.int .i64 x] 3)) base (.slice (some ⟨w.heap.size, 0, none⟩) 1 1) [n] := by
  subst h
  exact ⟨rfl, .inr ⟨w.heap.size, 1, #[.int .i64 (n : Int)], rfl, hb, heap_alloc_new w _, Nat.le_refl _, by unfold maxLen; omega, rfl, rfl⟩⟩
theorem OwnI.elem {w : World} {base : Nat} {v : Value} {l : List Nat} (h : OwnI w base v l) {k b : Nat} (hk : l[k]? = some b) : ∃ g cap, v = .slice (some ⟨g, 0, none⟩) l.length cap ∧ w.cell? ⟨g, k, none⟩ = some (.int .i64 (b : Int)) := by
  have hkl := (List.getElem?_eq_some_iff.1 hk).1
  obtain ⟨g, cap, hv, _⟩ := World.ownsRow.form h (by omega)
  subst hv
  refine ⟨g, cap, rfl, ?_⟩
  rw [World.ownsRow.cellAt h k (by omega), List.getElem?_map, hk]
  rfl
theorem OwnI.shape {w : World} {base : Nat} {v : Value} {l : List Nat} (h : OwnI w base v l) (h0 : l ≠ []) : ∃ g cap, v = .slice (some ⟨g, 0, none⟩) l.length cap := by
  obtain ⟨g, cap, hv, _⟩ := World.ownsRow.form h (by cases l with | nil => exact absurd rfl h0 | cons => simp)
  exact ⟨g, cap, hv⟩
theorem info3 : (Try.prog.info? 3).map (fun i => (i.zero, i.size, i.bytes)) = some (some (.int .i64 0), 1, 8) := by kernel_rfl
theorem wpList_appI {ops : Array Oper} {rest : List Oper} {o : Oper} {a : Act} {Q : Exit → Act → World → Prop} {w : World} (hgd : o.guard = none) (s x : Operand)
    (ho : o.op = .call { callee := .builtin .append, args := #[s, x], argTypes := #[47, 47] })
    (base : Nat) (v : Value) (l : List Nat) (hs : a.eval s = v) (hown : OwnI w base v l) (g n : Nat) (hx : a.eval x = .slice (some ⟨g, 0, none⟩) 1 1)
    (hcell : w.cell? ⟨g, 0, none⟩ = some (.int .i64 (n : Int)))
    (hb : l.length ≤ 3000000) (hbase : base ≤ w.heap.size)
    (h : ∀ v' w', OwnI w' base v' (l ++ [n]) → Below base w w' → w.heap.size ≤ w'.heap.size → wpList Try.prog ops Q rest (a.put o.dst v') w') : wpList Try.prog ops Q (o :: rest) a w := by
  obtain ⟨i0, hi, hz0, hz1, hz2⟩ := info_parts info3
  refine wpList_append_own _ hgd s x 47 ho base 3 i0 (.int .i64 0) 1 8 Try.underlying47 hi hz0 hz1 hz2 rfl (by decide) v l.length (l.map icell) hs hown ⟨g, 0, none⟩ 1 1 [icell n] hx rfl ?_ (by intro u hu; simp at hu; subst hu; rfl)
    (by unfold maxLen; omega) (by omega) hbase ?_
  · intro j u hj
    cases j with
    | zero => simp at hj; subst hj; simpa [Addr.add, icell] using hcell
    | succ j => simp at hj
  · intro v' w' hown' hgrow hnil
    refine h v' w' ?_ ((Below.refl base w).grown hgrow hbase fun k hk => (World.ownsRow.lt hown k hk).1) hgrow.size
    simpa [OwnI] using hown'
theorem new_int (w : World) (x : Int) : (w.alloc (.cells #[.int .i64 x] 3)).cell? ⟨w.heap.size, 0, none⟩ = some (.int .i64 x) := by
  rw [cell_of_row _ _ _ _ _ _ (heap_alloc_new w _)]; rfl
theorem starts_one (s : ByteArray) (k : Nat) (h : k < s.size) : startsT (s.data.toList.take (k + 1)) = if s[k].toNat = 10 then startsT (s.data.toList.take k) ++ [k + 1] else startsT (s.data.toList.take k) := by
  have hl : (s.data.toList.take k).length = k := by rw [List.length_take, size_list]; omega
  unfold startsT
  rw [take_one s k h, stF_append, hl]
  by_cases h10 : s[k].toNat = 10
  · rw [if_pos h10]; simp [stF, h10]
  · rw [if_neg h10]; simp [stF, h10]
theorem starts_len (l : List UInt8) : (startsT l).length ≤ l.length + 1 := by
  have := stF_len l 0
  simp only [startsT, List.length_cons]; omega

set_option maxRecDepth 20000 in
set_option maxHeartbeats 8000000 in
theorem places_walk (s : ByteArray) (w : World) : Calls Try.prog 7 #[.string s] w fun e w' => e = .returned (.bool true) ∧ Below w.heap.size w w' := by
  by_cases h5 : s.size ≤ 2000
  · have h5i : ¬ 2000 < (s.size : Int) := by omega
    have HS := Lib.hid (fun W => split_any s W (by omega))
    cases hsp : splitT s.data.toList with
    | none =>
      rw [hsp] at HS
      clear hsp h5
      unfold SplitE at HS
      go_enter Try.func7, Try.ntmps7
      go_wp2_with (first | (go_at_call 9; refine (awake_any _).mono ?_; rintro e w1 ⟨rfl, hb1⟩; have HB1 := Lib.hid hb1; clear hb1) | (go_at_call 10; refine (HS.out _).mono ?_; rintro e w2 ⟨rfl, hb2⟩; have HB2 := Lib.hid hb2; clear hb2))
      go_ret
      exact ⟨rfl, bel_step HB1.out HB2.out⟩
    | some ts =>
      rw [hsp] at HS
      unfold SplitE at HS
      have HG := Lib.hid (splitT_goods hsp)
      have htl := splitT_len hsp
      obtain ⟨ps, hps⟩ := splitT_placed hsp
      have HP := Lib.hid hps
      have HPL := Lib.hid (placed_len hps)
      rw [size_list] at HG htl
      have h0 : 0 < ts.length := List.length_pos_iff.2 HG.out.ne
      clear hsp hps
      go_enter Try.func7, Try.ntmps7
      go_wp2_with (first | (go_at_call 9; refine (awake_any _).mono ?_; rintro e w1 ⟨rfl, hb1⟩; have HB1 := Lib.hid hb1; clear hb1) | (go_at_call 10; refine (HS.out _).mono ?_; rintro e w2 ⟨⟨v2, rfl, ho2⟩, hb2⟩; have HO := Lib.hid ho2.isK; have HB2 := Lib.hid (bel_step HB1.out hb2); obtain ⟨a2, c2, rfl⟩ := ho2.isK.shape; clear hb2 ho2))
      go_loopw [5, 31] (fun u i wr => ∃ k : Nat, i = .int .i64 k ∧ k ≤ s.size ∧ OwnI wr w2.heap.size u (startsT (s.data.toList.take k)) ∧ Below w2.heap.size w2 wr) (fun _ i _ => s.size - (intOf i).toNat)
      case atStart => exact ⟨0, rfl, by omega, OwnI.one _ _ _ 0 rfl (Nat.le_refl _), bel_new _ _⟩
      case round =>
        obtain ⟨k, rfl, hk, hoi, hb⟩ := hrel
        have HB3 := Lib.hid hb
        have HI := Lib.hid hoi
        have HL := Lib.hid (show (startsT (s.data.toList.take k)).length ≤ 2001 by
          have := starts_len (s.data.toList.take k)
          rw [List.length_take] at this
          omega)
        clear hb hoi
        by_cases hlt : k < s.size
        · have hst := starts_one s k hlt
          have hk0 : (0 : Int) ≤ (k : Int) := by omega
          have hki : (k : Int) < (s.size : Int) := by omega
          have hcb := s[k].toNat_lt
          by_cases h10 : s[k].toNat = 10
          · rw [if_pos h10] at hst
            have HST := Lib.hid hst
            have g1 : ((s[k].toNat : Int) == 10) = true := beq_iff_eq.2 (by omega)
            clear hst h10 hcb
            go_wp2_with (at_builtin; refine wpList_appI rfl (.tmp 38) (.tmp 41) rfl w2.heap.size _ _ rfl (HI.out.step (bel_new _ _)) _ (k + 1) rfl (by rw [new_int]; simp) (by have := HL.out; omega) (by have := HB3.out.size; simp; omega) ?_; intro v' w3 hown' hb' hz')
            go_roundw
            case rel => exact ⟨k + 1, by go_num, by omega, by rw [HST.out]; exact hown', (HB3.out.trans ((bel_new wr _).mono HB3.out.size)).trans hb'⟩
            case measure => simp [intOf]; omega
          · rw [if_neg h10] at hst
            have HST := Lib.hid hst
            have g1 : ((s[k].toNat : Int) == 10) = false := beq_eq_false_iff_ne.2 (by omega)
            clear hst h10 hcb
            go_wp2_with fail
            go_roundw
            case rel => exact ⟨k + 1, by go_num, by omega, by rw [HST.out]; exact HI.out, HB3.out⟩
            case measure => simp [intOf]; omega
        · obtain rfl : k = s.size := by omega
          rw [List.take_of_length_le (by rw [size_list]; omega)] at HI HL
          obtain ⟨n0, hn0⟩ : ∃ n0, ts.length = n0 + 1 := ⟨ts.length - 1, by omega⟩
          obtain ⟨g5, c5, rfl⟩ := HI.out.shape (by simp [startsT])
          obtain ⟨sl, hsl⟩ : ∃ sl, (startsT s.data.toList).length = sl := ⟨_, rfl⟩
          have HN0 := Lib.hid hn0
          have HSL := Lib.hid hsl
          rw [hsl, hn0]
          have hsl9 : (sl : Int) ≤ 2001 := by have := HL.out; omega
          have hn9 : (n0 : Int) ≤ 2000 := by omega
          clear hn0 hsl h0 htl hlt hk
          go_wp2_with fail
          go_loopw [7, 46] (fun u i wz => ∃ (k : Nat) (m : Int), i = .int .i64 k ∧ k ≤ n0 + 1 ∧ u = .int .i64 m ∧ (k = 0 → m = -1) ∧ (∀ j q, k = j + 1 → ps[j]? = some q → m = (q : Int)) ∧ Below wr.heap.size wr wz) (fun _ i _ => n0 + 1 - (intOf i).toNat)
          case atStart => exact ⟨0, -1, rfl, by omega, rfl, fun _ => rfl, fun j q h => by omega, Below.refl _ _⟩
          case round =>
            obtain ⟨k, m, rfl, hk, rfl, hm0, hm1, hbz⟩ := hrel
            have HBZ := Lib.hid hbz
            have HM0 := Lib.hid hm0
            have HM1 := Lib.hid hm1
            clear hbz hm0 hm1
            by_cases hlt : k < n0 + 1
            · obtain ⟨g1, p1, e, hv1, he, hat1⟩ := (HO.out.step (HB3.out.trans (HBZ.out.mono HB3.out.size))).elem (k := k) (by rw [HN0.out]; exact hlt)
              simp only [Value.slice.injEq] at hv1
              obtain ⟨rfl, _, rfl⟩ := hv1
              obtain ⟨p, hp⟩ : ∃ p, ps[k]? = some p := ⟨ps[k]'(by rw [HPL.out, HN0.out]; exact hlt), List.getElem?_eq_getElem _⟩
              obtain ⟨⟨l, c, b, hl1, hc1, hl2, hc2, hb1, hbc, hpw, htx⟩, hlo, hla⟩ := placed_at HP.out k e p he hp
              obtain ⟨hok, hwl⟩ := goodL_at ts k e HG.out he
              obtain ⟨l0, rfl⟩ : ∃ l0, l = l0 + 1 := ⟨l - 1, by omega⟩
              obtain ⟨c0, rfl⟩ : ∃ c0, c = c0 + 1 := ⟨c - 1, by omega⟩
              simp only [Nat.add_sub_cancel] at hb1
              obtain ⟨g6, c6, hv6, hcell⟩ := (HI.out.step HBZ.out).elem hb1
              simp only [Value.slice.injEq, Option.some.injEq, Addr.mk.injEq] at hv6
              obtain ⟨⟨rfl, _, _⟩, _, rfl⟩ := hv6
              have hll := (List.getElem?_eq_some_iff.1 hb1).1
              rw [HSL.out] at hll
              obtain ⟨x0, x1, x2, x3⟩ := hat1
              obtain ⟨kd, tx, ln, cl⟩ := e
              dsimp only at x0 x1 x2 x3 hok hwl hl1 hc1 hpw htx hla
              subst hl1
              subst hc1
              have HW := Lib.hid (fun W => written_any kd ((l0 + 1 : Nat) : Int) ((c0 + 1 : Nat) : Int) tx hok (by have := writK_len (kd := kd) (tx := tx); omega) W)
              generalize hwk : writK kd tx = W1 at HW hwl hpw htx
              push_cast at x2 x3 HW
              have hq0 : (0 : Int) ≤ (k : Int) := by omega
              have hq1 : (k : Int) < (n0 : Int) + 1 := by omega
              have hll1 : (l0 : Int) < (sl : Int) := by omega
              have HHP := Lib.hid hp
              have HBC := Lib.hid hbc
              rw [size_list] at hpw
              have hpi : (p : Int) ≤ 2000 := by omega
              have HLA := Lib.hid hla
              have HLO := Lib.hid hlo
              have hsz := mk_size W1
              have hcmp : ((s.extract p (p + W1.length)).toList == W1) = true := by
                rw [extract_list, ByteArray.toList_eq]
                rw [show p + W1.length - p = W1.length by omega, htx]
                simp
              have hcmp2 : ((s.extract p (p + W1.length)).toList != W1) = false := by rw [bne, hcmp]; rfl
              clear hok he hwk hla hb1 hp hlo htx
              go_upto_region 19 with fail
              have hbx := tok_cells 39 wr ⟨kd, tx, (l0 : Int) + 1, (c0 : Int) + 1⟩
              have y0 : (wr.alloc (.cells #[.int .i64 kd, .string ⟨tx.toArray⟩, .int .i64 ((l0 : Int) + 1), .int .i64 ((c0 : Int) + 1)] 39)).cell? ⟨wr.heap.size, 0, none⟩ = some (.int .i64 kd) := hbx 0 _ rfl
              have y1 : (wr.alloc (.cells #[.int .i64 kd, .string ⟨tx.toArray⟩, .int .i64 ((l0 : Int) + 1), .int .i64 ((c0 : Int) + 1)] 39)).cell? ⟨wr.heap.size, 1, none⟩ = some (.string ⟨tx.toArray⟩) := hbx 1 _ rfl
              have y2 : (wr.alloc (.cells #[.int .i64 kd, .string ⟨tx.toArray⟩, .int .i64 ((l0 : Int) + 1), .int .i64 ((c0 : Int) + 1)] 39)).cell? ⟨wr.heap.size, 2, none⟩ = some (.int .i64 ((l0 : Int) + 1)) := hbx 2 _ rfl
              have y3 : (wr.alloc (.cells #[.int .i64 kd, .string ⟨tx.toArray⟩, .int .i64 ((l0 : Int) + 1), .int .i64 ((c0 : Int) + 1)] 39)).cell? ⟨wr.heap.size, 3, none⟩ = some (.int .i64 ((c0 : Int) + 1)) := hbx 3 _ rfl
              have hcell2 := keep_alloc (x := .cells #[.int .i64 kd, .string ⟨tx.toArray⟩, .int .i64 ((l0 : Int) + 1), .int .i64 ((c0 : Int) + 1)] 39) hcell
              have HBA := Lib.hid (HBZ.out.trans ((bel_new wr (.cells #[.int .i64 kd, .string ⟨tx.toArray⟩, .int .i64 ((l0 : Int) + 1), .int .i64 ((c0 : Int) + 1)] 39)).mono HBZ.out.size))
              clear hbx hcell x0 x1 x2 x3
              generalize (wr.alloc (.cells #[.int .i64 kd, .string ⟨tx.toArray⟩, .int .i64 ((l0 : Int) + 1), .int .i64 ((c0 : Int) + 1)] 39)) = W2 at *
              generalize wr.heap.size = BX at *
              go_quiet (fail)
              have hbp : (b : Int) + ((c0 : Int) + 1) - 1 = (p : Int) := by have := HBC.out; omega
              have hp0 : (0 : Int) ≤ (p : Int) := by omega
              have hpw9 : (p : Int) + (W1.length : Int) ≤ (s.size : Int) := by omega
              have hW9 : (W1.length : Int) ≤ 2000 := by omega
              rw [hbp]
              clear hbp hcell2 hbc hpw
              by_cases hkl : k + 1 < n0 + 1
              · have hmp : ¬ (p : Int) ≤ m := by
                  have h4 := HLO.out (by rw [HN0.out]; exact hkl)
                  cases k with
                  | zero => rw [HM0.out rfl]; omega
                  | succ j =>
                    obtain ⟨q, hq⟩ : ∃ q, ps[j]? = some q := ⟨ps[j]'(by rw [HPL.out, HN0.out]; omega), List.getElem?_eq_getElem _⟩
                    have h5 := HM1.out j q rfl hq
                    have h6 := h4.2 j q rfl hq
                    omega
                have hki : (k : Int) + 1 < (n0 : Int) + 1 := by omega
                go_wp2_with (go_at_call 15; refine (HW.out _).mono ?_; rintro e w5 ⟨rfl, hb5⟩; have HB5 := Lib.hid ((HBA.out.trans ((bel_drewN (Below.refl _ _)).mono HBA.out.size)).trans (hb5.mono HBA.out.size)); clear hb5)
                go_roundw
                case rel => exact ⟨k + 1, p, by go_num, by omega, rfl, fun h => by omega, fun j q hj hq => by obtain rfl : j = k := (by omega); rw [HHP.out] at hq; injection hq with hq; rw [hq], HB5.out⟩
                case measure => simp [intOf]; omega
              · obtain rfl : k = n0 := by omega
                have hki : ¬ (k : Int) + 1 < (k : Int) + 1 := by omega
                by_cases hmp : (p : Int) ≤ m
                all_goals
                  go_wp2_with (go_at_call 15; refine (HW.out _).mono ?_; rintro e w5 ⟨rfl, hb5⟩; have HB5 := Lib.hid ((HBA.out.trans ((bel_drewN (Below.refl _ _)).mono HBA.out.size)).trans (hb5.mono HBA.out.size)); clear hb5)
                  go_roundw
                  case rel => exact ⟨k + 1, p, by go_num, by omega, rfl, fun h => by omega, fun j q hj hq => by obtain rfl : j = k := (by omega); rw [HHP.out] at hq; injection hq with hq; rw [hq], HB5.out⟩
                  case measure => simp [intOf]
            · obtain rfl : k = n0 + 1 := by omega
              obtain ⟨g1, p1, e, hv1, he, hat1⟩ := (HO.out.step (HB3.out.trans (HBZ.out.mono HB3.out.size))).elem (k := n0) (by rw [HN0.out]; omega)
              simp only [Value.slice.injEq] at hv1
              obtain ⟨rfl, _, rfl⟩ := hv1
              obtain ⟨p, hp⟩ : ∃ p, ps[n0]? = some p := ⟨ps[n0]'(by rw [HPL.out, HN0.out]; omega), List.getElem?_eq_getElem _⟩
              obtain ⟨⟨l, c, b, hl1, hc1, hl2, hc2, hb1, hbc, hpw, htx⟩, hlo, hla⟩ := placed_at HP.out n0 e p he hp
              obtain ⟨hpe, hke⟩ := hla (by rw [HN0.out])
              rw [size_list] at hpe
              obtain ⟨l0, rfl⟩ : ∃ l0, l = l0 + 1 := ⟨l - 1, by omega⟩
              obtain ⟨c0, rfl⟩ : ∃ c0, c = c0 + 1 := ⟨c - 1, by omega⟩
              simp only [Nat.add_sub_cancel] at hb1
              obtain ⟨g6, c6, hv6, hcell⟩ := (HI.out.step HBZ.out).elem hb1
              simp only [Value.slice.injEq, Option.some.injEq, Addr.mk.injEq] at hv6
              obtain ⟨⟨rfl, _, _⟩, _, rfl⟩ := hv6
              have hll := (List.getElem?_eq_some_iff.1 hb1).1
              rw [HSL.out] at hll
              obtain ⟨x0, x1, x2, x3⟩ := hat1
              obtain ⟨kd, tx, ln, cl⟩ := e
              dsimp only at x0 x1 x2 x3 hl1 hc1 hke
              subst hl1
              subst hc1
              subst hke
              push_cast at x2 x3
              have hll1 : (l0 : Int) < (sl : Int) := by omega
              have hbp : (b : Int) + ((c0 : Int) + 1) - 1 = (s.size : Int) := by omega
              have hb9 : (b : Int) ≤ 2000 := by omega
              have hc9 : (c0 : Int) ≤ 2000 := by omega
              clear htx hlo hla hb1 hp he hpw hbc hpe
              go_wp2_with fail
              go_quiet (fail)
              go_wp2_with fail
              go_ret
              exact ⟨rfl, bel_step HB2.out (HB3.out.trans ((bel_drewN HBZ.out).mono HB3.out.size))⟩
  · have h5i : 2000 < (s.size : Int) := by omega
    go_enter Try.func7, Try.ntmps7
    go_wp2_with (go_at_call 9; refine (awake_any _).mono ?_; rintro e w1 ⟨rfl, hb1⟩; first | (have HB2 := Lib.hid (bel_step HB1.out hb1); clear hb1) | (have HB1 := Lib.hid hb1; clear hb1))
    go_ret
    exact ⟨rfl, HB2.out⟩
end Go.Proofs.Ytobndhpfdaddaaa
