/- The walks of the statements' own Payload, uint and one. No condition beyond that an entry is valid. -/
import Derived.Test.YtdkaapkehmjepaaLog
namespace Go.Proofs.Ytdkaapkehmjepaa
open Go.RowKit
set_option linter.unusedVariables false
set_option linter.unusedSimpArgs false

set_option maxRecDepth 20000 in
theorem puint_any (n : Nat) (w : World) (hn : n ≤ 1099511627776) : Calls Try.prog 44 #[.int .i64 n] w fun e w' => ∃ v, e = .returned v ∧ OwnB w' w.heap.size v (numB n) ∧ Below w.heap.size w w' := by
  have HCM := Lib.hid (show n < 128 ^ 10 by omega)
  have HN := Lib.hid hn
  clear hn
  go_enter Try.func44, Try.ntmps44
  go_wp2
  go_loopw [0, 3] (fun i v wr => ∃ (m f : Nat) (l : List UInt8), i = .int .i64 m ∧ m ≤ topN ∧ 1 ≤ f ∧ f ≤ 10 ∧ m < 128 ^ f ∧ l.length + f = 10 ∧ l ++ numF f m = numB n ∧ OwnB wr w.heap.size v l ∧ Below w.heap.size w wr) (fun i _ _ => (intOf i).toNat)
  case atStart => exact ⟨n, 10, [], rfl, by have := HN.out; unfold topN; omega, by omega, by omega, HCM.out, rfl, rfl, OwnB.nil w w.heap.size, Below.refl _ _⟩
  case round =>
    obtain ⟨m, f, l, rfl, hmt, hf1, hf2, hmf, hl, hlist, hown, hB⟩ := hrel
    have HL := Lib.hid hlist
    have HM := Lib.hid hmf
    have HO := Lib.hid hown
    have HLL := Lib.hid hl
    have hlen : l.length ≤ 9 := by omega
    have hmt' : m ≤ 4611686018427387904 := hmt
    clear hlist hmf hown hl
    have hz : w.heap.size ≤ wr.heap.size := hB.size
    by_cases hlt : m < 128
    · go_wp2_with (at_builtin; refine wpList_app rfl (.tmp 15) (.tmp 18) rfl w.heap.size _ l rfl (HO.out.step (bel_new _ _)) _ [UInt8.ofNat m] rfl (IsB.one _ _ _ (by rw [UInt8.toNat_ofNat']; omega)) (by simp; omega) (by simp; omega) ?_; intro v' w1 hown' hb' hz' hne)
      go_ret
      have e : l ++ [UInt8.ofNat m] = numB n := by
        rw [← HL.out]
        cases f with
        | zero => omega
        | succ f => rw [numF_small f m hlt]
      rw [e] at hown'
      exact ⟨v', rfl, hown', (hB.trans (bel_new wr _ |>.mono hz)).trans hb'⟩
    · go_wp2_with (at_builtin; refine wpList_app rfl (.tmp 6) (.tmp 11) rfl w.heap.size _ l rfl (HO.out.step (bel_new _ _)) _ [UInt8.ofNat (m % 128 + 128)] rfl (IsB.one _ _ _ (by rw [UInt8.toNat_ofNat']; omega)) (by simp; omega) (by simp; omega) ?_; intro v' w1 hown' hb' hz' hne)
      have hS := numF_step m f l _ hlt hf1 HM.out HLL.out HL.out
      go_roundw
      case rel => exact ⟨m / 128, f - 1, l ++ [UInt8.ofNat (m % 128 + 128)], by go_num, by omega, hS.1, by omega, hS.2.1, hS.2.2.1, hS.2.2.2, hown', (hB.trans ((bel_new wr _).mono hz)).trans hb'⟩
      case measure => simp [intOf]; omega

/-- append of a string, at a step of a region that draws its order. -/
theorem step_app_string {ops : Array Oper} {o : Oper} {a : Act} {K : Act → World → Prop} {Q : Exit → Act → World → Prop} {E : Prop} {w : World} (hgd : o.guard = none) (s x : Operand)
    (ho : o.op = .call { callee := .builtin .append, args := #[s, x], argTypes := #[59, 9] })
    (base : Nat) (v : Value) (l : List UInt8) (hs : a.eval s = v) (hown : OwnB w base v l) (t : ByteArray) (hx : a.eval x = .string t)
    (hb : l.length + t.size ≤ 140737488355328) (hbase : base ≤ w.heap.size)
    (h : ∀ v' w', OwnB w' base v' (l ++ t.data.toList) → Below base w w' → w.heap.size ≤ w'.heap.size → K (a.put o.dst v') w') :
    if Region.wanted o (yielded ops a.tmps) = true then Oper.wp Try.prog o a w K Q else E := by
  have hw : Region.wanted o (yielded ops a.tmps) = true := by simp [Region.wanted, hgd]
  rw [if_pos hw]
  obtain ⟨i0, hi, hz0, hz1, hz2⟩ := info_parts info5
  obtain ⟨v', w', hrun, hown', hgrow, _⟩ := Lib.run_append_own_string (P := Try.prog) w base 59 9 o.type 5 i0 Try.underlying59 Try.underlying9 hi hz0 hz1 hz2 v l.length (l.map bcell) hown t (by unfold maxLen; omega) hb hbase
  have hs' : Lib.strCells t = t.data.toList.map bcell := rfl
  have hsz : t.size = t.data.toList.length := by rw [Array.length_toList]; rfl
  unfold Oper.wp
  simp [execOp, ho, resolve, invoke, builtin, hs, hx, hrun, Result.andThen]
  refine h v' w' ?_ ((Below.refl base w).grown hgrow hbase fun k hk => (World.ownsRow.lt hown k hk).1) hgrow.size
  rw [hs'] at hown'
  unfold OwnB
  rw [List.length_append, List.map_append, ← hsz]
  exact hown'
/-- append of whatever bytes to bytes of the call's own, and which block grows. -/
theorem wpList_appG {ops : Array Oper} {rest : List Oper} {o : Oper} {a : Act} {Q : Exit → Act → World → Prop} {w : World} (hgd : o.guard = none) (s x : Operand)
    (ho : o.op = .call { callee := .builtin .append, args := #[s, x], argTypes := #[59, 59] })
    (base : Nat) (v : Value) (l : List UInt8) (hs : a.eval s = v) (hown : OwnB w base v l) (u : Value) (l2 : List UInt8) (hx : a.eval x = u) (hu : IsB w u l2)
    (hb : l.length + l2.length ≤ 140737488355328) (hbase : base ≤ w.heap.size)
    (h : ∀ v' w', OwnB w' base v' (l ++ l2) → Below base w w' → w.heap.size ≤ w'.heap.size → w.grownBy w' v.ownBlock → (v'.ownBlock = v.ownBlock ∨ v'.ownBlock = some w.heap.size) → wpList Try.prog ops Q rest (a.put o.dst v') w') : wpList Try.prog ops Q (o :: rest) a w := by
  obtain ⟨i0, hi, hz0, hz1, hz2⟩ := info_parts info5
  rcases hu.news with ⟨rfl, rfl⟩ | ⟨ad, cap, rfl, hc, hm, hcells⟩
  · refine wpList_append_own_none hgd s x 59 ho base 5 i0 1 Try.underlying59 hi v l.length (l.map bcell) hs hown hx ?_
    exact h v w (by simpa using hown) (Below.refl _ _) (Nat.le_refl _) (World.grownBy.refl _ _) (.inl rfl)
  · refine wpList_append_own_at _ hgd s x 59 ho base 5 i0 (.int .u8 0) 1 1 Try.underlying59 hi hz0 hz1 hz2 rfl (by decide) v l.length (l.map bcell) hs hown ad l2.length cap (l2.map bcell) hx (by simp) hcells (bcell_one l2)
      (by unfold maxLen; omega) (by omega) hbase ?_
    intro v' w' hown' hgrow hnil hat
    refine h v' w' (by simpa [OwnB] using hown') ?_ hgrow.size hgrow hat
    exact (Below.refl base w).grown hgrow hbase fun k hk => (World.ownsRow.lt hown k hk).1
theorem clamp_in {n : Int} (h : inR n) : ((clampN n : Nat) : Int) = n ∧ clampN n ≤ 1099511627776 := by
  unfold inR at h; unfold clampN; omega
theorem intsK_in (e : Ent) (h : rangeE e) (k : Nat) : inR (intsK e k) := by
  obtain ⟨h0, h1, h2, h3, h4, h5, h6, h7⟩ := h
  match k with
  | 0 => exact h0
  | 1 => exact h2
  | 2 => exact h3
  | 3 => exact h4
  | k + 4 => exact h5

set_option maxRecDepth 100000 in
set_option maxHeartbeats 2000000 in
theorem pay_any (e : Ent) (w : World) (hn : 1 ≤ e.node.length ∧ e.node.length ≤ 32) (hr : rangeE e) :
    Calls Try.prog 31 #[e.val] w fun r w' => ∃ u, r = .returned u ∧ OwnB w' w.heap.size u (payE e) ∧ Below w.heap.size w w' := by
  have HN := Lib.hid hn
  have HR := Lib.hid hr
  have hsz : ((ByteArray.mk e.node.toArray).size : Int) = (e.node.length : Int) := by simp [ByteArray.size]
  have hbx := EntAt.box w e
  have HB0 := Lib.hid (bel_new w (.cells #[.string ⟨e.node.toArray⟩, .int .i64 e.boot, .int .i64 e.seq, .int .i64 e.ten, .int .i64 e.hits, .int .i64 e.bytes, .int .i64 e.att] 23))
  have hz0 : w.heap.size < (w.alloc (.cells #[.string ⟨e.node.toArray⟩, .int .i64 e.boot, .int .i64 e.seq, .int .i64 e.ten, .int .i64 e.hits, .int .i64 e.bytes, .int .i64 e.att] 23)).heap.size := by simp [go_sem]
  have HE0 := Lib.hid hbx
  obtain ⟨c0, c1, c2, c3, c4, c5, c6⟩ := hbx
  simp only [Nat.zero_add] at c0 c1 c2 c3 c4 c5 c6
  unfold Ent.val
  clear hn hr
  go_enter Try.func31, Try.ntmps31
  go_upto_region 1 with fail
  generalize w.alloc (.cells #[.string ⟨e.node.toArray⟩, .int .i64 e.boot, .int .i64 e.seq, .int .i64 e.ten, .int .i64 e.hits, .int .i64 e.bytes, .int .i64 e.att] 23) = W1 at *
  go_region_held3 (fun w' => w'.cell? ⟨w.heap.size, 0, none⟩ = some (.string ⟨e.node.toArray⟩))
    ((go_split_ands; (repeat (with_reducible (first | assumption | refine keep_drew ?_ | refine keep_at hb2 ?_ | refine keep_lt hb3 hz0 ?_)))))
    (first | (go_at_call 44; refine (puint_any e.node.length _ (by have := HN.out; omega)).mono ?_; rintro r W2 ⟨v2, rfl, ho2, hb2⟩)
            | (refine step_app_string ?_ (.tmp 9) (.tmp 11) ?_ W1.heap.size v2 (numB e.node.length) ?_ ?_ ⟨e.node.toArray⟩ ?_ ?_ ?_ ?_; rfl; rfl; rfl; exact ho2; rfl; (have := HN.out; have := numB_len e.node.length; simp [ByteArray.size]; omega); (exact hb2.size); intro v3 W3 ho3 hb3 hz3))
  have ho3' : OwnB W3 W1.heap.size v3 (textB e.node) := by simpa [textB] using ho3
  have hb3' : Below W1.heap.size W1 W3 := (bel_drew (Below.refl W1.heap.size W1)).trans (hb2.trans hb3)
  have HT3 := Lib.hid ho3'
  have HB3 := Lib.hid (bel_step HB0.out hb3')
  obtain ⟨x0, x1, x2, x3, x4, x5, x6⟩ := HE0.out.step hb3'
  simp only [Nat.zero_add] at x0 x1 x2 x3 x4 x5 x6
  have hz3 : W1.heap.size ≤ W3.heap.size := hb3'.size
  clear ho2 hb2 ho3 hb3 ho3' hb3' c0 c1 c2 c3 c4 c5 c6 HE0
  go_upto_region 3 with fail
  have hn4 := bel_new W3 (.cells #[.int .i64 e.boot, .int .i64 e.ten, .int .i64 e.hits, .int .i64 e.bytes, .int .i64 e.att] 3)
  have HB4 := Lib.hid (bel_step HB3.out hn4)
  have HT4 := Lib.hid (HT3.out.step hn4)
  have HI4 := Lib.hid (Ints.box W3 e)
  have hz4 : W3.heap.size < (W3.alloc (.cells #[.int .i64 e.boot, .int .i64 e.ten, .int .i64 e.hits, .int .i64 e.bytes, .int .i64 e.att] 3)).heap.size := by simp [go_sem]
  have hnb3 : v3.ownBlock ≠ some W3.heap.size := fun h => by have := (World.ownsRow.lt HT3.out _ h).2; omega
  have HNB := Lib.hid hnb3
  clear HB3 HT3 hn4 x0 x1 x2 x3 x4 x5 x6 hnb3
  generalize W3.alloc (.cells #[.int .i64 e.boot, .int .i64 e.ten, .int .i64 e.hits, .int .i64 e.bytes, .int .i64 e.att] 3) = W4 at *
  go_loopw [3, 25] (fun bv j wi => ∃ q : Nat, j = .int .i64 q ∧ q ≤ 5 ∧ OwnB wi W1.heap.size bv (textB e.node ++ ((intsE e).take q).flatMap numI) ∧ Below W1.heap.size W4 wi ∧ bv.ownBlock ≠ some W3.heap.size ∧ (∀ k, k < 5 → wi.cell? ⟨W3.heap.size, k, none⟩ = some (.int .i64 (intsK e k)))) (fun _ j _ => 5 - (intOf j).toNat)
  case atStart => exact ⟨0, rfl, Nat.zero_le _, by simpa using HT4.out, Below.refl _ _, HNB.out, HI4.out⟩
  case round =>
    obtain ⟨q, rfl, hq, hob, hbi, hnb, hin⟩ := hrel
    have HOB := Lib.hid hob
    have HBI := Lib.hid hbi
    have HNQ := Lib.hid hnb
    have HIN := Lib.hid hin
    clear hob hbi hnb hin
    by_cases hq5 : q < 5
    · have hcell := HIN.out q hq5
      have hqz0 : (0 : Int) ≤ (q : Int) := by omega
      have hqz1 : (q : Int) < 5 := by omega
      have HIT := Lib.hid (intsK_take e q hq5)
      have HCL := Lib.hid (clamp_in (intsK_in e HR.out q))
      have HP := Lib.hid (fun W => puint_any (clampN (intsK e q)) W HCL.out.2)
      rw [HCL.out.1] at HP
      go_wp2_with (first | (go_at_call 44; refine (HP.out _).mono ?_; rintro r W5 ⟨v5, rfl, ho5, hb5⟩) | (at_builtin; refine wpList_appG rfl (.tmp 29) (.tmp 31) rfl W1.heap.size _ _ rfl (HOB.out.step hb5) _ _ rfl ho5.isB (by have := ints_len e q; have := HN.out; have := numB_len e.node.length; have := numB_len (clampN (intsK e q)); simp only [textB, List.length_append]; omega) (Nat.le_trans hz3 (Nat.le_trans (Nat.le_of_lt hz4) (Nat.le_trans HBI.out.size hb5.size))) ?_; intro v6 W6 ho6 hb6 hz6 hg6 hat6))
      have hlq : W3.heap.size < wr.heap.size := Nat.lt_of_lt_of_le hz4 HBI.out.size
      have hb46 : Below W1.heap.size W4 W6 := (HBI.out.trans (hb5.mono (by omega))).trans hb6
      have HB6 := Lib.hid hb46
      have HIN6 := Lib.hid (fun k hk => keep_grown hg6 (fun h => HNQ.out h.symm) (keep_at hb5 (HIN.out k hk)))
      have HNB6 := Lib.hid (show v6.ownBlock ≠ some W3.heap.size from by
        rcases hat6 with h | h
        · rw [h]; exact HNQ.out
        · rw [h]; intro h'; have := hb5.size; simp only [Option.some.injEq] at h'; omega)
      go_roundw
      case rel => exact ⟨q + 1, by go_num, by omega, by rw [HIT.out, ← List.append_assoc]; exact ho6, HB6.out, HNB6.out, HIN6.out⟩
      case measure => simp [intOf]; omega
    · obtain rfl : q = 5 := by omega
      have hB := HB4.out.trans (HBI.out.mono (Nat.le_of_lt hz0))
      go_wp2_with fail
      go_ret
      exact ⟨_, rfl, (show OwnB wr W1.heap.size u3 (payE e) from HOB.out).mono (Nat.le_of_lt hz0), hB⟩
end Go.Proofs.Ytdkaapkehmjepaa
