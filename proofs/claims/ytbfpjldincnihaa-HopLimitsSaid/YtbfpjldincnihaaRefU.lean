/- The walks of the reference's uint, text and Uses. No condition beyond lengths that memory allows. -/
import Derived.Test.YtbfpjldincnihaaHopEnc
namespace Go.Proofs.Ytbfpjldincnihaa
open Go.RowKit
set_option linter.unusedVariables false
set_option linter.unusedSimpArgs false

set_option maxRecDepth 20000 in
theorem puint_any (n : Nat) (w : World) (hn : n ≤ 1099511627776) : Calls Try.prog 35 #[.int .i64 n] w fun e w' => ∃ v, e = .returned v ∧ OwnB w' w.heap.size v (numB n) ∧ Below w.heap.size w w' := by
  have HCM := Lib.hid (show n < 128 ^ 10 by omega)
  have HN := Lib.hid hn
  clear hn
  go_enter Try.func35, Try.ntmps35
  go_wp2
  go_loopw [0, 3] (fun i v wr => ∃ (m f : Nat) (l : List UInt8), i = .int .i64 m ∧ m ≤ topN ∧ 1 ≤ f ∧ f ≤ 10 ∧ m < 128 ^ f ∧ l.length + f = 10 ∧ l ++ numF f m = numB n ∧ OwnB wr w.heap.size v l ∧ Below w.heap.size w wr) (fun i _ _ => (intOf i).toNat)
  case atStart => exact ⟨n, 10, [], rfl, by have := HN.out; unfold topN; omega, by omega, by omega, HCM.out, rfl, rfl, OwnB.nil w w.heap.size, Below.refl _ _⟩
  case round =>
    obtain ⟨m, f, l, rfl, hmt, hf1, hf2, hmf, hl, hlist, hown, hB⟩ := hrel
    have HL := Lib.hid hlist
    have HM := Lib.hid hmf
    have HO := Lib.hid hown
    have HLL := Lib.hid hl
    have hlen : l.length ≤ 9 := by omega
    have hmt' : m ≤ 4611686018427387904 := hmt
    clear hlist hmf hown hl
    have hz : w.heap.size ≤ wr.heap.size := hB.size
    by_cases hlt : m < 128
    · go_wp2_with (at_builtin; refine wpList_app rfl (.tmp 15) (.tmp 18) rfl w.heap.size _ l rfl (HO.out.step (bel_new _ _)) _ [UInt8.ofNat m] rfl (IsB.one _ _ _ (by rw [UInt8.toNat_ofNat']; omega)) (by simp; omega) (by simp; omega) ?_; intro v' w1 hown' hb' hz' hne)
      go_ret
      have e : l ++ [UInt8.ofNat m] = numB n := by
        rw [← HL.out]
        cases f with
        | zero => omega
        | succ f => rw [numF_small f m hlt]
      rw [e] at hown'
      exact ⟨v', rfl, hown', (hB.trans (bel_new wr _ |>.mono hz)).trans hb'⟩
    · go_wp2_with (at_builtin; refine wpList_app rfl (.tmp 6) (.tmp 11) rfl w.heap.size _ l rfl (HO.out.step (bel_new _ _)) _ [UInt8.ofNat (m % 128 + 128)] rfl (IsB.one _ _ _ (by rw [UInt8.toNat_ofNat']; omega)) (by simp; omega) (by simp; omega) ?_; intro v' w1 hown' hb' hz' hne)
      have hS := numF_step m f l _ hlt hf1 HM.out HLL.out HL.out
      go_roundw
      case rel => exact ⟨m / 128, f - 1, l ++ [UInt8.ofNat (m % 128 + 128)], by go_num, by omega, hS.1, by omega, hS.2.1, hS.2.2.1, hS.2.2.2, hown', (hB.trans ((bel_new wr _).mono hz)).trans hb'⟩
      case measure => simp [intOf]; omega

/-- append of a string, at a step of a region that draws its order. -/
theorem step_app_string {ops : Array Oper} {o : Oper} {a : Act} {K : Act → World → Prop} {Q : Exit → Act → World → Prop} {E : Prop} {w : World} (hgd : o.guard = none) (s x : Operand)
    (ho : o.op = .call { callee := .builtin .append, args := #[s, x], argTypes := #[23, 9] })
    (base : Nat) (v : Value) (l : List UInt8) (hs : a.eval s = v) (hown : OwnB w base v l) (t : ByteArray) (hx : a.eval x = .string t)
    (hb : l.length + t.size ≤ 140737488355328) (hbase : base ≤ w.heap.size)
    (h : ∀ v' w', OwnB w' base v' (l ++ t.data.toList) → Below base w w' → w.heap.size ≤ w'.heap.size → K (a.put o.dst v') w') :
    if Region.wanted o (yielded ops a.tmps) = true then Oper.wp Try.prog o a w K Q else E := by
  have hw : Region.wanted o (yielded ops a.tmps) = true := by simp [Region.wanted, hgd]
  rw [if_pos hw]
  obtain ⟨i0, hi, hz0, hz1, hz2⟩ := info_parts info5
  obtain ⟨v', w', hrun, hown', hgrow, _⟩ := Lib.run_append_own_string (P := Try.prog) w base 23 9 o.type 5 i0 Try.underlying23 Try.underlying9 hi hz0 hz1 hz2 v l.length (l.map bcell) hown t (by unfold maxLen; omega) hb hbase
  have hs' : Lib.strCells t = t.data.toList.map bcell := rfl
  have hsz : t.size = t.data.toList.length := by rw [Array.length_toList]; rfl
  unfold Oper.wp
  simp [execOp, ho, resolve, invoke, builtin, hs, hx, hrun, Result.andThen]
  refine h v' w' ?_ ((Below.refl base w).grown hgrow hbase fun k hk => (World.ownsRow.lt hown k hk).1) hgrow.size
  rw [hs'] at hown'
  unfold OwnB
  rw [List.length_append, List.map_append, ← hsz]
  exact hown'
/-- append of whatever bytes to bytes of the call's own, and which block grows. -/
theorem wpList_appG {ops : Array Oper} {rest : List Oper} {o : Oper} {a : Act} {Q : Exit → Act → World → Prop} {w : World} (hgd : o.guard = none) (s x : Operand)
    (ho : o.op = .call { callee := .builtin .append, args := #[s, x], argTypes := #[23, 23] })
    (base : Nat) (v : Value) (l : List UInt8) (hs : a.eval s = v) (hown : OwnB w base v l) (u : Value) (l2 : List UInt8) (hx : a.eval x = u) (hu : IsB w u l2)
    (hb : l.length + l2.length ≤ 140737488355328) (hbase : base ≤ w.heap.size)
    (h : ∀ v' w', OwnB w' base v' (l ++ l2) → Below base w w' → w.heap.size ≤ w'.heap.size → w.grownBy w' v.ownBlock → (v'.ownBlock = v.ownBlock ∨ v'.ownBlock = some w.heap.size) → wpList Try.prog ops Q rest (a.put o.dst v') w') : wpList Try.prog ops Q (o :: rest) a w := by
  obtain ⟨i0, hi, hz0, hz1, hz2⟩ := info_parts info5
  rcases hu.news with ⟨rfl, rfl⟩ | ⟨ad, cap, rfl, hc, hm, hcells⟩
  · refine wpList_append_own_none hgd s x 23 ho base 5 i0 1 Try.underlying23 hi v l.length (l.map bcell) hs hown hx ?_
    exact h v w (by simpa using hown) (Below.refl _ _) (Nat.le_refl _) (World.grownBy.refl _ _) (.inl rfl)
  · refine wpList_append_own_at _ hgd s x 23 ho base 5 i0 (.int .u8 0) 1 1 Try.underlying23 hi hz0 hz1 hz2 rfl (by decide) v l.length (l.map bcell) hs hown ad l2.length cap (l2.map bcell) hx (by simp) hcells (bcell_one l2)
      (by unfold maxLen; omega) (by omega) hbase ?_
    intro v' w' hown' hgrow hnil hat
    refine h v' w' (by simpa [OwnB] using hown') ?_ hgrow.size hgrow hat
    exact (Below.refl base w).grown hgrow hbase fun k hk => (World.ownsRow.lt hown k hk).1
set_option maxHeartbeats 1000000 in
theorem ptext_any (s : List UInt8) (w : World) (hs : s.length ≤ 1099511627776) : Calls Try.prog 36 #[.string ⟨s.toArray⟩] w fun e w' => ∃ v, e = .returned v ∧ OwnB w' w.heap.size v (textB s) ∧ Below w.heap.size w w' := by
  have hsz : ((ByteArray.mk s.toArray).size : Int) = (s.length : Int) := by simp [ByteArray.size]
  have HSZ := Lib.hid (show (ByteArray.mk s.toArray).size = s.length by simp [ByteArray.size])
  have HP := Lib.hid (fun W => puint_any s.length W hs)
  have hn := numB_len s.length
  go_enter Try.func36, Try.ntmps36
  go_wp2_with (first | (go_at_call 35; refine (HP.out _).mono ?_; rintro r W2 ⟨v2, rfl, ho2, hb2⟩) | (at_builtin; refine wpList_app_string rfl (.tmp 5) (.tmp 6) rfl w.heap.size _ (numB s.length) rfl ho2 ⟨s.toArray⟩ rfl (by rw [HSZ.out]; omega) hb2.size ?_; intro v3 W3 ho3 hb3 hz3 hn3))
  go_ret
  exact ⟨_, rfl, by simpa [textB] using ho3, hb2.trans hb3⟩

/-- The numbers of the fields that a kind uses. -/
def usesL (k : Int) : List Int :=
  if k = 1 then [0, 1, 4, 5] else if k = 2 then [0, 1, 2, 4] else if k = 3 then [0, 3, 6] else if k = 4 then [0] else if k = 5 ∨ k = 7 ∨ k = 11 then [0, 1] else if k = 6 then [0, 4]
  else if k = 8 then [1, 2, 5] else if k = 9 ∨ k = 10 then [1] else if k = 12 then [0, 1, 2] else []
/-- A list of numbers of the call's own block. -/
def IsN (w : World) (base : Nat) (v : Value) (ns : List Int) : Prop :=
  (ns = [] ∧ v = .slice none 0 0) ∨ (ns ≠ [] ∧ ∃ g, v = .slice (some ⟨g, 0, none⟩) ns.length ns.length ∧ base ≤ g ∧ g < w.heap.size ∧ ∀ k n, ns[k]? = some n → w.cell? ⟨g, k, none⟩ = some (.int .i64 n))
theorem IsN.shape {w : World} {base : Nat} {v : Value} {ns : List Int} (h : IsN w base v ns) : ∃ a, v = .slice a ns.length ns.length := by
  rcases h with ⟨rfl, rfl⟩ | ⟨_, g, rfl, _⟩
  · exact ⟨none, rfl⟩
  · exact ⟨_, rfl⟩
theorem IsN.step {w w' : World} {base : Nat} {v : Value} {ns : List Int} (h : IsN w base v ns) (hb : Below w.heap.size w w') : IsN w' base v ns := by
  rcases h with h | ⟨h0, g, hv, hg, hl, hc⟩
  · exact .inl h
  · exact .inr ⟨h0, g, hv, hg, Nat.lt_of_lt_of_le hl hb.size, fun k n hk => keep_at hb (hc k n hk)⟩
theorem IsN.elem {w : World} {base : Nat} {v : Value} {ns : List Int} (h : IsN w base v ns) {k : Nat} (hk : k < ns.length) : ∃ g, v = .slice (some ⟨g, 0, none⟩) ns.length ns.length ∧ w.cell? ⟨g, k, none⟩ = some (.int .i64 ns[k]) := by
  rcases h with ⟨rfl, _⟩ | ⟨_, g, hv, _, _, hc⟩
  · simp at hk
  · exact ⟨g, hv, hc k _ (List.getElem?_eq_getElem hk)⟩
theorem IsN.new (w : World) (ns : List Int) (h : ns ≠ []) : IsN (w.alloc (.cells (ns.map fun n => Value.int .i64 n).toArray 3)) w.heap.size (.slice (some ⟨w.heap.size, 0, none⟩) ns.length ns.length) ns := by
  refine .inr ⟨h, w.heap.size, rfl, Nat.le_refl _, by simp [go_sem], fun k n hk => ?_⟩
  rw [cell_of_row _ _ _ _ _ _ (heap_alloc_new w _)]
  simp [hk]

set_option maxHeartbeats 4000000 in
theorem Uses_any (k : Int) (w : World) : Calls Try.prog 31 #[.int .i64 k] w fun e w' => ∃ v, e = .returned v ∧ IsN w' w.heap.size v (usesL k) ∧ Below w.heap.size w w' := by
  have hk : k = 1 ∨ k = 2 ∨ k = 3 ∨ k = 4 ∨ k = 5 ∨ k = 6 ∨ k = 7 ∨ k = 8 ∨ k = 9 ∨ k = 10 ∨ k = 11 ∨ k = 12 ∨ (¬ k = 1 ∧ ¬ k = 2 ∧ ¬ k = 3 ∧ ¬ k = 4 ∧ ¬ k = 5 ∧ ¬ k = 7 ∧ ¬ k = 11 ∧ ¬ k = 6 ∧ ¬ k = 8 ∧ ¬ k = 9 ∧ ¬ k = 10 ∧ ¬ k = 12) := by omega
  rcases hk with rfl | rfl | rfl | rfl | rfl | rfl | rfl | rfl | rfl | rfl | rfl | rfl | ⟨h1, h2, h3, h4, h5, h7, h11, h6, h8, h9, h10, h12⟩
  · go_enter Try.func31, Try.ntmps31
    go_wp2
    go_ret
    exact ⟨_, rfl, IsN.new w [0, 1, 4, 5] (by simp), bel_new _ _⟩
  · go_enter Try.func31, Try.ntmps31
    go_wp2
    go_ret
    exact ⟨_, rfl, IsN.new w [0, 1, 2, 4] (by simp), bel_new _ _⟩
  · go_enter Try.func31, Try.ntmps31
    go_wp2
    go_ret
    exact ⟨_, rfl, IsN.new w [0, 3, 6] (by simp), bel_new _ _⟩
  · go_enter Try.func31, Try.ntmps31
    go_wp2
    go_ret
    exact ⟨_, rfl, IsN.new w [0] (by simp), bel_new _ _⟩
  · go_enter Try.func31, Try.ntmps31
    go_wp2
    go_ret
    exact ⟨_, rfl, IsN.new w [0, 1] (by simp), bel_new _ _⟩
  · go_enter Try.func31, Try.ntmps31
    go_wp2
    go_ret
    exact ⟨_, rfl, IsN.new w [0, 4] (by simp), bel_new _ _⟩
  · go_enter Try.func31, Try.ntmps31
    go_wp2
    go_ret
    exact ⟨_, rfl, IsN.new w [0, 1] (by simp), bel_new _ _⟩
  · go_enter Try.func31, Try.ntmps31
    go_wp2
    go_ret
    exact ⟨_, rfl, IsN.new w [1, 2, 5] (by simp), bel_new _ _⟩
  · go_enter Try.func31, Try.ntmps31
    go_wp2
    go_ret
    exact ⟨_, rfl, IsN.new w [1] (by simp), bel_new _ _⟩
  · go_enter Try.func31, Try.ntmps31
    go_wp2
    go_ret
    exact ⟨_, rfl, IsN.new w [1] (by simp), bel_new _ _⟩
  · go_enter Try.func31, Try.ntmps31
    go_wp2
    go_ret
    exact ⟨_, rfl, IsN.new w [0, 1] (by simp), bel_new _ _⟩
  · go_enter Try.func31, Try.ntmps31
    go_wp2
    go_ret
    exact ⟨_, rfl, IsN.new w [0, 1, 2] (by simp), bel_new _ _⟩
  · have hu : usesL k = [] := by
      unfold usesL
      rw [if_neg h1, if_neg h2, if_neg h3, if_neg h4, if_neg (by omega), if_neg h6, if_neg h8, if_neg (by omega), if_neg h12]
    rw [hu]
    clear hu
    go_enter Try.func31, Try.ntmps31
    go_wp2
    go_ret
    exact ⟨_, rfl, .inl ⟨rfl, rfl⟩, Below.refl _ _⟩
end Go.Proofs.Ytbfpjldincnihaa
