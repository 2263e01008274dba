/- The walks of the statements' own Payload, uint and one. No condition beyond that an entry is valid. -/
import Derived.Test.YthhooocckfljaaaLog
namespace Go.Proofs.Ythhooocckfljaaa
open Go.RowKit
set_option linter.unusedVariables false
set_option linter.unusedSimpArgs false

/-- append of a string, at a step of a region that draws its order. -/
theorem step_app_string {ops : Array Oper} {o : Oper} {a : Act} {K : Act → World → Prop} {Q : Exit → Act → World → Prop} {E : Prop} {w : World} (hgd : o.guard = none) (s x : Operand)
    (ho : o.op = .call { callee := .builtin .append, args := #[s, x], argTypes := #[40, 9] })
    (base : Nat) (v : Value) (l : List UInt8) (hs : a.eval s = v) (hown : OwnB w base v l) (t : ByteArray) (hx : a.eval x = .string t)
    (hb : l.length + t.size ≤ 140737488355328) (hbase : base ≤ w.heap.size)
    (h : ∀ v' w', OwnB w' base v' (l ++ t.data.toList) → Below base w w' → w.heap.size ≤ w'.heap.size → K (a.put o.dst v') w') :
    if Region.wanted o (yielded ops a.tmps) = true then Oper.wp Try.prog o a w K Q else E := by
  have hw : Region.wanted o (yielded ops a.tmps) = true := by simp [Region.wanted, hgd]
  rw [if_pos hw]
  obtain ⟨i0, hi, hz0, hz1, hz2⟩ := info_parts info5
  obtain ⟨v', w', hrun, hown', hgrow, _⟩ := Lib.run_append_own_string (P := Try.prog) w base 40 9 o.type 5 i0 Try.underlying40 Try.underlying9 hi hz0 hz1 hz2 v l.length (l.map bcell) hown t (by unfold maxLen; omega) hb hbase
  have hs' : Lib.strCells t = t.data.toList.map bcell := rfl
  have hsz : t.size = t.data.toList.length := by rw [Array.length_toList]; rfl
  unfold Oper.wp
  simp [execOp, ho, resolve, invoke, builtin, hs, hx, hrun, Result.andThen]
  refine h v' w' ?_ ((Below.refl base w).grown hgrow hbase fun k hk => (World.ownsRow.lt hown k hk).1) hgrow.size
  rw [hs'] at hown'
  unfold OwnB
  rw [List.length_append, List.map_append, ← hsz]
  exact hown'
/-- append of whatever bytes to bytes of the call's own, and which block grows. -/
theorem wpList_appG {ops : Array Oper} {rest : List Oper} {o : Oper} {a : Act} {Q : Exit → Act → World → Prop} {w : World} (hgd : o.guard = none) (s x : Operand)
    (ho : o.op = .call { callee := .builtin .append, args := #[s, x], argTypes := #[40, 40] })
    (base : Nat) (v : Value) (l : List UInt8) (hs : a.eval s = v) (hown : OwnB w base v l) (u : Value) (l2 : List UInt8) (hx : a.eval x = u) (hu : IsB w u l2)
    (hb : l.length + l2.length ≤ 140737488355328) (hbase : base ≤ w.heap.size)
    (h : ∀ v' w', OwnB w' base v' (l ++ l2) → Below base w w' → w.heap.size ≤ w'.heap.size → w.grownBy w' v.ownBlock → (v'.ownBlock = v.ownBlock ∨ v'.ownBlock = some w.heap.size) → wpList Try.prog ops Q rest (a.put o.dst v') w') : wpList Try.prog ops Q (o :: rest) a w := by
  obtain ⟨i0, hi, hz0, hz1, hz2⟩ := info_parts info5
  rcases hu.news with ⟨rfl, rfl⟩ | ⟨ad, cap, rfl, hc, hm, hcells⟩
  · refine wpList_append_own_none hgd s x 40 ho base 5 i0 1 Try.underlying40 hi v l.length (l.map bcell) hs hown hx ?_
    exact h v w (by simpa using hown) (Below.refl _ _) (Nat.le_refl _) (World.grownBy.refl _ _) (.inl rfl)
  · refine wpList_append_own_at _ hgd s x 40 ho base 5 i0 (.int .u8 0) 1 1 Try.underlying40 hi hz0 hz1 hz2 rfl (by decide) v l.length (l.map bcell) hs hown ad l2.length cap (l2.map bcell) hx (by simp) hcells (bcell_one l2)
      (by unfold maxLen; omega) (by omega) hbase ?_
    intro v' w' hown' hgrow hnil hat
    refine h v' w' (by simpa [OwnB] using hown') ?_ hgrow.size hgrow hat
    exact (Below.refl base w).grown hgrow hbase fun k hk => (World.ownsRow.lt hown k hk).1
theorem clamp_in {n : Int} (h : inR n) : ((clampN n : Nat) : Int) = n ∧ clampN n ≤ 1099511627776 := by
  unfold inR at h; unfold clampN; omega
theorem intsK_in (e : Ent) (h : rangeE e) (k : Nat) : inR (intsK e k) := by
  obtain ⟨h0, h1, h2, h3, h4, h5, h6, h7⟩ := h
  match k with
  | 0 => exact h0
  | 1 => exact h2
  | 2 => exact h3
  | 3 => exact h4
  | k + 4 => exact h5

end Go.Proofs.Ythhooocckfljaaa
