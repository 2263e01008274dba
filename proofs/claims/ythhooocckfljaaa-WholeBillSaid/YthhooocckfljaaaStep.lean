/- Append inside a region whose order Go leaves open; bytes as a string. No condition. -/
import Derived.Test.YthhooocckfljaaaSum
import Derived.Deep.AppendLies
import Derived.Laws.BytesArg
import Derived.Deep.RegionLaw
namespace Go.Proofs.Ythhooocckfljaaa
open Go.RowKit
set_option linter.unusedVariables false
set_option linter.unusedSimpArgs false

theorem OwnB.shape {w : World} {base : Nat} {v : Value} {l : List UInt8} (h : OwnB w base v l) (hl : l ≠ []) : ∃ g cap, v = .slice (some ⟨g, 0, none⟩) l.length cap ∧ base ≤ g ∧ g < w.heap.size :=
  World.ownsRow.form h (by cases l with | nil => exact absurd rfl hl | cons => simp)

theorem OwnB.one (w : World) (base : Nat) (x : Int) (c : UInt8) (h : x = (c.toNat : Int)) (hb : base ≤ w.heap.size) : OwnB (w.alloc (.cells #[.int .u8 x] 5)) base (.slice (some ⟨w.heap.size, 0, none⟩) 1 1) [c] := by
  subst h
  exact ⟨rfl, .inr ⟨w.heap.size, 1, #[.int .u8 (c.toNat : Int)], rfl, hb, heap_alloc_new w _, Nat.le_refl _, by unfold maxLen; omega, rfl, rfl⟩⟩

/-- append, at a step of a region that draws its order. -/
theorem step_app {ops : Array Oper} {o : Oper} {a : Act} {K : Act → World → Prop} {Q : Exit → Act → World → Prop} {E : Prop} {w : World} (hgd : o.guard = none) (s x : Operand)
    (ho : o.op = .call { callee := .builtin .append, args := #[s, x], argTypes := #[40, 40] })
    (base : Nat) (v : Value) (l : List UInt8) (hs : a.eval s = v) (hown : OwnB w base v l) (u : Value) (l2 : List UInt8) (hx : a.eval x = u) (hu : IsB w u l2)
    (hb : l.length + l2.length ≤ 140737488355328) (hbase : base ≤ w.heap.size)
    (h : ∀ v' w', OwnB w' base v' (l ++ l2) → Below base w w' → w.heap.size ≤ w'.heap.size → K (a.put o.dst v') w') :
    if Region.wanted o (yielded ops a.tmps) = true then Oper.wp Try.prog o a w K Q else E := by
  have hw : Region.wanted o (yielded ops a.tmps) = true := by simp [Region.wanted, hgd]
  rw [if_pos hw]
  obtain ⟨i0, hi, hz0, hz1, hz2⟩ := info_parts info5
  rcases hu.news with ⟨rfl, rfl⟩ | ⟨ad, cap, rfl, hc, hm, hcells⟩
  · have hrun := run_append_owned_none (P := Try.prog) (w := w) base 40 o.type 5 i0 1 Try.underlying40 hi v l.length (l.map bcell) hown
    unfold Oper.wp
    simp [execOp, ho, resolve, invoke, builtin, hs, hx, hrun, Result.andThen]
    exact h v w (by simpa using hown) (Below.refl _ _) (Nat.le_refl _)
  · refine wp_append_own w s x 40 ho base 5 i0 (.int .u8 0) 1 1 Try.underlying40 hi hz0 hz1 hz2 rfl (by decide) v l.length (l.map bcell) hs hown ad l2.length cap (l2.map bcell) hx (by simp) hcells (bcell_one l2)
      (by unfold maxLen; omega) (by omega) hbase ?_
    intro v' w' hown' hgrow hnil
    refine h v' w' (by simpa [OwnB] using hown') ((Below.refl base w).grown hgrow hbase fun k hk => (World.ownsRow.lt hown k hk).1) hgrow.size

/-- 'string(b)'. -/
theorem nums_bytes (l : List UInt8) : strOfNums (l.map fun c => (c.toNat : Int)) = ⟨l.toArray⟩ := by
  unfold strOfNums
  congr 1
  rw [List.map_map]
  congr 1
  have : (fun n : Int => UInt8.ofNat n.toNat) ∘ (fun c : UInt8 => (c.toNat : Int)) = id := by
    funext c
    simp
  rw [this, List.map_id]
theorem run_str (w : World) (v : Value) (l : List UInt8) (h : IsB w v l) : (convert 40 9 v).run Try.prog w = .ok (.string ⟨l.toArray⟩) w := by
  rcases h with ⟨rfl, a, cap, rfl, h1, h2⟩ | ⟨h0, b, off, cap, rfl, h1, h2, h3⟩
  · cases a with
    | none => exact run_convert_bytes_nil w 40 5 Try.underlying40 Try.underlying5 0 cap 9 Try.underlying9
    | some ad =>
      rw [run_convert_bytes_string w 40 9 5 (some ad) 0 cap Try.underlying40 Try.underlying5 Try.underlying9]
      simp [Conv.bytesToString, go_sem]
      rfl
  · rw [← nums_bytes]
    refine run_convert_bytes_arg w 40 5 Try.underlying40 Try.underlying5 b off l.length cap _ (by simp) (fun i hi => ?_) 9 Try.underlying9
    have := h3 i l[i] (List.getElem?_eq_getElem hi)
    simpa [List.getD, hi] using this

end Go.Proofs.Ythhooocckfljaaa
