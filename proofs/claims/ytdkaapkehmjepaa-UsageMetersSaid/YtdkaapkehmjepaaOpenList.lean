/- Arguments that are lists of entries and of acts, taken apart. No condition. -/
import Derived.Test.YtdkaapkehmjepaaOnes
import Derived.Test.YtdkaapkehmjepaaOpen
import Derived.Deep.Fields
import Derived.ChangeSame
namespace Go.Proofs.Ytdkaapkehmjepaa
open Go.ChangeShapes Go.WideShapes Go.ChangeAt Go.RowKit Go.Deep
set_option linter.unusedVariables false
set_option linter.unusedSimpArgs false

section
variable {H : Type} {enc : TypeId × Value → H} {P : Program} {w : World} {base : Nat} {spare : Nat → Bool} {held : Bool}
theorem open_slice_fields {t e : TypeId} {fs : Array Field} {fuel : Nat} {cs : List Value} {x : DataW H × List MemPlace} (ht : P.underlying t = some (.slice e)) (he : P.underlying e = some (.struct fs))
    (hone : oneCellFields P fs = true) (hC : P.cellsOf e = fs.size) (h : DataW.trod enc P w base spare held fuel t cs = some x) :
    (cs = [.slice none 0 0] ∧ x = (.nil, [])) ∨
    ∃ (a : Addr) (len cap m : Nat) (D : Nat → DataW H) (Pl : Nat → List MemPlace), cs = [.slice (some a) len cap] ∧ base ≤ a.block ∧ len ≤ cap ∧ cap ≤ maxLen ∧ m = (if spare a.block then cap else len) ∧
      x = (.slice ((List.range len).map D) ((List.range (m - len)).map fun j => D (len + j)), MemPlace.row a (m * fs.size) ++ (List.range m).flatMap Pl) ∧
      ∀ i, i < m → ∃ (ys : List (DataW H × List MemPlace)) (n : Nat), D i = .agg (ys.map (·.1)) ∧ Pl i = ys.flatMap (·.2) ∧ ys.length = fs.size ∧
        ∀ (j : Nat) (f : Field), fs[j]? = some f → ∃ (v : Value) (y : DataW H × List MemPlace), w.cell? (a.add (i * fs.size + j)) = some v ∧ ys[j]? = some y ∧ DataW.trod enc P w base spare held n f.type [v] = some y := by
  rcases open_slice ht h with h0 | ⟨a, len, cap, m, n, D, Pl, hcs, hb, hl, hm, hmm, hx, hi⟩
  · exact .inl h0
  · refine .inr ⟨a, len, cap, m, D, Pl, hcs, hb, hl, hm, hmm, by rw [hC] at hx; exact hx, fun i him => ?_⟩
    obtain ⟨cs', hc, ht'⟩ := hi i him
    rw [hC] at hc
    obtain ⟨ys, n', hn', hy, hlen, hyl, hf⟩ := DataW.trod_struct he ht'
    obtain ⟨_, hcl, hat⟩ := World.cells?_some hc
    simp only [Prod.mk.injEq] at hy
    refine ⟨ys, n', hy.1, hy.2, hyl, fun j f hj => ?_⟩
    obtain ⟨ho, hk⟩ := hone_of hone j f hj
    have hjl : j < fs.size := (Array.getElem?_eq_some_iff.1 hj).1
    have hcell := hat j hjl
    have hv : cs'[j]? = some (cs'[j]'(by omega)) := List.getElem?_eq_getElem (by omega)
    have h1 := hf j f hj
    rw [ho, hk] at h1
    have hone' : (cs'.drop j).take 1 = [cs'[j]'(by omega)] := by
      rw [List.drop_eq_getElem_cons (by omega)]
      rfl
    rw [hone'] at h1
    have hys : ys[j]? = some (ys[j]'(by omega)) := List.getElem?_eq_getElem (by omega)
    refine ⟨_, _, ?_, hys, h1.trans hys⟩
    rw [← Go.Deep.add_add, hcell, hv]
end

theorem add_plain (b off i : Nat) : (⟨b, off, none⟩ : Addr).add i = ⟨b, off + i, none⟩ := by unfold Addr.add; split <;> simp_all
instance : Inhabited Ent := ⟨⟨[], 0, 0, 0, 0, 0, 0⟩⟩
theorem maxLen_le : maxLen ≤ 9223372036854775807 := by decide
theorem open40 {H : Type} {enc : TypeId × Value → H} {base : Nat} {W : World} {v : Value} {d : DataW H} {p : List MemPlace} (o : Value.okWide Try.prog W .any base 40 v) (h : DataW.Trod enc Try.prog W 0 (fun _ => true) true 40 v d p) :
    ∃ es, IsE W v es ∧ ∀ e ∈ es, FitE e := by
  obtain ⟨a, len, cap, rfl⟩ := okWide_slice Try.underlying40 o
  obtain ⟨fuel, hf⟩ := h
  simp only [Value.cells] at hf
  rcases open_slice_fields Try.underlying40 Try.underlying23 (by kernel_rfl) cells_23 hf with ⟨h1, _⟩ | ⟨a', len', cap', m, D, Pl, h1, _, hl, hm, hmm, hx2, hx⟩
  · simp only [List.cons.injEq, and_true, Value.slice.injEq] at h1
    obtain ⟨rfl, rfl, rfl⟩ := h1
    exact ⟨[], IsE.nil _, by simp⟩
  · simp only [List.cons.injEq, and_true, Value.slice.injEq] at h1
    obtain ⟨rfl, rfl, rfl⟩ := h1
    simp only [if_true] at hmm
    subst hmm
    by_cases h0 : len = 0
    · subst h0
      exact ⟨[], .inl ⟨rfl, _, _, rfl, hm, fun h => by cases h⟩, by simp⟩
    · obtain ⟨b, off, spot⟩ := a'
      have hspot : spot = none := by
        obtain ⟨ys, n, _, _, _, hj⟩ := hx 0 (by omega)
        obtain ⟨v, y, hc, _⟩ := hj 0 _ rfl
        simpa [Addr.add] using World.cell?_spot hc
      subst hspot
      obtain ⟨C, hC⟩ := choose_lt (α := Ent) (p := fun i x => EntAt W b (off + i * 7) x ∧ FitE x) (n := m) (fun i hi => by
        obtain ⟨ys, n, hD, _, hyl, hj⟩ := hx i hi
        obtain ⟨v0, y0, c0, e0, t0⟩ := hj 0 _ rfl
        obtain ⟨v1, y1, c1, e1, t1⟩ := hj 1 _ rfl
        obtain ⟨v2, y2, c2, e2, t2⟩ := hj 2 _ rfl
        obtain ⟨v3, y3, c3, e3, t3⟩ := hj 3 _ rfl
        obtain ⟨v4, y4, c4, e4, t4⟩ := hj 4 _ rfl
        obtain ⟨v5, y5, c5, e5, t5⟩ := hj 5 _ rfl
        obtain ⟨v6, y6, c6, e6, t6⟩ := hj 6 _ rfl
        obtain ⟨s, q0, r0, w0⟩ := DataW.trod_string Try.underlying9 t0
        obtain ⟨n1, q1, r1, w1⟩ := DataW.trod_int Try.underlying3 t1
        obtain ⟨n2, q2, r2, w2⟩ := DataW.trod_int Try.underlying3 t2
        obtain ⟨n3, q3, r3, w3⟩ := DataW.trod_int Try.underlying3 t3
        obtain ⟨n4, q4, r4, w4⟩ := DataW.trod_int Try.underlying3 t4
        obtain ⟨n5, q5, r5, w5⟩ := DataW.trod_int Try.underlying3 t5
        obtain ⟨n6, q6, r6, w6⟩ := DataW.trod_int Try.underlying3 t6
        simp only [List.cons.injEq, and_true] at q0 q1 q2 q3 q4 q5 q6
        subst q0 q1 q2 q3 q4 q5 q6
        rw [add_plain] at c0 c1 c2 c3 c4 c5 c6
        have hsz : s.data.toList.length ≤ 9223372036854775807 := by
          have : s.data.toList.length = s.size := by rw [Array.length_toList]; rfl
          have := maxLen_le
          omega
        exact ⟨⟨s.data.toList, n1, n2, n3, n4, n5, n6⟩, ⟨by simpa using c0, by simpa [Nat.add_assoc] using c1, by simpa [Nat.add_assoc] using c2, by simpa [Nat.add_assoc] using c3, by simpa [Nat.add_assoc] using c4, by simpa [Nat.add_assoc] using c5, by simpa [Nat.add_assoc] using c6⟩, hsz, wf64 w2⟩)
      refine ⟨(List.range len).map C, .inr ⟨by simp [h0], b, off, m, by simp, by simpa using hl, hm, fun i c hi => ?_⟩, fun e he => ?_⟩
      · rw [List.getElem?_map] at hi
        have hil : i < len := by
          rcases Nat.lt_or_ge i len with h | h
          · exact h
          · simp [List.getElem?_eq_none (show (List.range len).length ≤ i by simpa using h)] at hi
        simp [List.getElem?_eq_getElem (show i < (List.range len).length by simpa using hil)] at hi
        subst hi
        exact (hC i (by omega)).1
      · obtain ⟨i, hi, rfl⟩ := List.mem_map.1 he
        exact (hC i (by have := List.mem_range.1 hi; omega)).2
end Go.Proofs.Ytdkaapkehmjepaa
