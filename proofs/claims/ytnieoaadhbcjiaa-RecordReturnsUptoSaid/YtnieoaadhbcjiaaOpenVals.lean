/- Arguments that are lists of values, taken apart; what the bound of their bulk gives. No condition. -/
import Derived.Test.YtnieoaadhbcjiaaPut
import Derived.Test.YtnieoaadhbcjiaaOpen
import Derived.Deep.Fields
import Derived.ChangeSame
namespace Go.Proofs.Ytnieoaadhbcjiaa
open Go.ChangeShapes Go.WideShapes Go.ChangeAt Go.RowKit Go.Deep
set_option linter.unusedVariables false
set_option linter.unusedSimpArgs false

section
variable {H : Type} {enc : TypeId × Value → H} {P : Program} {w : World} {base : Nat} {spare : Nat → Bool} {held : Bool}
theorem open_slice_fields {t e : TypeId} {fs : Array Field} {fuel : Nat} {cs : List Value} {x : DataW H × List MemPlace} (ht : P.underlying t = some (.slice e)) (he : P.underlying e = some (.struct fs))
    (hone : oneCellFields P fs = true) (hC : P.cellsOf e = fs.size) (h : DataW.trod enc P w base spare held fuel t cs = some x) :
    (cs = [.slice none 0 0] ∧ x = (.nil, [])) ∨
    ∃ (a : Addr) (len cap m : Nat) (D : Nat → DataW H) (Pl : Nat → List MemPlace), cs = [.slice (some a) len cap] ∧ base ≤ a.block ∧ len ≤ cap ∧ cap ≤ maxLen ∧ m = (if spare a.block then cap else len) ∧
      x = (.slice ((List.range len).map D) ((List.range (m - len)).map fun j => D (len + j)), MemPlace.row a (m * fs.size) ++ (List.range m).flatMap Pl) ∧
      ∀ i, i < m → ∃ (ys : List (DataW H × List MemPlace)) (n : Nat), D i = .agg (ys.map (·.1)) ∧ Pl i = ys.flatMap (·.2) ∧ ys.length = fs.size ∧
        ∀ (j : Nat) (f : Field), fs[j]? = some f → ∃ (v : Value) (y : DataW H × List MemPlace), w.cell? (a.add (i * fs.size + j)) = some v ∧ ys[j]? = some y ∧ DataW.trod enc P w base spare held n f.type [v] = some y := by
  rcases open_slice ht h with h0 | ⟨a, len, cap, m, n, D, Pl, hcs, hb, hl, hm, hmm, hx, hi⟩
  · exact .inl h0
  · refine .inr ⟨a, len, cap, m, D, Pl, hcs, hb, hl, hm, hmm, by rw [hC] at hx; exact hx, fun i him => ?_⟩
    obtain ⟨cs', hc, ht'⟩ := hi i him
    rw [hC] at hc
    obtain ⟨ys, n', hn', hy, hlen, hyl, hf⟩ := DataW.trod_struct he ht'
    obtain ⟨_, hcl, hat⟩ := World.cells?_some hc
    simp only [Prod.mk.injEq] at hy
    refine ⟨ys, n', hy.1, hy.2, hyl, fun j f hj => ?_⟩
    obtain ⟨ho, hk⟩ := hone_of hone j f hj
    have hjl : j < fs.size := (Array.getElem?_eq_some_iff.1 hj).1
    have hcell := hat j hjl
    have hv : cs'[j]? = some (cs'[j]'(by omega)) := List.getElem?_eq_getElem (by omega)
    have h1 := hf j f hj
    rw [ho, hk] at h1
    have hone' : (cs'.drop j).take 1 = [cs'[j]'(by omega)] := by
      rw [List.drop_eq_getElem_cons (by omega)]
      rfl
    rw [hone'] at h1
    have hys : ys[j]? = some (ys[j]'(by omega)) := List.getElem?_eq_getElem (by omega)
    refine ⟨_, _, ?_, hys, h1.trans hys⟩
    rw [← Go.Deep.add_add, hcell, hv]
end

theorem bulk_texts {H : Type} (ts : List (List UInt8)) : textSum ts ≤ 10 * Rows.uptoBulkAll (ts.map fun s => DataW.lit (H := H) (.string s)) := by
  induction ts with
  | nil => simp [textSum]
  | cons s r ih =>
    have e2 : textSum (s :: r) = 10 + s.length + textSum r := by simp [textSum]
    simp only [List.map_cons, Rows.uptoBulkAll, Rows.uptoBulk]
    omega
theorem cells_9 : Try.prog.cellsOf 9 = 1 := by kernel_rfl
theorem add_plain (b off i : Nat) : (⟨b, off, none⟩ : Addr).add i = ⟨b, off + i, none⟩ := by unfold Addr.add; split <;> simp_all

theorem open_texts {H : Type} {enc : TypeId × Value → H} {fuel : Nat} {W : World} {c : Value} {x : DataW H × List MemPlace} (hf : DataW.trod enc Try.prog W 0 (fun _ => true) true fuel 27 [c] = some x) :
    ∃ ts, IsT W c ts ∧ textSum ts ≤ 10 * Rows.uptoBulk x.1 := by
  rcases open_slice1 Try.underlying27 cells_9 hf with ⟨h1, _⟩ | ⟨a', len', cap', m, n, V, D, Pl, h1, _, hl, hm, hmm, hx2, hx⟩
  · simp only [List.cons.injEq, and_true] at h1
    subst h1
    exact ⟨[], .inl ⟨rfl, _, _, rfl⟩, by simp [textSum]⟩
  · simp only [List.cons.injEq, and_true] at h1
    subst h1
    simp only [if_true] at hmm
    subst hmm
    by_cases h0 : len' = 0
    · subst h0
      exact ⟨[], .inl ⟨rfl, _, _, rfl⟩, by simp [textSum]⟩
    · obtain ⟨b, off, spot⟩ := a'
      obtain ⟨C, hC⟩ := choose_lt (α := List UInt8) (p := fun i c => V i = .string ⟨c.toArray⟩ ∧ D i = .lit (.string c)) (n := m) (fun i hi => by
        obtain ⟨s, h1, h2, _⟩ := DataW.trod_string Try.underlying9 (hx i hi).2
        simp only [Prod.mk.injEq] at h2
        exact ⟨s.data.toList, by simpa using h1, h2.1⟩)
      have hspot : spot = none := by simpa [Addr.add] using World.cell?_spot (hx 0 (by omega)).1
      subst hspot
      refine ⟨(List.range len').map C, .inr ⟨by simp [h0], b, off, m, by simp, by simpa using hl, hm, fun i c hi => ?_⟩, ?_⟩
      · rw [List.getElem?_map] at hi
        have hil : i < len' := by
          rcases Nat.lt_or_ge i len' with h | h
          · exact h
          · simp [List.getElem?_eq_none (show (List.range len').length ≤ i by simpa using h)] at hi
        simp [List.getElem?_eq_getElem (show i < (List.range len').length by simpa using hil)] at hi
        subst hi
        rw [← add_plain, (hx i (by omega)).1, (hC i (by omega)).1]
      · rw [hx2]
        have e : (List.range len').map D = ((List.range len').map C).map fun s => DataW.lit (H := H) (.string s) := by
          rw [List.map_map]
          exact List.map_congr_left fun i hi => (hC i (by have := List.mem_range.1 hi; omega)).2
        have := bulk_texts (H := H) ((List.range len').map C)
        simp only [Rows.uptoBulk]
        rw [e]
        omega

theorem sum_bulk {H : Type} (C : Nat → Val) (D : Nat → DataW H) : ∀ l : List Nat, (∀ i ∈ l, lenV (C i) ≤ 10 * Rows.uptoBulk (D i)) → sizeV (l.map C) ≤ 10 * Rows.uptoBulkAll (l.map D)
  | [], _ => by simp [sizeV]
  | i :: l, h => by
    have h1 := h i (by simp)
    have h2 := sum_bulk C D l (fun j hj => h j (by simp [hj]))
    have e : sizeV ((i :: l).map C) = lenV (C i) + sizeV (l.map C) := by simp [sizeV]
    simp only [List.map_cons, Rows.uptoBulkAll] at e ⊢
    omega
instance : Inhabited Val := ⟨⟨0, 0, [], []⟩⟩
theorem cells_29 : Try.prog.cellsOf 29 = 4 := by kernel_rfl
theorem len_sizeV (vs : List Val) : vs.length ≤ sizeV vs := by
  induction vs with
  | nil => simp
  | cons x r ih =>
    have e : sizeV (x :: r) = lenV x + sizeV r := by simp [sizeV]
    have : 10 ≤ lenV x := by unfold lenV; omega
    simp only [List.length_cons]
    omega
theorem open22 {H : Type} {enc : TypeId × Value → H} {base : Nat} {W : World} {v : Value} {d : DataW H} {p : List MemPlace} (o : Value.okWide Try.prog W .any base 22 v) (h : DataW.Trod enc Try.prog W 0 (fun _ => true) true 22 v d p) :
    ∃ vs, IsV W v vs ∧ sizeV vs ≤ 10 * Rows.uptoBulk d := by
  obtain ⟨a, len, cap, rfl⟩ := okWide_slice Try.underlying22 o
  obtain ⟨fuel, hf⟩ := h
  simp only [Value.cells] at hf
  rcases open_slice_fields Try.underlying22 Try.underlying29 (by kernel_rfl) cells_29 hf with ⟨h1, _⟩ | ⟨a', len', cap', m, D, Pl, h1, _, hl, hm, hmm, hx2, hx⟩
  · simp only [List.cons.injEq, and_true, Value.slice.injEq] at h1
    obtain ⟨rfl, rfl, rfl⟩ := h1
    exact ⟨[], .inl ⟨rfl, _, _, rfl⟩, by simp [sizeV]⟩
  · simp only [List.cons.injEq, and_true, Value.slice.injEq] at h1
    obtain ⟨rfl, rfl, rfl⟩ := h1
    simp only [if_true] at hmm
    subst hmm
    simp only [Prod.mk.injEq] at hx2
    by_cases h0 : len = 0
    · subst h0
      exact ⟨[], .inl ⟨rfl, _, _, rfl⟩, by simp [sizeV]⟩
    · obtain ⟨b, off, spot⟩ := a'
      have hspot : spot = none := by
        obtain ⟨ys, n, _, _, _, hj⟩ := hx 0 (by omega)
        obtain ⟨v, y, hc, _⟩ := hj 0 _ rfl
        simpa [Addr.add] using World.cell?_spot hc
      subst hspot
      obtain ⟨C, hC⟩ := choose_lt (α := Val) (p := fun i x => ValAt W b (off + i * 4) x ∧ lenV x ≤ 10 * Rows.uptoBulk (D i)) (n := m) (fun i hi => by
        obtain ⟨ys, n, hD, _, hyl, hj⟩ := hx i hi
        obtain ⟨v0, y0, c0, e0, t0⟩ := hj 0 _ rfl
        obtain ⟨v1, y1, c1, e1, t1⟩ := hj 1 _ rfl
        obtain ⟨v2, y2, c2, e2, t2⟩ := hj 2 _ rfl
        obtain ⟨v3, y3, c3, e3, t3⟩ := hj 3 _ rfl
        obtain ⟨k, q0, r0, w0⟩ := DataW.trod_int Try.underlying5 t0
        obtain ⟨nn, q1, r1, _⟩ := DataW.trod_int Try.underlying3 t1
        obtain ⟨s, q2, r2, _⟩ := DataW.trod_string Try.underlying9 t2
        obtain ⟨ts, hT, hb⟩ := open_texts t3
        obtain ⟨kc, rfl⟩ := byte_of w0
        simp only [List.cons.injEq, and_true] at q0 q1 q2
        subst q0 q1 q2
        have hkc : kc.toNat < 256 := kc.toNat_lt
        have hys : ys = [y0, y1, y2, y3] := by
          match ys, hyl with
          | [z0, z1, z2, z3], _ =>
            simp at e0 e1 e2 e3
            rw [e0, e1, e2, e3]
        rw [add_plain] at c0 c1 c2 c3
        refine ⟨⟨kc.toNat, nn, s.data.toList, ts⟩, ⟨hkc, by simpa using c0, by simpa [Nat.add_assoc] using c1, by simpa [Nat.add_assoc] using c2, v3, by simpa [Nat.add_assoc] using c3, hT⟩, ?_⟩
        rw [hD, hys, r0, r1, r2]
        simp only [List.map_cons, List.map_nil, Rows.uptoBulk, Rows.uptoBulkAll, lenV]
        omega)
      refine ⟨(List.range len).map C, .inr ⟨by simp [h0], b, off, m, by simp, by simpa using hl, hm, fun i c hi => ?_⟩, ?_⟩
      · rw [List.getElem?_map] at hi
        have hil : i < len := by
          rcases Nat.lt_or_ge i len with h | h
          · exact h
          · simp [List.getElem?_eq_none (show (List.range len).length ≤ i by simpa using h)] at hi
        simp [List.getElem?_eq_getElem (show i < (List.range len).length by simpa using hil)] at hi
        subst hi
        exact (hC i (by omega)).1
      · rw [hx2.1]
        have := sum_bulk C D (List.range len) (fun i hi => (hC i (by have := List.mem_range.1 hi; omega)).2)
        simp only [Rows.uptoBulk]
        omega
end Go.Proofs.Ytnieoaadhbcjiaa
