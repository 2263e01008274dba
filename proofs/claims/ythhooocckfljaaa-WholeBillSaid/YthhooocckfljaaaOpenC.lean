/- The argument that is a list of counts, taken apart. No condition. -/
import Derived.Test.YthhooocckfljaaaWholeA
import Derived.ProofKit
import Derived.OpenShut
import Derived.Deep.Fields
import Derived.ChangeSame
namespace Go.Proofs.Ythhooocckfljaaa
open Go.ChangeShapes Go.WideShapes Go.ChangeAt Go.RowKit Go.Deep
set_option linter.unusedVariables false
set_option linter.unusedSimpArgs false

section
variable {H : Type} {enc : TypeId × Value → H} {P : Program} {w : World} {base : Nat} {spare : Nat → Bool} {held : Bool}
theorem open_slice_fields {t e : TypeId} {fs : Array Field} {fuel : Nat} {cs : List Value} {x : DataW H × List MemPlace} (ht : P.underlying t = some (.slice e)) (he : P.underlying e = some (.struct fs))
    (hone : oneCellFields P fs = true) (hC : P.cellsOf e = fs.size) (h : DataW.trod enc P w base spare held fuel t cs = some x) :
    (cs = [.slice none 0 0] ∧ x = (.nil, [])) ∨
    ∃ (a : Addr) (len cap m : Nat) (D : Nat → DataW H) (Pl : Nat → List MemPlace), cs = [.slice (some a) len cap] ∧ base ≤ a.block ∧ len ≤ cap ∧ cap ≤ maxLen ∧ m = (if spare a.block then cap else len) ∧
      x = (.slice ((List.range len).map D) ((List.range (m - len)).map fun j => D (len + j)), MemPlace.row a (m * fs.size) ++ (List.range m).flatMap Pl) ∧
      ∀ i, i < m → ∃ (ys : List (DataW H × List MemPlace)) (n : Nat), D i = .agg (ys.map (·.1)) ∧ Pl i = ys.flatMap (·.2) ∧ ys.length = fs.size ∧
        ∀ (j : Nat) (f : Field), fs[j]? = some f → ∃ (v : Value) (y : DataW H × List MemPlace), w.cell? (a.add (i * fs.size + j)) = some v ∧ ys[j]? = some y ∧ DataW.trod enc P w base spare held n f.type [v] = some y := by
  rcases open_slice ht h with h0 | ⟨a, len, cap, m, n, D, Pl, hcs, hb, hl, hm, hmm, hx, hi⟩
  · exact .inl h0
  · refine .inr ⟨a, len, cap, m, D, Pl, hcs, hb, hl, hm, hmm, by rw [hC] at hx; exact hx, fun i him => ?_⟩
    obtain ⟨cs', hc, ht'⟩ := hi i him
    rw [hC] at hc
    obtain ⟨ys, n', hn', hy, hlen, hyl, hf⟩ := DataW.trod_struct he ht'
    obtain ⟨_, hcl, hat⟩ := World.cells?_some hc
    simp only [Prod.mk.injEq] at hy
    refine ⟨ys, n', hy.1, hy.2, hyl, fun j f hj => ?_⟩
    obtain ⟨ho, hk⟩ := hone_of hone j f hj
    have hjl : j < fs.size := (Array.getElem?_eq_some_iff.1 hj).1
    have hcell := hat j hjl
    have hv : cs'[j]? = some (cs'[j]'(by omega)) := List.getElem?_eq_getElem (by omega)
    have h1 := hf j f hj
    rw [ho, hk] at h1
    have hone' : (cs'.drop j).take 1 = [cs'[j]'(by omega)] := by
      rw [List.drop_eq_getElem_cons (by omega)]
      rfl
    rw [hone'] at h1
    have hys : ys[j]? = some (ys[j]'(by omega)) := List.getElem?_eq_getElem (by omega)
    refine ⟨_, _, ?_, hys, h1.trans hys⟩
    rw [← Go.Deep.add_add, hcell, hv]
end

theorem add_plain (b off i : Nat) : (⟨b, off, none⟩ : Addr).add i = ⟨b, off + i, none⟩ := by unfold Addr.add; split <;> simp_all
instance : Inhabited Cnt := ⟨⟨0, 0, 0, 0⟩⟩
theorem cells_51 : Try.prog.cellsOf 51 = 4 := by kernel_rfl
theorem wf_u8 {n : Int} (h : (Lit.int .u8 n).wf = true) : ∃ k : Nat, n = (k : Int) ∧ k < 256 := by
  have h2 : 0 ≤ n ∧ n ≤ 255 := by simpa [Lit.wf, IntKind.min, IntKind.max, IntKind.bits, IntKind.signed] using h
  exact ⟨n.toNat, by omega, by omega⟩
theorem wf_u16 {n : Int} (h : (Lit.int .u16 n).wf = true) : ∃ k : Nat, n = (k : Int) ∧ k < 65536 := by
  have h2 : 0 ≤ n ∧ n ≤ 65535 := by simpa [Lit.wf, IntKind.min, IntKind.max, IntKind.bits, IntKind.signed] using h
  exact ⟨n.toNat, by omega, by omega⟩
set_option maxRecDepth 20000 in
theorem open22 {H : Type} {enc : TypeId × Value → H} {base : Nat} {W : World} {v : Value} {d : DataW H} {p : List MemPlace} (o : Value.okWide Try.prog W .any base 22 v) (h : DataW.Trod enc Try.prog W 0 (fun _ => true) true 22 v d p) :
    ∃ cs, IsC W v cs ∧ ∀ c ∈ cs, c.ok := by
  obtain ⟨a, len, cap, rfl⟩ := okWide_slice Try.underlying22 o
  obtain ⟨fuel, hf⟩ := h
  simp only [Value.cells] at hf
  rcases open_slice_fields Try.underlying22 Try.underlying51 (by kernel_rfl) cells_51 hf with ⟨h1, _⟩ | ⟨a', len', cap', m, D, Pl, h1, _, hl, hm, hmm, hx2, hx⟩
  · simp only [List.cons.injEq, and_true, Value.slice.injEq] at h1
    obtain ⟨rfl, rfl, rfl⟩ := h1
    exact ⟨[], ⟨none, 0, rfl, fun k c hk => by simp at hk⟩, by simp⟩
  · simp only [List.cons.injEq, and_true, Value.slice.injEq] at h1
    obtain ⟨rfl, rfl, rfl⟩ := h1
    simp only [if_true] at hmm
    subst hmm
    by_cases h0 : len = 0
    · subst h0
      exact ⟨[], ⟨_, _, rfl, fun k c hk => by simp at hk⟩, by simp⟩
    · obtain ⟨b, off, spot⟩ := a'
      have hspot : spot = none := by
        obtain ⟨ys, n, _, _, _, hj⟩ := hx 0 (by omega)
        obtain ⟨v, y, hc, _⟩ := hj 0 _ rfl
        simpa [Addr.add] using World.cell?_spot hc
      subst hspot
      obtain ⟨C, hC⟩ := choose_lt (α := Cnt) (p := fun i x => CntAt W b (off + i * 4) x ∧ x.ok) (n := m) (fun i hi => by
        obtain ⟨ys, n, hD, _, hyl, hj⟩ := hx i hi
        obtain ⟨v0, y0, c0, e0, t0⟩ := hj 0 _ rfl
        obtain ⟨v1, y1, c1, e1, t1⟩ := hj 1 _ rfl
        obtain ⟨v2, y2, c2, e2, t2⟩ := hj 2 _ rfl
        obtain ⟨v3, y3, c3, e3, t3⟩ := hj 3 _ rfl
        obtain ⟨n0, q0, r0, w0⟩ := DataW.trod_int Try.underlying5 t0
        obtain ⟨n1, q1, r1, w1⟩ := DataW.trod_int Try.underlying5 t1
        obtain ⟨n2, q2, r2, w2⟩ := DataW.trod_int Try.underlying5 t2
        obtain ⟨n3, q3, r3, w3⟩ := DataW.trod_int Try.underlying23 t3
        simp only [List.cons.injEq, and_true] at q0 q1 q2 q3
        subst q0 q1 q2 q3
        rw [add_plain] at c0 c1 c2 c3
        obtain ⟨k0, rfl, l0⟩ := wf_u8 w0
        obtain ⟨k1, rfl, l1⟩ := wf_u8 w1
        obtain ⟨k2, rfl, l2⟩ := wf_u8 w2
        obtain ⟨k3, rfl, l3⟩ := wf_u16 w3
        exact ⟨⟨k0, k1, k2, k3⟩, ⟨by simpa using c0, by simpa [Nat.add_assoc] using c1, by simpa [Nat.add_assoc] using c2, by simpa [Nat.add_assoc] using c3⟩, l0, l1, l2, l3⟩)
      refine ⟨(List.range len).map C, ⟨_, m, by simp, fun i c hi => ⟨b, off, rfl, ?_⟩⟩, fun e he => ?_⟩
      · rw [List.getElem?_map] at hi
        have hil : i < len := by
          rcases Nat.lt_or_ge i len with h | h
          · exact h
          · simp [List.getElem?_eq_none (show (List.range len).length ≤ i by simpa using h)] at hi
        simp [List.getElem?_eq_getElem (show i < (List.range len).length by simpa using hil)] at hi
        subst hi
        exact (hC i (by omega)).1
      · obtain ⟨i, hi, rfl⟩ := List.mem_map.1 he
        exact (hC i (by have := List.mem_range.1 hi; omega)).2
end Go.Proofs.Ythhooocckfljaaa
