/- Arguments that are slices of seeds, taken apart; what the condition of the cards says of the keywords. No condition of its own. -/
import Derived.Test.YtogkiifljdnjgaaDoorRows
import Derived.Test.YtogkiifljdnjgaaDoorGrow
import Derived.ProofKit
import Derived.OpenShut
import Derived.Deep.Slices
import Derived.Deep.Grids
import Derived.Deep.Fields
import Derived.ChangeSame
import Derived.LaidMore
import Derived.Stop.Joined
import Derived.ChangeMaps5
import Derived.SevenTiedAt
namespace Go.Proofs.YtogkiifljdnjgaaDoor
open Go.ChangeShapes Go.WideShapes Go.ChangeAt Go.RowKit Go.Deep
set_option linter.unusedVariables false
set_option linter.unusedSimpArgs false

theorem byte_of {n : Int} (h : (Lit.int .u8 n).wf = true) : ∃ c : Nat, c < 256 ∧ n = (c : Int) := by
  have hr : 0 ≤ n ∧ n < 256 := by
    simp [Lit.wf] at h
    have e1 : IntKind.u8.min = 0 := by decide
    have e2 : IntKind.u8.max = 255 := by decide
    omega
  exact ⟨n.toNat, by omega, by omega⟩
theorem cells82 : Tryd.prog.cellsOf 82 = 2 := by kernel_rfl
section
variable {H : Type} {enc : TypeId × Value → H} {P : Program} {w : World} {base : Nat} {spare : Nat → Bool} {held : Bool}
theorem open_slice_fields {t e : TypeId} {fs : Array Field} {fuel : Nat} {cs : List Value} {x : DataW H × List MemPlace} (ht : P.underlying t = some (.slice e)) (he : P.underlying e = some (.struct fs))
    (hone : oneCellFields P fs = true) (hC : P.cellsOf e = fs.size) (h : DataW.trod enc P w base spare held fuel t cs = some x) :
    (cs = [.slice none 0 0] ∧ x = (.nil, [])) ∨
    ∃ (a : Addr) (len cap m : Nat) (D : Nat → DataW H) (Pl : Nat → List MemPlace), cs = [.slice (some a) len cap] ∧ base ≤ a.block ∧ len ≤ cap ∧ cap ≤ maxLen ∧ m = (if spare a.block then cap else len) ∧
      x = (.slice ((List.range len).map D) ((List.range (m - len)).map fun j => D (len + j)), MemPlace.row a (m * fs.size) ++ (List.range m).flatMap Pl) ∧
      ∀ i, i < m → ∃ (ys : List (DataW H × List MemPlace)) (n : Nat), D i = .agg (ys.map (·.1)) ∧ Pl i = ys.flatMap (·.2) ∧ ys.length = fs.size ∧
        ∀ (j : Nat) (f : Field), fs[j]? = some f → ∃ (v : Value) (y : DataW H × List MemPlace), w.cell? (a.add (i * fs.size + j)) = some v ∧ ys[j]? = some y ∧ DataW.trod enc P w base spare held n f.type [v] = some y := by
  rcases open_slice ht h with h0 | ⟨a, len, cap, m, n, D, Pl, hcs, hb, hl, hm, hmm, hx, hi⟩
  · exact .inl h0
  · refine .inr ⟨a, len, cap, m, D, Pl, hcs, hb, hl, hm, hmm, by rw [hC] at hx; exact hx, fun i him => ?_⟩
    obtain ⟨cs', hc, ht'⟩ := hi i him
    rw [hC] at hc
    obtain ⟨ys, n', hn', hy, hlen, hyl, hf⟩ := DataW.trod_struct he ht'
    obtain ⟨_, hcl, hat⟩ := World.cells?_some hc
    simp only [Prod.mk.injEq] at hy
    refine ⟨ys, n', hy.1, hy.2, hyl, fun j f hj => ?_⟩
    obtain ⟨ho, hk⟩ := hone_of hone j f hj
    have hjl : j < fs.size := (Array.getElem?_eq_some_iff.1 hj).1
    have hcell := hat j hjl
    have hv : cs'[j]? = some (cs'[j]'(by omega)) := List.getElem?_eq_getElem (by omega)
    have h1 := hf j f hj
    rw [ho, hk] at h1
    have hone' : (cs'.drop j).take 1 = [cs'[j]'(by omega)] := by
      rw [List.drop_eq_getElem_cons (by omega)]
      rfl
    rw [hone'] at h1
    have hys : ys[j]? = some (ys[j]'(by omega)) := List.getElem?_eq_getElem (by omega)
    refine ⟨_, _, ?_, hys, h1.trans hys⟩
    rw [← Go.Deep.add_add, hcell, hv]
end

theorem add_plain (b off i : Nat) : (⟨b, off, none⟩ : Addr).add i = ⟨b, off + i, none⟩ := by unfold Addr.add; split <;> simp_all
set_option maxRecDepth 100000 in
theorem open22 {H : Type} {enc : TypeId × Value → H} {base : Nat} {W : World} {v : Value} {d : DataW H} {p : List MemPlace} (o : Value.okWide Tryd.prog W .any base 22 v) (h : DataW.Trod enc Tryd.prog W 0 (fun _ => true) true 22 v d p) :
    ∃ l, ArgS W v l := by
  obtain ⟨a, len, cap, rfl⟩ := okWide_slice Tryd.underlying22 o
  obtain ⟨fuel, hf⟩ := h
  simp only [Value.cells] at hf
  rcases open_slice_fields Tryd.underlying22 Tryd.underlying82 (by kernel_rfl) cells82 hf with ⟨h1, _⟩ | ⟨a', len', cap', m, D, Pl, h1, _, hl, hm, hmm, hx2, hx⟩
  · simp only [List.cons.injEq, and_true, Value.slice.injEq] at h1
    obtain ⟨rfl, rfl, rfl⟩ := h1
    exact ⟨[], by simp, .inl ⟨rfl, _, _, rfl, by decide, fun _ => rfl⟩⟩
  · simp only [List.cons.injEq, and_true, Value.slice.injEq] at h1
    obtain ⟨rfl, rfl, rfl⟩ := h1
    simp only [if_true] at hmm
    subst hmm
    by_cases h0 : len = 0
    · subst h0
      exact ⟨[], by simp, .inl ⟨rfl, _, _, rfl, hm, fun h => by cases h⟩⟩
    · obtain ⟨b, off, spot⟩ := a'
      have hspot : spot = none := by
        obtain ⟨ys, n, _, _, _, hj⟩ := hx 0 (by omega)
        obtain ⟨v, y, hc, _⟩ := hj 0 _ rfl
        simpa [Addr.add] using World.cell?_spot hc
      subst hspot
      obtain ⟨C, hC⟩ := choose_lt (α := SeedP) (p := fun i s => (s.1 < 256 ∧ s.2 < 256) ∧ W.cell? ⟨b, off + i * 2, none⟩ = some (.int .u8 (s.1 : Int)) ∧ W.cell? ⟨b, off + i * 2 + 1, none⟩ = some (.int .u8 (s.2 : Int))) (n := m) (fun i hi => by
        obtain ⟨ys, n, hD, _, hyl, hj⟩ := hx i hi
        obtain ⟨v0, y0, c0, e0, t0⟩ := hj 0 _ rfl
        obtain ⟨v1, y1, c1, e1, t1⟩ := hj 1 _ rfl
        obtain ⟨n0, q0, r0, w0⟩ := DataW.trod_int Tryd.underlying5 t0
        obtain ⟨n1, q1, r1, w1⟩ := DataW.trod_int Tryd.underlying5 t1
        obtain ⟨x0, l0, rfl⟩ := byte_of w0
        obtain ⟨x1, l1, rfl⟩ := byte_of w1
        simp only [List.cons.injEq, and_true] at q0 q1
        subst q0 q1
        rw [add_plain] at c0 c1
        exact ⟨(x0, x1), ⟨l0, l1⟩, by simpa using c0, by simpa [Nat.add_assoc] using c1⟩)
      refine ⟨(List.range len).map C, fun s hs => ?_, .inr ⟨by simp [h0], b, off, m, by simp, by simpa using hl, hm, fun i c hi => ?_⟩⟩
      · obtain ⟨i, hi, rfl⟩ := List.mem_map.1 hs
        exact (hC i (by have := List.mem_range.1 hi; omega)).1
      · rw [List.getElem?_map] at hi
        have hil : i < len := by
          rcases Nat.lt_or_ge i len with h | h
          · exact h
          · simp [List.getElem?_eq_none (show (List.range len).length ≤ i by simpa using h)] at hi
        simp [List.getElem?_eq_getElem (show i < (List.range len).length by simpa using hil)] at hi
        subst hi
        exact (hC i (by omega)).2

theorem gKeys : Tryd.prog.globalNamed "quayside/rulelex.keywords" = some 0 := by kernel_rfl
theorem tKeys : (Tryd.prog.globals[0]?).map (·.type) = some 85 := by kernel_rfl
theorem cells9 : Tryd.prog.cellsOf 9 = 1 := by kernel_rfl
theorem of_laid {W : World} (h : laidMetH Tryd.prog [("quayside/rulelex.keywords", Rows.laid_quayside_rulelex_keywords)] W) : KW W := by
  rw [MakeChecks.laidMetH_plain _ _ _ (by kernel_rfl)] at h
  obtain ⟨ps, ⟨g0, t0, cs0, f0, p0, q0, hg0, ht0, hv0, hd0, _, _⟩, _, _⟩ := h
  obtain rfl := Option.some.inj (gKeys.symm.trans hg0)
  obtain rfl := Option.some.inj (tKeys.symm.trans ht0)
  obtain ⟨a, cap, hcs, hl, hel⟩ := open_row Tryd.underlying85 cells9 hd0
  have hcell := World.var?_cell hg0 hv0 0
  have each : ∀ i g, kws[i]? = some g → W.cell? (a.add i) = some (.string ⟨g.toArray⟩) := by
    intro i g hi
    obtain ⟨v, n, q, hc, ht⟩ := hel i (.lit (.string g)) (by
      show (kws.map fun g => DataW.lit (.string g))[i]? = _
      rw [List.getElem?_map, hi]; rfl)
    obtain ⟨s, e1, e2, _⟩ := DataW.trod_string Tryd.underlying9 ht
    simp only [List.cons.injEq, and_true] at e1
    simp only [Prod.mk.injEq, DataW.lit.injEq, Lit.string.injEq] at e2
    rw [hc, e1, e2.1]
  obtain ⟨b, off, spot⟩ := a
  have hspot : spot = none := by simpa [Addr.add] using World.cell?_spot (each 0 _ rfl)
  subst hspot
  have hlen : (17 : Nat) = 17 := rfl
  refine ⟨b, off, cap, ?_, fun i g hi => ?_⟩
  · rw [Array.eq_one_of_toList hcs] at hcell
    simpa using hcell
  · have hplain : (⟨b, off, none⟩ : Addr).add i = ⟨b, off + i, none⟩ := add_plain b off i
    rw [← hplain]
    exact each i g hi
end Go.Proofs.YtogkiifljdnjgaaDoor
