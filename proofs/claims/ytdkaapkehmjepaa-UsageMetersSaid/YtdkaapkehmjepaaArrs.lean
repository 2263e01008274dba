/- Arrays of sixteen counts, lists of pairs, of truths and of numbers in memory; an append of a list of entries. No condition. -/
import Derived.Test.YtdkaapkehmjepaaAdds
import Derived.Test.YtdkaapkehmjepaaOpenList
import Derived.Test.YtdkaapkehmjepaaOpenB
namespace Go.Proofs.Ytdkaapkehmjepaa
open Go.ChangeShapes Go.WideShapes Go.ChangeAt Go.RowKit Go.Deep
set_option linter.unusedVariables false
set_option linter.unusedSimpArgs false

def acells (f : Nat → Int) : Array Value := ((List.range 16).map fun t => Value.int .i64 (f t)).toArray
def ABlk (w : World) (b : Nat) (f : Nat → Int) : Prop := w.heap[b]? = some (.cells (acells f) 35 (0, 0))
theorem aset (f : Nat → Int) (t : Nat) (x : Int) (ht : t < 16) : (acells f).setIfInBounds t (.int .i64 x) = acells (upd f t x) := by
  match t, ht with
  | 0, _ | 1, _ | 2, _ | 3, _ | 4, _ | 5, _ | 6, _ | 7, _ | 8, _ | 9, _ | 10, _ | 11, _ | 12, _ | 13, _ | 14, _ | 15, _ => rfl
  | n + 16, h => exact absurd h (by omega)
theorem ABlk.new (w : World) : ABlk (w.alloc (.cells #[.int .i64 0, .int .i64 0, .int .i64 0, .int .i64 0, .int .i64 0, .int .i64 0, .int .i64 0, .int .i64 0, .int .i64 0, .int .i64 0, .int .i64 0, .int .i64 0, .int .i64 0, .int .i64 0, .int .i64 0, .int .i64 0] 35)) w.heap.size (fun _ => 0) := heap_alloc_new w _
theorem ABlk.cell {w : World} {b : Nat} {f : Nat → Int} (h : ABlk w b f) (t : Nat) (ht : t < 16) : w.cell? ⟨b, t, none⟩ = some (.int .i64 (f t)) := by
  unfold ABlk at h
  simp [World.cell?, h, acells, ht]
theorem ABlk.frozen {w : World} {b : Nat} {f : Nat → Int} (h : ABlk w b f) (t : Nat) : w.frozen? ⟨b, t, none⟩ = false := by
  unfold ABlk at h
  simp [World.frozen?, h]
theorem ABlk.lt {w : World} {b : Nat} {f : Nat → Int} (h : ABlk w b f) : b < w.heap.size := by
  rcases Nat.lt_or_ge b w.heap.size with h' | h'
  · exact h'
  · unfold ABlk at h; rw [Array.getElem?_eq_none h'] at h; cases h
theorem ABlk.bel {w w' : World} {B b : Nat} {f : Nat → Int} (h : ABlk w b f) (hb : Below B w w') (hB : b < B) : ABlk w' b f := (hb.block b hB).trans h
theorem ABlk.step {w w' : World} {b : Nat} {f : Nat → Int} (h : ABlk w b f) (hb : Below w.heap.size w w') : ABlk w' b f := h.bel hb h.lt
theorem ABlk.only {w w' : World} {b c : Nat} {f : Nat → Int} (h : ABlk w b f) (ho : Only c w w') (hn : b ≠ c) : ABlk w' b f := (ho.block b h.lt (by simpa using hn)).trans h
theorem ABlk.set {w : World} {b : Nat} {f : Nat → Int} (h : ABlk w b f) (t : Nat) (x : Int) (ht : t < 16) : ABlk (w.setCell ⟨b, t, none⟩ (.int .i64 x)) b (upd f t x) := by
  have := Joins.block_setCell (i := t) h (.int .i64 x)
  rw [aset f t x ht] at this
  exact this
theorem MBlk.only {w w' : World} {b c : Nat} {m : Mtr} (h : MBlk w b m) (ho : Only c w w') (hn : b ≠ c) : MBlk w' b m := (ho.block b h.lt (by simpa using hn)).trans h
theorem ABlk.drew {w : World} {b : Nat} {f : Nat → Int} (h : ABlk w b f) : ABlk w.drew b f := h

/-- A list of pairs of numbers. -/
def IsP (w : World) (v : Value) (ps : List (Int × Int)) : Prop :=
  (ps = [] ∧ ∃ a cap, v = .slice a 0 cap) ∨
  (ps ≠ [] ∧ ∃ g o cap, v = .slice (some ⟨g, o, none⟩) ps.length cap ∧ ∀ k p, ps[k]? = some p → w.cell? ⟨g, o + k * 2, none⟩ = some (.int .i64 p.1) ∧ w.cell? ⟨g, o + k * 2 + 1, none⟩ = some (.int .i64 p.2))
theorem IsP.shape {w : World} {v : Value} {ps : List (Int × Int)} (h : IsP w v ps) : ∃ a cap, v = .slice a ps.length cap := by
  rcases h with ⟨rfl, a, cap, rfl⟩ | ⟨_, g, o, cap, rfl, _⟩
  · exact ⟨a, cap, rfl⟩
  · exact ⟨_, cap, rfl⟩
theorem IsP.step {w w' : World} {v : Value} {ps : List (Int × Int)} (h : IsP w v ps) (hb : Below w.heap.size w w') : IsP w' v ps := by
  rcases h with h | ⟨h0, g, o, cap, hv, hc⟩
  · exact .inl h
  · exact .inr ⟨h0, g, o, cap, hv, fun k p hk => ⟨keep_at hb (hc k p hk).1, keep_at hb (hc k p hk).2⟩⟩
theorem IsP.elem {w : World} {v : Value} {ps : List (Int × Int)} (h : IsP w v ps) {k : Nat} (hk : k < ps.length) : ∃ g o cap, v = .slice (some ⟨g, o, none⟩) ps.length cap ∧ w.cell? ⟨g, o + k * 2, none⟩ = some (.int .i64 ps[k].1) ∧ w.cell? ⟨g, o + k * 2 + 1, none⟩ = some (.int .i64 ps[k].2) := by
  rcases h with ⟨rfl, _⟩ | ⟨_, g, o, cap, hv, hc⟩
  · simp at hk
  · exact ⟨g, o, cap, hv, hc k _ (List.getElem?_eq_getElem hk)⟩
/-- A list of values of one cell. -/
def IsV1 (w : World) (v : Value) (us : List Value) : Prop :=
  (us = [] ∧ ∃ a cap, v = .slice a 0 cap) ∨
  (us ≠ [] ∧ ∃ g o cap, v = .slice (some ⟨g, o, none⟩) us.length cap ∧ ∀ (k : Nat) u, us[k]? = some u → w.cell? ⟨g, o + k, none⟩ = some u)
theorem IsV1.shape {w : World} {v : Value} {us : List Value} (h : IsV1 w v us) : ∃ a cap, v = .slice a us.length cap := by
  rcases h with ⟨rfl, a, cap, rfl⟩ | ⟨_, g, o, cap, rfl, _⟩
  · exact ⟨a, cap, rfl⟩
  · exact ⟨_, cap, rfl⟩
theorem IsV1.step {w w' : World} {v : Value} {us : List Value} (h : IsV1 w v us) (hb : Below w.heap.size w w') : IsV1 w' v us := by
  rcases h with h | ⟨h0, g, o, cap, hv, hc⟩
  · exact .inl h
  · exact .inr ⟨h0, g, o, cap, hv, fun k p hk => keep_at hb (hc k p hk)⟩
theorem IsV1.elem {w : World} {v : Value} {us : List Value} (h : IsV1 w v us) {k : Nat} (hk : k < us.length) : ∃ g o cap, v = .slice (some ⟨g, o, none⟩) us.length cap ∧ w.cell? ⟨g, o + k, none⟩ = some us[k] := by
  rcases h with ⟨rfl, _⟩ | ⟨_, g, o, cap, hv, hc⟩
  · simp at hk
  · exact ⟨g, o, cap, hv, hc k _ (List.getElem?_eq_getElem hk)⟩

theorem eflat_one (es : List Ent) : ∀ u ∈ es.flatMap ecells, u.oneCell' = true := by
  intro u hu
  obtain ⟨e, _, he⟩ := List.mem_flatMap.1 hu
  exact ecells_one e u he
theorem eflat_len (es : List Ent) : (es.flatMap ecells).length = es.length * 7 := by
  induction es with
  | nil => rfl
  | cons e es ih =>
    have h7 : (ecells e).length = 7 := rfl
    rw [List.flatMap_cons, List.length_append, ih, List.length_cons, h7]
    omega
/-- append of entries of the call's own to entries of the call's own. -/
theorem wpList_appEs {ops : Array Oper} {rest : List Oper} {o : Oper} {a : Act} {Q : Exit → Act → World → Prop} {w : World} (hgd : o.guard = none) (s x : Operand)
    (ho : o.op = .call { callee := .builtin .append, args := #[s, x], argTypes := #[40, 40] })
    (base : Nat) (v : Value) (es : List Ent) (hs : a.eval s = v) (hown : OwnE w base v es) (b2 : Nat) (u : Value) (fs : List Ent) (hx : a.eval x = u) (hu : OwnE w b2 u fs)
    (hb : es.length + fs.length ≤ 2000000) (hbase : base ≤ w.heap.size)
    (h : ∀ v' w', OwnE w' base v' (es ++ fs) → Below base w w' → w.heap.size ≤ w'.heap.size → w.grownBy w' v.ownBlock → wpList Try.prog ops Q rest (a.put o.dst v') w') : wpList Try.prog ops Q (o :: rest) a w := by
  obtain ⟨i0, hi, hz0, hz1, hz2⟩ := info_parts info23
  have hu' := hu
  rcases hu.2 with ⟨rfl, hn⟩ | ⟨g, cap, cur, rfl, hg, _⟩
  · obtain rfl := List.eq_nil_of_length_eq_zero hn
    refine wpList_append_own_none hgd s x 40 ho base 23 i0 7 Try.underlying40 hi v es.length (es.flatMap ecells) hs hown hx ?_
    exact h v w (by simpa using hown) (Below.refl _ _) (Nat.le_refl _) (World.grownBy.refl _ _)
  · refine wpList_append_own_at _ hgd s x 40 ho base 23 i0 _ 7 64 Try.underlying40 hi hz0 hz1 hz2 rfl (by decide) v es.length (es.flatMap ecells) hs hown ⟨g, 0, none⟩ fs.length cap (fs.flatMap ecells) hx (eflat_len fs) ?_ (eflat_one fs)
      (by unfold maxLen; omega) (by omega) hbase ?_
    · intro j u hj
      have hj' := (List.getElem?_eq_some_iff.1 hj).1
      rw [eflat_len] at hj'
      have := World.ownsRow.cellAt hu' j (by omega)
      rw [add_plain, Nat.zero_add, this]
      exact hj
    · intro v' w' hown' hgrow hnil hat
      refine h v' w' ?_ ((Below.refl base w).grown hgrow hbase fun k hk => (World.ownsRow.lt hown k hk).1) hgrow.size hgrow
      unfold OwnE
      rw [List.length_append, List.flatMap_append]
      exact hown'

theorem cells_4 : Try.prog.cellsOf 4 = 1 := by kernel_rfl
theorem cells_54 : Try.prog.cellsOf 54 = 2 := by kernel_rfl
/-- A list of numbers that came in. -/
theorem open53 {H : Type} {enc : TypeId × Value → H} {base : Nat} {W : World} {v : Value} {d : DataW H} {p : List MemPlace} (o : Value.okWide Try.prog W .any base 53 v) (h : DataW.Trod enc Try.prog W 0 (fun _ => true) true 53 v d p) :
    ∃ ns : List Int, IsV1 W v (ns.map fun n => .int .i64 n) := by
  obtain ⟨a, len, cap, rfl⟩ := okWide_slice Try.underlying53 o
  obtain ⟨fuel, hf⟩ := h
  simp only [Value.cells] at hf
  rcases open_slice1 Try.underlying53 cells_3 hf with ⟨h1, _⟩ | ⟨a', len', cap', m, n, V, D, Pl, h1, _, hl, hm, hmm, _, hx⟩
  · simp only [List.cons.injEq, and_true, Value.slice.injEq] at h1
    obtain ⟨rfl, rfl, rfl⟩ := h1
    exact ⟨[], .inl ⟨rfl, _, _, rfl⟩⟩
  · simp only [List.cons.injEq, and_true, Value.slice.injEq] at h1
    obtain ⟨rfl, rfl, rfl⟩ := h1
    simp only [if_true] at hmm
    subst hmm
    by_cases h0 : len = 0
    · subst h0
      exact ⟨[], .inl ⟨rfl, _, _, rfl⟩⟩
    · obtain ⟨b, off, spot⟩ := a'
      obtain ⟨C, hC⟩ := choose_lt (α := Int) (p := fun i c => V i = .int .i64 c) (n := m) (fun i hi => by
        obtain ⟨k, h1, _, hw⟩ := DataW.trod_int Try.underlying3 (hx i hi).2
        exact ⟨k, by simpa using h1⟩)
      have hspot : spot = none := by simpa [Addr.add] using World.cell?_spot (hx 0 (by omega)).1
      subst hspot
      refine ⟨(List.range len).map C, .inr ⟨by simp [h0], b, off, m, by simp, fun i c hi => ?_⟩⟩
      rw [List.getElem?_map, List.getElem?_map] at hi
      have hil : i < len := by
        rcases Nat.lt_or_ge i len with h | h
        · exact h
        · simp [List.getElem?_eq_none (show (List.range len).length ≤ i by simpa using h)] at hi
      simp [List.getElem?_eq_getElem (show i < (List.range len).length by simpa using hil)] at hi
      subst hi
      rw [← add_plain, (hx i (by omega)).1, hC i (by omega)]
/-- A list of truths that came in. -/
theorem open52 {H : Type} {enc : TypeId × Value → H} {base : Nat} {W : World} {v : Value} {d : DataW H} {p : List MemPlace} (o : Value.okWide Try.prog W .any base 52 v) (h : DataW.Trod enc Try.prog W 0 (fun _ => true) true 52 v d p) :
    ∃ bs : List Bool, IsV1 W v (bs.map fun b => .bool b) := by
  obtain ⟨a, len, cap, rfl⟩ := okWide_slice Try.underlying52 o
  obtain ⟨fuel, hf⟩ := h
  simp only [Value.cells] at hf
  rcases open_slice1 Try.underlying52 cells_4 hf with ⟨h1, _⟩ | ⟨a', len', cap', m, n, V, D, Pl, h1, _, hl, hm, hmm, _, hx⟩
  · simp only [List.cons.injEq, and_true, Value.slice.injEq] at h1
    obtain ⟨rfl, rfl, rfl⟩ := h1
    exact ⟨[], .inl ⟨rfl, _, _, rfl⟩⟩
  · simp only [List.cons.injEq, and_true, Value.slice.injEq] at h1
    obtain ⟨rfl, rfl, rfl⟩ := h1
    simp only [if_true] at hmm
    subst hmm
    by_cases h0 : len = 0
    · subst h0
      exact ⟨[], .inl ⟨rfl, _, _, rfl⟩⟩
    · obtain ⟨b, off, spot⟩ := a'
      obtain ⟨C, hC⟩ := choose_lt (α := Bool) (p := fun i c => V i = .bool c) (n := m) (fun i hi => by
        obtain ⟨k, h1, _⟩ := DataW.trod_bool Try.underlying4 (hx i hi).2
        exact ⟨k, by simpa using h1⟩)
      have hspot : spot = none := by simpa [Addr.add] using World.cell?_spot (hx 0 (by omega)).1
      subst hspot
      refine ⟨(List.range len).map C, .inr ⟨by simp [h0], b, off, m, by simp, fun i c hi => ?_⟩⟩
      rw [List.getElem?_map, List.getElem?_map] at hi
      have hil : i < len := by
        rcases Nat.lt_or_ge i len with h | h
        · exact h
        · simp [List.getElem?_eq_none (show (List.range len).length ≤ i by simpa using h)] at hi
      simp [List.getElem?_eq_getElem (show i < (List.range len).length by simpa using hil)] at hi
      subst hi
      rw [← add_plain, (hx i (by omega)).1, hC i (by omega)]
/-- A list of pairs that came in. -/
theorem open51 {H : Type} {enc : TypeId × Value → H} {base : Nat} {W : World} {v : Value} {d : DataW H} {p : List MemPlace} (o : Value.okWide Try.prog W .any base 51 v) (h : DataW.Trod enc Try.prog W 0 (fun _ => true) true 51 v d p) :
    ∃ ps : List (Int × Int), IsP W v ps := by
  obtain ⟨a, len, cap, rfl⟩ := okWide_slice Try.underlying51 o
  obtain ⟨fuel, hf⟩ := h
  simp only [Value.cells] at hf
  rcases open_slice Try.underlying51 hf with ⟨h1, _⟩ | ⟨a', len', cap', m, n, D, Pl, h1, _, hl, hm, hmm, _, hx⟩
  · simp only [List.cons.injEq, and_true, Value.slice.injEq] at h1
    obtain ⟨rfl, rfl, rfl⟩ := h1
    exact ⟨[], .inl ⟨rfl, _, _, rfl⟩⟩
  · simp only [List.cons.injEq, and_true, Value.slice.injEq] at h1
    obtain ⟨rfl, rfl, rfl⟩ := h1
    simp only [if_true] at hmm
    subst hmm
    by_cases h0 : len = 0
    · subst h0
      exact ⟨[], .inl ⟨rfl, _, _, rfl⟩⟩
    · obtain ⟨b, off, spot⟩ := a'
      rw [cells_54] at hx
      have hcell : ∀ i, i < m → ∃ q : Int × Int, W.cell? (Addr.add ⟨b, off, spot⟩ (i * 2)) = some (.int .i64 q.1) ∧ W.cell? ((Addr.add ⟨b, off, spot⟩ (i * 2)).add 1) = some (.int .i64 q.2) := by
        intro i hi
        obtain ⟨cs', hc, ht⟩ := hx i hi
        obtain ⟨_, hcl, hat⟩ := World.cells?_some hc
        match cs', hcl with
        | [c0, c1], _ =>
          obtain ⟨xs0, n0, _, _, _, l0, g0⟩ := DataW.trod_array Try.underlying54 ht
          obtain ⟨y0, hy0⟩ : ∃ y, xs0[0]? = some y := ⟨_, List.getElem?_eq_getElem (by simp [l0])⟩
          obtain ⟨y1, hy1⟩ : ∃ y, xs0[1]? = some y := ⟨_, List.getElem?_eq_getElem (by simp [l0])⟩
          have f0 := g0 0 (by omega)
          have f1 := g0 1 (by omega)
          rw [hy0] at f0
          rw [hy1] at f1
          simp [cells_3] at f0 f1
          obtain ⟨n0, e0, _, _⟩ := DataW.trod_int Try.underlying3 f0
          obtain ⟨n1, e1, _, _⟩ := DataW.trod_int Try.underlying3 f1
          simp at e0 e1
          subst e0 e1
          refine ⟨(n0, n1), ?_, ?_⟩
          · have := hat 0 (by omega)
            simpa [Addr.add] using this
          · have := hat 1 (by omega)
            simpa using this
      obtain ⟨C, hC⟩ := choose_lt (α := Int × Int) (p := fun i q => W.cell? (Addr.add ⟨b, off, spot⟩ (i * 2)) = some (.int .i64 q.1) ∧ W.cell? ((Addr.add ⟨b, off, spot⟩ (i * 2)).add 1) = some (.int .i64 q.2)) (n := m) hcell
      have hspot : spot = none := by simpa [Addr.add] using World.cell?_spot (hC 0 (by omega)).1
      subst hspot
      refine ⟨(List.range len).map C, .inr ⟨by simp [h0], b, off, m, by simp, fun i c hi => ?_⟩⟩
      rw [List.getElem?_map] at hi
      have hil : i < len := by
        rcases Nat.lt_or_ge i len with h | h
        · exact h
        · simp [List.getElem?_eq_none (show (List.range len).length ≤ i by simpa using h)] at hi
      simp [List.getElem?_eq_getElem (show i < (List.range len).length by simpa using hil)] at hi
      subst hi
      have := hC i (by omega)
      rw [add_plain, add_plain] at this
      exact this
end Go.Proofs.Ytdkaapkehmjepaa
