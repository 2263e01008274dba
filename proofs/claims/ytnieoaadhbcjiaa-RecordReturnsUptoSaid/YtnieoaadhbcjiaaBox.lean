/- Blocks of two cells, and lists of texts of the call's own. No condition. -/
import Derived.Test.YtnieoaadhbcjiaaRefWord
namespace Go.Proofs.Ytnieoaadhbcjiaa
open Go.RowKit
set_option linter.unusedVariables false
set_option linter.unusedSimpArgs false

/-! ### A block of two cells -/
def Box2 (w : World) (b : Nat) (t : TypeId) (x y : Value) : Prop := w.heap[b]? = some (.cells #[x, y] t (0, 0))
theorem Box2.facts {w : World} {b : Nat} {t : TypeId} {x y : Value} (h : Box2 w b t x y) :
    w.cell? ⟨b, 0, none⟩ = some x ∧ w.cell? ⟨b, 1, none⟩ = some y ∧ w.frozen? ⟨b, 0, none⟩ = false ∧ w.frozen? ⟨b, 1, none⟩ = false := by
  unfold Box2 at h
  refine ⟨?_, ?_, ?_, ?_⟩ <;> simp [World.cell?, World.frozen?, h]
theorem Box2.lt {w : World} {b : Nat} {t : TypeId} {x y : Value} (h : Box2 w b t x y) : b < w.heap.size := by
  rcases Nat.lt_or_ge b w.heap.size with h' | h'
  · exact h'
  · unfold Box2 at h; rw [Array.getElem?_eq_none h'] at h; cases h
theorem Box2.bel {w w' : World} {B b : Nat} {t : TypeId} {x y : Value} (h : Box2 w b t x y) (hb : Below B w w') (hB : b < B) : Box2 w' b t x y := (hb.block b hB).trans h
theorem Box2.step {w w' : World} {b : Nat} {t : TypeId} {x y : Value} (h : Box2 w b t x y) (hb : Below w.heap.size w w') : Box2 w' b t x y := h.bel hb h.lt
theorem Box2.new (w : World) (t : TypeId) (x y : Value) : Box2 (w.alloc (.cells #[x, y] t)) w.heap.size t x y := heap_alloc_new w _
theorem Box2.new1 (w : World) (o : Obj) (t : TypeId) (x y : Value) : Box2 ((w.alloc o).alloc (.cells #[x, y] t)) (w.heap.size + 1) t x y := by
  have := Box2.new (w.alloc o) t x y
  simpa [go_sem] using this
theorem Box2.alloc {w : World} {b : Nat} {t : TypeId} {x y : Value} (h : Box2 w b t x y) (o : Obj) : Box2 (w.alloc o) b t x y := h.step (bel_new w o)
theorem Box2.set2 {w : World} {b : Nat} {t : TypeId} {x y : Value} (h : Box2 w b t x y) (x' y' : Value) : Box2 ((w.setCell ⟨b, 0, none⟩ x').setCell ⟨b, 1, none⟩ y') b t x' y' := by
  have h1 := Joins.block_setCell (i := 0) h x'
  have h2 := Joins.block_setCell (i := 1) h1 y'
  unfold Box2
  simpa using h2
theorem Box2.far {w : World} {b g k : Nat} {t : TypeId} {x y : Value} (h : Box2 w b t x y) (hn : b ≠ g) (u : Value) : Box2 (w.setCell ⟨g, k, none⟩ u) b t x y :=
  (Below.heap_setCell w ⟨g, k, none⟩ u b hn).trans h
theorem Box2.noB {w : World} {b : Nat} {t : TypeId} {x y : Value} (h : Box2 w b t x y) (hx : ∀ n, x ≠ .int .u8 n) (hy : ∀ n, y ≠ .int .u8 n) : NoB w b := NoB.of h hx hy
theorem IsB.onlyN {w w' : World} {v : Value} {l : List UInt8} {b : Nat} (h : IsB w v l) (ho : Only b w w') (hn : NoB w b) : IsB w' v l := by
  rcases h with h | ⟨h0, g, off, cap, rfl, h3, h4, h5⟩
  · exact .inl h
  · refine .inr ⟨h0, g, off, cap, rfl, h3, h4, fun i c hi => ?_⟩
    have hc := h5 i c hi
    have hlt : g < w.heap.size := World.block_lt_of_cell? w _ hc
    have hne : g ≠ b := by
      rintro rfl
      exact hn _ _ hc
    exact (World.cell?_of_block (ho.block g hlt (fun e => hne (by injection e)))).trans hc

/-! ### Texts -/
def tcell (s : List UInt8) : Value := .string ⟨s.toArray⟩
/-- The call owns the list of texts ts, from block 'base' on. -/
def OwnT (w : World) (base : Nat) (v : Value) (ts : List (List UInt8)) : Prop := w.ownsRow base 9 1 v ts.length (ts.map tcell)
/-- The slice value v reads as the list of texts ts. -/
def IsT (w : World) (v : Value) (ts : List (List UInt8)) : Prop :=
  (ts = [] ∧ ∃ a cap, v = .slice a 0 cap) ∨
  (ts ≠ [] ∧ ∃ b off cap, v = .slice (some ⟨b, off, none⟩) ts.length cap ∧ ts.length ≤ cap ∧ cap ≤ maxLen ∧ ∀ i s, ts[i]? = some s → w.cell? ⟨b, off + i, none⟩ = some (.string ⟨s.toArray⟩))
theorem IsT.shape {w : World} {v : Value} {ts : List (List UInt8)} (h : IsT w v ts) : ∃ a cap, v = .slice a ts.length cap := by
  rcases h with ⟨rfl, a, cap, rfl⟩ | ⟨_, b, off, cap, rfl, _⟩
  · exact ⟨a, cap, rfl⟩
  · exact ⟨_, cap, rfl⟩
theorem IsT.step {w w' : World} {v : Value} {ts : List (List UInt8)} (h : IsT w v ts) (hb : Below w.heap.size w w') : IsT w' v ts := by
  rcases h with h | ⟨h0, b, off, cap, rfl, h1, h2, h3⟩
  · exact .inl h
  · exact .inr ⟨h0, b, off, cap, rfl, h1, h2, fun i c hi => keep_at hb (h3 i c hi)⟩
theorem OwnT.isT {w : World} {base : Nat} {v : Value} {ts : List (List UInt8)} (h : OwnT w base v ts) : IsT w v ts := by
  obtain ⟨h0, h1⟩ := h
  rcases h1 with ⟨rfl, hn⟩ | ⟨g, cap, cur, rfl, hb, hg, hn, hm, hs, ht⟩
  · obtain rfl := List.eq_nil_of_length_eq_zero hn
    exact .inl ⟨rfl, none, 0, rfl⟩
  · by_cases hl : ts = []
    · subst hl
      exact .inl ⟨rfl, _, cap, rfl⟩
    · refine .inr ⟨hl, g, 0, cap, rfl, hn, hm, fun i c hi => ?_⟩
      have hh : (ts.map tcell)[i]? = some (tcell c) := by rw [List.getElem?_map, hi]; rfl
      rw [← ht] at hh
      have hi' : i < ts.length := (List.getElem?_eq_some_iff.1 hi).1
      rw [List.getElem?_take, if_pos (by omega)] at hh
      have : w.cell? ⟨g, i, none⟩ = some (tcell c) := by
        simp only [World.cell?, hg]
        simpa using hh
      simpa [tcell] using this
theorem OwnT.nil (w : World) (base : Nat) : OwnT w base (.slice none 0 0) [] := World.ownsRow_nil _ _ _ _
theorem OwnT.only {w w' : World} {base b : Nat} {v : Value} {ts : List (List UInt8)} (h : OwnT w base v ts) (ho : Only b w w') (hb : b < base) : OwnT w' base v ts :=
  World.ownsRow.kept (row := some b) h ho (by
    rcases h.2 with ⟨rfl, _⟩ | ⟨g, cap, cur, rfl, hg, _⟩
    · exact .inl rfl
    · right
      simp only [Value.ownBlock, ne_eq, Option.some.injEq]
      omega)
theorem OwnT.step {w w' : World} {base : Nat} {v : Value} {ts : List (List UInt8)} (h : OwnT w base v ts) (hb : Below w.heap.size w w') : OwnT w' base v ts :=
  World.ownsRow.kept (row := none) h ⟨hb.os, hb.tape, hb.output, hb.size, fun k hk _ => hb.block k hk⟩ (by
    cases v.ownBlock with
    | none => exact .inl rfl
    | some k => exact .inr (by simp))
theorem OwnT.mono {w : World} {base B : Nat} {v : Value} {ts : List (List UInt8)} (h : OwnT w base v ts) (hB : B ≤ base) : OwnT w B v ts := by
  obtain ⟨h0, h1⟩ := h
  refine ⟨h0, ?_⟩
  rcases h1 with h1 | ⟨g, cap, cur, h2, h3, h4⟩
  · exact .inl h1
  · exact .inr ⟨g, cap, cur, h2, Nat.le_trans hB h3, h4⟩
theorem OwnT.shape {w : World} {base : Nat} {v : Value} {ts : List (List UInt8)} (h : OwnT w base v ts) : ∃ a c, v = .slice a ts.length c := h.isT.shape
theorem info9 : (Try.prog.info? 9).map (fun i => (i.zero, i.size, i.bytes)) = some (some (.string ⟨#[]⟩), 1, 16) := by kernel_rfl
/-- append of one text to texts of the call's own. -/
theorem wpList_appT {ops : Array Oper} {rest : List Oper} {o : Oper} {a : Act} {Q : Exit → Act → World → Prop} {w : World} (hgd : o.guard = none) (s x : Operand)
    (ho : o.op = .call { callee := .builtin .append, args := #[s, x], argTypes := #[27, 27] })
    (base : Nat) (v : Value) (ts : List (List UInt8)) (hs : a.eval s = v) (hown : OwnT w base v ts) (g : Nat) (t : List UInt8) (hx : a.eval x = .slice (some ⟨g, 0, none⟩) 1 1)
    (h0 : w.cell? ⟨g, 0, none⟩ = some (.string ⟨t.toArray⟩))
    (hb : ts.length ≤ 3000000) (hbase : base ≤ w.heap.size)
    (h : ∀ v' w', OwnT w' base v' (ts ++ [t]) → Below base w w' → w.heap.size ≤ w'.heap.size → wpList Try.prog ops Q rest (a.put o.dst v') w') : wpList Try.prog ops Q (o :: rest) a w := by
  obtain ⟨i0, hi, hz0, hz1, hz2⟩ := info_parts info9
  refine wpList_append_own _ hgd s x 27 ho base 9 i0 _ 1 16 Try.underlying27 hi hz0 hz1 hz2 rfl (by decide) v ts.length (ts.map tcell) hs hown ⟨g, 0, none⟩ 1 1 [tcell t] hx rfl ?_ ?_ (by unfold maxLen; omega) (by omega) hbase ?_
  · intro j u hj
    match j, hj with
    | 0, hj => simp at hj; subst hj; exact h0
    | j + 1, hj => simp at hj
  · intro u hu
    simp only [List.mem_singleton] at hu
    subst hu
    rfl
  · intro v' w' hown' hgrow hnil
    refine h v' w' ?_ ((Below.refl base w).grown hgrow hbase fun k hk => (World.ownsRow.lt hown k hk).1) hgrow.size
    unfold OwnT
    rw [List.length_append, List.map_append]
    exact hown'
end Go.Proofs.Ytnieoaadhbcjiaa
