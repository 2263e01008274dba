/- Lists of tokens in memory. No condition. -/
import Derived.Test.YtobndhpfdaddaaaDoorStep
import Derived.Maps.AppendAt
namespace Go.Proofs.YtobndhpfdaddaaaDoor
open Go.RowKit
set_option linter.unusedVariables false
set_option linter.unusedSimpArgs false

structure Tok where
  kind : Int
  text : List UInt8
  line : Int
  col : Int
deriving DecidableEq
instance : Inhabited Tok := ⟨⟨0, [], 0, 0⟩⟩
def tcells (e : Tok) : List Value := [.int .i64 e.kind, .string ⟨e.text.toArray⟩, .int .i64 e.line, .int .i64 e.col]
/-- Tokens of the call's own: T is the type of a token. -/
def OwnK (T : TypeId) (w : World) (base : Nat) (v : Value) (es : List Tok) : Prop := w.ownsRow base T 4 v es.length (es.flatMap tcells)
theorem OwnK.nil (T : TypeId) (w : World) (base : Nat) : OwnK T w base (.slice none 0 0) [] := World.ownsRow_nil _ _ _ _
theorem OwnK.step {T : TypeId} {w w' : World} {base : Nat} {v : Value} {es : List Tok} (h : OwnK T w base v es) (hb : Below w.heap.size w w') : OwnK T w' base v es := by
  refine World.ownsRow.kept (row := none) h ⟨hb.os, hb.tape, hb.output, hb.size, fun k hk _ => hb.block k hk⟩ ?_
  cases v.ownBlock with
  | none => exact .inl rfl
  | some g => exact .inr (by simp)
theorem OwnK.mono {T : TypeId} {w : World} {base B : Nat} {v : Value} {es : List Tok} (h : OwnK T w base v es) (hB : B ≤ base) : OwnK T w B v es := by
  obtain ⟨h0, h1⟩ := h
  refine ⟨h0, ?_⟩
  rcases h1 with h1 | ⟨g, cap, cur, h2, h3, h4⟩
  · exact .inl h1
  · exact .inr ⟨g, cap, cur, h2, Nat.le_trans hB h3, h4⟩
theorem OwnK.shape {T : TypeId} {w : World} {base : Nat} {v : Value} {es : List Tok} (h : OwnK T w base v es) : ∃ a c, v = .slice a es.length c := by
  rcases h.2 with ⟨rfl, hn⟩ | ⟨g, cap, cur, rfl, _⟩
  · exact ⟨none, 0, by rw [hn]⟩
  · exact ⟨_, _, rfl⟩
theorem info39 : (Tryd.prog.info? 32).map (fun i => (i.zero, i.size, i.bytes)) = some (some (.agg #[.int .i64 0, .string ⟨#[]⟩, .int .i64 0, .int .i64 0]), 4, 40) := by kernel_rfl
theorem tcells_one (e : Tok) : ∀ u ∈ tcells e, u.oneCell' = true := by
  intro u hu
  simp only [tcells, List.mem_cons, List.not_mem_nil, or_false] at hu
  rcases hu with rfl | rfl | rfl | rfl <;> rfl
theorem tok_cells (T : TypeId) (w : World) (e : Tok) : ∀ j u, (tcells e)[j]? = some u → (w.alloc (.cells (tcells e).toArray T)).cell? ⟨w.heap.size, j, none⟩ = some u := by
  intro j u hj
  rw [cell_of_row _ _ _ _ _ _ (heap_alloc_new w _)]
  simpa using hj
/-- append of one token to tokens of the call's own. -/
theorem wpList_appK {ops : Array Oper} {rest : List Oper} {o : Oper} {a : Act} {Q : Exit → Act → World → Prop} {w : World} (S T : TypeId) (hu : Tryd.prog.underlying S = some (.slice T))
    (hinfo : (Tryd.prog.info? T).map (fun i => (i.zero, i.size, i.bytes)) = some (some (.agg #[.int .i64 0, .string ⟨#[]⟩, .int .i64 0, .int .i64 0]), 4, 40)) (hgd : o.guard = none) (s x : Operand)
    (ho : o.op = .call { callee := .builtin .append, args := #[s, x], argTypes := #[S, S] })
    (base : Nat) (v : Value) (es : List Tok) (hs : a.eval s = v) (hown : OwnK T w base v es) (g : Nat) (e : Tok) (hx : a.eval x = .slice (some ⟨g, 0, none⟩) 1 1)
    (hcells : ∀ j u, (tcells e)[j]? = some u → w.cell? ⟨g, j, none⟩ = some u)
    (hb : es.length ≤ 3000000) (hbase : base ≤ w.heap.size)
    (h : ∀ v' w', OwnK T w' base v' (es ++ [e]) → Below base w w' → w.heap.size ≤ w'.heap.size → wpList Tryd.prog ops Q rest (a.put o.dst v') w') : wpList Tryd.prog ops Q (o :: rest) a w := by
  obtain ⟨i0, hi, hz0, hz1, hz2⟩ := info_parts hinfo
  refine wpList_append_own _ hgd s x S ho base T i0 _ 4 40 hu hi hz0 hz1 hz2 rfl (by decide) v es.length (es.flatMap tcells) hs hown ⟨g, 0, none⟩ 1 1 (tcells e) hx rfl ?_ (tcells_one e)
    (by unfold maxLen; omega) (by omega) hbase ?_
  · intro j u hj
    have := hcells j u hj
    by_cases h0 : j = 0
    · subst h0; simpa [Addr.add] using this
    · simpa [Addr.add, h0] using this
  · intro v' w' hown' hgrow hnil
    refine h v' w' ?_ ((Below.refl base w).grown hgrow hbase fun k hk => (World.ownsRow.lt hown k hk).1) hgrow.size
    unfold OwnK
    rw [List.length_append, List.flatMap_append]
    simpa using hown'
end Go.Proofs.YtobndhpfdaddaaaDoor
