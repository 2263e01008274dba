/- Gram: Tree Forest Gram Gram2 Sizes Parser Parse2 Binary Con, one behind the other. -/
import Derived.Test.YtogkiifljdnjgaaDoorBase
import Derived.Maps.AppendAt
import Derived.Lib.SmallJoins
/- Syntax trees, in plain Lean and in memory. No condition. -/
namespace Go.Proofs.YtogkiifljdnjgaaDoor
open Go.RowKit
set_option linter.unusedVariables false
set_option linter.unusedSimpArgs false

inductive Tree where
  | node (kind : Int) (text : List UInt8) (kids : List Tree) (line : Int)
instance : Inhabited Tree := ⟨.node 0 [] [] 0⟩
def Tree.kind : Tree → Int | .node k _ _ _ => k
def Tree.text : Tree → List UInt8 | .node _ t _ _ => t
def Tree.kids : Tree → List Tree | .node _ _ ks _ => ks
def Tree.line : Tree → Int | .node _ _ _ l => l

mutual
/-- A node's value; all the blocks of its kids are among F. -/
def IsT (w : World) (F : Nat → Prop) : Tree → Value → Prop
  | .node k t ks l, v => ∃ kv, v = .agg #[.int .i64 k, .string ⟨t.toArray⟩, kv, .int .i64 l] ∧ ∃ a cap, kv = .slice a ks.length cap ∧ ks.length ≤ cap ∧ cap ≤ maxLen ∧ (a = none → cap = 0) ∧ (ks ≠ [] → ∃ b off, a = some ⟨b, off, none⟩ ∧ F b ∧ IsRow w F b off ks)
/-- Nodes that lie in block b from off on. -/
def IsRow (w : World) (F : Nat → Prop) (b : Nat) : Nat → List Tree → Prop
  | _, [] => True
  | off, t :: ts => (∃ v0 v1 v2 v3, w.cell? ⟨b, off, none⟩ = some v0 ∧ w.cell? ⟨b, off + 1, none⟩ = some v1 ∧ w.cell? ⟨b, off + 2, none⟩ = some v2 ∧ w.cell? ⟨b, off + 3, none⟩ = some v3 ∧ IsT w F t (.agg #[v0, v1, v2, v3])) ∧ IsRow w F b (off + 4) ts
end

mutual
/-- Where the blocks stay, and the footprint grows. -/
theorem IsT.keep {w w' : World} {F G : Nat → Prop} (hk : ∀ b, F b → b < w.heap.size → w'.heap[b]? = w.heap[b]?) (hm : ∀ b, F b → b < w.heap.size → G b) : ∀ (t : Tree) (v : Value), IsT w F t v → IsT w' G t v
  | .node k t ks l, v, h => by
    unfold IsT at h ⊢
    obtain ⟨kv, hv, a, cap, h1, h2, h3, h4, h5⟩ := h
    refine ⟨kv, hv, a, cap, h1, h2, h3, h4, fun hne => ?_⟩
    obtain ⟨b, off, ha, hF, hr⟩ := h5 hne
    have hb : b < w.heap.size := by
      cases ks with
      | nil => exact absurd rfl hne
      | cons t ts =>
        unfold IsRow at hr
        obtain ⟨⟨v0, v1, v2, v3, h0, _⟩, _⟩ := hr
        exact World.block_lt_of_cell? w _ h0
    exact ⟨b, off, ha, hm b hF hb, IsRow.keep hk hm b (hk b hF hb) off ks hr⟩
theorem IsRow.keep {w w' : World} {F G : Nat → Prop} (hk : ∀ b, F b → b < w.heap.size → w'.heap[b]? = w.heap[b]?) (hm : ∀ b, F b → b < w.heap.size → G b) (b : Nat) (hb : w'.heap[b]? = w.heap[b]?) : ∀ (off : Nat) (ts : List Tree), IsRow w F b off ts → IsRow w' G b off ts
  | off, [], h => by unfold IsRow; trivial
  | off, t :: ts, h => by
    unfold IsRow at h ⊢
    obtain ⟨⟨v0, v1, v2, v3, h0, h1, h2, h3, ht⟩, hr⟩ := h
    refine ⟨⟨v0, v1, v2, v3, ?_, ?_, ?_, ?_, IsT.keep hk hm t _ ht⟩, IsRow.keep hk hm b hb (off + 4) ts hr⟩
    · rw [World.cell?_of_block hb]; exact h0
    · rw [World.cell?_of_block hb]; exact h1
    · rw [World.cell?_of_block hb]; exact h2
    · rw [World.cell?_of_block hb]; exact h3
end
theorem IsT.mono {w : World} {F G : Nat → Prop} {t : Tree} {v : Value} (h : IsT w F t v) (hm : ∀ b, F b → b < w.heap.size → G b) : IsT w G t v := IsT.keep (fun _ _ _ => rfl) hm t v h
theorem IsT.step {w w' : World} {F : Nat → Prop} {t : Tree} {v : Value} (h : IsT w F t v) (hb : Below w.heap.size w w') : IsT w' F t v := IsT.keep (fun b _ h => hb.block b h) (fun _ h _ => h) t v h

/-- The kids' slice. -/
def IsKids (w : World) (F : Nat → Prop) (ks : List Tree) (kv : Value) : Prop :=
  ∃ a cap, kv = .slice a ks.length cap ∧ ks.length ≤ cap ∧ cap ≤ maxLen ∧ (a = none → cap = 0) ∧ (ks ≠ [] → ∃ b off, a = some ⟨b, off, none⟩ ∧ F b ∧ IsRow w F b off ks)
theorem isT_node {w : World} {F : Nat → Prop} {k l : Int} {t : List UInt8} {ks : List Tree} {v : Value} : IsT w F (.node k t ks l) v ↔ ∃ kv, v = .agg #[.int .i64 k, .string ⟨t.toArray⟩, kv, .int .i64 l] ∧ IsKids w F ks kv := by
  unfold IsT IsKids
  exact Iff.rfl
theorem IsT.of {w : World} {F : Nat → Prop} {k l : Int} {t : List UInt8} {ks : List Tree} {kv : Value} (h : IsKids w F ks kv) : IsT w F (.node k t ks l) (.agg #[.int .i64 k, .string ⟨t.toArray⟩, kv, .int .i64 l]) := isT_node.2 ⟨kv, rfl, h⟩
theorem IsKids.nil (w : World) (F : Nat → Prop) : IsKids w F [] (.slice none 0 0) := ⟨none, 0, rfl, Nat.le_refl _, Nat.zero_le _, fun _ => rfl, fun h => absurd rfl h⟩
theorem IsKids.keep {w w' : World} {F G : Nat → Prop} (hk : ∀ b, F b → b < w.heap.size → w'.heap[b]? = w.heap[b]?) (hm : ∀ b, F b → b < w.heap.size → G b) {ks : List Tree} {v : Value} (h : IsKids w F ks v) : IsKids w' G ks v := by
  have h2 : IsT w F (.node 0 [] ks 0) (.agg #[.int .i64 0, .string ⟨([] : List UInt8).toArray⟩, v, .int .i64 0]) := isT_node.2 ⟨v, rfl, h⟩
  obtain ⟨kv, he, h3⟩ := isT_node.1 (IsT.keep hk hm _ _ h2)
  simp at he
  rw [he]
  exact h3
theorem IsKids.step {w w' : World} {F : Nat → Prop} {ks : List Tree} {v : Value} (h : IsKids w F ks v) (hb : Below w.heap.size w w') : IsKids w' F ks v := h.keep (fun b _ h => hb.block b h) (fun _ h _ => h)
theorem IsKids.mono {w : World} {F G : Nat → Prop} {ks : List Tree} {v : Value} (h : IsKids w F ks v) (hm : ∀ b, F b → b < w.heap.size → G b) : IsKids w G ks v := h.keep (fun _ _ _ => rfl) hm
theorem IsRow.append {w : World} {F : Nat → Prop} {b : Nat} : ∀ {off : Nat} {xs ys : List Tree}, IsRow w F b off xs → IsRow w F b (off + 4 * xs.length) ys → IsRow w F b off (xs ++ ys)
  | off, [], ys, _, h => by simpa using h
  | off, x :: xs, ys, h, g => by
    unfold IsRow at h
    rw [List.cons_append]
    unfold IsRow
    refine ⟨h.1, IsRow.append h.2 ?_⟩
    rw [List.length_cons] at g
    rwa [show off + 4 + 4 * xs.length = off + 4 * (xs.length + 1) by omega]
/-- One of the kids. -/
theorem IsRow.at {w : World} {F : Nat → Prop} {b : Nat} : ∀ {off : Nat} {ts : List Tree} {i : Nat} {t : Tree}, IsRow w F b off ts → ts[i]? = some t →
    ∃ v0 v1 v2 v3, w.cell? ⟨b, off + i * 4, none⟩ = some v0 ∧ w.cell? ⟨b, off + i * 4 + 1, none⟩ = some v1 ∧ w.cell? ⟨b, off + i * 4 + 2, none⟩ = some v2 ∧ w.cell? ⟨b, off + i * 4 + 3, none⟩ = some v3 ∧ IsT w F t (.agg #[v0, v1, v2, v3])
  | off, [], i, t, _, hi => by simp at hi
  | off, x :: ts, 0, t, h, hi => by
    unfold IsRow at h
    simp at hi
    subst hi
    simpa using h.1
  | off, x :: ts, i + 1, t, h, hi => by
    unfold IsRow at h
    rw [List.getElem?_cons_succ] at hi
    have := IsRow.at h.2 hi
    rwa [show off + 4 + i * 4 = off + (i + 1) * 4 by omega] at this
end Go.Proofs.YtogkiifljdnjgaaDoor

/- Lists of trees of the call's own, and append. No condition beyond the sizes. -/
namespace Go.Proofs.YtogkiifljdnjgaaDoor
open Go.RowKit
set_option linter.unusedVariables false
set_option linter.unusedSimpArgs false

/-- The cells of trees in a row. -/
def IsVals (w : World) (F : Nat → Prop) : List Value → List Tree → Prop
  | xs, [] => xs = []
  | xs, t :: ts => ∃ a b c d ys, xs = a :: b :: c :: d :: ys ∧ IsT w F t (.agg #[a, b, c, d]) ∧ IsVals w F ys ts
theorem IsVals.keep {w w' : World} {F G : Nat → Prop} (hk : ∀ b, F b → b < w.heap.size → w'.heap[b]? = w.heap[b]?) (hm : ∀ b, F b → b < w.heap.size → G b) : ∀ {xs : List Value} {ts : List Tree}, IsVals w F xs ts → IsVals w' G xs ts
  | xs, [], h => h
  | xs, t :: ts, h => by
    obtain ⟨a, b, c, d, ys, rfl, ht, hr⟩ := h
    exact ⟨a, b, c, d, ys, rfl, IsT.keep hk hm t _ ht, IsVals.keep hk hm hr⟩
theorem IsVals.len {w : World} {F : Nat → Prop} : ∀ {xs : List Value} {ts : List Tree}, IsVals w F xs ts → xs.length = ts.length * 4
  | xs, [], h => by rw [show xs = [] from h]; rfl
  | xs, t :: ts, h => by
    obtain ⟨a, b, c, d, ys, rfl, ht, hr⟩ := h
    have := IsVals.len hr
    simp only [List.length_cons]
    omega
theorem IsVals.append {w : World} {F : Nat → Prop} : ∀ {xs ys : List Value} {ts us : List Tree}, IsVals w F xs ts → IsVals w F ys us → IsVals w F (xs ++ ys) (ts ++ us)
  | xs, ys, [], us, h, g => by rw [show xs = [] from h]; exact g
  | xs, ys, t :: ts, us, h, g => by
    obtain ⟨a, b, c, d, zs, rfl, ht, hr⟩ := h
    exact ⟨a, b, c, d, zs ++ ys, rfl, ht, IsVals.append hr g⟩
theorem IsVals.row {w : World} {F : Nat → Prop} {b : Nat} {cells : List Value} (hc : ∀ i v, cells[i]? = some v → w.cell? ⟨b, i, none⟩ = some v) : ∀ {off : Nat} {xs : List Value} {ts : List Tree}, IsVals w F xs ts → (∀ i v, xs[i]? = some v → cells[off + i]? = some v) → IsRow w F b off ts
  | off, xs, [], h, _ => by unfold IsRow; trivial
  | off, xs, t :: ts, h, hx => by
    obtain ⟨a, b', c, d, ys, rfl, ht, hr⟩ := h
    unfold IsRow
    refine ⟨⟨a, b', c, d, ?_, ?_, ?_, ?_, ht⟩, IsVals.row hc hr fun i v hi => ?_⟩
    · exact hc _ _ (hx 0 a rfl)
    · exact hc _ _ (hx 1 b' rfl)
    · exact hc _ _ (hx 2 c rfl)
    · exact hc _ _ (hx 3 d rfl)
    · have := hx (i + 4) v (by simpa using hi)
      rwa [show off + 4 + i = off + (i + 4) by omega]

/-- Trees of the call's own; T: the type of a node. -/
def OwnTs (T : TypeId) (w : World) (base : Nat) (v : Value) (ts : List Tree) : Prop :=
  ∃ (F : Nat → Prop) (xs : List Value), w.ownsRow base T 4 v ts.length xs ∧ (∀ b, F b → base ≤ b ∧ b < w.heap.size ∧ v.ownBlock ≠ some b) ∧ IsVals w F xs ts
theorem OwnTs.nil (T : TypeId) (w : World) (base : Nat) : OwnTs T w base (.slice none 0 0) [] := ⟨fun _ => False, [], World.ownsRow_nil _ _ _ _, fun b h => h.elim, rfl⟩
theorem ownsRow_keep {w w' : World} {base T n : Nat} {v : Value} {xs : List Value} (h : w.ownsRow base T 4 v n xs) (hk : ∀ b, base ≤ b → b < w.heap.size → w'.heap[b]? = w.heap[b]?) : w'.ownsRow base T 4 v n xs := by
  obtain ⟨h0, h1⟩ := h
  refine ⟨h0, ?_⟩
  rcases h1 with h1 | ⟨g, cap, cur, hv, hb, hg, hr⟩
  · exact .inl h1
  · refine .inr ⟨g, cap, cur, hv, hb, (hk g hb ?_).trans hg, hr⟩
    rcases Nat.lt_or_ge g w.heap.size with h' | h'
    · exact h'
    · rw [Array.getElem?_eq_none h'] at hg; cases hg
theorem OwnTs.keep {T : TypeId} {w w' : World} {base : Nat} {v : Value} {ts : List Tree} (h : OwnTs T w base v ts) (hk : ∀ b, base ≤ b → b < w.heap.size → w'.heap[b]? = w.heap[b]?) (hs : w.heap.size ≤ w'.heap.size) : OwnTs T w' base v ts := by
  obtain ⟨F, xs, h1, h2, h3⟩ := h
  exact ⟨F, xs, ownsRow_keep h1 hk, fun b hb => ⟨(h2 b hb).1, by have := (h2 b hb).2.1; omega, (h2 b hb).2.2⟩, h3.keep (fun b hb _ => hk b (h2 b hb).1 (h2 b hb).2.1) (fun _ h _ => h)⟩
theorem OwnTs.step {T : TypeId} {w w' : World} {base : Nat} {v : Value} {ts : List Tree} (h : OwnTs T w base v ts) (hb : Below w.heap.size w w') : OwnTs T w' base v ts := h.keep (fun b _ h => hb.block b h) hb.size
theorem OwnTs.mono {T : TypeId} {w : World} {base B : Nat} {v : Value} {ts : List Tree} (h : OwnTs T w base v ts) (hB : B ≤ base) : OwnTs T w B v ts := by
  obtain ⟨F, xs, h1, h2, h3⟩ := h
  refine ⟨F, xs, ⟨h1.1, ?_⟩, fun b hb => ⟨Nat.le_trans hB (h2 b hb).1, (h2 b hb).2⟩, h3⟩
  rcases h1.2 with h1 | ⟨g, cap, cur, hv, hb, hr⟩
  · exact .inl h1
  · exact .inr ⟨g, cap, cur, hv, Nat.le_trans hB hb, hr⟩
/-- New blocks of the call. -/
def New (w : World) (base : Nat) : Nat → Prop := fun b => base ≤ b ∧ b < w.heap.size
theorem OwnTs.kids {T : TypeId} {w : World} {base : Nat} {v : Value} {ts : List Tree} (h : OwnTs T w base v ts) : IsKids w (New w base) ts v := by
  obtain ⟨F, xs, ⟨h0, h1⟩, h2, h3⟩ := h
  rcases h1 with ⟨rfl, hn⟩ | ⟨g, cap, cur, rfl, hb, hg, hn, hm, hs, ht⟩
  · obtain rfl := List.eq_nil_of_length_eq_zero hn
    exact IsKids.nil _ _
  · have hlt : g < w.heap.size := by
      rcases Nat.lt_or_ge g w.heap.size with h' | h'
      · exact h'
      · rw [Array.getElem?_eq_none h'] at hg; cases hg
    refine ⟨_, cap, rfl, hn, hm, (fun h => by cases h), fun _ => ⟨g, 0, rfl, ⟨hb, hlt⟩, ?_⟩⟩
    have h3' := h3.keep (w' := w) (G := New w base) (fun _ _ _ => rfl) (fun b hb _ => ⟨(h2 b hb).1, (h2 b hb).2.1⟩)
    refine IsVals.row (cells := cur.toList) (fun i v hi => ?_) h3' (fun i v hi => ?_)
    · simp only [World.cell?, hg]
      simpa using hi
    · rw [Nat.zero_add]
      rw [← ht] at hi
      rw [List.getElem?_take] at hi
      split at hi
      · exact hi
      · cases hi
theorem OwnTs.shape {T : TypeId} {w : World} {base : Nat} {v : Value} {ts : List Tree} (h : OwnTs T w base v ts) : ∃ a cap, v = .slice a ts.length cap := by
  obtain ⟨a, cap, hv, _⟩ := h.kids
  exact ⟨a, cap, hv⟩
/-- The cells of a value. -/
theorem isT_cells {w : World} {F : Nat → Prop} {t : Tree} {a b c d : Value} (h : IsT w F t (.agg #[a, b, c, d])) : ∀ u ∈ [a, b, c, d], u.oneCell' = true := by
  obtain ⟨k, tx, ks, l⟩ := t
  obtain ⟨kv, he, a', cap, hk, _⟩ := isT_node.1 h
  simp only [Value.agg.injEq, Array.mk.injEq, List.cons.injEq, and_true] at he
  obtain ⟨rfl, rfl, rfl, rfl⟩ := he
  subst hk
  intro u hu
  simp only [List.mem_cons, List.not_mem_nil, or_false] at hu
  rcases hu with rfl | rfl | rfl | rfl <;> rfl
/-- append of one tree: what it runs to. -/
theorem run_appT (S T : TypeId) (hu : Tryd.prog.underlying S = some (.slice T)) (hinfo : (Tryd.prog.info? T).map (fun i => (i.zero, i.size, i.bytes)) = some (some (.agg #[.int .i64 0, .string ⟨#[]⟩, .slice none 0 0, .int .i64 0]), 4, 56))
    (ty : TypeId) (w : World) (base : Nat) (v : Value) (ts : List Tree) (hown : OwnTs T w base v ts) (g : Nat) (t : Tree) (a b c d : Value)
    (h0 : w.cell? ⟨g, 0, none⟩ = some a) (h1 : w.cell? ⟨g, 1, none⟩ = some b) (h2 : w.cell? ⟨g, 2, none⟩ = some c) (h3 : w.cell? ⟨g, 3, none⟩ = some d)
    (G : Nat → Prop) (ht : IsT w G t (.agg #[a, b, c, d])) (hG : ∀ k, G k → base ≤ k ∧ k < w.heap.size ∧ v.ownBlock ≠ some k) (hb : ts.length ≤ 1000000) (hbase : base ≤ w.heap.size) :
    ∃ v' w', (Builtin.append_ #[S, S] ty #[v, .slice (some ⟨g, 0, none⟩) 1 1]).run Tryd.prog w = .ok v' w' ∧ OwnTs T w' base v' (ts ++ [t]) ∧ Below base w w' ∧ (∀ k, k < w.heap.size → v.ownBlock ≠ some k → w'.heap[k]? = w.heap[k]?) ∧
      (v'.ownBlock = v.ownBlock ∨ v'.ownBlock = some w.heap.size) := by
  obtain ⟨i0, hi, hz0, hz1, hz2⟩ := info_parts hinfo
  obtain ⟨F, xs, o1, o2, o3⟩ := hown
  obtain ⟨v', w', hrun, r1, r2, r3, r4⟩ := run_append_own_at (P := Tryd.prog) w base S ty T i0 _ 4 56 hu hi hz0 hz1 hz2 rfl (by decide) v ts.length xs o1 ⟨g, 0, none⟩ 1 1 [a, b, c, d] rfl (fun j u hj => by
    match j, hj with
    | 0, hj => simp at hj; subst hj; simpa [Addr.add] using h0
    | 1, hj => simp at hj; subst hj; simpa [Addr.add] using h1
    | 2, hj => simp at hj; subst hj; simpa [Addr.add] using h2
    | 3, hj => simp at hj; subst hj; simpa [Addr.add] using h3
    | n + 4, hj => simp at hj) (isT_cells ht) (by unfold maxLen; omega) (by omega) hbase
  have hblk : ∀ k, k < w.heap.size → v.ownBlock ≠ some k → w'.heap[k]? = w.heap[k]? := fun k hk hn => r2.block k hk (Ne.symm hn)
  refine ⟨v', w', hrun, ⟨fun k => F k ∨ G k, xs ++ [a, b, c, d], by rw [List.length_append]; exact r1, fun k hk => ?_, ?_⟩, (Below.refl base w).grown r2 hbase (fun k hk => (World.ownsRow.lt o1 k hk).1), hblk, r4⟩
  · have hk2 : base ≤ k ∧ k < w.heap.size ∧ v.ownBlock ≠ some k := hk.elim (o2 k) (hG k)
    refine ⟨hk2.1, by have := r2.size; omega, ?_⟩
    rcases r4 with e | e
    · rw [e]; exact hk2.2.2
    · rw [e]; intro x; injection x; omega
  · refine IsVals.append ?_ ?_
    · exact o3.keep (fun k hk hlt => hblk k hlt (o2 k hk).2.2) (fun k hk _ => .inl hk)
    · exact ⟨a, b, c, d, [], rfl, IsT.keep (fun k hk hlt => hblk k hlt (hG k hk).2.2) (fun k hk _ => .inr hk) t _ ht, rfl⟩
end Go.Proofs.YtogkiifljdnjgaaDoor

/- The parser in plain Lean: what it answers of a list of tokens. No condition. -/
namespace Go.Proofs.YtogkiifljdnjgaaDoor
set_option linter.unusedVariables false

/-- The tokens that are left, and the line of the first that could not follow. -/
abbrev PS := List Tok × Int
def hdT (r : List Tok) : Tok := r.headD ⟨5, [], 1, 1⟩
def isW (r : List Tok) (kind : Int) (text : List UInt8) : Bool := (hdT r).kind == kind && (hdT r).text == text
def nxt : List Tok → List Tok
  | _ :: u :: r => u :: r
  | r => r
def failF (s : PS) : PS := (s.1, if s.2 = 0 then (hdT s.1).line else s.2)
def signF (text : List UInt8) (s : PS) : PS := if isW s.1 4 text then (nxt s.1, s.2) else failF s
def textF (s : PS) : List UInt8 × PS := if (hdT s.1).kind = 3 then ((hdT s.1).text, (nxt s.1, s.2)) else ([], failF s)
def cmpW (kind : Int) (t : List UInt8) : Bool :=
  if t = [61, 61] ∨ t = [33, 61] ∨ t = [60] ∨ t = [60, 61] then kind == 4
  else if t = [115, 116, 97, 114, 116, 115] ∨ t = [101, 110, 100, 115] ∨ t = [99, 111, 110, 116, 97, 105, 110, 115] then kind == 1
  else false
def binT (k : Int) (tx : List UInt8) (a b : Tree) : Tree := .node k tx [a, b] a.line
def lst (ks : List Tree) : Tree := .node 0 [] ks 0

inductive NT | expr | conj | neg | comp | sum | prod | atom | args | stmts | stmt | block | value (sg : List UInt8) | chosen (line : Int)
abbrev Rec := NT → PS → Tree × PS
/-- Operands that are joined from the left. -/
def opsF (rc : Rec) (nt : NT) (kind : Int) (op : List UInt8) (k : Int) : Nat → Tree → PS → Tree × PS
  | 0, n, s => (n, s)
  | f + 1, n, s => if s.2 = 0 ∧ isW s.1 kind op = true then opsF rc nt kind op k f (binT k [] n (rc nt (nxt s.1, s.2)).1) (rc nt (nxt s.1, s.2)).2 else (n, s)
def sumF (rc : Rec) : Nat → Tree → PS → Tree × PS
  | 0, n, s => (n, s)
  | f + 1, n, s =>
    if s.2 ≠ 0 then (n, s)
    else if isW s.1 4 [43] = true then sumF rc f (binT 17 [] n (rc .prod (nxt s.1, s.2)).1) (rc .prod (nxt s.1, s.2)).2
    else if isW s.1 4 [45] = true then sumF rc f (binT 18 [] n (rc .prod (nxt s.1, s.2)).1) (rc .prod (nxt s.1, s.2)).2
    else (n, s)
def argsF (rc : Rec) : Nat → List Tree → PS → Tree × PS
  | 0, ks, s => (lst ks, s)
  | f + 1, ks, s =>
    if s.2 ≠ 0 then (lst ks, s)
    else if (rc .expr s).2.2 ≠ 0 then (lst (ks ++ [(rc .expr s).1]), (rc .expr s).2)
    else if isW (rc .expr s).2.1 4 [44] = true then argsF rc f (ks ++ [(rc .expr s).1]) (nxt (rc .expr s).2.1, (rc .expr s).2.2)
    else (lst (ks ++ [(rc .expr s).1]), signF [41] (rc .expr s).2)
def stmtsF (rc : Rec) : Nat → List Tree → PS → Tree × PS
  | 0, ks, s => (lst ks, s)
  | f + 1, ks, s => if s.2 = 0 ∧ (hdT s.1).kind ≠ 5 ∧ isW s.1 4 [125] = false then stmtsF rc f (ks ++ [(rc .stmt s).1]) (rc .stmt s).2 else (lst ks, s)
def negB (rc : Rec) (s : PS) : Tree × PS :=
  if isW s.1 1 [110, 111, 116] = true then (.node 15 [] [(rc .neg (nxt s.1, s.2)).1] (hdT s.1).line, (rc .neg (nxt s.1, s.2)).2) else rc .comp s
def compB (rc : Rec) (s : PS) : Tree × PS :=
  if (rc .sum s).2.2 = 0 ∧ cmpW (hdT (rc .sum s).2.1).kind (hdT (rc .sum s).2.1).text = true then
    (binT 16 (hdT (rc .sum s).2.1).text (rc .sum s).1 (rc .sum (nxt (rc .sum s).2.1, (rc .sum s).2.2)).1, (rc .sum (nxt (rc .sum s).2.1, (rc .sum s).2.2)).2)
  else rc .sum s
def atomB (rc : Rec) (s : PS) : Tree × PS :=
  let t := hdT s.1
  if t.kind = 2 then (.node 20 t.text [] t.line, (nxt s.1, s.2))
  else if t.kind = 3 then (.node 21 t.text [] t.line, (nxt s.1, s.2))
  else if isW s.1 1 [116, 114, 117, 101] = true ∨ isW s.1 1 [102, 97, 108, 115, 101] = true then (.node 22 t.text [] t.line, (nxt s.1, s.2))
  else if t.kind = 1 ∧ t.text ∉ kws then
    if isW (nxt s.1) 4 [40] = true then (.node 24 t.text (rc .args (nxt (nxt s.1), s.2)).1.kids t.line, (rc .args (nxt (nxt s.1), s.2)).2)
    else (.node 23 t.text [] t.line, (nxt s.1, s.2))
  else if isW s.1 4 [40] = true then
    ((rc .expr (nxt s.1, s.2)).1, if (rc .expr (nxt s.1, s.2)).2.2 = 0 then signF [41] (rc .expr (nxt s.1, s.2)).2 else (rc .expr (nxt s.1, s.2)).2)
  else (.node 0 t.text [] t.line, failF s)
def argsB (rc : Rec) (s : PS) : Tree × PS := if isW s.1 4 [41] = true then (lst [], (nxt s.1, s.2)) else argsF rc (s.1.length + 1) [] s
def blockB (rc : Rec) (s : PS) : Tree × PS :=
  if (signF [123] s).2 = 0 then (.node 12 [] (rc .stmts (signF [123] s)).1.kids (hdT s.1).line, signF [125] (rc .stmts (signF [123] s)).2)
  else (.node 12 [] [] (hdT s.1).line, signF [123] s)
def valueB (rc : Rec) (sg : List UInt8) (s : PS) : Tree × PS :=
  let s1 := if sg = [] then s else signF sg s
  if s1.2 ≠ 0 then (lst [], s1)
  else (lst [(rc .expr s1).1], if (rc .expr s1).2.2 = 0 then signF [59] (rc .expr s1).2 else (rc .expr s1).2)
def chosenB (rc : Rec) (line : Int) (s : PS) : Tree × PS :=
  let r1 := rc .expr s
  if r1.2.2 ≠ 0 then (.node 2 [] [r1.1] line, r1.2)
  else
    let r2 := rc .block r1.2
    if r2.2.2 ≠ 0 ∨ isW r2.2.1 1 [101, 108, 115, 101] = false then (.node 2 [] [r1.1, r2.1] line, r2.2)
    else
      let s3 : PS := (nxt r2.2.1, r2.2.2)
      if isW s3.1 1 [105, 102] = true then
        let r4 := rc (.chosen (hdT s3.1).line) (nxt s3.1, s3.2)
        (.node 2 [] [r1.1, r2.1, r4.1] line, r4.2)
      else
        let r4 := rc .block s3
        (.node 2 [] [r1.1, r2.1, r4.1] line, r4.2)
def stmtB (rc : Rec) (s : PS) : Tree × PS :=
  let t := hdT s.1
  let s1 : PS := (nxt s.1, s.2)
  if t.kind ≠ 1 then (.node 0 [] [] t.line, failF s)
  else if t.text = [105, 102] then rc (.chosen t.line) s1
  else if t.text = [108, 101, 116] then
    let nm := hdT s1.1
    if nm.kind ≠ 1 ∨ nm.text ∈ kws then (.node 3 [] [] t.line, failF s1)
    else (.node 3 nm.text (rc (.value [61]) (nxt s1.1, s1.2)).1.kids t.line, (rc (.value [61]) (nxt s1.1, s1.2)).2)
  else if t.text = [112, 97, 116, 104] ∨ t.text = [113, 117, 101, 114, 121] then (.node 4 t.text (rc (.value [61]) s1).1.kids t.line, (rc (.value [61]) s1).2)
  else if t.text = [104, 101, 97, 100, 101, 114] then
    if (textF s1).2.2 = 0 then (.node 5 (textF s1).1 (rc (.value [61]) (textF s1).2).1.kids t.line, (rc (.value [61]) (textF s1).2).2) else (.node 5 (textF s1).1 [] t.line, (textF s1).2)
  else if t.text = [118, 97, 114, 121] then (.node 6 (textF s1).1 [] t.line, if (textF s1).2.2 = 0 then signF [59] (textF s1).2 else (textF s1).2)
  else if t.text = [116, 97, 103] then (.node 7 [] (rc (.value []) s1).1.kids t.line, (rc (.value []) s1).2)
  else if t.text = [116, 116, 108] then (.node 8 [] (rc (.value []) s1).1.kids t.line, (rc (.value []) s1).2)
  else if t.text = [100, 101, 110, 121] then (.node 9 [] (rc (.value []) s1).1.kids t.line, (rc (.value []) s1).2)
  else if t.text = [112, 97, 115, 115] then (.node 10 [] [] t.line, signF [59] s1)
  else if t.text = [116, 111, 107, 101, 110] then (.node 11 [] [] t.line, signF [59] s1)
  else (.node 0 [] [] t.line, failF s)
def body (rc : Rec) : NT → PS → Tree × PS
  | .expr, s => opsF rc .conj 1 [111, 114] 13 (rc .conj s).2.1.length (rc .conj s).1 (rc .conj s).2
  | .conj, s => opsF rc .neg 1 [97, 110, 100] 14 (rc .neg s).2.1.length (rc .neg s).1 (rc .neg s).2
  | .neg, s => negB rc s
  | .comp, s => compB rc s
  | .sum, s => sumF rc (rc .prod s).2.1.length (rc .prod s).1 (rc .prod s).2
  | .prod, s => opsF rc .atom 4 [42] 19 (rc .atom s).2.1.length (rc .atom s).1 (rc .atom s).2
  | .atom, s => atomB rc s
  | .args, s => argsB rc s
  | .stmts, s => stmtsF rc (s.1.length + 1) [] s
  | .stmt, s => stmtB rc s
  | .block, s => blockB rc s
  | .value sg, s => valueB rc sg s
  | .chosen l, s => chosenB rc l s
def pRun : Nat → Rec
  | 0 => fun _ s => (default, s)
  | n + 1 => body (pRun n)
def rankN : NT → Nat
  | .args => 9 | .value _ => 9 | .chosen _ => 9 | .expr => 8 | .conj => 7 | .neg => 6 | .comp => 5 | .sum => 4 | .prod => 3 | .atom => 2 | .stmts => 2 | .stmt => 1 | .block => 1
end Go.Proofs.YtogkiifljdnjgaaDoor

/- The parser in plain Lean: no function gives tokens back. No condition. -/
namespace Go.Proofs.YtogkiifljdnjgaaDoor
set_option linter.unusedVariables false
set_option linter.unusedSimpArgs false

theorem nxt_le' (l : List Tok) : (nxt l).length ≤ l.length := by
  match l with
  | [] => exact Nat.le_refl _
  | [x] => exact Nat.le_refl _
  | x :: y :: l => simp [nxt]
theorem signF_le (tx : List UInt8) (s : PS) : (signF tx s).1.length ≤ s.1.length := by
  unfold signF failF
  have := nxt_le' s.1
  split <;> simp <;> omega
theorem textF_le (s : PS) : (textF s).2.1.length ≤ s.1.length := by
  unfold textF failF
  have := nxt_le' s.1
  split <;> simp <;> omega
theorem ite_le {c : Prop} [Decidable c] {a b : Tree × PS} {n : Nat} (ha : a.2.1.length ≤ n) (hb : b.2.1.length ≤ n) : (if c then a else b).2.1.length ≤ n := by
  split
  · exact ha
  · exact hb
section
variable {rc : Rec} (H : ∀ nt s, (rc nt s).2.1.length ≤ s.1.length)
include H
theorem rc_nxt (nt : NT) (s : PS) : (rc nt (nxt s.1, s.2)).2.1.length ≤ s.1.length := Nat.le_trans (H nt (nxt s.1, s.2)) (nxt_le' s.1)
theorem opsF_le (nt : NT) (kind : Int) (op : List UInt8) (k : Int) : ∀ (f : Nat) (n : Tree) (s : PS), (opsF rc nt kind op k f n s).2.1.length ≤ s.1.length
  | 0, n, s => Nat.le_refl _
  | f + 1, n, s => by
    unfold opsF
    split
    · exact Nat.le_trans (opsF_le nt kind op k f _ _) (rc_nxt H nt s)
    · exact Nat.le_refl _
theorem sumF_le : ∀ (f : Nat) (n : Tree) (s : PS), (sumF rc f n s).2.1.length ≤ s.1.length
  | 0, n, s => Nat.le_refl _
  | f + 1, n, s => by
    unfold sumF
    split
    · exact Nat.le_refl _
    split
    · exact Nat.le_trans (sumF_le f _ _) (rc_nxt H .prod s)
    split
    · exact Nat.le_trans (sumF_le f _ _) (rc_nxt H .prod s)
    · exact Nat.le_refl _
theorem argsF_le : ∀ (f : Nat) (ks : List Tree) (s : PS), (argsF rc f ks s).2.1.length ≤ s.1.length
  | 0, n, s => Nat.le_refl _
  | f + 1, n, s => by
    unfold argsF
    split
    · exact Nat.le_refl _
    split
    · exact H .expr s
    split
    · exact Nat.le_trans (argsF_le f _ _) (Nat.le_trans (nxt_le' _) (H .expr s))
    · exact Nat.le_trans (signF_le _ _) (H .expr s)
theorem stmtsF_le : ∀ (f : Nat) (ks : List Tree) (s : PS), (stmtsF rc f ks s).2.1.length ≤ s.1.length
  | 0, n, s => Nat.le_refl _
  | f + 1, n, s => by
    unfold stmtsF
    split
    · exact Nat.le_trans (stmtsF_le f _ _) (H .stmt s)
    · exact Nat.le_refl _
theorem negB_le (s : PS) : (negB rc s).2.1.length ≤ s.1.length := by
  unfold negB
  split
  · exact rc_nxt H .neg s
  · exact H _ _
theorem compB_le (s : PS) : (compB rc s).2.1.length ≤ s.1.length := by
  unfold compB
  split
  · exact Nat.le_trans (rc_nxt H .sum _) (H _ _)
  · exact H _ _
theorem atomB_le (s : PS) : (atomB rc s).2.1.length ≤ s.1.length := by
  unfold atomB
  dsimp only
  have hn := nxt_le' s.1
  split
  · exact hn
  split
  · exact hn
  split
  · exact hn
  split
  · split
    · exact Nat.le_trans (rc_nxt H .args (nxt s.1, s.2)) hn
    · exact hn
  split
  · dsimp only
    split
    · exact Nat.le_trans (signF_le _ _) (rc_nxt H .expr s)
    · exact rc_nxt H .expr s
  · exact Nat.le_refl _
theorem argsB_le (s : PS) : (argsB rc s).2.1.length ≤ s.1.length := by
  unfold argsB
  split
  · exact nxt_le' s.1
  · exact argsF_le H _ _ _
theorem blockB_le (s : PS) : (blockB rc s).2.1.length ≤ s.1.length := by
  unfold blockB
  split
  · exact Nat.le_trans (signF_le _ _) (Nat.le_trans (H .stmts (signF [123] s)) (signF_le _ _))
  · exact signF_le _ _
theorem valueB_le (sg : List UInt8) (s : PS) : (valueB rc sg s).2.1.length ≤ s.1.length := by
  unfold valueB
  dsimp only
  have h1 : (if sg = [] then s else signF sg s).1.length ≤ s.1.length := by
    split
    · exact Nat.le_refl _
    · exact signF_le _ _
  generalize (if sg = [] then s else signF sg s) = s1 at *
  split
  · exact h1
  · dsimp only
    split
    · exact Nat.le_trans (signF_le _ _) (Nat.le_trans (H _ _) h1)
    · exact Nat.le_trans (H _ _) h1
theorem chosenB_le (l : Int) (s : PS) : (chosenB rc l s).2.1.length ≤ s.1.length := by
  unfold chosenB
  dsimp only
  have h1 := H .expr s
  split
  · exact h1
  have h2 := Nat.le_trans (H .block (rc .expr s).2) h1
  split
  · exact h2
  have h3 := Nat.le_trans (nxt_le' (rc .block (rc .expr s).2).2.1) h2
  split
  · exact Nat.le_trans (rc_nxt H _ (_, _)) h3
  · exact Nat.le_trans (H _ (_, _)) h3
theorem stmtB_le (s : PS) : (stmtB rc s).2.1.length ≤ s.1.length := by
  unfold stmtB
  dsimp only
  have h1 := nxt_le' s.1
  have hv := fun nt => rc_nxt H nt s
  have ht := Nat.le_trans (textF_le (nxt s.1, s.2)) h1
  refine ite_le (Nat.le_refl _) ?_
  refine ite_le (hv _) ?_
  refine ite_le (ite_le h1 (Nat.le_trans (rc_nxt H _ (nxt s.1, s.2)) h1)) ?_
  refine ite_le (hv _) ?_
  refine ite_le (ite_le (Nat.le_trans (H _ _) ht) ht) ?_
  refine ite_le ?_ ?_
  · dsimp only
    split
    · exact Nat.le_trans (signF_le _ _) ht
    · exact ht
  refine ite_le (hv _) ?_
  refine ite_le (hv _) ?_
  refine ite_le (hv _) ?_
  refine ite_le (Nat.le_trans (signF_le _ _) h1) ?_
  refine ite_le (Nat.le_trans (signF_le _ _) h1) ?_
  exact Nat.le_refl _
theorem body_le (nt : NT) (s : PS) : (body rc nt s).2.1.length ≤ s.1.length := by
  cases nt
  · exact Nat.le_trans (opsF_le H _ _ _ _ _ _ _) (H _ _)
  · exact Nat.le_trans (opsF_le H _ _ _ _ _ _ _) (H _ _)
  · exact negB_le H s
  · exact compB_le H s
  · exact Nat.le_trans (sumF_le H _ _ _) (H _ _)
  · exact Nat.le_trans (opsF_le H _ _ _ _ _ _ _) (H _ _)
  · exact atomB_le H s
  · exact argsB_le H s
  · exact stmtsF_le H _ _ _
  · exact stmtB_le H s
  · exact blockB_le H s
  · exact valueB_le H _ s
  · exact chosenB_le H _ s
end
theorem pRun_le : ∀ (n : Nat) (nt : NT) (s : PS), (pRun n nt s).2.1.length ≤ s.1.length
  | 0, nt, s => Nat.le_refl _
  | n + 1, nt, s => body_le (pRun_le n) nt s
end Go.Proofs.YtogkiifljdnjgaaDoor

/- Sizes, depths and equality of trees, in plain Lean. No condition. -/
namespace Go.Proofs.YtogkiifljdnjgaaDoor
set_option linter.unusedVariables false
set_option linter.unusedSimpArgs false

mutual
def sizeT : Tree → Nat
  | .node _ _ ks _ => 1 + sizeL ks
def sizeL : List Tree → Nat
  | [] => 0
  | t :: ts => sizeT t + sizeL ts
end
mutual
def depthT : Tree → Nat
  | .node _ _ ks _ => depthL ks + 1
def depthL : List Tree → Nat
  | [] => 0
  | t :: ts => max (depthT t) (depthL ts)
end
mutual
/-- Equal but for lines. -/
def sameT : Tree → Tree → Bool
  | .node k t ks _, .node k' t' ks' _ => k == k' && (t == t' && (ks.length == ks'.length && sameL ks ks'))
def sameL : List Tree → List Tree → Bool
  | [], _ => true
  | _ :: _, [] => true
  | a :: xs, b :: ys => sameT a b && sameL xs ys
end
theorem sizeT_node (k : Int) (t : List UInt8) (ks : List Tree) (l : Int) : sizeT (.node k t ks l) = 1 + sizeL ks := by rw [sizeT]
theorem sizeL_nil : sizeL [] = 0 := by rw [sizeL]
theorem sizeL_cons (t : Tree) (ts : List Tree) : sizeL (t :: ts) = sizeT t + sizeL ts := by rw [sizeL]
theorem depthT_node (k : Int) (t : List UInt8) (ks : List Tree) (l : Int) : depthT (.node k t ks l) = depthL ks + 1 := by rw [depthT]
theorem depthL_nil : depthL [] = 0 := by rw [depthL]
theorem depthL_cons (t : Tree) (ts : List Tree) : depthL (t :: ts) = max (depthT t) (depthL ts) := by rw [depthL]
theorem sizeL_append : ∀ (xs ys : List Tree), sizeL (xs ++ ys) = sizeL xs + sizeL ys
  | [], ys => by simp [sizeL_nil]
  | x :: xs, ys => by rw [List.cons_append, sizeL_cons, sizeL_cons, sizeL_append xs ys]; omega
theorem depthL_append : ∀ (xs ys : List Tree), depthL (xs ++ ys) = max (depthL xs) (depthL ys)
  | [], ys => by simp [depthL_nil]
  | x :: xs, ys => by rw [List.cons_append, depthL_cons, depthL_cons, depthL_append xs ys]; omega
theorem take_next {α : Type} {l : List α} {k : Nat} {x : α} (h : l[k]? = some x) : l.take (k + 1) = l.take k ++ [x] := by
  rw [List.take_add_one, h]; rfl
theorem sizeL_take {ks : List Tree} {k : Nat} {t : Tree} (h : ks[k]? = some t) : sizeL (ks.take (k + 1)) = sizeL (ks.take k) + sizeT t := by
  rw [take_next h, sizeL_append, sizeL_cons, sizeL_nil]; omega
theorem sizeL_take_le : ∀ (ks : List Tree) (k : Nat), sizeL (ks.take k) ≤ sizeL ks
  | [], k => by simp
  | t :: ts, 0 => by simp [sizeL_nil]
  | t :: ts, k + 1 => by rw [List.take_succ_cons, sizeL_cons, sizeL_cons]; have := sizeL_take_le ts k; omega
theorem depthL_take {ks : List Tree} {k : Nat} {t : Tree} (h : ks[k]? = some t) : depthL (ks.take (k + 1)) = max (depthL (ks.take k)) (depthT t) := by
  rw [take_next h, depthL_append, depthL_cons, depthL_nil]; omega
theorem sizeT_mem : ∀ {ks : List Tree} {t : Tree}, t ∈ ks → sizeT t ≤ sizeL ks
  | x :: ks, t, h => by
    rw [sizeL_cons]
    rcases List.mem_cons.1 h with rfl | h
    · omega
    · have := sizeT_mem h; omega
theorem depthT_mem : ∀ {ks : List Tree} {t : Tree}, t ∈ ks → depthT t ≤ depthL ks
  | x :: ks, t, h => by
    rw [depthL_cons]
    rcases List.mem_cons.1 h with rfl | h
    · omega
    · have := depthT_mem h; omega
theorem depthT_at {ks : List Tree} {k : Nat} {t : Tree} (h : ks[k]? = some t) : depthT t ≤ depthL ks := depthT_mem (List.mem_of_getElem? h)
theorem sizeT_at {ks : List Tree} {k : Nat} {t : Tree} (h : ks[k]? = some t) : sizeT t ≤ sizeL ks := sizeT_mem (List.mem_of_getElem? h)
mutual
theorem depth_le_size : ∀ t : Tree, depthT t ≤ sizeT t
  | .node k t ks l => by rw [depthT_node, sizeT_node]; have := depthL_le_size ks; omega
theorem depthL_le_size : ∀ ts : List Tree, depthL ts ≤ sizeL ts
  | [] => by rw [depthL_nil]; omega
  | t :: ts => by rw [depthL_cons, sizeL_cons]; have := depth_le_size t; have := depthL_le_size ts; omega
end
theorem len_le_size : ∀ ts : List Tree, ts.length ≤ sizeL ts
  | [] => by simp
  | .node k t ks l :: ts => by rw [sizeL_cons, sizeT_node, List.length_cons]; have := len_le_size ts; omega
theorem sameT_node (k k' : Int) (t t' : List UInt8) (ks ks' : List Tree) (l l' : Int) : sameT (.node k t ks l) (.node k' t' ks' l') = (k == k' && (t == t' && (ks.length == ks'.length && sameL ks ks'))) := by rw [sameT]
theorem sameL_cons (a b : Tree) (xs ys : List Tree) : sameL (a :: xs) (b :: ys) = (sameT a b && sameL xs ys) := by rw [sameL]
theorem sameL_nil (ys : List Tree) : sameL [] ys = true := by rw [sameL]
theorem sameL_take : ∀ (ks us : List Tree) (k : Nat) (t u : Tree), ks[k]? = some t → us[k]? = some u → sameL (ks.take (k + 1)) (us.take (k + 1)) = (sameL (ks.take k) (us.take k) && sameT t u)
  | a :: xs, b :: ys, 0, t, u, h, g => by
    simp at h g
    subst h; subst g
    simp [sameL_cons, sameL_nil]
  | a :: xs, b :: ys, k + 1, t, u, h, g => by
    rw [List.take_succ_cons, List.take_succ_cons, List.take_succ_cons, List.take_succ_cons, sameL_cons, sameL_cons, sameL_take xs ys k t u (by simpa using h) (by simpa using g), Bool.and_assoc]
/-- Where one pair is not the same, the lists are not. -/
theorem sameL_bad : ∀ (ks us : List Tree) (k : Nat) (t u : Tree), ks[k]? = some t → us[k]? = some u → sameT t u = false → sameL ks us = false
  | a :: xs, b :: ys, 0, t, u, h, g, hn => by
    simp at h g
    subst h; subst g
    rw [sameL_cons, hn]; rfl
  | a :: xs, b :: ys, k + 1, t, u, h, g, hn => by
    rw [sameL_cons, sameL_bad xs ys k t u (by simpa using h) (by simpa using g) hn, Bool.and_false]
mutual
theorem sameT_refl : ∀ t : Tree, sameT t t = true
  | .node k t ks l => by rw [sameT_node, sameL_refl ks]; simp
theorem sameL_refl : ∀ ts : List Tree, sameL ts ts = true
  | [] => sameL_nil _
  | t :: ts => by rw [sameL_cons, sameT_refl t, sameL_refl ts]; rfl
end
end Go.Proofs.YtogkiifljdnjgaaDoor

/- The parser's box, and its small methods. No condition beyond what a parser in memory is. -/
namespace Go.Proofs.YtogkiifljdnjgaaDoor
open Go.RowKit
set_option linter.unusedVariables false
set_option linter.unusedSimpArgs false

/-- Only block b, and what is new, has turned. -/
def Only (b : Nat) (w w' : World) : Prop := w.grownBy w' (some b)
theorem Only.refl (b : Nat) (w : World) : Only b w w := World.grownBy.refl w _
theorem Only.trans {b : Nat} {u v w : World} (h : Only b u v) (g : Only b v w) : Only b u w :=
  ⟨g.os.trans h.os, g.tape.trans h.tape, g.output.trans h.output, Nat.le_trans h.size g.size, fun k hk hn => (g.block k (Nat.lt_of_lt_of_le hk h.size) hn).trans (h.block k hk hn)⟩
theorem Only.of_below {b : Nat} {w w' : World} (h : Below w.heap.size w w') : Only b w w' := ⟨h.os, h.tape, h.output, h.size, fun k hk _ => h.block k hk⟩
theorem Only.set {b k : Nat} {w : World} {u : Value} : Only b w (w.setCell ⟨b, k, none⟩ u) :=
  ⟨rfl, rfl, rfl, by simp [World.setCell], fun i hi hn => Below.heap_setCell w ⟨b, k, none⟩ u i (fun e => hn (by rw [e]))⟩
theorem Only.below {b B : Nat} {w w' : World} (h : Only b w w') (hb : B ≤ b) (hB : B ≤ w.heap.size) : Below B w w' :=
  ⟨h.os, h.tape, h.output, h.size, fun k hk => h.block k (by omega) (fun e => by injection e with e; omega)⟩
theorem Only.cell {b g o : Nat} {w w' : World} (h : Only b w w') (hg : g < w.heap.size) (hn : g ≠ b) : w'.cell? ⟨g, o, none⟩ = w.cell? ⟨g, o, none⟩ :=
  World.cell?_of_block (h.block g hg (fun e => hn (Option.some.inj e)))

def tokVal (t : Tok) : Value := .agg #[.int .i64 t.kind, .string ⟨t.text.toArray⟩, .int .i64 t.line, .int .i64 t.col]
/-- A parser in memory: its tokens lie below it. -/
def PAt (w : World) (pb : Nat) (es : List Tok) (k : Nat) (line : Int) : Prop :=
  ∃ g cap, g < pb ∧ w.heap[pb]? = some (.cells #[.slice (some ⟨g, 0, none⟩) es.length cap, .int .i64 k, .int .i64 line] 67 (0, 0)) ∧ ∀ j e, es[j]? = some e → TokAt w g (j * 4) e
theorem PAt.lt {w : World} {pb : Nat} {es : List Tok} {k : Nat} {line : Int} (h : PAt w pb es k line) : pb < w.heap.size := by
  obtain ⟨g, cap, _, h, _⟩ := h
  rcases Nat.lt_or_ge pb w.heap.size with h' | h'
  · exact h'
  · rw [Array.getElem?_eq_none h'] at h; cases h
theorem PAt.step {w w' : World} {pb : Nat} {es : List Tok} {k : Nat} {line : Int} (h : PAt w pb es k line) (hb : Below w.heap.size w w') : PAt w' pb es k line := by
  have hlt := h.lt
  obtain ⟨g, cap, hg, hh, ht⟩ := h
  exact ⟨g, cap, hg, (hb.block pb hlt).trans hh, fun j e hj => (ht j e hj).step hb⟩
theorem PAt.cells {w : World} {pb : Nat} {a b c : Value} (h : w.heap[pb]? = some (.cells #[a, b, c] 67 (0, 0))) :
    w.cell? ⟨pb, 0, none⟩ = some a ∧ w.cell? ⟨pb, 1, none⟩ = some b ∧ w.cell? ⟨pb, 2, none⟩ = some c ∧ w.frozen? ⟨pb, 0, none⟩ = false ∧ w.frozen? ⟨pb, 1, none⟩ = false ∧ w.frozen? ⟨pb, 2, none⟩ = false := by
  refine ⟨?_, ?_, ?_, ?_, ?_, ?_⟩ <;> simp [World.cell?, World.frozen?, h]
theorem TokAt.other {w w' : World} {g o b : Nat} {e : Tok} (h : TokAt w g o e) (ho : Only b w w') (hn : g ≠ b) : TokAt w' g o e := by
  obtain ⟨h0, h1, h2, h3⟩ := h
  have hlt := World.block_lt_of_cell? w _ h0
  exact ⟨(ho.cell hlt hn).trans h0, (ho.cell hlt hn).trans h1, (ho.cell hlt hn).trans h2, (ho.cell hlt hn).trans h3⟩

theorem peek_any (w : World) (pb : Nat) (es : List Tok) (k : Nat) (line : Int) (h : PAt w pb es k line) (hk : k < es.length) :
    Calls Tryd.prog 35 #[.pointer (some ⟨pb, 0, none⟩)] w fun e w' => e = .returned (tokVal (hdT (es.drop k))) ∧ Below w.heap.size w w' := by
  obtain ⟨g, cap, hg, hh, ht⟩ := h
  obtain ⟨c0, c1, c2, f0, f1, f2⟩ := PAt.cells hh
  have he : es[k]? = some es[k] := List.getElem?_eq_getElem hk
  have hd : hdT (es.drop k) = es[k] := by rw [List.drop_eq_getElem_cons hk]; rfl
  rw [hd]
  generalize es[k] = t at he
  obtain ⟨t0, t1, t2, t3⟩ := ht k t he
  have hk0 : (0 : Int) ≤ (k : Int) := by omega
  have hki : (k : Int) < (es.length : Int) := by omega
  unfold tokVal
  have hlt := World.block_lt_of_cell? w _ c0
  have hlg := World.block_lt_of_cell? w _ t0
  dsimp only at hlt hlg
  clear hh ht he hd
  go_enter Tryd.func35, Tryd.ntmps35
  go_wp2_with fail
  go_region
  go_wp2_with fail
  refine bodyPost_ret (v := tokVal t) (by simp [results, Tryd.results35, go_sem, tokVal]) rfl ⟨by rw [tokVal], (bel_new w _).drew⟩
theorem ok_any (w : World) (pb : Nat) (es : List Tok) (k : Nat) (line : Int) (h : PAt w pb es k line) :
    Calls Tryd.prog 34 #[.pointer (some ⟨pb, 0, none⟩)] w fun e w' => e = .returned (.bool (decide (line = 0))) ∧ w = w' := by
  obtain ⟨g, cap, hg, hh, ht⟩ := h
  obtain ⟨c0, c1, c2, f0, f1, f2⟩ := PAt.cells hh
  clear hh ht
  by_cases hl : line = 0
  · have e1 : (line == 0) = true := beq_iff_eq.2 hl
    go_enter Tryd.func34, Tryd.ntmps34
    go_wp2_with fail
    go_ret
    exact ⟨ret_bool (by simp [hl]), rfl⟩
  · have e1 : (line == 0) = false := beq_eq_false_iff_ne.2 hl
    go_enter Tryd.func34, Tryd.ntmps34
    go_wp2_with fail
    go_ret
    exact ⟨ret_bool (by simp [hl]), rfl⟩
theorem is_any (w : World) (pb : Nat) (es : List Tok) (k : Nat) (line : Int) (h : PAt w pb es k line) (hk : k < es.length) (kind : Int) (tx : ByteArray) :
    Calls Tryd.prog 47 #[.pointer (some ⟨pb, 0, none⟩), .int .i64 kind, .string tx] w fun e w' => e = .returned (.bool (isW (es.drop k) kind tx.data.toList)) ∧ Below w.heap.size w w' := by
  have HP := Lib.hid (peek_any w pb es k line h hk)
  unfold isW
  unfold tokVal at HP
  generalize hdT (es.drop k) = t at *
  clear h
  by_cases h1 : t.kind = kind
  · have e1 : (t.kind == kind) = true := beq_iff_eq.2 h1
    rw [e1, Bool.true_and]
    clear h1
    go_enter Tryd.func47, Tryd.ntmps47
    go_wp2_with (go_at_call 35; refine HP.out.mono ?_; rintro e w1 ⟨rfl, hb1⟩)
    go_ret
    exact ⟨ret_bool (by rw [ByteArray.toList_eq]), hb1.trans ((bel_new w1 _).mono hb1.size)⟩
  · have e1 : (t.kind == kind) = false := beq_eq_false_iff_ne.2 h1
    rw [e1, Bool.false_and]
    clear h1
    go_enter Tryd.func47, Tryd.ntmps47
    go_wp2_with (go_at_call 35; refine HP.out.mono ?_; rintro e w1 ⟨rfl, hb1⟩)
    go_ret
    exact ⟨ret_bool rfl, hb1.trans ((bel_new w1 _).mono hb1.size)⟩
theorem PAt.set1 {w : World} {pb : Nat} {es : List Tok} {k : Nat} {line : Int} (h : PAt w pb es k line) (k' : Nat) : PAt (w.setCell ⟨pb, 1, none⟩ (.int .i64 k')) pb es k' line := by
  obtain ⟨g, cap, hg, hh, ht⟩ := h
  refine ⟨g, cap, hg, ?_, fun j e hj => (ht j e hj).other Only.set (by omega)⟩
  have := Joins.block_setCell (i := 1) hh (.int .i64 k')
  simpa using this
theorem PAt.set2 {w : World} {pb : Nat} {es : List Tok} {k : Nat} {line : Int} (h : PAt w pb es k line) (l' : Int) : PAt (w.setCell ⟨pb, 2, none⟩ (.int .i64 l')) pb es k l' := by
  obtain ⟨g, cap, hg, hh, ht⟩ := h
  refine ⟨g, cap, hg, ?_, fun j e hj => (ht j e hj).other Only.set (by omega)⟩
  have := Joins.block_setCell (i := 2) hh (.int .i64 l')
  simpa using this
theorem Only.drew {b : Nat} {w w' : World} (h : Only b w w') : Only b w w'.drew := ⟨h.os, h.tape, h.output, h.size, h.block⟩
theorem Only.bel {b : Nat} {w w' w2 : World} (h : Only b w w') (g : Below w'.heap.size w' w2) : Only b w w2 := h.trans (Only.of_below g)
theorem Only.above {pb b i : Nat} {w w' : World} {u : Value} (h : Only pb w w') (hb : w.heap.size ≤ b) : Only pb w (w'.setCell ⟨b, i, none⟩ u) :=
  ⟨h.os, h.tape, h.output, by simpa [World.setCell] using h.size, fun k hk hn => (Below.heap_setCell w' ⟨b, i, none⟩ u k (by simp; omega)).trans (h.block k hk hn)⟩
theorem PAt.other {w w' : World} {pb b : Nat} {es : List Tok} {k : Nat} {line : Int} (h : PAt w pb es k line) (ho : Only b w w') (hn : pb < b) : PAt w' pb es k line := by
  have hlt := h.lt
  obtain ⟨g, cap, hg, hh, ht⟩ := h
  exact ⟨g, cap, hg, (ho.block pb hlt (fun e => by have := Option.some.inj e; omega)).trans hh, fun j e hj => (ht j e hj).other ho (by omega)⟩
theorem PAt.above {w : World} {pb b i : Nat} {u : Value} {es : List Tok} {k : Nat} {line : Int} (h : PAt w pb es k line) (hn : pb < b) : PAt (w.setCell ⟨b, i, none⟩ u) pb es k line := h.other Only.set hn
theorem PAt.drewN {w : World} {pb n : Nat} {es : List Tok} {k : Nat} {line : Int} (h : PAt w pb es k line) : PAt (w.drewN n) pb es k line := h
theorem PAt.drew {w : World} {pb : Nat} {es : List Tok} {k : Nat} {line : Int} (h : PAt w pb es k line) : PAt w.drew pb es k line := h
theorem PAt.alloc {w : World} {pb : Nat} {x : Obj} {es : List Tok} {k : Nat} {line : Int} (h : PAt w pb es k line) : PAt (w.alloc x) pb es k line := h.step (bel_new _ _)
theorem Only.alloc {b : Nat} {w w' : World} {x : Obj} (h : Only b w w') : Only b w (w'.alloc x) := h.trans (Only.of_below (bel_new _ _))
theorem Only.drewN {b n : Nat} {w w' : World} (h : Only b w w') : Only b w (w'.drewN n) := ⟨h.os, h.tape, h.output, h.size, h.block⟩
theorem tok_kind (a b c d : Value) (w : World) : (Instr.field 70 (.agg #[a, b, c, d]) 0).run Tryd.prog w = .ok a w := by kernel_rfl
theorem tok_text (a b c d : Value) (w : World) : (Instr.field 70 (.agg #[a, b, c, d]) 1).run Tryd.prog w = .ok b w := by kernel_rfl
theorem tok_line (a b c d : Value) (w : World) : (Instr.field 70 (.agg #[a, b, c, d]) 2).run Tryd.prog w = .ok c w := by kernel_rfl
/-- A box of four cells. -/
theorem box4 {w : World} {b T : Nat} {x0 x1 x2 x3 : Value} (h : w.heap[b]? = some (.cells #[x0, x1, x2, x3] T (0, 0))) :
    w.cell? ⟨b, 0, none⟩ = some x0 ∧ w.cell? ⟨b, 1, none⟩ = some x1 ∧ w.cell? ⟨b, 2, none⟩ = some x2 ∧ w.cell? ⟨b, 3, none⟩ = some x3 ∧ w.frozen? ⟨b, 0, none⟩ = false ∧ w.frozen? ⟨b, 1, none⟩ = false ∧ w.frozen? ⟨b, 2, none⟩ = false ∧ w.frozen? ⟨b, 3, none⟩ = false := by
  refine ⟨?_, ?_, ?_, ?_, ?_, ?_, ?_, ?_⟩ <;> simp [World.cell?, World.frozen?, h]
theorem block_lt {w : World} {b : Nat} {x : Obj} (h : w.heap[b]? = some x) : b < w.heap.size := by
  rcases Nat.lt_or_ge b w.heap.size with h' | h'
  · exact h'
  · rw [Array.getElem?_eq_none h'] at h; cases h
theorem fail_any (w : World) (pb : Nat) (es : List Tok) (k : Nat) (line : Int) (h : PAt w pb es k line) (hk : k < es.length) :
    Calls Tryd.prog 36 #[.pointer (some ⟨pb, 0, none⟩)] w fun e w' => e = .returned (.tuple #[]) ∧ PAt w' pb es k (failF (es.drop k, line)).2 ∧ Only pb w w' := by
  have HP := Lib.hid (peek_any w pb es k line h hk)
  have H := Lib.hid h
  have HL := Lib.hid h.lt
  unfold failF
  unfold tokVal at HP
  dsimp only
  generalize hdT (es.drop k) = t at *
  obtain ⟨g, cap, hg, hh, ht⟩ := h
  obtain ⟨c0, c1, c2, f0, f1, f2⟩ := PAt.cells hh
  have HH := Lib.hid hh
  have hfl := tok_line (.int .i64 t.kind) (.string ⟨t.text.toArray⟩) (.int .i64 t.line) (.int .i64 t.col)
  clear hh ht
  by_cases hl : line = 0
  · obtain rfl := hl
    rw [if_pos rfl]
    go_enter Tryd.func36, Tryd.ntmps36
    go_wp2_with (go_at_call 35; refine HP.out.mono ?_; rintro e w1 ⟨rfl, hb1⟩; have HP1 := Lib.hid (H.out.step hb1); have HB1 := Lib.hid hb1; obtain ⟨m0, m1, m2, n0, n1, n2⟩ := PAt.cells ((hb1.block pb HL.out).trans HH.out); clear hb1 c0 c1 c2 f0 f1 f2)
    go_end0
    exact ⟨rfl, HP1.out.set2 _, (Only.of_below HB1.out).trans Only.set⟩
  · have e1 : (line == 0) = false := beq_eq_false_iff_ne.2 hl
    rw [if_neg hl]
    clear hl
    go_enter Tryd.func36, Tryd.ntmps36
    go_wp2_with fail
    go_end0
    exact ⟨rfl, H.out, Only.refl _ _⟩
theorem next_any (w : World) (pb : Nat) (es : List Tok) (k : Nat) (line : Int) (h : PAt w pb es k line) (hk : k < es.length) (hl : es.length ≤ 5000) :
    Calls Tryd.prog 68 #[.pointer (some ⟨pb, 0, none⟩)] w fun e w' => e = .returned (tokVal (hdT (es.drop k))) ∧ (∃ k', PAt w' pb es k' line ∧ es.drop k' = nxt (es.drop k) ∧ k ≤ k' ∧ k' < es.length) ∧ Only pb w w' := by
  have HP := Lib.hid (fun W (hW : PAt W pb es k line) => peek_any W pb es k line hW hk)
  have H := Lib.hid h
  have HL := Lib.hid h.lt
  have hpw : ¬ pb = w.heap.size := by have := h.lt; omega
  have hpw2 : ¬ w.heap.size = pb := by omega
  unfold tokVal
  unfold tokVal at HP
  have hn : k + 1 < es.length → es.drop (k + 1) = nxt (es.drop k) := fun h1 => by
    rw [List.drop_eq_getElem_cons hk, List.drop_eq_getElem_cons h1]; rfl
  have hn2 : ¬ k + 1 < es.length → es.drop k = nxt (es.drop k) := fun h1 => by
    rw [List.drop_eq_getElem_cons hk, List.drop_eq_nil_of_le (by omega)]; rfl
  generalize nxt (es.drop k) = R at *
  generalize hdT (es.drop k) = t at *
  obtain ⟨g, cap, hg, hh, ht⟩ := h
  have HH := Lib.hid hh
  clear hh ht
  have hk0 : (0 : Int) ≤ (k : Int) := by omega
  have hki : (es.length : Int) ≤ 5000 := by omega
  by_cases hlt : k + 1 < es.length
  · have HN := Lib.hid (hn hlt)
    have e1 : (k : Int) < (es.length : Int) - 1 := by omega
    clear hn hn2
    go_enter Tryd.func68, Tryd.ntmps68
    go_wp2_with (go_at_call 35; refine (HP.out _ (H.out.step (bel_new _ _))).mono ?_; rintro e w1 ⟨rfl, hb1⟩; have hr1 := (hb1.block _ (block_lt (heap_alloc_new w _))).trans (heap_alloc_new w _); obtain ⟨r0, r1, r2, r3, q0, q1, q2, q3⟩ := box4 hr1; have hl2 := block_lt hr1; have HB1 := Lib.hid ((bel_new w _).trans (hb1.mono (bel_new w _).size)); have HP1 := Lib.hid (H.out.step HB1.out); obtain ⟨m0, m1, m2, n0, n1, n2⟩ := PAt.cells ((HB1.out.block pb HL.out).trans HH.out); have hl1 := HP1.out.lt; clear hb1 hr1)
    go_quiet (fail)
    go_wp2_with fail
    refine bodyPost_ret (v := .agg #[.int .i64 t.kind, .string ⟨t.text.toArray⟩, .int .i64 t.line, .int .i64 t.col]) (by simp [results, Tryd.results68, go_sem, r0, r1, r2, r3, q0, q1, q2, q3, hl2, hpw, hpw2]) rfl ⟨rfl, ⟨k + 1, ?_, HN.out, by omega, hlt⟩, ?_⟩
    · exact ((((((HP1.out.alloc.drewN).set1 (k + 1)).above HL.out).above HL.out).above HL.out).above HL.out)
    · exact (((((((Only.of_below HB1.out).alloc.drewN).trans Only.set).above (Nat.le_refl _)).above (Nat.le_refl _)).above (Nat.le_refl _)).above (Nat.le_refl _))
  · have HN := Lib.hid (hn2 hlt)
    have e1 : ¬ (k : Int) < (es.length : Int) - 1 := by omega
    clear hn hn2
    go_enter Tryd.func68, Tryd.ntmps68
    go_wp2_with (go_at_call 35; refine (HP.out _ (H.out.step (bel_new _ _))).mono ?_; rintro e w1 ⟨rfl, hb1⟩; have hr1 := (hb1.block _ (block_lt (heap_alloc_new w _))).trans (heap_alloc_new w _); obtain ⟨r0, r1, r2, r3, q0, q1, q2, q3⟩ := box4 hr1; have hl2 := block_lt hr1; have HB1 := Lib.hid ((bel_new w _).trans (hb1.mono (bel_new w _).size)); have HP1 := Lib.hid (H.out.step HB1.out); obtain ⟨m0, m1, m2, n0, n1, n2⟩ := PAt.cells ((HB1.out.block pb HL.out).trans HH.out); have hl1 := HP1.out.lt; clear hb1 hr1)
    go_quiet (fail)
    go_wp2_with fail
    refine bodyPost_ret (v := .agg #[.int .i64 t.kind, .string ⟨t.text.toArray⟩, .int .i64 t.line, .int .i64 t.col]) (by simp [results, Tryd.results68, go_sem, r0, r1, r2, r3, q0, q1, q2, q3, hl2, hpw, hpw2]) rfl ⟨rfl, ⟨k, ?_, HN.out, by omega, hk⟩, ?_⟩
    · exact (((((HP1.out.alloc.drewN).above HL.out).above HL.out).above HL.out).above HL.out)
    · exact ((((((Only.of_below HB1.out).alloc.drewN).above (Nat.le_refl _)).above (Nat.le_refl _)).above (Nat.le_refl _)).above (Nat.le_refl _))
end Go.Proofs.YtogkiifljdnjgaaDoor

/- The parser's state as its methods see it: the tokens that are left. No condition. -/
namespace Go.Proofs.YtogkiifljdnjgaaDoor
open Go.RowKit
set_option linter.unusedVariables false
set_option linter.unusedSimpArgs false

/-- Lines are set, and the last token is the end. -/
def GoodL (l : List Tok) : Prop := (∀ t ∈ l, t.line ≠ 0) ∧ ∃ t, l.getLast? = some t ∧ t.kind = 5
theorem GoodL.drop {l : List Tok} (h : GoodL l) {k : Nat} (hk : k < l.length) : GoodL (l.drop k) := by
  obtain ⟨h1, t, h2, h3⟩ := h
  refine ⟨fun x hx => h1 x (List.mem_of_mem_drop hx), t, ?_, h3⟩
  rw [List.getLast?_drop, if_neg (by omega)]
  exact h2
/-- The keywords lie below the parser. -/
def KWp (w : World) (pb : Nat) : Prop := 0 < pb ∧ ∃ b off cap, b < pb ∧ w.cell? ⟨0, 0, none⟩ = some (.slice (some ⟨b, off, none⟩) 17 cap) ∧ TextsAt w b off kws
theorem KWp.kw {w : World} {pb : Nat} (h : KWp w pb) : KW w := by
  obtain ⟨_, b, off, cap, _, h1, h2⟩ := h
  exact ⟨b, off, cap, h1, h2⟩
theorem KWp.only {w w' : World} {pb b : Nat} (h : KWp w pb) (ho : Only b w w') (hn : pb ≤ b) : KWp w' pb := by
  obtain ⟨h0, g, off, cap, hg, h1, h2⟩ := h
  have k1 := World.block_lt_of_cell? w _ h1
  have hc : ∀ o, w'.cell? ⟨g, o, none⟩ = w.cell? ⟨g, o, none⟩ := fun o => by
    have h3 := h2 0 _ rfl
    exact ho.cell (World.block_lt_of_cell? w _ h3) (by omega)
  exact ⟨h0, g, off, cap, hg, (ho.cell (g := 0) k1 (by omega)).trans h1, fun i t hi => (hc _).trans (h2 i t hi)⟩
/-- A parser in memory, by what is left. -/
def PIn (w : World) (pb : Nat) (s : PS) : Prop := ∃ es k, es.length ≤ 5000 ∧ GoodL es ∧ k < es.length ∧ es.drop k = s.1 ∧ PAt w pb es k s.2 ∧ KWp w pb
theorem PIn.kw {w : World} {pb : Nat} {s : PS} (h : PIn w pb s) : KW w := by
  obtain ⟨es, k, h1, h2, h3, h4, h5, h6⟩ := h
  exact h6.kw
theorem PIn.good {w : World} {pb : Nat} {s : PS} (h : PIn w pb s) : GoodL s.1 := by
  obtain ⟨es, k, h1, h2, h3, h4, h5, h6⟩ := h
  rw [← h4]
  exact h2.drop h3
theorem PIn.len {w : World} {pb : Nat} {s : PS} (h : PIn w pb s) : 1 ≤ s.1.length ∧ s.1.length ≤ 5000 := by
  obtain ⟨es, k, h1, h2, h3, h4, h5, h6⟩ := h
  rw [← h4, List.length_drop]
  omega
theorem PIn.lt {w : World} {pb : Nat} {s : PS} (h : PIn w pb s) : pb < w.heap.size := by
  obtain ⟨es, k, h1, h2, h3, h4, h5, h6⟩ := h
  exact h5.lt
theorem PIn.step {w w' : World} {pb : Nat} {s : PS} (h : PIn w pb s) (hb : Below w.heap.size w w') : PIn w' pb s := by
  obtain ⟨es, k, h1, h2, h3, h4, h5, h6⟩ := h
  exact ⟨es, k, h1, h2, h3, h4, h5.step hb, h6.only (Only.of_below (b := pb) hb) (Nat.le_refl _)⟩
theorem PIn.other {w w' : World} {pb b : Nat} {s : PS} (h : PIn w pb s) (ho : Only b w w') (hn : pb < b) : PIn w' pb s := by
  obtain ⟨es, k, h1, h2, h3, h4, h5, h6⟩ := h
  exact ⟨es, k, h1, h2, h3, h4, h5.other ho hn, h6.only ho (Nat.le_of_lt hn)⟩
theorem PIn.above {w : World} {pb b i : Nat} {u : Value} {s : PS} (h : PIn w pb s) (hn : pb < b) : PIn (w.setCell ⟨b, i, none⟩ u) pb s := h.other Only.set hn
theorem PIn.drewN {w : World} {pb n : Nat} {s : PS} (h : PIn w pb s) : PIn (w.drewN n) pb s := h
theorem PIn.drew {w : World} {pb : Nat} {s : PS} (h : PIn w pb s) : PIn w.drew pb s := h
theorem PIn.alloc {w : World} {pb : Nat} {x : Obj} {s : PS} (h : PIn w pb s) : PIn (w.alloc x) pb s := h.step (bel_new _ _)
theorem GoodL.nxt_lt {l : List Tok} (h : GoodL l) (hk : (hdT l).kind ≠ 5) : (nxt l).length + 1 = l.length := by
  obtain ⟨h1, t, h2, h3⟩ := h
  match l, h2 with
  | [x], h2 => simp at h2; subst h2; exact absurd h3 hk
  | x :: y :: l, _ => rfl
theorem GoodL.nxt {l : List Tok} (h : GoodL l) : GoodL (nxt l) := by
  match l with
  | [] => exact h
  | [x] => exact h
  | x :: y :: l => exact h.drop (k := 1) (by simp)
theorem isW_kind {l : List Tok} {kind : Int} {tx : List UInt8} (h : isW l kind tx = true) : (hdT l).kind = kind := by
  unfold isW at h
  simp at h
  exact h.1
theorem GoodL.hd_line {l : List Tok} (h : GoodL l) : (hdT l).line ≠ 0 := by
  match l with
  | [] => decide
  | x :: l => exact h.1 x (by simp)

theorem peek_in (w : World) (pb : Nat) (s : PS) (h : PIn w pb s) :
    Calls Tryd.prog 35 #[.pointer (some ⟨pb, 0, none⟩)] w fun e w' => e = .returned (tokVal (hdT s.1)) ∧ Below w.heap.size w w' := by
  obtain ⟨es, k, h1, h2, h3, h4, h5, h6⟩ := h
  rw [← h4]
  exact peek_any w pb es k _ h5 h3
theorem ok_in (w : World) (pb : Nat) (s : PS) (h : PIn w pb s) :
    Calls Tryd.prog 34 #[.pointer (some ⟨pb, 0, none⟩)] w fun e w' => e = .returned (.bool (decide (s.2 = 0))) ∧ w = w' := by
  obtain ⟨es, k, h1, h2, h3, h4, h5, h6⟩ := h
  exact ok_any w pb es k _ h5
theorem is_in (w : World) (pb : Nat) (s : PS) (h : PIn w pb s) (kind : Int) (tx : ByteArray) :
    Calls Tryd.prog 47 #[.pointer (some ⟨pb, 0, none⟩), .int .i64 kind, .string tx] w fun e w' => e = .returned (.bool (isW s.1 kind tx.data.toList)) ∧ Below w.heap.size w w' := by
  obtain ⟨es, k, h1, h2, h3, h4, h5, h6⟩ := h
  rw [← h4]
  exact is_any w pb es k _ h5 h3 kind tx
theorem fail_in (w : World) (pb : Nat) (s : PS) (h : PIn w pb s) :
    Calls Tryd.prog 36 #[.pointer (some ⟨pb, 0, none⟩)] w fun e w' => e = .returned (.tuple #[]) ∧ PIn w' pb (failF s) ∧ Only pb w w' := by
  obtain ⟨es, k, h1, h2, h3, h4, h5, h6⟩ := h
  refine (fail_any w pb es k _ h5 h3).mono ?_
  rintro e w' ⟨rfl, hp, ho⟩
  refine ⟨rfl, ⟨es, k, h1, h2, h3, h4, ?_, h6.only ho (Nat.le_refl _)⟩, ho⟩
  rw [h4] at hp
  exact hp
theorem next_in (w : World) (pb : Nat) (s : PS) (h : PIn w pb s) :
    Calls Tryd.prog 68 #[.pointer (some ⟨pb, 0, none⟩)] w fun e w' => e = .returned (tokVal (hdT s.1)) ∧ PIn w' pb (nxt s.1, s.2) ∧ Only pb w w' := by
  obtain ⟨es, k, h1, h2, h3, h4, h5, h6⟩ := h
  rw [← h4]
  refine (next_any w pb es k _ h5 h3 h1).mono ?_
  rintro e w' ⟨rfl, ⟨k', hp, hd, _, hk'⟩, ho⟩
  exact ⟨rfl, ⟨es, k', h1, h2, hk', hd, hp, h6.only ho (Nat.le_refl _)⟩, ho⟩
theorem sign_in (w : World) (pb : Nat) (s : PS) (h : PIn w pb s) (tx : ByteArray) :
    Calls Tryd.prog 72 #[.pointer (some ⟨pb, 0, none⟩), .string tx] w fun e w' => e = .returned (.tuple #[]) ∧ PIn w' pb (signF tx.data.toList s) ∧ Only pb w w' := by
  have HI := Lib.hid (is_in w pb s h 4 tx)
  have H := Lib.hid h
  clear h
  unfold signF
  obtain ⟨q, hq⟩ : ∃ q, isW s.1 4 tx.data.toList = q := ⟨_, rfl⟩
  rw [hq] at HI ⊢
  have HQ := Lib.hid hq
  clear hq
  cases q
  · rw [if_neg (by simp)]
    go_enter Tryd.func72, Tryd.ntmps72
    go_wp2_with (first | (go_at_call 47; refine HI.out.mono ?_; rintro e w1 ⟨rfl, hb1⟩; have HB1 := Lib.hid hb1; have H1 := Lib.hid (H.out.step hb1); clear hb1) | (go_at_call 36; refine (fail_in _ pb s H1.out).mono ?_; rintro e w2 ⟨rfl, hp2, ho2⟩; have HP2 := Lib.hid hp2; have HO2 := Lib.hid ho2; clear hp2 ho2))
    refine bodyPost_ret (v := .tuple #[]) (by simp [results, Tryd.results72]) rfl ?_
    exact ⟨rfl, HP2.out, (Only.of_below HB1.out).trans HO2.out⟩
  · rw [if_pos rfl]
    go_enter Tryd.func72, Tryd.ntmps72
    go_wp2_with (first | (go_at_call 47; refine HI.out.mono ?_; rintro e w1 ⟨rfl, hb1⟩; have HB1 := Lib.hid hb1; have H1 := Lib.hid (H.out.step hb1); clear hb1) | (go_at_call 68; refine (next_in _ pb s H1.out).mono ?_; rintro e w2 ⟨rfl, hp2, ho2⟩; have HP2 := Lib.hid hp2; have HO2 := Lib.hid ho2; clear hp2 ho2))
    go_end0
    exact ⟨rfl, HP2.out, (Only.of_below HB1.out).trans HO2.out⟩
theorem text_in (w : World) (pb : Nat) (s : PS) (h : PIn w pb s) :
    Calls Tryd.prog 71 #[.pointer (some ⟨pb, 0, none⟩)] w fun e w' => e = .returned (.string ⟨(textF s).1.toArray⟩) ∧ PIn w' pb (textF s).2 ∧ Only pb w w' := by
  have HI := Lib.hid (peek_in w pb s h)
  have H := Lib.hid h
  have HN := Lib.hid (fun W (hW : PIn W pb s) => next_in W pb s hW)
  clear h
  unfold textF
  unfold tokVal at HI HN
  generalize hdT s.1 = t at *
  have hfk := tok_kind (.int .i64 t.kind) (.string ⟨t.text.toArray⟩) (.int .i64 t.line) (.int .i64 t.col)
  have hft := tok_text (.int .i64 t.kind) (.string ⟨t.text.toArray⟩) (.int .i64 t.line) (.int .i64 t.col)
  by_cases hq : t.kind = 3
  · rw [if_pos hq]
    have e1 : (t.kind != 3) = false := by simp [hq]
    clear hq
    go_enter Tryd.func71, Tryd.ntmps71
    go_wp2_with (first | (go_at_call 35; refine HI.out.mono ?_; rintro e w1 ⟨rfl, hb1⟩; have HB1 := Lib.hid hb1; have H1 := Lib.hid (H.out.step hb1); clear hb1) | (go_at_call 68; refine (HN.out _ H1.out).mono ?_; rintro e w2 ⟨rfl, hp2, ho2⟩; have HP2 := Lib.hid hp2; have HO2 := Lib.hid ho2; clear hp2 ho2))
    go_ret
    exact ⟨rfl, HP2.out, (Only.of_below HB1.out).trans HO2.out⟩
  · rw [if_neg hq]
    have e1 : (t.kind != 3) = true := by simp [hq]
    clear hq
    go_enter Tryd.func71, Tryd.ntmps71
    go_wp2_with (first | (go_at_call 35; refine HI.out.mono ?_; rintro e w1 ⟨rfl, hb1⟩; have HB1 := Lib.hid hb1; have H1 := Lib.hid (H.out.step hb1); clear hb1) | (go_at_call 36; refine (fail_in _ pb s H1.out).mono ?_; rintro e w2 ⟨rfl, hp2, ho2⟩; have HP2 := Lib.hid hp2; have HO2 := Lib.hid ho2; clear hp2 ho2))
    go_ret
    exact ⟨rfl, HP2.out, (Only.of_below HB1.out).trans HO2.out⟩
end Go.Proofs.YtogkiifljdnjgaaDoor

/- compares and binary. No condition beyond what a tree in memory is. -/
namespace Go.Proofs.YtogkiifljdnjgaaDoor
open Go.RowKit
set_option linter.unusedVariables false
set_option linter.unusedSimpArgs false

set_option maxRecDepth 20000 in
theorem compares_any (kind : Int) (tx : ByteArray) (w : World) :
    Calls Tryd.prog 81 #[.int .i64 kind, .string tx] w fun e w' => e = .returned (.bool (cmpW kind tx.data.toList)) ∧ w = w' := by
  have hL := ByteArray.toList_eq tx
  unfold cmpW
  generalize tx.data.toList = l at *
  by_cases h0 : l = [61, 61]
  · obtain rfl := h0
    have e0 : (tx.toList == [61, 61]) = true := by rw [hL]; decide
    clear hL
    go_enter Tryd.func81, Tryd.ntmps81
    go_wp2_with fail
    go_ret
    exact ⟨ret_bool (by simp), rfl⟩
  by_cases h1 : l = [33, 61]
  · obtain rfl := h1
    have e0 : (tx.toList == [61, 61]) = false := by rw [hL]; decide
    have e1 : (tx.toList == [33, 61]) = true := by rw [hL]; decide
    clear hL
    go_enter Tryd.func81, Tryd.ntmps81
    go_wp2_with fail
    go_ret
    exact ⟨ret_bool (by simp), rfl⟩
  by_cases h2 : l = [60]
  · obtain rfl := h2
    have e0 : (tx.toList == [61, 61]) = false := by rw [hL]; decide
    have e1 : (tx.toList == [33, 61]) = false := by rw [hL]; decide
    have e2 : (tx.toList == [60]) = true := by rw [hL]; decide
    clear hL
    go_enter Tryd.func81, Tryd.ntmps81
    go_wp2_with fail
    go_ret
    exact ⟨ret_bool (by simp), rfl⟩
  by_cases h3 : l = [60, 61]
  · obtain rfl := h3
    have e0 : (tx.toList == [61, 61]) = false := by rw [hL]; decide
    have e1 : (tx.toList == [33, 61]) = false := by rw [hL]; decide
    have e2 : (tx.toList == [60]) = false := by rw [hL]; decide
    have e3 : (tx.toList == [60, 61]) = true := by rw [hL]; decide
    clear hL
    go_enter Tryd.func81, Tryd.ntmps81
    go_wp2_with fail
    go_ret
    exact ⟨ret_bool (by simp), rfl⟩
  by_cases h4 : l = [115, 116, 97, 114, 116, 115]
  · obtain rfl := h4
    have e0 : (tx.toList == [61, 61]) = false := by rw [hL]; decide
    have e1 : (tx.toList == [33, 61]) = false := by rw [hL]; decide
    have e2 : (tx.toList == [60]) = false := by rw [hL]; decide
    have e3 : (tx.toList == [60, 61]) = false := by rw [hL]; decide
    have e4 : (tx.toList == [115, 116, 97, 114, 116, 115]) = true := by rw [hL]; decide
    clear hL
    go_enter Tryd.func81, Tryd.ntmps81
    go_wp2_with fail
    go_ret
    exact ⟨ret_bool (by simp), rfl⟩
  by_cases h5 : l = [101, 110, 100, 115]
  · obtain rfl := h5
    have e0 : (tx.toList == [61, 61]) = false := by rw [hL]; decide
    have e1 : (tx.toList == [33, 61]) = false := by rw [hL]; decide
    have e2 : (tx.toList == [60]) = false := by rw [hL]; decide
    have e3 : (tx.toList == [60, 61]) = false := by rw [hL]; decide
    have e4 : (tx.toList == [115, 116, 97, 114, 116, 115]) = false := by rw [hL]; decide
    have e5 : (tx.toList == [101, 110, 100, 115]) = true := by rw [hL]; decide
    clear hL
    go_enter Tryd.func81, Tryd.ntmps81
    go_wp2_with fail
    go_ret
    exact ⟨ret_bool (by simp), rfl⟩
  by_cases h6 : l = [99, 111, 110, 116, 97, 105, 110, 115]
  · obtain rfl := h6
    have e0 : (tx.toList == [61, 61]) = false := by rw [hL]; decide
    have e1 : (tx.toList == [33, 61]) = false := by rw [hL]; decide
    have e2 : (tx.toList == [60]) = false := by rw [hL]; decide
    have e3 : (tx.toList == [60, 61]) = false := by rw [hL]; decide
    have e4 : (tx.toList == [115, 116, 97, 114, 116, 115]) = false := by rw [hL]; decide
    have e5 : (tx.toList == [101, 110, 100, 115]) = false := by rw [hL]; decide
    have e6 : (tx.toList == [99, 111, 110, 116, 97, 105, 110, 115]) = true := by rw [hL]; decide
    clear hL
    go_enter Tryd.func81, Tryd.ntmps81
    go_wp2_with fail
    go_ret
    exact ⟨ret_bool (by simp), rfl⟩
  have e0 : (tx.toList == [61, 61]) = false := by rw [hL]; exact beq_eq_false_iff_ne.2 h0
  have e1 : (tx.toList == [33, 61]) = false := by rw [hL]; exact beq_eq_false_iff_ne.2 h1
  have e2 : (tx.toList == [60]) = false := by rw [hL]; exact beq_eq_false_iff_ne.2 h2
  have e3 : (tx.toList == [60, 61]) = false := by rw [hL]; exact beq_eq_false_iff_ne.2 h3
  have e4 : (tx.toList == [115, 116, 97, 114, 116, 115]) = false := by rw [hL]; exact beq_eq_false_iff_ne.2 h4
  have e5 : (tx.toList == [101, 110, 100, 115]) = false := by rw [hL]; exact beq_eq_false_iff_ne.2 h5
  have e6 : (tx.toList == [99, 111, 110, 116, 97, 105, 110, 115]) = false := by rw [hL]; exact beq_eq_false_iff_ne.2 h6
  rw [if_neg (by simp [h0, h1, h2, h3]), if_neg (by simp [h4, h5, h6])]
  clear hL h0 h1 h2 h3 h4 h5 h6
  go_enter Tryd.func81, Tryd.ntmps81
  go_wp2_with fail
  go_ret
  exact ⟨rfl, rfl⟩

/-- A tree in new blocks stays where what turns lies below them. -/
theorem IsT.only {w w' : World} {B pb : Nat} {t : Tree} {v : Value} (h : IsT w (New w B) t v) (ho : Only pb w w') (hb : pb < B) : IsT w' (New w' B) t v :=
  h.keep (fun b hb' hlt => ho.block b hlt (fun e => by have := Option.some.inj e; have := hb'.1; omega)) (fun b hb' hlt => ⟨hb'.1, Nat.lt_of_lt_of_le hlt ho.size⟩) _ _
theorem IsT.bel {w w' : World} {B : Nat} {t : Tree} {v : Value} (h : IsT w (New w B) t v) (hb : Below w.heap.size w w') : IsT w' (New w' B) t v :=
  h.keep (fun b _ hlt => hb.block b hlt) (fun b hb' hlt => ⟨hb'.1, Nat.lt_of_lt_of_le hlt hb.size⟩) _ _
theorem IsT.low {w : World} {B C : Nat} {t : Tree} {v : Value} (h : IsT w (New w B) t v) (hb : C ≤ B) : IsT w (New w C) t v :=
  h.mono (fun b hb' _ => ⟨Nat.le_trans hb hb'.1, hb'.2⟩)
theorem binary_any (k : Int) (tx : ByteArray) (w : World) (F : Nat → Prop) (ta tb : Tree) (va vb : Value) (ha : IsT w F ta va) (hb : IsT w F tb vb) :
    Calls Tryd.prog 95 #[.int .i64 k, .string tx, va, vb] w fun e w' => (∃ v, e = .returned v ∧ IsT w' (fun b => F b ∧ b < w.heap.size ∨ New w' w.heap.size b) (binT k tx.data.toList ta tb) v) ∧ Below w.heap.size w w' := by
  have HA := Lib.hid ha
  have HB := Lib.hid hb
  obtain ⟨ka, xa, kas, la⟩ := ta
  obtain ⟨kb, xb, kbs, lb⟩ := tb
  obtain ⟨kva, rfl, aa, ca, rfl, _⟩ := isT_node.1 ha
  obtain ⟨kvb, rfl, ab, cb, rfl, _⟩ := isT_node.1 hb
  clear ha hb
  go_enter Tryd.func95, Tryd.ntmps95
  go_wp2_with fail
  refine bodyPost_ret (v := .agg #[.int .i64 k, .string tx, .slice (some ⟨w.heap.size + 1 + 1 + 1, 0, none⟩) 2 2, .int .i64 la]) (by simp [results, Tryd.results95, go_sem]) rfl ?_
  have hbel : Below w.heap.size w (((w.alloc (.cells #[.int .i64 ka, .string ⟨xa.toArray⟩, .slice aa kas.length ca, .int .i64 la] 32)).alloc (.cells #[.int .i64 kb, .string ⟨xb.toArray⟩, .slice ab kbs.length cb, .int .i64 lb] 32)).alloc (.cells #[.int .i64 k, .string tx, .slice (some ⟨w.heap.size + 1 + 1 + 1, 0, none⟩) 2 2, .int .i64 la] 32)) := ((bel_alloc (Below.refl _ _)).alloc (by simp) _).alloc (by simp; omega) _
  have hsz : (((w.alloc (.cells #[.int .i64 ka, .string ⟨xa.toArray⟩, .slice aa kas.length ca, .int .i64 la] 32)).alloc (.cells #[.int .i64 kb, .string ⟨xb.toArray⟩, .slice ab kbs.length cb, .int .i64 lb] 32)).alloc (.cells #[.int .i64 k, .string tx, .slice (some ⟨w.heap.size + 1 + 1 + 1, 0, none⟩) 2 2, .int .i64 la] 32)).heap.size = w.heap.size + 1 + 1 + 1 := by simp
  generalize World.alloc (World.alloc (World.alloc w _) _) _ = W3 at *
  have hblk := heap_alloc_new W3 (.cells #[.int .i64 ka, .string ⟨xa.toArray⟩, .slice aa kas.length ca, .int .i64 la, .int .i64 kb, .string ⟨xb.toArray⟩, .slice ab kbs.length cb, .int .i64 lb] 32)
  have hb4 := bel_alloc (x := .cells #[.int .i64 ka, .string ⟨xa.toArray⟩, .slice aa kas.length ca, .int .i64 la, .int .i64 kb, .string ⟨xb.toArray⟩, .slice ab kbs.length cb, .int .i64 lb] 32) hbel
  have hlt := block_lt hblk
  rw [hsz] at hblk hlt
  generalize World.alloc W3 _ = W at *
  refine ⟨⟨_, rfl, ?_⟩, hb4⟩
  refine isT_node.2 ⟨_, by simp [Tree.line], _, 2, rfl, by simp, by decide, fun h => (by cases h), fun _ => ⟨_, 0, rfl, .inr ⟨by omega, hlt⟩, ?_⟩⟩
  unfold IsRow
  refine ⟨⟨_, _, _, _, ?_, ?_, ?_, ?_, IsT.keep (fun b _ hlt => hb4.block b hlt) (fun b hb' hlt => .inl ⟨hb', hlt⟩) _ _ HA.out⟩, ?_⟩
  · simp [World.cell?, hblk]
  · simp [World.cell?, hblk]
  · simp [World.cell?, hblk]
  · simp [World.cell?, hblk]
  unfold IsRow
  refine ⟨⟨_, _, _, _, ?_, ?_, ?_, ?_, IsT.keep (fun b _ hlt => hb4.block b hlt) (fun b hb' hlt => .inl ⟨hb', hlt⟩) _ _ HB.out⟩, ?_⟩
  · simp [World.cell?, hblk]
  · simp [World.cell?, hblk]
  · simp [World.cell?, hblk]
  · simp [World.cell?, hblk]
  unfold IsRow
  trivial
end Go.Proofs.YtogkiifljdnjgaaDoor

/- What the parser's functions are asked to do. No condition. -/
namespace Go.Proofs.YtogkiifljdnjgaaDoor
open Go.RowKit
set_option linter.unusedVariables false
set_option linter.unusedSimpArgs false

/-- A function of the parser that returns a tree. -/
def PostN (w w' : World) (pb : Nat) (r : Tree × PS) (e : Ending) : Prop :=
  (∃ v, e = .returned v ∧ IsT w' (New w' w.heap.size) r.1 v) ∧ PIn w' pb r.2 ∧ Only pb w w'
def ConN (fid : FuncId) (nt : NT) (n : Nat) : Prop := ∀ (w : World) (pb : Nat) (s : PS), PIn w pb s → 10 * s.1.length + rankN nt ≤ n →
  Calls Tryd.prog fid #[.pointer (some ⟨pb, 0, none⟩)] w fun e w' => PostN w w' pb (pRun n nt s) e
/-- A function of the parser that returns a list. -/
def PostK (w w' : World) (pb : Nat) (r : Tree × PS) (e : Ending) : Prop :=
  (∃ v, e = .returned v ∧ IsKids w' (New w' w.heap.size) r.1.kids v) ∧ PIn w' pb r.2 ∧ Only pb w w'
def ConK (fid : FuncId) (nt : NT) (n : Nat) : Prop := ∀ (w : World) (pb : Nat) (s : PS), PIn w pb s → 10 * s.1.length + rankN nt ≤ n →
  Calls Tryd.prog fid #[.pointer (some ⟨pb, 0, none⟩)] w fun e w' => PostK w w' pb (pRun n nt s) e
/-- The four cells of a tree's value. -/
theorem isT_shape {w : World} {F : Nat → Prop} {t : Tree} {v : Value} (h : IsT w F t v) : ∃ (k : Int) (x : List UInt8) (a : Option Addr) (m c : Nat) (l : Int), v = .agg #[.int .i64 k, .string ⟨x.toArray⟩, .slice a m c, .int .i64 l] := by
  obtain ⟨k, x, ks, l⟩ := t
  obtain ⟨kv, rfl, a, c, rfl, _⟩ := isT_node.1 h
  exact ⟨k, x, a, ks.length, c, l, rfl⟩
/-- The blocks from B on, but for one. -/
def Bar (w : World) (B x : Nat) : Nat → Prop := fun b => B ≤ b ∧ b < w.heap.size ∧ b ≠ x
theorem IsT.bar_only {w w' : World} {B x pb : Nat} {t : Tree} {v : Value} (h : IsT w (Bar w B x) t v) (ho : Only pb w w') (hb : pb < B) : IsT w' (Bar w' B x) t v :=
  h.keep (fun b hb' hlt => ho.block b hlt (fun e => by have := Option.some.inj e; have := hb'.1; omega)) (fun b hb' hlt => ⟨hb'.1, Nat.lt_of_lt_of_le hlt ho.size, hb'.2.2⟩) _ _
theorem IsT.bar_at {w w' : World} {B x : Nat} {t : Tree} {v : Value} (h : IsT w (Bar w B x) t v) (ho : Only x w w') : IsT w' (Bar w' B x) t v :=
  h.keep (fun b hb' hlt => ho.block b hlt (fun e => hb'.2.2 (Option.some.inj e))) (fun b hb' hlt => ⟨hb'.1, Nat.lt_of_lt_of_le hlt ho.size, hb'.2.2⟩) _ _
theorem IsT.bar_new {w : World} {B C x : Nat} {t : Tree} {v : Value} (h : IsT w (Bar w B x) t v) (hb : C ≤ B) : IsT w (New w C) t v :=
  h.mono (fun b hb' hlt => ⟨Nat.le_trans hb hb'.1, hlt⟩)
theorem IsT.new_bar {w : World} {B C x : Nat} {t : Tree} {v : Value} (h : IsT w (New w C) t v) (hb : B ≤ C) (hx : x < C ∨ w.heap.size ≤ x) : IsT w (Bar w B x) t v :=
  h.mono (fun b hb' hlt => ⟨Nat.le_trans hb hb'.1, hlt, by have := hb'.1; omega⟩)
theorem ok_yes (w : World) (pb : Nat) (s : PS) (h : PIn w pb s) (hz : s.2 = 0) : Calls Tryd.prog 34 #[.pointer (some ⟨pb, 0, none⟩)] w fun e w' => e = .returned (.bool true) ∧ w = w' := by
  have := ok_in w pb s h
  rwa [decide_eq_true hz] at this
theorem ok_no (w : World) (pb : Nat) (s : PS) (h : PIn w pb s) (hz : ¬ s.2 = 0) : Calls Tryd.prog 34 #[.pointer (some ⟨pb, 0, none⟩)] w fun e w' => e = .returned (.bool false) ∧ w = w' := by
  have := ok_in w pb s h
  rwa [decide_eq_false hz] at this
theorem is_yes (w : World) (pb : Nat) (s : PS) (h : PIn w pb s) (kind : Int) (l : List UInt8) (hq : isW s.1 kind l = true) :
    Calls Tryd.prog 47 #[.pointer (some ⟨pb, 0, none⟩), .int .i64 kind, .string ⟨l.toArray⟩] w fun e w' => e = .returned (.bool true) ∧ Below w.heap.size w w' := by
  have := is_in w pb s h kind ⟨l.toArray⟩
  simp only [List.toList_toArray] at this
  rwa [hq] at this
theorem is_no (w : World) (pb : Nat) (s : PS) (h : PIn w pb s) (kind : Int) (l : List UInt8) (hq : isW s.1 kind l = false) :
    Calls Tryd.prog 47 #[.pointer (some ⟨pb, 0, none⟩), .int .i64 kind, .string ⟨l.toArray⟩] w fun e w' => e = .returned (.bool false) ∧ Below w.heap.size w w' := by
  have := is_in w pb s h kind ⟨l.toArray⟩
  simp only [List.toList_toArray] at this
  rwa [hq] at this
theorem Only.of_drew {b : Nat} {w w' : World} (h : Only b w.drew w') : Only b w w' := ⟨h.os, h.tape, h.output, h.size, h.block⟩
/-- The frame between the rounds: the result's box and the operand's box. -/
def Rnd (w : World) (wr : World) (pb : Nat) (nb : Nat) (t : Tree) (s : PS) (a b c d : Value) : Prop :=
  wr.heap[w.heap.size]? = some (.cells #[.int .i64 0, .string ⟨#[]⟩, .slice none 0 0, .int .i64 0] 32 (0, 0)) ∧ wr.heap[nb]? = some (.cells #[a, b, c, d] 32 (0, 0)) ∧ w.heap.size < nb ∧
  IsT wr (Bar wr (w.heap.size + 1) nb) t (.agg #[a, b, c, d]) ∧ PIn wr pb s ∧ Only pb w wr
theorem Only.keep {b g : Nat} {w w' : World} {x : Obj} (h : Only b w w') (hx : w.heap[g]? = some x) (hn : g ≠ b) : w'.heap[g]? = some x :=
  (h.block g (block_lt hx) (fun e => hn (Option.some.inj e))).trans hx
theorem keep_blk {g : Nat} {w w' : World} {x : Obj} (h : Below w.heap.size w w') (hx : w.heap[g]? = some x) : w'.heap[g]? = some x :=
  (h.block g (block_lt hx)).trans hx
theorem new_blk {g : Nat} {w : World} {x y : Obj} (hx : w.heap[g]? = some x) : (w.alloc y).heap[g]? = some x :=
  (heap_alloc_old w y (block_lt hx)).trans hx
/-- Four stores to one block. -/
theorem Only.set4 (b : Nat) (w : World) (x0 x1 x2 x3 : Value) : Only b w ((((w.setCell ⟨b, 0, none⟩ x0).setCell ⟨b, 1, none⟩ x1).setCell ⟨b, 2, none⟩ x2).setCell ⟨b, 3, none⟩ x3) :=
  ((Only.set.trans Only.set).trans Only.set).trans Only.set
theorem Only.new {pb b : Nat} {w w' w2 : World} (h : Only pb w w') (g : Only b w' w2) (hb : w.heap.size ≤ b) : Only pb w w2 :=
  ⟨g.os.trans h.os, g.tape.trans h.tape, g.output.trans h.output, Nat.le_trans h.size g.size, fun k hk hn => (g.block k (Nat.lt_of_lt_of_le hk h.size) (fun e => by have := Option.some.inj e; omega)).trans (h.block k hk hn)⟩
theorem set4_block {w : World} {b T : Nat} {x0 x1 x2 x3 y0 y1 y2 y3 : Value} (h : w.heap[b]? = some (.cells #[x0, x1, x2, x3] T (0, 0))) :
    ((((w.setCell ⟨b, 0, none⟩ y0).setCell ⟨b, 1, none⟩ y1).setCell ⟨b, 2, none⟩ y2).setCell ⟨b, 3, none⟩ y3).heap[b]? = some (.cells #[y0, y1, y2, y3] T (0, 0)) := by
  have h0 := Joins.block_setCell (i := 0) h y0
  have h1 := Joins.block_setCell (i := 1) h0 y1
  have h2 := Joins.block_setCell (i := 2) h1 y2
  have h3 := Joins.block_setCell (i := 3) h2 y3
  simpa using h3
/-- The operand's box is written anew: the round is done. -/
theorem Rnd.next {w wr w3 w4 w5 w6 : World} {pb nb : Nat} {t t5 : Tree} {s5 : PS} {x0 x1 x2 x3 a b c d : Value}
    (hrb : w3.heap[w.heap.size]? = some (.cells #[.int .i64 0, .string ⟨#[]⟩, .slice none 0 0, .int .i64 0] 32 (0, 0))) (hnb : w5.heap[nb]? = some (.cells #[x0, x1, x2, x3] 32 (0, 0))) (hn : w.heap.size < nb) (hpb : pb < w.heap.size)
    (ho3 : Only pb w w3) (ho4 : Only pb w3 w4) (hb5 : Below w4.heap.size w4 w5) (hp4 : PIn w4 pb s5) (hn4 : nb < w4.heap.size)
    (ht5 : IsT w5 (fun b => Bar w4 (w.heap.size + 1) nb b ∧ b < w4.heap.size ∨ New w5 w4.heap.size b) t5 (.agg #[a, b, c, d]))
    (h6 : w6 = (((w5.setCell ⟨nb, 0, none⟩ a).setCell ⟨nb, 1, none⟩ b).setCell ⟨nb, 2, none⟩ c).setCell ⟨nb, 3, none⟩ d) : Rnd w w6 pb nb t5 s5 a b c d := by
  subst h6
  have hs4 := Only.set4 nb w5 a b c d
  have hsz := hb5.size
  have hl3 := block_lt hrb
  have hl4 := ho4.size
  have ho5 : Only pb w w5 := (ho3.trans ho4).bel hb5
  refine ⟨?_, set4_block hnb, hn, ?_, (hp4.step hb5).other hs4 (by omega), ho5.new hs4 (by omega)⟩
  · rw [hs4.block _ (by omega) (fun e => by have := Option.some.inj e; omega), hb5.block _ (by omega), ho4.block _ hl3 (fun e => by have := Option.some.inj e; omega)]
    exact hrb
  · refine IsT.bar_at (ht5.mono (G := Bar w5 (w.heap.size + 1) nb) fun k hk hlt => ?_) hs4
    rcases hk with ⟨hk, hk2⟩ | hk
    · exact ⟨hk.1, hlt, hk.2.2⟩
    · exact ⟨by have := hk.1; omega, hlt, by have := hk.1; omega⟩
/-- The result's box is written, and the function returns. -/
theorem PostN.done {w wr w' : World} {pb x : Nat} {t : Tree} {s : PS} {v : Value} (ht : IsT wr (Bar wr (w.heap.size + 1) x) t v) (hp : PIn wr pb s) (ho : Only pb w wr) (hpb : pb < w.heap.size) (hw : Only w.heap.size wr w') :
    PostN w w' pb (t, s) (.returned v) :=
  ⟨⟨v, rfl, IsT.keep (fun b hb hlt => hw.block b hlt (fun e => by have := Option.some.inj e; have := hb.1; omega)) (fun b hb hlt => ⟨by have := hb.1; omega, Nat.lt_of_lt_of_le hlt hw.size⟩) _ _ ht⟩, hp.other hw hpb, ho.new hw (Nat.le_refl _)⟩
/-- A row of one tree, in a new block. -/
theorem IsKids.one {w w' : World} {F : Nat → Prop} {t : Tree} {a b c d : Value} {T : Nat} (h : IsT w F t (.agg #[a, b, c, d])) (hw : w' = w.alloc (.cells #[a, b, c, d] T)) :
    IsKids w' (fun k => F k ∧ k < w.heap.size ∨ New w' w.heap.size k) [t] (.slice (some ⟨w.heap.size, 0, none⟩) 1 1) := by
  have hblk : w'.heap[w.heap.size]? = some (.cells #[a, b, c, d] T) := by rw [hw]; exact heap_alloc_new _ _
  have hb : Below w.heap.size w w' := by rw [hw]; exact bel_new _ _
  refine ⟨_, 1, rfl, by simp, by decide, fun h => (by cases h), fun _ => ⟨_, 0, rfl, .inr ⟨Nat.le_refl _, block_lt hblk⟩, ?_⟩⟩
  unfold IsRow
  refine ⟨⟨a, b, c, d, ?_, ?_, ?_, ?_, IsT.keep (fun k _ hlt => hb.block k hlt) (fun k hk hlt => .inl ⟨hk, hlt⟩) _ _ h⟩, ?_⟩
  · simp [World.cell?, hblk]
  · simp [World.cell?, hblk]
  · simp [World.cell?, hblk]
  · simp [World.cell?, hblk]
  unfold IsRow
  trivial
/-- A tree that a callee made is put into the result's box. -/
theorem PostN.pass {w w0 w1 w' : World} {pb : Nat} {t : Tree} {s : PS} {v : Value} (hb : Only pb w w0) (h0 : w.heap.size < w0.heap.size) (ht : IsT w1 (New w1 w0.heap.size) t v) (hp : PIn w1 pb s) (ho : Only pb w0 w1) (hpb : pb < w.heap.size) (hw : Only w.heap.size w1 w') :
    PostN w w' pb (t, s) (.returned v) :=
  PostN.done (x := w1.heap.size) (ht.new_bar (by omega) (.inr (Nat.le_refl _))) hp (hb.trans ho) hpb hw
theorem PostN.alloc {w w' : World} {pb : Nat} {r : Tree × PS} {e : Ending} {x : Obj} (h : PostN w w' pb r e) : PostN w (w'.alloc x) pb r e := by
  obtain ⟨⟨v, hv, ht⟩, hp, ho⟩ := h
  exact ⟨⟨v, hv, ht.bel (bel_new _ _)⟩, hp.alloc, ho.alloc⟩
end Go.Proofs.YtogkiifljdnjgaaDoor
