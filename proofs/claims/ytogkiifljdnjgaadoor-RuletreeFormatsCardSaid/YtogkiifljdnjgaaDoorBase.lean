/- Base: Bytes Step Toks Lex Plain Plain2 Token Signs Toks2 Split Lists Keys, one behind the other. -/
import Derived.Test.YtogkiifljdnjgaaDoorRows
import Derived.WalkKit
import Derived.WalkSpells
import Derived.WalkLawsBesides
import Derived.Laws.AppendOwnNone
import Derived.Lib.AppendStr
import Derived.Lib.Hide
import Derived.Deep.QuietTactic
import Derived.BigQuiet
import Derived.Deep.RegionHeld3
import Derived.Deep.LoopGhost
import Derived.Deep.DeepCutAuto
import Derived.Deep.AppendLies
import Derived.Laws.BytesArg
import Derived.Deep.RegionLaw
import Derived.Maps.AppendAt
import Derived.Laws.Strings2
import Derived.Laws.Strings3
import Derived.Lib.Strings
import Derived.Laws.Concat
/- Byte slices: what a slice value reads as, and how it stays so; append, over this program's types. No condition. -/
namespace Go.Proofs.YtogkiifljdnjgaaDoor
open Go.RowKit
set_option linter.unusedVariables false
set_option linter.unusedSimpArgs false

/-! ### Endings -/
theorem ret_int {k : IntKind} {a b : Int} (h : a = b) : Ending.returned (.int k a) = .returned (.int k b) := by rw [h]
theorem ret_bool {a b : Bool} (h : a = b) : Ending.returned (.bool a) = .returned (.bool b) := by rw [h]
theorem ret_int2 {k l : IntKind} {a b c d : Int} (h : a = b) (g : c = d) : Ending.returned (.tuple #[.int k a, .int l c]) = .returned (.tuple #[.int k b, .int l d]) := by rw [h, g]

/-! ### What lies below stays -/
theorem bel_draws {B : Nat} {a w : World} (h : Below B a w) (n : Nat) : Below B a (w.drewN n) :=
  { os := h.os, tape := h.tape, output := h.output, size := h.size, block := h.block }
theorem below_cells {W w' : World} (h : Below W.heap.size W w') : ∀ b o, b < W.heap.size → w'.cell? ⟨b, o, none⟩ = W.cell? ⟨b, o, none⟩ :=
  fun b o hb => h.cell (p := ⟨b, o, none⟩) hb
theorem bel_step {w W w' : World} (h : Below w.heap.size w W) (hb : Below W.heap.size W w') : Below w.heap.size w w' := h.trans (hb.mono h.size)
theorem bel_alloc {w W : World} {x : Obj} (h : Below w.heap.size w W) : Below w.heap.size w (W.alloc x) := h.alloc h.size x
theorem bel_drew {w W : World} (h : Below w.heap.size w W) : Below w.heap.size w W.drew := h.drew
theorem bel_drewN {w W : World} {n : Nat} (h : Below w.heap.size w W) : Below w.heap.size w (W.drewN n) := bel_draws h n
theorem bel_new (w : World) (x : Obj) : Below w.heap.size w (w.alloc x) := bel_alloc (Below.refl _ _)
theorem keep_at {W w' : World} (h : Below W.heap.size W w') {b o : Nat} {v : Value} (hc : W.cell? ⟨b, o, none⟩ = some v) : w'.cell? ⟨b, o, none⟩ = some v :=
  (below_cells h b o (World.block_lt_of_cell? W _ hc)).trans hc
theorem keep_alloc {W : World} {x : Obj} {b o : Nat} {v : Value} (hc : W.cell? ⟨b, o, none⟩ = some v) : (W.alloc x).cell? ⟨b, o, none⟩ = some v :=
  keep_at (bel_new W x) hc
theorem keep_drew {W : World} {b o : Nat} {v : Value} (hc : W.cell? ⟨b, o, none⟩ = some v) : W.drew.cell? ⟨b, o, none⟩ = some v := hc
theorem keep_drewN {W : World} {b o n : Nat} {v : Value} (hc : W.cell? ⟨b, o, none⟩ = some v) : (W.drewN n).cell? ⟨b, o, none⟩ = some v := hc
theorem keep_set {W : World} {g k b o : Nat} {u v : Value} (hn : b ≠ g) (hc : W.cell? ⟨b, o, none⟩ = some v) : (W.setCell ⟨g, k, none⟩ u).cell? ⟨b, o, none⟩ = some v :=
  (World.cell?_of_block (w := W) (w' := W.setCell ⟨g, k, none⟩ u) (Below.heap_setCell W ⟨g, k, none⟩ u b hn)).trans hc
theorem still_quiet {P : Program} {f : FuncId} {args : Array Value} {w : World} {n : Nat} {v : Value} (h : Calls P f args (w.drewN n) fun e w' => e = .returned v ∧ w.drewN n = w') :
    Calls P f args (w.drewN n) fun e w' => e = .returned v ∧ ∃ m, w' = w.drewN m :=
  h.mono fun _ _ x => ⟨x.1, n, x.2.symm⟩

/-! ### Byte slices -/
def bcell (c : UInt8) : Value := .int .u8 (c.toNat : Int)
theorem bcell_one (l : List UInt8) : ∀ u ∈ l.map bcell, u.oneCell' = true := by
  intro u hu
  obtain ⟨c, _, rfl⟩ := List.mem_map.1 hu
  rfl

/-- The slice value v reads as the bytes l. -/
def IsB (w : World) (v : Value) (l : List UInt8) : Prop :=
  (l = [] ∧ ∃ a cap, v = .slice a 0 cap ∧ cap ≤ maxLen ∧ (a = none → cap = 0)) ∨
  (l ≠ [] ∧ ∃ b off cap, v = .slice (some ⟨b, off, none⟩) l.length cap ∧ l.length ≤ cap ∧ cap ≤ maxLen ∧ ∀ i c, l[i]? = some c → w.cell? ⟨b, off + i, none⟩ = some (.int .u8 (c.toNat : Int)))
theorem IsB.shape {w : World} {v : Value} {l : List UInt8} (h : IsB w v l) : ∃ a cap, v = .slice a l.length cap ∧ l.length ≤ cap ∧ cap ≤ maxLen ∧ (a = none → cap = 0) := by
  rcases h with ⟨rfl, a, cap, rfl, h1, h2⟩ | ⟨_, b, off, cap, rfl, h1, h2, _⟩
  · exact ⟨a, cap, rfl, Nat.zero_le _, h1, h2⟩
  · exact ⟨_, cap, rfl, h1, h2, fun h => by cases h⟩
theorem IsB.len {w : World} {v : Value} {l : List UInt8} (h : IsB w v l) : l.length ≤ maxLen := by
  obtain ⟨_, cap, _, h1, h2, _⟩ := h.shape
  omega
theorem IsB.step {w w' : World} {v : Value} {l : List UInt8} (h : IsB w v l) (hb : Below w.heap.size w w') : IsB w' v l := by
  rcases h with h | ⟨h0, b, off, cap, rfl, h1, h2, h3⟩
  · exact .inl h
  · exact .inr ⟨h0, b, off, cap, rfl, h1, h2, fun i c hi => keep_at hb (h3 i c hi)⟩
theorem IsB.nil (w : World) : IsB w (.slice none 0 0) [] := .inl ⟨rfl, none, 0, rfl, Nat.zero_le _, fun _ => rfl⟩
theorem IsB.empty (w : World) (a : Option Addr) (cap : Nat) (h : cap ≤ maxLen) (h0 : a = none → cap = 0) : IsB w (.slice a 0 cap) [] := .inl ⟨rfl, a, cap, rfl, h, h0⟩
/-- The slice value's cells, as the laws on append ask for them. -/
theorem IsB.news {w : World} {v : Value} {l : List UInt8} (h : IsB w v l) : (l = [] ∧ v = .slice none 0 0) ∨ ∃ ad cap, v = .slice (some ad) l.length cap ∧ l.length ≤ cap ∧ cap ≤ maxLen ∧ ∀ j u, (l.map bcell)[j]? = some u → w.cell? (ad.add j) = some u := by
  rcases h with ⟨rfl, a, cap, rfl, h1, h2⟩ | ⟨h0, b, off, cap, rfl, h1, h2, h3⟩
  · cases a with
    | none => obtain rfl := h2 rfl; exact .inl ⟨rfl, rfl⟩
    | some ad => exact .inr ⟨ad, cap, rfl, Nat.zero_le _, h1, fun j u hj => by simp at hj⟩
  · refine .inr ⟨⟨b, off, none⟩, cap, rfl, h1, h2, fun j u hj => ?_⟩
    rw [List.getElem?_map] at hj
    cases hc : l[j]? with
    | none => rw [hc] at hj; simp at hj
    | some c =>
      rw [hc] at hj
      simp only [Option.map_some, Option.some.injEq] at hj
      subst hj
      by_cases h0 : j = 0
      · subst h0; simpa [bcell, Addr.add] using h3 0 c hc
      · simpa [bcell, Addr.add, h0] using h3 j c hc

/-- The call owns the bytes l, from block 'base' on. -/
def OwnB (w : World) (base : Nat) (v : Value) (l : List UInt8) : Prop := w.ownsRow base 5 1 v l.length (l.map bcell)
theorem OwnB.isB {w : World} {base : Nat} {v : Value} {l : List UInt8} (h : OwnB w base v l) : IsB w v l := by
  obtain ⟨h0, h1⟩ := h
  rcases h1 with ⟨rfl, hn⟩ | ⟨g, cap, cur, rfl, hb, hg, hn, hm, hs, ht⟩
  · obtain rfl := List.eq_nil_of_length_eq_zero hn
    exact IsB.nil w
  · by_cases hl : l = []
    · subst hl
      exact IsB.empty w _ cap hm (fun h => by cases h)
    · refine .inr ⟨hl, g, 0, cap, rfl, hn, hm, fun i c hi => ?_⟩
      have hh : (l.map bcell)[i]? = some (bcell c) := by rw [List.getElem?_map, hi]; rfl
      rw [← ht] at hh
      have hi' : i < l.length := (List.getElem?_eq_some_iff.1 hi).1
      rw [List.getElem?_take, if_pos (by omega)] at hh
      have : w.cell? ⟨g, i, none⟩ = some (bcell c) := by
        simp only [World.cell?, hg]
        simpa using hh
      simpa [bcell] using this
theorem OwnB.mono {w : World} {base B : Nat} {v : Value} {l : List UInt8} (h : OwnB w base v l) (hB : B ≤ base) : OwnB w B v l := by
  obtain ⟨h0, h1⟩ := h
  refine ⟨h0, ?_⟩
  rcases h1 with h1 | ⟨g, cap, cur, h2, h3, h4⟩
  · exact .inl h1
  · exact .inr ⟨g, cap, cur, h2, Nat.le_trans hB h3, h4⟩
theorem OwnB.step {w w' : World} {base : Nat} {v : Value} {l : List UInt8} (h : OwnB w base v l) (hb : Below w.heap.size w w') : OwnB w' base v l :=
  World.ownsRow.kept (row := none) h ⟨hb.os, hb.tape, hb.output, hb.size, fun k hk _ => hb.block k hk⟩ (by
    cases v.ownBlock with
    | none => exact .inl rfl
    | some k => exact .inr (by simp))
theorem OwnB.nil (w : World) (base : Nat) : OwnB w base (.slice none 0 0) [] := World.ownsRow_nil _ _ _ _
/-- '[]byte{}': a new block without cells. -/
theorem OwnB.made (w : World) (base : Nat) (hb : base ≤ w.heap.size) : OwnB (w.alloc (.cells #[] 5)) base (.slice (some ⟨w.heap.size, 0, none⟩) 0 0) [] :=
  World.ownsRow_made w #[] 0 hb (Nat.zero_le _) rfl

/-- One new cell, as bytes. -/
theorem IsB.one (w : World) (x : Int) (c : UInt8) (h : x = (c.toNat : Int)) : IsB (w.alloc (.cells #[.int .u8 x] 5)) (.slice (some ⟨w.heap.size, 0, none⟩) 1 1) [c] := by
  refine .inr ⟨by simp, w.heap.size, 0, 1, rfl, by simp, by unfold maxLen; omega, fun i d hi => ?_⟩
  match i, hi with
  | 0, hi =>
    simp at hi
    subst hi
    subst h
    simp [go_sem]

theorem info5 : (Tryd.prog.info? 5).map (fun i => (i.zero, i.size, i.bytes)) = some (some (.int .u8 0), 1, 1) := by kernel_rfl

/-- append of whatever bytes to bytes of the call's own. -/
theorem wpList_app {ops : Array Oper} {rest : List Oper} {o : Oper} {a : Act} {Q : Exit → Act → World → Prop} {w : World} (hgd : o.guard = none) (s x : Operand)
    (ho : o.op = .call { callee := .builtin .append, args := #[s, x], argTypes := #[102, 102] })
    (base : Nat) (v : Value) (l : List UInt8) (hs : a.eval s = v) (hown : OwnB w base v l) (u : Value) (l2 : List UInt8) (hx : a.eval x = u) (hu : IsB w u l2)
    (hb : l.length + l2.length ≤ 140737488355328) (hbase : base ≤ w.heap.size)
    (h : ∀ v' w', OwnB w' base v' (l ++ l2) → Below base w w' → w.heap.size ≤ w'.heap.size → (l ++ l2 ≠ [] → ∃ ad cap, v' = .slice (some ad) (l ++ l2).length cap) → wpList Tryd.prog ops Q rest (a.put o.dst v') w') : wpList Tryd.prog ops Q (o :: rest) a w := by
  obtain ⟨i0, hi, hz0, hz1, hz2⟩ := info_parts info5
  rcases hu.news with ⟨rfl, rfl⟩ | ⟨ad, cap, rfl, hc, hm, hcells⟩
  · refine wpList_append_own_none hgd s x 102 ho base 5 i0 1 Tryd.underlying102 hi v l.length (l.map bcell) hs hown hx ?_
    refine h v w (by simpa using hown) (Below.refl _ _) (Nat.le_refl _) fun hne => ?_
    simp only [List.append_nil] at hne
    rcases hown.2 with ⟨_, h0⟩ | ⟨g, cp, cur, hv, _⟩
    · exact absurd (List.eq_nil_of_length_eq_zero h0) hne
    · exact ⟨_, cp, by simpa using hv⟩
  · refine wpList_append_own _ hgd s x 102 ho base 5 i0 (.int .u8 0) 1 1 Tryd.underlying102 hi hz0 hz1 hz2 rfl (by decide) v l.length (l.map bcell) hs hown ad l2.length cap (l2.map bcell) hx (by simp) hcells (bcell_one l2)
      (by unfold maxLen; omega) (by omega) hbase ?_
    intro v' w' hown' hgrow hnil
    refine h v' w' ?_ ?_ hgrow.size ?_
    · simpa [OwnB] using hown'
    · refine (Below.refl base w).grown hgrow hbase fun k hk => ?_
      exact (World.ownsRow.lt hown k hk).1
    · intro hne
      rcases hown'.2 with ⟨rfl, h0⟩ | ⟨g, cp, cur, hv, _⟩
      · exact absurd (by simpa using h0) (fun e => hne (List.eq_nil_of_length_eq_zero (by simpa using e)))
      · exact ⟨_, cp, by simpa using hv⟩

/-- append of a string to bytes of the call's own. -/
theorem wpList_app_string {ops : Array Oper} {rest : List Oper} {o : Oper} {a : Act} {Q : Exit → Act → World → Prop} {w : World} (hgd : o.guard = none) (s x : Operand)
    (ho : o.op = .call { callee := .builtin .append, args := #[s, x], argTypes := #[102, 9] })
    (base : Nat) (v : Value) (l : List UInt8) (hs : a.eval s = v) (hown : OwnB w base v l) (t : ByteArray) (hx : a.eval x = .string t)
    (hb : l.length + t.size ≤ 140737488355328) (hbase : base ≤ w.heap.size)
    (h : ∀ v' w', OwnB w' base v' (l ++ t.data.toList) → Below base w w' → w.heap.size ≤ w'.heap.size → (l ≠ [] → ∃ ad cap, v' = .slice (some ad) (l ++ t.data.toList).length cap) → wpList Tryd.prog ops Q rest (a.put o.dst v') w') : wpList Tryd.prog ops Q (o :: rest) a w := by
  obtain ⟨i0, hi, hz0, hz1, hz2⟩ := info_parts info5
  refine Lib.wpList_append_own_string _ hgd s x 102 9 ho base 5 i0 Tryd.underlying102 Tryd.underlying9 hi hz0 hz1 hz2 v l.length (l.map bcell) hs hown t hx (by unfold maxLen; omega) hb hbase ?_
  intro v' w' hown' hgrow hnil
  have hs' : Lib.strCells t = t.data.toList.map bcell := by
    rfl
  have hsz : t.size = t.data.toList.length := by rw [Array.length_toList]; rfl
  refine h v' w' ?_ ?_ hgrow.size ?_
  · rw [hs'] at hown'
    unfold OwnB
    rw [List.length_append, List.map_append, ← hsz]
    exact hown'
  · refine (Below.refl base w).grown hgrow hbase fun k hk => ?_
    exact (World.ownsRow.lt hown k hk).1
  · intro hne
    rcases hown'.2 with ⟨rfl, h0⟩ | ⟨g, cp, cur, hv, _⟩
    · exact absurd h0 (fun e => hne (List.eq_nil_of_length_eq_zero (by omega)))
    · exact ⟨_, cp, by rw [hv, List.length_append, ← hsz]⟩
end Go.Proofs.YtogkiifljdnjgaaDoor

/- Append inside a region whose order Go leaves open; bytes as a string. No condition. -/
namespace Go.Proofs.YtogkiifljdnjgaaDoor
open Go.RowKit
set_option linter.unusedVariables false
set_option linter.unusedSimpArgs false

theorem OwnB.shape {w : World} {base : Nat} {v : Value} {l : List UInt8} (h : OwnB w base v l) (hl : l ≠ []) : ∃ g cap, v = .slice (some ⟨g, 0, none⟩) l.length cap ∧ base ≤ g ∧ g < w.heap.size :=
  World.ownsRow.form h (by cases l with | nil => exact absurd rfl hl | cons => simp)

theorem OwnB.one (w : World) (base : Nat) (x : Int) (c : UInt8) (h : x = (c.toNat : Int)) (hb : base ≤ w.heap.size) : OwnB (w.alloc (.cells #[.int .u8 x] 5)) base (.slice (some ⟨w.heap.size, 0, none⟩) 1 1) [c] := by
  subst h
  exact ⟨rfl, .inr ⟨w.heap.size, 1, #[.int .u8 (c.toNat : Int)], rfl, hb, heap_alloc_new w _, Nat.le_refl _, by unfold maxLen; omega, rfl, rfl⟩⟩

/-- append, at a step of a region that draws its order. -/
theorem step_app {ops : Array Oper} {o : Oper} {a : Act} {K : Act → World → Prop} {Q : Exit → Act → World → Prop} {E : Prop} {w : World} (hgd : o.guard = none) (s x : Operand)
    (ho : o.op = .call { callee := .builtin .append, args := #[s, x], argTypes := #[102, 102] })
    (base : Nat) (v : Value) (l : List UInt8) (hs : a.eval s = v) (hown : OwnB w base v l) (u : Value) (l2 : List UInt8) (hx : a.eval x = u) (hu : IsB w u l2)
    (hb : l.length + l2.length ≤ 140737488355328) (hbase : base ≤ w.heap.size)
    (h : ∀ v' w', OwnB w' base v' (l ++ l2) → Below base w w' → w.heap.size ≤ w'.heap.size → K (a.put o.dst v') w') :
    if Region.wanted o (yielded ops a.tmps) = true then Oper.wp Tryd.prog o a w K Q else E := by
  have hw : Region.wanted o (yielded ops a.tmps) = true := by simp [Region.wanted, hgd]
  rw [if_pos hw]
  obtain ⟨i0, hi, hz0, hz1, hz2⟩ := info_parts info5
  rcases hu.news with ⟨rfl, rfl⟩ | ⟨ad, cap, rfl, hc, hm, hcells⟩
  · have hrun := run_append_owned_none (P := Tryd.prog) (w := w) base 102 o.type 5 i0 1 Tryd.underlying102 hi v l.length (l.map bcell) hown
    unfold Oper.wp
    simp [execOp, ho, resolve, invoke, builtin, hs, hx, hrun, Result.andThen]
    exact h v w (by simpa using hown) (Below.refl _ _) (Nat.le_refl _)
  · refine wp_append_own w s x 102 ho base 5 i0 (.int .u8 0) 1 1 Tryd.underlying102 hi hz0 hz1 hz2 rfl (by decide) v l.length (l.map bcell) hs hown ad l2.length cap (l2.map bcell) hx (by simp) hcells (bcell_one l2)
      (by unfold maxLen; omega) (by omega) hbase ?_
    intro v' w' hown' hgrow hnil
    refine h v' w' (by simpa [OwnB] using hown') ((Below.refl base w).grown hgrow hbase fun k hk => (World.ownsRow.lt hown k hk).1) hgrow.size

/-- 'string(b)'. -/
theorem nums_bytes (l : List UInt8) : strOfNums (l.map fun c => (c.toNat : Int)) = ⟨l.toArray⟩ := by
  unfold strOfNums
  congr 1
  rw [List.map_map]
  congr 1
  have : (fun n : Int => UInt8.ofNat n.toNat) ∘ (fun c : UInt8 => (c.toNat : Int)) = id := by
    funext c
    simp
  rw [this, List.map_id]
theorem run_str (w : World) (v : Value) (l : List UInt8) (h : IsB w v l) : (convert 102 9 v).run Tryd.prog w = .ok (.string ⟨l.toArray⟩) w := by
  rcases h with ⟨rfl, a, cap, rfl, h1, h2⟩ | ⟨h0, b, off, cap, rfl, h1, h2, h3⟩
  · cases a with
    | none => exact run_convert_bytes_nil w 102 5 Tryd.underlying102 Tryd.underlying5 0 cap 9 Tryd.underlying9
    | some ad =>
      rw [run_convert_bytes_string w 102 9 5 (some ad) 0 cap Tryd.underlying102 Tryd.underlying5 Tryd.underlying9]
      simp [Conv.bytesToString, go_sem]
      rfl
  · rw [← nums_bytes]
    refine run_convert_bytes_arg w 102 5 Tryd.underlying102 Tryd.underlying5 b off l.length cap _ (by simp) (fun i hi => ?_) 9 Tryd.underlying9
    have := h3 i l[i] (List.getElem?_eq_getElem hi)
    simpa [List.getD, hi] using this

end Go.Proofs.YtogkiifljdnjgaaDoor

/- Lists of tokens in memory. No condition. -/
namespace Go.Proofs.YtogkiifljdnjgaaDoor
open Go.RowKit
set_option linter.unusedVariables false
set_option linter.unusedSimpArgs false

structure Tok where
  kind : Int
  text : List UInt8
  line : Int
  col : Int
deriving DecidableEq
instance : Inhabited Tok := ⟨⟨0, [], 0, 0⟩⟩
def tcells (e : Tok) : List Value := [.int .i64 e.kind, .string ⟨e.text.toArray⟩, .int .i64 e.line, .int .i64 e.col]
/-- Tokens of the call's own: T is the type of a token. -/
def OwnK (T : TypeId) (w : World) (base : Nat) (v : Value) (es : List Tok) : Prop := w.ownsRow base T 4 v es.length (es.flatMap tcells)
theorem OwnK.nil (T : TypeId) (w : World) (base : Nat) : OwnK T w base (.slice none 0 0) [] := World.ownsRow_nil _ _ _ _
theorem OwnK.step {T : TypeId} {w w' : World} {base : Nat} {v : Value} {es : List Tok} (h : OwnK T w base v es) (hb : Below w.heap.size w w') : OwnK T w' base v es := by
  refine World.ownsRow.kept (row := none) h ⟨hb.os, hb.tape, hb.output, hb.size, fun k hk _ => hb.block k hk⟩ ?_
  cases v.ownBlock with
  | none => exact .inl rfl
  | some g => exact .inr (by simp)
theorem OwnK.mono {T : TypeId} {w : World} {base B : Nat} {v : Value} {es : List Tok} (h : OwnK T w base v es) (hB : B ≤ base) : OwnK T w B v es := by
  obtain ⟨h0, h1⟩ := h
  refine ⟨h0, ?_⟩
  rcases h1 with h1 | ⟨g, cap, cur, h2, h3, h4⟩
  · exact .inl h1
  · exact .inr ⟨g, cap, cur, h2, Nat.le_trans hB h3, h4⟩
theorem OwnK.shape {T : TypeId} {w : World} {base : Nat} {v : Value} {es : List Tok} (h : OwnK T w base v es) : ∃ a c, v = .slice a es.length c := by
  rcases h.2 with ⟨rfl, hn⟩ | ⟨g, cap, cur, rfl, _⟩
  · exact ⟨none, 0, by rw [hn]⟩
  · exact ⟨_, _, rfl⟩
theorem info39 : (Tryd.prog.info? 70).map (fun i => (i.zero, i.size, i.bytes)) = some (some (.agg #[.int .i64 0, .string ⟨#[]⟩, .int .i64 0, .int .i64 0]), 4, 40) := by kernel_rfl
theorem tcells_one (e : Tok) : ∀ u ∈ tcells e, u.oneCell' = true := by
  intro u hu
  simp only [tcells, List.mem_cons, List.not_mem_nil, or_false] at hu
  rcases hu with rfl | rfl | rfl | rfl <;> rfl
theorem tok_cells (T : TypeId) (w : World) (e : Tok) : ∀ j u, (tcells e)[j]? = some u → (w.alloc (.cells (tcells e).toArray T)).cell? ⟨w.heap.size, j, none⟩ = some u := by
  intro j u hj
  rw [cell_of_row _ _ _ _ _ _ (heap_alloc_new w _)]
  simpa using hj
/-- append of one token to tokens of the call's own. -/
theorem wpList_appK {ops : Array Oper} {rest : List Oper} {o : Oper} {a : Act} {Q : Exit → Act → World → Prop} {w : World} (S T : TypeId) (hu : Tryd.prog.underlying S = some (.slice T))
    (hinfo : (Tryd.prog.info? T).map (fun i => (i.zero, i.size, i.bytes)) = some (some (.agg #[.int .i64 0, .string ⟨#[]⟩, .int .i64 0, .int .i64 0]), 4, 40)) (hgd : o.guard = none) (s x : Operand)
    (ho : o.op = .call { callee := .builtin .append, args := #[s, x], argTypes := #[S, S] })
    (base : Nat) (v : Value) (es : List Tok) (hs : a.eval s = v) (hown : OwnK T w base v es) (g : Nat) (e : Tok) (hx : a.eval x = .slice (some ⟨g, 0, none⟩) 1 1)
    (hcells : ∀ j u, (tcells e)[j]? = some u → w.cell? ⟨g, j, none⟩ = some u)
    (hb : es.length ≤ 3000000) (hbase : base ≤ w.heap.size)
    (h : ∀ v' w', OwnK T w' base v' (es ++ [e]) → Below base w w' → w.heap.size ≤ w'.heap.size → wpList Tryd.prog ops Q rest (a.put o.dst v') w') : wpList Tryd.prog ops Q (o :: rest) a w := by
  obtain ⟨i0, hi, hz0, hz1, hz2⟩ := info_parts hinfo
  refine wpList_append_own _ hgd s x S ho base T i0 _ 4 40 hu hi hz0 hz1 hz2 rfl (by decide) v es.length (es.flatMap tcells) hs hown ⟨g, 0, none⟩ 1 1 (tcells e) hx rfl ?_ (tcells_one e)
    (by unfold maxLen; omega) (by omega) hbase ?_
  · intro j u hj
    have := hcells j u hj
    by_cases h0 : j = 0
    · subst h0; simpa [Addr.add] using this
    · simpa [Addr.add, h0] using this
  · intro v' w' hown' hgrow hnil
    refine h v' w' ?_ ((Below.refl base w).grown hgrow hbase fun k hk => (World.ownsRow.lt hown k hk).1) hgrow.size
    unfold OwnK
    rw [List.length_append, List.flatMap_append]
    simpa using hown'
end Go.Proofs.YtogkiifljdnjgaaDoor

/- The walks of letter, digit and quoted. No condition beyond a text's length. -/
namespace Go.Proofs.YtogkiifljdnjgaaDoor
open Go.RowKit
set_option linter.unusedVariables false
set_option linter.unusedSimpArgs false

def letN (c : Nat) : Bool := decide (97 ≤ c ∧ c ≤ 122 ∨ c = 95)
def digN (c : Nat) : Bool := decide (48 ≤ c ∧ c ≤ 57)
set_option maxRecDepth 20000 in
theorem letter_any (c : Nat) (w : World) : Calls Tryd.prog 64 #[.int .u8 c] w fun e w' => e = .returned (.bool (letN c)) ∧ w = w' := by
  go_enter Tryd.func64, Tryd.ntmps64
  go_wp2
  all_goals
    go_ret
    exact ⟨ret_bool (by rw [Bool.eq_iff_iff]; simp [letN]; omega), rfl⟩
theorem digit_any (c : Nat) (w : World) : Calls Tryd.prog 65 #[.int .u8 c] w fun e w' => e = .returned (.bool (digN c)) ∧ w = w' := by
  go_enter Tryd.func65, Tryd.ntmps65
  go_wp2
  all_goals
    go_ret
    exact ⟨ret_bool (by rw [Bool.eq_iff_iff]; simp [digN]; omega), rfl⟩
/-- The text of a string token, of what lies behind its first byte: how far it goes, and the text. -/
def quoP : List UInt8 → Nat → List UInt8 → Nat × List UInt8
  | [], _, _ => (0, [])
  | c :: r, i, out =>
    if c.toNat = 34 then (i + 1, out)
    else if c.toNat = 92 then match r with
      | [] => (0, [])
      | d :: r' => if d.toNat = 34 ∨ d.toNat = 92 then quoP r' (i + 2) (out ++ [d]) else (0, [])
    else if c.toNat < 32 ∨ 126 < c.toNat then (0, []) else quoP r (i + 1) (out ++ [c])
theorem drop_cons (s : ByteArray) (k : Nat) (h : k < s.size) : s.data.toList.drop k = s[k] :: s.data.toList.drop (k + 1) := by
  rw [List.drop_eq_getElem_cons (by simpa using h)]; rfl

set_option maxRecDepth 20000 in
set_option maxHeartbeats 2000000 in
theorem quoted_any (s : ByteArray) (w : World) (hs : s.size ≤ 100000) (h1 : 1 ≤ s.size) :
    Calls Tryd.prog 66 #[.string s] w fun e w' => e = .returned (.tuple #[.int .i64 (quoP (s.data.toList.drop 1) 1 []).1, .string ⟨(quoP (s.data.toList.drop 1) 1 []).2.toArray⟩]) ∧ Below w.heap.size w w' := by
  have hsi : (s.size : Int) ≤ 100000 := by omega
  generalize hR : quoP (s.data.toList.drop 1) 1 [] = R
  have HR := Lib.hid hR
  clear hR
  go_enter Tryd.func66, Tryd.ntmps66
  go_wp2_with fail
  go_loopw [4, 5] (fun u i wr => ∃ (k : Nat) (out : List UInt8), i = .int .i64 k ∧ 1 ≤ k ∧ k ≤ s.size ∧ OwnB wr w.heap.size u out ∧ out.length ≤ k ∧ quoP (s.data.toList.drop k) k out = R ∧ Below w.heap.size w wr) (fun _ i _ => s.size - (intOf i).toNat)
  case atStart => exact ⟨1, [], rfl, by omega, h1, OwnB.nil _ _, by simp, HR.out, Below.refl _ _⟩
  case round =>
    obtain ⟨k, out, rfl, hk1, hk, ho, hol, hq, hb⟩ := hrel
    have HO := Lib.hid ho
    have HB := Lib.hid hb
    have HQ := Lib.hid hq
    have hst := fun n => run_str (wr.drewN n) u4 _ (show IsB (wr.drewN n) u4 out from ho.isB)
    clear ho hb hq
    by_cases hlt : k < s.size
    · have HDR := Lib.hid (drop_cons s k hlt)
      have hcb := s[k].toNat_lt
      have hk0 : (0 : Int) ≤ (k : Int) := by omega
      have hki : (k : Int) < (s.size : Int) := by omega
      by_cases h34 : s[k].toNat = 34
      · have h34b : ((s[k].toNat : Int) == 34) = true := beq_iff_eq.2 (by omega)
        have HQ2 := Lib.hid (show (k + 1, out) = R by rw [← HQ.out, HDR.out]; unfold quoP; rw [if_pos h34])
        clear HDR HQ hcb h34
        go_wp2_with fail
        go_quiet (fail)
        go_wp2_with fail
        go_ret2
        exact ⟨by rw [← HQ2.out]; simp, bel_drewN HB.out⟩
      · have h34b : ((s[k].toNat : Int) == 34) = false := beq_eq_false_iff_ne.2 (by omega)
        by_cases h92 : s[k].toNat = 92
        · have h92b : ((s[k].toNat : Int) == 92) = true := beq_iff_eq.2 (by omega)
          by_cases hlt2 : k + 1 < s.size
          · have hk2i : (k : Int) + 1 < (s.size : Int) := by omega
            have hk2e : (((k : Int) + 1) == (s.size : Int)) = false := beq_eq_false_iff_ne.2 (by omega)
            have hk2n : ¬ ((k : Int) + 1 = (s.size : Int)) := by omega
            have HDR2 := Lib.hid (drop_cons s (k + 1) hlt2)
            by_cases hq2 : s[k + 1].toNat = 34 ∨ s[k + 1].toNat = 92
            · have HQ2 := Lib.hid (show quoP (s.data.toList.drop (k + 2)) (k + 2) (out ++ [s[k + 1]]) = R by
                rw [← HQ.out, HDR.out, HDR2.out]
                conv => rhs; unfold quoP
                rw [if_neg h34, if_pos h92]
                simp only []
                rw [if_pos hq2])
              have hq3 : (((s[k + 1].toNat : Int) != 34) = false) ∨ (((s[k + 1].toNat : Int) != 34) = true ∧ ((s[k + 1].toNat : Int) != 92) = false) := by
                rcases hq2 with h | h <;> simp [h]
              clear HDR HDR2 HQ hcb h34 h92 hq2
              rcases hq3 with g1 | ⟨g1, g2⟩
              all_goals
                go_wp2_with (at_builtin; refine wpList_app rfl (.tmp 54) (.tmp 56) rfl w.heap.size _ out rfl (HO.out.step (bel_new _ _)) _ [s[k + 1]] rfl (IsB.one _ _ _ rfl) (by simp; omega) (by have := HB.out.size; simp; omega) ?_; intro v' w1 hown' hb' hz' hne)
                go_roundw
                case rel => exact ⟨k + 2, _, by go_num, by omega, by omega, hown', by simp; omega, HQ2.out, (HB.out.trans ((bel_new wr _).mono HB.out.size)).trans hb'⟩
                case measure => simp [intOf]; omega
            · have HQ2 := Lib.hid (show (0, []) = R by
                rw [← HQ.out, HDR.out, HDR2.out]
                unfold quoP
                rw [if_neg h34, if_pos h92]
                simp only []
                rw [if_neg hq2])
              have g1 : ((s[k + 1].toNat : Int) != 34) = true := bne_iff_ne.2 (by omega)
              have g2 : ((s[k + 1].toNat : Int) != 92) = true := bne_iff_ne.2 (by omega)
              clear HDR HDR2 HQ hcb h34 h92 hq2
              go_wp2_with fail
              go_ret2
              exact ⟨by rw [← HQ2.out]; rfl, HB.out⟩
          · have hk2e : ((k : Int) + 1 = (s.size : Int)) := by omega
            have HQ2 := Lib.hid (show (0, []) = R by
              rw [← HQ.out, HDR.out, List.drop_of_length_le (by simpa using (by omega : s.size ≤ k + 1))]
              unfold quoP
              rw [if_neg h34, if_pos h92])
            clear HDR HQ hcb h34 h92
            go_wp2_with fail
            go_ret2
            exact ⟨by rw [← HQ2.out]; rfl, HB.out⟩
        · have h92b : ((s[k].toNat : Int) == 92) = false := beq_eq_false_iff_ne.2 (by omega)
          by_cases hbad : s[k].toNat < 32 ∨ 126 < s[k].toNat
          · have HQ2 := Lib.hid (show (0, []) = R by
              rw [← HQ.out, HDR.out]
              unfold quoP
              rw [if_neg h34, if_neg h92, if_pos hbad])
            have hbi : (s[k].toNat : Int) < 32 ∨ (¬ (s[k].toNat : Int) < 32 ∧ 126 < (s[k].toNat : Int)) := by omega
            clear HDR HQ hcb h34 h92 hbad
            rcases hbi with g1 | ⟨g1, g2⟩
            all_goals
              go_wp2_with fail
              go_ret2
              exact ⟨by rw [← HQ2.out]; rfl, HB.out⟩
          · have HQ2 := Lib.hid (show quoP (s.data.toList.drop (k + 1)) (k + 1) (out ++ [s[k]]) = R by
              rw [← HQ.out, HDR.out]
              conv => rhs; unfold quoP
              rw [if_neg h34, if_neg h92, if_neg hbad])
            have g1 : ¬ (s[k].toNat : Int) < 32 := by omega
            have g2 : ¬ 126 < (s[k].toNat : Int) := by omega
            clear HDR HQ hcb h34 h92 hbad
            go_wp2_with (at_builtin; refine wpList_app rfl (.tmp 54) (.tmp 56) rfl w.heap.size _ out rfl (HO.out.step (bel_new _ _)) _ [s[k]] rfl (IsB.one _ _ _ rfl) (by simp; omega) (by have := HB.out.size; simp; omega) ?_; intro v' w1 hown' hb' hz' hne)
            go_roundw
            case rel => exact ⟨k + 1, _, by go_num, by omega, by omega, hown', by simp; omega, HQ2.out, (HB.out.trans ((bel_new wr _).mono HB.out.size)).trans hb'⟩
            case measure => simp [intOf]; omega
    · have hki : ¬ (k : Int) < (s.size : Int) := by omega
      have HQ2 := Lib.hid (show (0, []) = R by
        rw [← HQ.out, List.drop_of_length_le (by simpa using (by omega : s.size ≤ k))]
        rfl)
      clear HQ
      go_wp2_with fail
      go_ret2
      exact ⟨by rw [← HQ2.out]; rfl, HB.out⟩
end Go.Proofs.YtogkiifljdnjgaaDoor

/- What a division into tokens is, in plain Lean. No condition. -/
namespace Go.Proofs.YtogkiifljdnjgaaDoor
open Go.RowKit
set_option linter.unusedVariables false
set_option linter.unusedSimpArgs false

def wordB (c : UInt8) : Bool := letN c.toNat || digN c.toNat
def digB (c : UInt8) : Bool := digN c.toNat
def notNl (c : UInt8) : Bool := decide (c.toNat ≠ 10)
def signs : List (List UInt8) := [[61, 61], [33, 61], [60, 61], [60], [43], [45], [42], [40], [41], [123], [125], [44], [59], [61]]
def signP (s : List UInt8) : Option (List UInt8) := signs.find? (fun g => g.isPrefixOf s)
/-- The kind, the length and the text of the token at the beginning; length 0: there is none. -/
def tokP : List UInt8 → Nat × Nat × List UInt8
  | [] => (0, 0, [])
  | c :: r =>
    if letN c.toNat then (1, 1 + (r.takeWhile wordB).length, c :: r.takeWhile wordB)
    else if digN c.toNat then (if 9 < 1 + (r.takeWhile digB).length then (0, 0, []) else (2, 1 + (r.takeWhile digB).length, c :: r.takeWhile digB))
    else if c.toNat = 34 then (3, quoP r 1 [])
    else match signP (c :: r) with
      | some g => (4, g.length, g)
      | none => (0, 0, [])
/-- The tokens: k bytes of the token before are still to be passed. -/
def splitS : List UInt8 → Nat → Int → Int → Option (List Tok)
  | [], _, l, c => some [⟨5, [], l, c⟩]
  | x :: r, k + 1, l, c => splitS r k l (c + 1)
  | x :: r, 0, l, c =>
    if x.toNat = 10 then splitS r 0 (l + 1) 1
    else if x.toNat = 32 ∨ x.toNat = 9 ∨ x.toNat = 13 then splitS r 0 l (c + 1)
    else if x.toNat = 35 then splitS r (r.takeWhile notNl).length l (c + 1)
    else if (tokP (x :: r)).2.1 = 0 then none
    else (splitS r ((tokP (x :: r)).2.1 - 1) l (c + 1)).map (⟨((tokP (x :: r)).1 : Int), (tokP (x :: r)).2.2, l, c⟩ :: ·)
def splitT (s : List UInt8) : Option (List Tok) := splitS s 0 1 1

theorem splitS_drop (k : Nat) : ∀ (s : List UInt8) (l c : Int), k ≤ s.length → splitS s k l c = splitS (s.drop k) 0 l (c + k) := by
  induction k with
  | zero => intro s l c h; simp
  | succ k ih =>
    intro s l c h
    match s, h with
    | x :: r, h =>
      rw [splitS, ih r l (c + 1) (by simpa using h), List.drop_succ_cons]
      congr 1
      omega

/-- Whole text of a list, as the walks hold it. -/
theorem takeWhile_len {α : Type} (p : α → Bool) (l : List α) : (l.takeWhile p).length ≤ l.length := by
  induction l with
  | nil => simp
  | cons a r ih =>
    rw [List.takeWhile_cons]
    split
    · simpa using ih
    · simp
theorem quoP_len : ∀ (s : List UInt8) (i : Nat) (out : List UInt8), (quoP s i out).1 = 0 ∨ (i + 1 ≤ (quoP s i out).1 ∧ (quoP s i out).1 ≤ i + s.length)
  | [], i, out => .inl rfl
  | c :: r, i, out => by
    unfold quoP
    split
    · right; simp
    · split
      · match r with
        | [] => exact .inl rfl
        | d :: r' =>
          simp only []
          split
          · rcases quoP_len r' (i + 2) (out ++ [d]) with h | h
            · exact .inl h
            · right; simp only [List.length_cons]; omega
          · exact .inl rfl
      · split
        · exact .inl rfl
        · rcases quoP_len r (i + 1) (out ++ [c]) with h | h
          · exact .inl h
          · right; simp only [List.length_cons]; omega
theorem sign_mem {s g : List UInt8} (h : signP s = some g) : g ∈ signs ∧ g <+: s := by
  have h1 := List.mem_of_find?_eq_some h
  have h2 := List.find?_some h
  exact ⟨h1, by simpa using h2⟩
theorem sign_pos {g : List UInt8} (h : g ∈ signs) : 1 ≤ g.length ∧ g.length ≤ 2 := by
  revert g
  decide
theorem tokP_word {c : UInt8} {r : List UInt8} (h : letN c.toNat = true) : tokP (c :: r) = (1, 1 + (r.takeWhile wordB).length, c :: r.takeWhile wordB) := by
  rw [tokP, if_pos h]
theorem tokP_long {c : UInt8} {r : List UInt8} (h0 : letN c.toNat = false) (h : digN c.toNat = true) (h9 : 9 < 1 + (r.takeWhile digB).length) : tokP (c :: r) = (0, 0, []) := by
  rw [tokP, if_neg (by simp [h0]), if_pos h, if_pos h9]
theorem tokP_dig {c : UInt8} {r : List UInt8} (h0 : letN c.toNat = false) (h : digN c.toNat = true) (h9 : ¬ 9 < 1 + (r.takeWhile digB).length) : tokP (c :: r) = (2, 1 + (r.takeWhile digB).length, c :: r.takeWhile digB) := by
  rw [tokP, if_neg (by simp [h0]), if_pos h, if_neg h9]
theorem tokP_quo {c : UInt8} {r : List UInt8} (h0 : letN c.toNat = false) (h1 : digN c.toNat = false) (h : c.toNat = 34) : tokP (c :: r) = (3, quoP r 1 []) := by
  rw [tokP, if_neg (by simp [h0]), if_neg (by simp [h1]), if_pos h]
theorem tokP_sign {c : UInt8} {r g : List UInt8} (h0 : letN c.toNat = false) (h1 : digN c.toNat = false) (h : c.toNat ≠ 34) (hg : signP (c :: r) = some g) : tokP (c :: r) = (4, g.length, g) := by
  rw [tokP, if_neg (by simp [h0]), if_neg (by simp [h1]), if_neg h, hg]
theorem tokP_none {c : UInt8} {r : List UInt8} (h0 : letN c.toNat = false) (h1 : digN c.toNat = false) (h : c.toNat ≠ 34) (hg : signP (c :: r) = none) : tokP (c :: r) = (0, 0, []) := by
  rw [tokP, if_neg (by simp [h0]), if_neg (by simp [h1]), if_neg h, hg]
theorem tokP_len (s : List UInt8) : (tokP s).2.1 ≤ s.length := by
  match s with
  | [] => simp [tokP]
  | c :: r =>
    have a1 := takeWhile_len wordB r
    have a2 := takeWhile_len digB r
    simp only [List.length_cons]
    cases h0 : letN c.toNat with
    | true => rw [tokP_word h0]; simp only []; omega
    | false =>
      cases h1 : digN c.toNat with
      | true =>
        by_cases h9 : 9 < 1 + (r.takeWhile digB).length
        · rw [tokP_long h0 h1 h9]; simp
        · rw [tokP_dig h0 h1 h9]; simp only []; omega
      | false =>
        by_cases h : c.toNat = 34
        · rw [tokP_quo h0 h1 h]
          rcases quoP_len r 1 [] with h | h
          · simp only [h]; omega
          · simp only []; omega
        · cases hg : signP (c :: r) with
          | none => rw [tokP_none h0 h1 h hg]; simp
          | some g =>
            rw [tokP_sign h0 h1 h hg]
            simpa using (sign_mem hg).2.length_le
/-- One step, at a byte x that is not passed over. -/
theorem split_nl {x : UInt8} {r : List UInt8} {l c : Int} (h : x.toNat = 10) : splitS (x :: r) 0 l c = splitS r 0 (l + 1) 1 := by
  rw [splitS, if_pos h]
theorem split_blank {x : UInt8} {r : List UInt8} {l c : Int} (h : x.toNat = 32 ∨ x.toNat = 9 ∨ x.toNat = 13) : splitS (x :: r) 0 l c = splitS r 0 l (c + 1) := by
  rw [splitS, if_neg (by omega), if_pos h]
theorem split_note {x : UInt8} {r : List UInt8} {l c : Int} (h : x.toNat = 35) : splitS (x :: r) 0 l c = splitS (r.drop (r.takeWhile notNl).length) 0 l (c + 1 + ((r.takeWhile notNl).length : Nat)) := by
  rw [splitS, if_neg (by omega), if_neg (by omega), if_pos h, splitS_drop _ _ _ _ (takeWhile_len _ _)]
def plainB (x : UInt8) : Prop := x.toNat ≠ 10 ∧ x.toNat ≠ 32 ∧ x.toNat ≠ 9 ∧ x.toNat ≠ 13 ∧ x.toNat ≠ 35
theorem split_bad {x : UInt8} {r : List UInt8} {l c : Int} (h : plainB x) (h0 : (tokP (x :: r)).2.1 = 0) : splitS (x :: r) 0 l c = none := by
  obtain ⟨a, b, d, e, f⟩ := h
  rw [splitS, if_neg a, if_neg (by omega), if_neg f, if_pos h0]
theorem split_tok {x : UInt8} {r : List UInt8} {l c : Int} (h : plainB x) (h0 : (tokP (x :: r)).2.1 ≠ 0) :
    splitS (x :: r) 0 l c = (splitS ((x :: r).drop (tokP (x :: r)).2.1) 0 l (c + ((tokP (x :: r)).2.1 : Nat))).map (⟨((tokP (x :: r)).1 : Int), (tokP (x :: r)).2.2, l, c⟩ :: ·) := by
  obtain ⟨a, b, d, e, f⟩ := h
  have hl := tokP_len (x :: r)
  simp only [List.length_cons] at hl
  rw [splitS, if_neg a, if_neg (by omega), if_neg f, if_neg h0, splitS_drop _ _ _ _ (by omega)]
  obtain ⟨n, hn⟩ : ∃ n, (tokP (x :: r)).2.1 = n + 1 := ⟨(tokP (x :: r)).2.1 - 1, by omega⟩
  rw [hn]
  simp only [List.drop_succ_cons, Nat.add_sub_cancel]
  congr 2
  push_cast
  omega
end Go.Proofs.YtogkiifljdnjgaaDoor

/- Plain laws on the division into tokens. No condition. -/
namespace Go.Proofs.YtogkiifljdnjgaaDoor
open Go.RowKit
set_option linter.unusedVariables false
set_option linter.unusedSimpArgs false

theorem splitS_len : ∀ (s : List UInt8) (k : Nat) (l c : Int) (ts : List Tok), splitS s k l c = some ts → ts.length ≤ s.length + 1
  | [], k, l, c, ts, h => by
    cases k <;> simp only [splitS, Option.some.injEq] at h <;> subst h <;> simp
  | x :: r, k + 1, l, c, ts, h => by
    rw [splitS] at h
    have := splitS_len r k l (c + 1) ts h
    simp only [List.length_cons]; omega
  | x :: r, 0, l, c, ts, h => by
    rw [splitS] at h
    simp only [List.length_cons]
    split at h
    · have := splitS_len r _ _ _ ts h; omega
    · split at h
      · have := splitS_len r _ _ _ ts h; omega
      · split at h
        · have := splitS_len r _ _ _ ts h; omega
        · split at h
          · cases h
          · obtain ⟨ts', h', rfl⟩ := Option.map_eq_some_iff.1 h
            have := splitS_len r _ _ _ ts' h'
            simp only [List.length_cons]; omega
theorem splitT_len {s : List UInt8} {ts : List Tok} (h : splitT s = some ts) : ts.length ≤ s.length + 1 := splitS_len s 0 1 1 ts h
end Go.Proofs.YtogkiifljdnjgaaDoor

/- The walks of HasPrefix and token. No condition beyond a text's length. -/
namespace Go.Proofs.YtogkiifljdnjgaaDoor
open Go.RowKit
set_option linter.unusedVariables false
set_option linter.unusedSimpArgs false

theorem text_mk (s : ByteArray) : (⟨s.data.toList.toArray⟩ : ByteArray) = s := by cases s; simp
theorem size_list (s : ByteArray) : s.data.toList.length = s.size := by rw [Array.length_toList]; rfl
theorem extract_list (s : ByteArray) (a b : Nat) : s.extract a b = ⟨((s.data.toList.drop a).take (b - a)).toArray⟩ := by
  have := ByteArray.extract_mk s.data.toList a b
  rwa [text_mk] at this
theorem take_tw {α : Type} (p : α → Bool) (r : List α) : r.take (r.takeWhile p).length = r.takeWhile p := by
  induction r with
  | nil => simp
  | cons a r ih =>
    rw [List.takeWhile_cons]
    split
    · simpa using ih
    · simp
theorem take_head (s : ByteArray) (p : UInt8 → Bool) (h : 0 < s.size) : s.extract 0 (1 + ((s.data.toList.drop 1).takeWhile p).length) = ⟨(s[0] :: (s.data.toList.drop 1).takeWhile p).toArray⟩ := by
  rw [extract_list]
  congr 2
  have := drop_cons s 0 h
  rw [List.drop_zero] at this
  rw [List.drop_zero, Nat.sub_zero]
  generalize hm : (List.takeWhile p (List.drop 1 s.data.toList)).length = m
  rw [this, Nat.add_comm, List.take_succ_cons, ← hm, take_tw]
  simp

def isPre (p s : List UInt8) : Bool := p.isPrefixOf s
theorem isPre_take (p s : List UInt8) (h : p.length ≤ s.length) : isPre p s = (s.take p.length == p) := by
  unfold isPre
  rw [Bool.eq_iff_iff, List.isPrefixOf_iff_prefix, beq_iff_eq]
  constructor
  · intro h
    exact (List.prefix_iff_eq_take.1 h).symm
  · intro h
    exact List.prefix_iff_eq_take.2 h.symm
theorem isPre_short (p s : List UInt8) (h : ¬ p.length ≤ s.length) : isPre p s = false := by
  unfold isPre
  rw [Bool.eq_false_iff]
  intro hp
  exact h (List.isPrefixOf_iff_prefix.1 hp).length_le
set_option maxHeartbeats 1000000 in
theorem hasP (s p : ByteArray) (w : World) : Calls Tryd.prog 84 #[.string s, .string p] w fun e w' => e = .returned (.bool (isPre p.data.toList s.data.toList)) ∧ w = w' := by
  go_enter Tryd.func84, Tryd.ntmps84
  go_wp2
  · rename_i h
    go_ret
    refine ⟨ret_bool ?_, rfl⟩
    rw [isPre_take _ _ (by rw [size_list, size_list]; exact h), extract_list, ByteArray.toList_eq, ByteArray.toList_eq, List.drop_zero, Nat.sub_zero, ← size_list p]
  · rename_i h
    go_ret
    refine ⟨ret_bool ?_, rfl⟩
    rw [isPre_short _ _ (by rw [size_list, size_list]; exact h)]
theorem hasPrefix_any (s p : ByteArray) (w : World) : Calls Tryd.prog 67 #[.string s, .string p] w fun e w' => e = .returned (.bool (isPre p.data.toList s.data.toList)) ∧ w = w' := by
  go_enter Tryd.func67, Tryd.ntmps67
  go_wp2_with (go_at_call 84; refine (hasP _ _ _).mono ?_; rintro e w' ⟨rfl, rfl⟩)
  go_ret
  exact ⟨rfl, rfl⟩

def tokV (t : Nat × Nat × List UInt8) : Value := .tuple #[.int .i64 t.1, .int .i64 t.2.1, .string ⟨t.2.2.toArray⟩]
/-- The reference's results: the text stands before the length. -/
def takV (t : Nat × Nat × List UInt8) : Value := .tuple #[.int .i64 t.1, .string ⟨t.2.2.toArray⟩, .int .i64 t.2.1]
set_option maxRecDepth 20000 in
set_option maxHeartbeats 2000000 in
theorem token_word (s : ByteArray) (w : World) (hs : s.size ≤ 100000) (h0 : 0 < s.size) (hc : letN s[0].toNat = true) :
    Calls Tryd.prog 46 #[.string s] w fun e w' => e = .returned (tokV (1, 1 + ((s.data.toList.drop 1).takeWhile wordB).length, s[0] :: (s.data.toList.drop 1).takeWhile wordB)) ∧ Below w.heap.size w w' := by
  have hsi : (s.size : Int) ≤ 100000 := by omega
  have hs0 : (0 : Int) < (s.size : Int) := by omega
  obtain ⟨R, hR⟩ : ∃ R, (1, 1 + ((s.data.toList.drop 1).takeWhile wordB).length, s[0] :: (s.data.toList.drop 1).takeWhile wordB) = R := ⟨_, rfl⟩
  rw [hR]
  have HR := Lib.hid hR
  clear hR
  obtain ⟨N, hN⟩ : ∃ N, 1 + ((s.data.toList.drop 1).takeWhile wordB).length = N := ⟨_, rfl⟩
  have HT := Lib.hid (take_head s wordB h0)
  have HN := Lib.hid hN
  clear hN
  go_enter Tryd.func46, Tryd.ntmps46
  go_wp2_with (first | (go_at_call 64; refine (letter_any _ _).mono ?_; rintro e w' ⟨rfl, rfl⟩) | (go_at_call 65; refine (digit_any _ _).mono ?_; rintro e w' ⟨rfl, rfl⟩))
  go_loop [5] (fun i => ∃ k : Nat, i = .int .i64 k ∧ 1 ≤ k ∧ k ≤ s.size ∧ k + ((s.data.toList.drop k).takeWhile wordB).length = N) (fun i => s.size - (intOf i).toNat)
  case atStart => exact ⟨1, rfl, by omega, by omega, HN.out⟩
  case round =>
    obtain ⟨k, rfl, hk1, hk, hq⟩ := hrel
    have HQ := Lib.hid hq
    clear hq
    by_cases hlt : k < s.size
    · have HDR := Lib.hid (drop_cons s k hlt)
      have hcb := s[k].toNat_lt
      have hk0 : (0 : Int) ≤ (k : Int) := by omega
      have hki : (k : Int) < (s.size : Int) := by omega
      cases hl : letN s[k].toNat with
      | true =>
        have HQ2 := Lib.hid (show k + 1 + ((s.data.toList.drop (k + 1)).takeWhile wordB).length = N by
          rw [← HQ.out, HDR.out, List.takeWhile_cons_of_pos (by simp [wordB, hl])]; simp; omega)
        clear HDR HQ hcb
        go_wp2_with (first | (go_at_call 64; refine (letter_any _ _).mono ?_; rintro e w' ⟨rfl, rfl⟩) | (go_at_call 65; refine (digit_any _ _).mono ?_; rintro e w' ⟨rfl, rfl⟩))
        go_round
        case rel => exact ⟨k + 1, by go_num, by omega, by omega, HQ2.out⟩
        case measure => simp [intOf]; omega
      | false =>
        cases hd : digN s[k].toNat with
        | true =>
          have HQ2 := Lib.hid (show k + 1 + ((s.data.toList.drop (k + 1)).takeWhile wordB).length = N by
            rw [← HQ.out, HDR.out, List.takeWhile_cons_of_pos (by simp [wordB, hl, hd])]; simp; omega)
          clear HDR HQ hcb
          go_wp2_with (first | (go_at_call 64; refine (letter_any _ _).mono ?_; rintro e w' ⟨rfl, rfl⟩) | (go_at_call 65; refine (digit_any _ _).mono ?_; rintro e w' ⟨rfl, rfl⟩))
          go_round
          case rel => exact ⟨k + 1, by go_num, by omega, by omega, HQ2.out⟩
          case measure => simp [intOf]; omega
        | false =>
          have HQ2 := Lib.hid (show k = N by
            rw [← HQ.out, HDR.out, List.takeWhile_cons_of_neg (by simp [wordB, hl, hd])]; simp)
          clear HDR HQ hcb
          go_wp2_with (first | (go_at_call 64; refine (letter_any _ _).mono ?_; rintro e w' ⟨rfl, rfl⟩) | (go_at_call 65; refine (digit_any _ _).mono ?_; rintro e w' ⟨rfl, rfl⟩))
          go_quiet (fail)
          go_wp2_with fail
          go_ret3
          have HX : s.extract 0 k = ⟨(s[0] :: (s.data.toList.drop 1).takeWhile wordB).toArray⟩ := by rw [HQ2.out, ← HN.out]; exact HT.out
          refine ⟨?_, bel_drewN (Below.refl _ _)⟩
          show Ending.returned (.tuple #[.int .i64 1, .int .i64 k, .string (s.extract 0 k)]) = _
          rw [HX, ← HR.out, HN.out, ← HQ2.out]
          rfl
    · have hki : ¬ (k : Int) < (s.size : Int) := by omega
      have HQ2 := Lib.hid (show k = N by
        rw [← HQ.out, List.drop_of_length_le (by simpa using (by omega : s.size ≤ k))]; simp)
      clear HQ
      go_wp2_with fail
      go_quiet (fail)
      go_wp2_with fail
      go_ret3
      have HX : s.extract 0 k = ⟨(s[0] :: (s.data.toList.drop 1).takeWhile wordB).toArray⟩ := by rw [HQ2.out, ← HN.out]; exact HT.out
      refine ⟨?_, bel_drewN (Below.refl _ _)⟩
      show Ending.returned (.tuple #[.int .i64 1, .int .i64 k, .string (s.extract 0 k)]) = _
      rw [HX, ← HR.out, HN.out, ← HQ2.out]
      rfl
set_option maxRecDepth 20000 in
set_option maxHeartbeats 2000000 in
theorem token_dig (s : ByteArray) (w : World) (hs : s.size ≤ 100000) (h0 : 0 < s.size) (hc : letN s[0].toNat = false) (hd0 : digN s[0].toNat = true) :
    Calls Tryd.prog 46 #[.string s] w fun e w' => e = .returned (tokV (if 9 < 1 + ((s.data.toList.drop 1).takeWhile digB).length then (0, 0, []) else (2, 1 + ((s.data.toList.drop 1).takeWhile digB).length, s[0] :: (s.data.toList.drop 1).takeWhile digB))) ∧ Below w.heap.size w w' := by
  have hsi : (s.size : Int) ≤ 100000 := by omega
  have hs0 : (0 : Int) < (s.size : Int) := by omega
  obtain ⟨R, hR⟩ : ∃ R, (if 9 < 1 + ((s.data.toList.drop 1).takeWhile digB).length then (0, 0, []) else (2, 1 + ((s.data.toList.drop 1).takeWhile digB).length, s[0] :: (s.data.toList.drop 1).takeWhile digB)) = R := ⟨_, rfl⟩
  rw [hR]
  have HR := Lib.hid hR
  clear hR
  obtain ⟨N, hN⟩ : ∃ N, 1 + ((s.data.toList.drop 1).takeWhile digB).length = N := ⟨_, rfl⟩
  have HT := Lib.hid (take_head s digB h0)
  have HN := Lib.hid hN
  clear hN
  go_enter Tryd.func46, Tryd.ntmps46
  go_wp2_with (first | (go_at_call 64; refine (letter_any _ _).mono ?_; rintro e w' ⟨rfl, rfl⟩) | (go_at_call 65; refine (digit_any _ _).mono ?_; rintro e w' ⟨rfl, rfl⟩))
  go_loop [5] (fun i => ∃ k : Nat, i = .int .i64 k ∧ 1 ≤ k ∧ k ≤ s.size ∧ k + ((s.data.toList.drop k).takeWhile digB).length = N) (fun i => s.size - (intOf i).toNat)
  case atStart => exact ⟨1, rfl, by omega, by omega, HN.out⟩
  case round =>
    obtain ⟨k, rfl, hk1, hk, hq⟩ := hrel
    have HQ := Lib.hid hq
    clear hq
    by_cases hlt : k < s.size
    · have HDR := Lib.hid (drop_cons s k hlt)
      have hcb := s[k].toNat_lt
      have hk0 : (0 : Int) ≤ (k : Int) := by omega
      have hki : (k : Int) < (s.size : Int) := by omega
      cases hd : digN s[k].toNat with
      | true =>
        have HQ2 := Lib.hid (show k + 1 + ((s.data.toList.drop (k + 1)).takeWhile digB).length = N by
          rw [← HQ.out, HDR.out, List.takeWhile_cons_of_pos (by simp [digB, hd])]; simp; omega)
        clear HDR HQ hcb
        go_wp2_with (first | (go_at_call 64; refine (letter_any _ _).mono ?_; rintro e w' ⟨rfl, rfl⟩) | (go_at_call 65; refine (digit_any _ _).mono ?_; rintro e w' ⟨rfl, rfl⟩))
        go_round
        case rel => exact ⟨k + 1, by go_num, by omega, by omega, HQ2.out⟩
        case measure => simp [intOf]; omega
      | false =>
        have HQ2 := Lib.hid (show k = N by
          rw [← HQ.out, HDR.out, List.takeWhile_cons_of_neg (by simp [digB, hd])]; simp)
        clear HDR HQ hcb
        by_cases h9 : 9 < k
        · have h9i : (9 : Int) < (k : Int) := by omega
          have H9 := Lib.hid h9
          clear h9
          go_wp2_with (first | (go_at_call 64; refine (letter_any _ _).mono ?_; rintro e w' ⟨rfl, rfl⟩) | (go_at_call 65; refine (digit_any _ _).mono ?_; rintro e w' ⟨rfl, rfl⟩))
          go_ret3
          refine ⟨?_, Below.refl _ _⟩
          rw [← HR.out, HN.out, ← HQ2.out, if_pos H9.out]
          rfl
        · have h9i : ¬ (9 : Int) < (k : Int) := by omega
          have H9 := Lib.hid h9
          clear h9
          go_wp2_with (first | (go_at_call 64; refine (letter_any _ _).mono ?_; rintro e w' ⟨rfl, rfl⟩) | (go_at_call 65; refine (digit_any _ _).mono ?_; rintro e w' ⟨rfl, rfl⟩))
          go_quiet (fail)
          go_wp2_with fail
          go_ret3
          have HX : s.extract 0 k = ⟨(s[0] :: (s.data.toList.drop 1).takeWhile digB).toArray⟩ := by rw [HQ2.out, ← HN.out]; exact HT.out
          refine ⟨?_, bel_drewN (Below.refl _ _)⟩
          show Ending.returned (.tuple #[.int .i64 2, .int .i64 k, .string (s.extract 0 k)]) = _
          rw [HX, ← HR.out, HN.out, ← HQ2.out, if_neg H9.out]
          rfl
    · have hki : ¬ (k : Int) < (s.size : Int) := by omega
      have HQ2 := Lib.hid (show k = N by
        rw [← HQ.out, List.drop_of_length_le (by simpa using (by omega : s.size ≤ k))]; simp)
      clear HQ
      by_cases h9 : 9 < k
      · have h9i : (9 : Int) < (k : Int) := by omega
        have H9 := Lib.hid h9
        clear h9
        go_wp2_with fail
        go_ret3
        refine ⟨?_, Below.refl _ _⟩
        rw [← HR.out, HN.out, ← HQ2.out, if_pos H9.out]
        rfl
      · have h9i : ¬ (9 : Int) < (k : Int) := by omega
        have H9 := Lib.hid h9
        clear h9
        go_wp2_with fail
        go_quiet (fail)
        go_wp2_with fail
        go_ret3
        have HX : s.extract 0 k = ⟨(s[0] :: (s.data.toList.drop 1).takeWhile digB).toArray⟩ := by rw [HQ2.out, ← HN.out]; exact HT.out
        refine ⟨?_, bel_drewN (Below.refl _ _)⟩
        show Ending.returned (.tuple #[.int .i64 2, .int .i64 k, .string (s.extract 0 k)]) = _
        rw [HX, ← HR.out, HN.out, ← HQ2.out, if_neg H9.out]
        rfl
end Go.Proofs.YtogkiifljdnjgaaDoor

/- The walks of the signs of token and take. No condition beyond a text's length. -/
namespace Go.Proofs.YtogkiifljdnjgaaDoor
open Go.RowKit
set_option linter.unusedVariables false
set_option linter.unusedSimpArgs false

theorem hasPrefix_list (s : ByteArray) (g : List UInt8) (w : World) : Calls Tryd.prog 67 #[.string s, .string ⟨g.toArray⟩] w fun e w' => e = .returned (.bool (isPre g s.data.toList)) ∧ w = w' := by
  have := hasPrefix_any s ⟨g.toArray⟩ w
  simpa using this
def signCells : Array Value := (signs.map fun g => Value.string ⟨g.toArray⟩).toArray
theorem sign_cell (w : World) {j : Nat} {g : List UInt8} (h : signs[j]? = some g) : (w.alloc (.cells signCells 9)).cell? ⟨w.heap.size, j, none⟩ = some (.string ⟨g.toArray⟩) := by
  rw [cell_of_row _ _ _ _ _ _ (heap_alloc_new w _)]
  simp [signCells, h]
theorem signP_step {l : List UInt8} {j : Nat} {g : List UInt8} {R : Option (List UInt8)} (hj : signs[j]? = some g) (h : (signs.drop j).find? (fun g => isPre g l) = R) :
    (isPre g l = true → R = some g) ∧ (isPre g l = false → (signs.drop (j + 1)).find? (fun g => isPre g l) = R) := by
  obtain ⟨hlt, rfl⟩ := List.getElem?_eq_some_iff.1 hj
  rw [List.drop_eq_getElem_cons hlt, List.find?_cons] at h
  constructor
  · intro hp
    rw [hp] at h
    exact h.symm
  · intro hp
    rw [hp] at h
    exact h

set_option maxRecDepth 20000 in
set_option maxHeartbeats 2000000 in
theorem token_sign (s : ByteArray) (w : World) (hs : s.size ≤ 100000) (h0 : 0 < s.size) (hc : letN s[0].toNat = false) (hd : digN s[0].toNat = false) (hq : s[0].toNat ≠ 34) :
    Calls Tryd.prog 46 #[.string s] w fun e w' => e = .returned (tokV (match signP s.data.toList with | some g => (4, g.length, g) | none => (0, 0, []))) ∧ Below w.heap.size w w' := by
  have hsi : (s.size : Int) ≤ 100000 := by omega
  have hs0 : (0 : Int) < (s.size : Int) := by omega
  have hq0 : ((s[0].toNat : Int) == 34) = false := beq_eq_false_iff_ne.2 (by omega)
  obtain ⟨R0, hR0⟩ : ∃ R0, signP s.data.toList = R0 := ⟨_, rfl⟩
  rw [hR0]
  have HR0 := Lib.hid (show (signs.drop 0).find? (fun g => isPre g s.data.toList) = R0 from hR0)
  clear hR0 hq
  obtain ⟨R, hR⟩ : ∃ R, (match R0 with | some g => (4, g.length, g) | none => (0, 0, [])) = R := ⟨_, rfl⟩
  rw [hR]
  have HR := Lib.hid hR
  clear hR
  have HCELL := Lib.hid (fun (j : Nat) (g : List UInt8) (h : signs[j]? = some g) => sign_cell w h)
  go_enter Tryd.func46, Tryd.ntmps46
  go_wp2_with (first | (go_at_call 64; refine (letter_any _ _).mono ?_; rintro e w' ⟨rfl, rfl⟩) | (go_at_call 65; refine (digit_any _ _).mono ?_; rintro e w' ⟨rfl, rfl⟩))
  go_loop [71] (fun i => ∃ k : Nat, i = .int .i64 k ∧ k ≤ 14 ∧ (signs.drop k).find? (fun g => isPre g s.data.toList) = R0) (fun i => 14 - (intOf i).toNat)
  case atStart => exact ⟨0, rfl, by omega, HR0.out⟩
  case round =>
    obtain ⟨k, rfl, hk, hq⟩ := hrel
    have HQ := Lib.hid hq
    clear hq
    by_cases hlt : k < 14
    · obtain ⟨g, hg⟩ : ∃ g, signs[k]? = some g := ⟨signs[k]'hlt, List.getElem?_eq_getElem hlt⟩
      have hcell := HCELL.out k g hg
      have hstep := signP_step hg HQ.out
      unfold signCells signs at hcell
      simp only [List.map_cons, List.map_nil] at hcell
      have hgl : g.length ≤ 2 := (sign_pos (List.mem_of_getElem? hg)).2
      clear hg HQ
      cases hp : isPre g s.data.toList with
      | true =>
        have HS := Lib.hid (hstep.1 hp)
        clear hstep
        go_wp2_with (go_at_call 67; refine (hasPrefix_list _ _ _).mono ?_; rintro e w' ⟨rfl, rfl⟩)
        go_ret3
        refine ⟨?_, bel_new _ _⟩
        rw [← HR.out, HS.out]
        rfl
      | false =>
        have HS := Lib.hid (hstep.2 hp)
        clear hstep
        go_wp2_with (go_at_call 67; refine (hasPrefix_list _ _ _).mono ?_; rintro e w' ⟨rfl, rfl⟩)
        go_round
        case rel => exact ⟨k + 1, by go_num, by omega, HS.out⟩
        case measure => simp [intOf]; omega
    · obtain rfl : k = 14 := by omega
      have HS := Lib.hid (show R0 = none by rw [← HQ.out]; rfl)
      clear HQ
      go_wp2_with fail
      go_ret3
      refine ⟨?_, bel_new _ _⟩
      rw [← HR.out, HS.out]
      rfl
end Go.Proofs.YtogkiifljdnjgaaDoor

/- token and take, whole. No condition beyond a text's length. -/
namespace Go.Proofs.YtogkiifljdnjgaaDoor
open Go.RowKit
set_option linter.unusedVariables false
set_option linter.unusedSimpArgs false

set_option maxRecDepth 20000 in
set_option maxHeartbeats 2000000 in
theorem token_quo (s : ByteArray) (w : World) (hs : s.size ≤ 100000) (h0 : 0 < s.size) (hc : letN s[0].toNat = false) (hd : digN s[0].toNat = false) (hq : s[0].toNat = 34) :
    Calls Tryd.prog 46 #[.string s] w fun e w' => e = .returned (tokV (3, quoP (s.data.toList.drop 1) 1 [])) ∧ Below w.heap.size w w' := by
  have hsi : (s.size : Int) ≤ 100000 := by omega
  have hs0 : (0 : Int) < (s.size : Int) := by omega
  have hq0 : ((s[0].toNat : Int) == 34) = true := beq_iff_eq.2 (by omega)
  have hquo := quoted_any s w hs (by omega)
  generalize quoP (s.data.toList.drop 1) 1 [] = R at hquo ⊢
  have HQUO := Lib.hid hquo
  clear hquo hq
  go_enter Tryd.func46, Tryd.ntmps46
  go_wp2_with (first | (go_at_call 64; refine (letter_any _ _).mono ?_; rintro e w' ⟨rfl, rfl⟩) | (go_at_call 65; refine (digit_any _ _).mono ?_; rintro e w' ⟨rfl, rfl⟩) | (go_at_call 66; refine HQUO.out.mono ?_; rintro e w' ⟨rfl, hb⟩))
  go_ret3
  exact ⟨rfl, hb⟩
/-- How the reference tries a sign. -/
theorem drewN_two (w : World) (n m : Nat) : (w.drewN n).drewN m = w.drewN (n + m) := by
  first | rfl | simp [World.drewN, Nat.add_assoc]
theorem isPre_bytes (s : ByteArray) (g : List UInt8) (h : g.length ≤ s.size) : ((s.extract 0 g.length).toList == g) = isPre g s.data.toList := by
  rw [isPre_take _ _ (by rw [size_list]; exact h), extract_list, ByteArray.toList_eq, List.drop_zero, Nat.sub_zero]
theorem head_list (s : ByteArray) (h : 0 < s.size) : s.data.toList = s[0] :: s.data.toList.drop 1 := by
  have := drop_cons s 0 h
  simpa using this
/-- token, whole. -/
theorem token_any (s : ByteArray) (w : World) (hs : s.size ≤ 100000) (h0 : 0 < s.size) :
    Calls Tryd.prog 46 #[.string s] w fun e w' => e = .returned (tokV (tokP s.data.toList)) ∧ Below w.heap.size w w' := by
  have hl := head_list s h0
  cases hc : letN s[0].toNat with
  | true => have := token_word s w hs h0 hc; rw [hl, tokP_word hc]; exact this
  | false =>
    cases hd : digN s[0].toNat with
    | true =>
      have := token_dig s w hs h0 hc hd
      by_cases h9 : 9 < 1 + ((s.data.toList.drop 1).takeWhile digB).length
      · rw [if_pos h9] at this; rw [hl, tokP_long hc hd h9]; exact this
      · rw [if_neg h9] at this; rw [hl, tokP_dig hc hd h9]; exact this
    | false =>
      by_cases hq : s[0].toNat = 34
      · have := token_quo s w hs h0 hc hd hq; rw [hl, tokP_quo hc hd hq]; exact this
      · have := token_sign s w hs h0 hc hd hq
        cases hg : signP s.data.toList with
        | some g => rw [hg] at this; rw [hl, tokP_sign hc hd hq (hl ▸ hg)]; exact this
        | none => rw [hg] at this; rw [hl, tokP_none hc hd hq (hl ▸ hg)]; exact this
/-- What the reference's take returns: the kind is free where there is no token. -/
def takE (t : Nat × Nat × List UInt8) (e : Ending) : Prop := ∃ n : Int, (n = t.1 ∨ t.2.1 = 0) ∧ e = .returned (.tuple #[.int .i64 n, .string ⟨t.2.2.toArray⟩, .int .i64 t.2.1])
theorem takE_of {t : Nat × Nat × List UInt8} {e : Ending} (h : e = .returned (takV t)) : takE t e := ⟨t.1, .inl rfl, h⟩
end Go.Proofs.YtogkiifljdnjgaaDoor

/- The walk of Split. No condition beyond a text's length. -/
namespace Go.Proofs.YtogkiifljdnjgaaDoor
open Go.RowKit
set_option linter.unusedVariables false
set_option linter.unusedSimpArgs false

/-- What Split returns, of what the division is. -/
def SplitE (T : TypeId) (base : Nat) (w' : World) (bad good : Value) : Option (List Tok) → Ending → Prop
  | none, e => e = .returned (.tuple #[.slice none 0 0, bad])
  | some ts, e => ∃ v, e = .returned (.tuple #[v, good]) ∧ OwnK T w' base v ts
theorem tail_list (s : ByteArray) (k : Nat) : (s.extract k s.size).data.toList = s.data.toList.drop k := by
  rw [extract_list]
  simp only [List.toList_toArray]
  rw [List.take_of_length_le]
  rw [List.length_drop, size_list]
  omega
theorem tail_size (s : ByteArray) (k : Nat) : (s.extract k s.size).size = s.size - k := by
  rw [← size_list, tail_list, List.length_drop, size_list]
theorem tok_tail (s : ByteArray) (w : World) (k : Nat) (hs : s.size ≤ 100000) (hk : k < s.size) :
    Calls Tryd.prog 46 #[.string (s.extract k s.size)] w fun e w' => e = .returned (tokV (tokP (s.data.toList.drop k))) ∧ Below w.heap.size w w' := by
  have := token_any (s.extract k s.size) w (by rw [tail_size]; omega) (by rw [tail_size]; omega)
  rwa [tail_list] at this
/-- What is still to be divided behind the tokens ts. -/
def restS (ts : List Tok) (s : List UInt8) (l c : Int) : Option (List Tok) := (splitS s 0 l c).map (ts ++ ·)
theorem rest_none {ts : List Tok} {s : List UInt8} {l c : Int} (h : splitS s 0 l c = none) : restS ts s l c = none := by rw [restS, h]; rfl
theorem rest_end (ts : List Tok) (l c : Int) : restS ts [] l c = some (ts ++ [⟨5, [], l, c⟩]) := rfl
theorem rest_same {ts : List Tok} {s s' : List UInt8} {l c l' c' : Int} (h : splitS s 0 l c = splitS s' 0 l' c') : restS ts s l c = restS ts s' l' c' := by rw [restS, h]; rfl
theorem rest_tok {ts : List Tok} {s s' : List UInt8} {l c l' c' : Int} {t : Tok} (h : splitS s 0 l c = (splitS s' 0 l' c').map (t :: ·)) : restS ts s l c = restS (ts ++ [t]) s' l' c' := by
  rw [restS, restS, h, Option.map_map]
  congr 1
  funext x
  simp
set_option maxRecDepth 20000 in
set_option maxHeartbeats 4000000 in
theorem split_any (s : ByteArray) (w : World) (hs : s.size ≤ 4096) :
    Calls Tryd.prog 32 #[.string s] w fun e w' => SplitE 70 w.heap.size w' (.iface 52 (.int .i64 2)) .nilIface (splitT s.data.toList) e ∧ Below w.heap.size w w' := by
  have hsi : (s.size : Int) ≤ 4096 := by omega
  obtain ⟨R, hR⟩ : ∃ R, splitT s.data.toList = R := ⟨_, rfl⟩
  rw [hR]
  have HR0 := Lib.hid (show restS [] (s.data.toList.drop 0) ((1 : Nat) : Int) (((0 : Nat) : Int) - ((0 : Nat) : Int) + 1) = R by
    rw [← hR, restS, splitT, List.drop_zero]; simp)
  clear hR
  go_enter Tryd.func32, Tryd.ntmps32
  go_wp2_with fail
  go_loopw [4, 5, 6, 7] (fun u l b i wr => ∃ (k line bg : Nat) (ts : List Tok), i = .int .i64 k ∧ l = .int .i64 line ∧ b = .int .i64 bg ∧ bg ≤ k ∧ k ≤ s.size ∧ line ≤ k + 1 ∧ ts.length ≤ k ∧ OwnK 70 wr w.heap.size u ts ∧ restS ts (s.data.toList.drop k) (line : Int) ((k : Int) - (bg : Int) + 1) = R ∧ Below w.heap.size w wr) (fun _ _ _ i _ => s.size - (intOf i).toNat)
  case atStart => exact ⟨0, 1, 0, [], rfl, rfl, rfl, by omega, by omega, by omega, by simp, OwnK.nil _ _ _, HR0.out, Below.refl _ _⟩
  case round =>
    obtain ⟨k, line, bg, ts, rfl, rfl, rfl, hbg, hk, hline, htl, ho, hq, hb⟩ := hrel
    have HO := Lib.hid ho
    have HB := Lib.hid hb
    have HQ := Lib.hid hq
    clear ho hb hq
    by_cases hlt : k < s.size
    · have HDR := Lib.hid (drop_cons s k hlt)
      have hcb := s[k].toNat_lt
      have hk0 : (0 : Int) ≤ (k : Int) := by omega
      have hki : (k : Int) < (s.size : Int) := by omega
      by_cases h10 : s[k].toNat = 10
      · have g1 : ((s[k].toNat : Int) == 10) = true := beq_iff_eq.2 (by omega)
        have HQ2 := Lib.hid (show restS ts (s.data.toList.drop (k + 1)) ((line + 1 : Nat) : Int) (((k + 1 : Nat) : Int) - ((k + 1 : Nat) : Int) + 1) = R by
          rw [← HQ.out, HDR.out]; exact rest_same (by rw [split_nl h10]; congr 1; omega))
        clear HDR HQ hcb h10
        go_wp2_with fail
        go_roundw
        case rel => exact ⟨k + 1, line + 1, k + 1, ts, by go_num, by go_num, by go_num, by omega, by omega, by omega, by omega, HO.out, HQ2.out, HB.out⟩
        case measure => simp [intOf]; omega
      · have g1 : ((s[k].toNat : Int) == 10) = false := beq_eq_false_iff_ne.2 (by omega)
        by_cases hbl : s[k].toNat = 32 ∨ s[k].toNat = 9 ∨ s[k].toNat = 13
        · have HQ2 := Lib.hid (show restS ts (s.data.toList.drop (k + 1)) (line : Int) (((k + 1 : Nat) : Int) - (bg : Int) + 1) = R by
            rw [← HQ.out, HDR.out]; exact rest_same (by rw [split_blank hbl]; congr 1; omega))
          have g2 : (((s[k].toNat : Int) == 32) = true) ∨ (((s[k].toNat : Int) == 32) = false ∧ ((s[k].toNat : Int) == 9) = true) ∨ (((s[k].toNat : Int) == 32) = false ∧ ((s[k].toNat : Int) == 9) = false ∧ ((s[k].toNat : Int) == 13) = true) := by
            rcases hbl with h | h | h <;> simp [h]
          clear HDR HQ hcb h10 hbl
          rcases g2 with g2 | ⟨g2, g3⟩ | ⟨g2, g3, g4⟩
          all_goals
            go_wp2_with fail
            go_roundw
            case rel => exact ⟨k + 1, line, bg, ts, by go_num, by go_num, by go_num, by omega, by omega, by omega, by omega, HO.out, HQ2.out, HB.out⟩
            case measure => simp [intOf]; omega
        · have g2 : ((s[k].toNat : Int) == 32) = false := beq_eq_false_iff_ne.2 (by omega)
          have g3 : ((s[k].toNat : Int) == 9) = false := beq_eq_false_iff_ne.2 (by omega)
          have g4 : ((s[k].toNat : Int) == 13) = false := beq_eq_false_iff_ne.2 (by omega)
          by_cases h35 : s[k].toNat = 35
          · have g5 : ((s[k].toNat : Int) == 35) = true := beq_iff_eq.2 (by omega)
            obtain ⟨N, hN⟩ : ∃ N, k + ((s.data.toList.drop k).takeWhile notNl).length = N := ⟨_, rfl⟩
            have hN1 : k + 1 + ((s.data.toList.drop (k + 1)).takeWhile notNl).length = N := by
              rw [← hN, HDR.out, List.takeWhile_cons_of_pos (by simp [notNl, h10])]; simp; omega
            have HQ2 := Lib.hid (show restS ts (s.data.toList.drop N) (line : Int) ((N : Int) - (bg : Int) + 1) = R by
              rw [← HQ.out, HDR.out]
              refine (rest_same ?_).symm
              rw [split_note h35, List.drop_drop, hN1]
              congr 1
              omega)
            have hN2 : N ≤ s.size := by
              have := takeWhile_len notNl (s.data.toList.drop (k + 1))
              rw [List.length_drop, size_list] at this
              omega
            have hN3 : k + 1 ≤ N := by omega
            have HN := Lib.hid hN
            clear HDR HQ hcb h10 h35 hN hN1 hbl
            go_wp2_with fail
            go_loop [7] (fun i => ∃ j : Nat, i = .int .i64 j ∧ k ≤ j ∧ j ≤ s.size ∧ j + ((s.data.toList.drop j).takeWhile notNl).length = N) (fun i => s.size - (intOf i).toNat)
            case atStart => exact ⟨k, rfl, by omega, by omega, HN.out⟩
            case round =>
              obtain ⟨j, rfl, hj1, hj, hjq⟩ := hrel
              have HJ := Lib.hid hjq
              clear hjq
              by_cases hjlt : j < s.size
              · have HDJ := Lib.hid (drop_cons s j hjlt)
                have hcb := s[j].toNat_lt
                have hj0 : (0 : Int) ≤ (j : Int) := by omega
                have hji : (j : Int) < (s.size : Int) := by omega
                by_cases hjn : s[j].toNat = 10
                · have f1 : ((s[j].toNat : Int) != 10) = false := by simp [hjn]
                  have HJ2 := Lib.hid (show j = N by
                    rw [← HJ.out, HDJ.out, List.takeWhile_cons_of_neg (by simp [notNl, hjn])]; simp)
                  clear HDJ HJ hcb hjn
                  go_wp2_with fail
                  go_roundw
                  case rel => exact ⟨N, line, bg, ts, by rw [HJ2.out], by go_num, by go_num, by omega, by omega, by omega, by omega, HO.out, HQ2.out, HB.out⟩
                  case measure => rw [HJ2.out]; simp [intOf]; omega
                · have f1 : ((s[j].toNat : Int) != 10) = true := bne_iff_ne.2 (by omega)
                  have HJ2 := Lib.hid (show j + 1 + ((s.data.toList.drop (j + 1)).takeWhile notNl).length = N by
                    rw [← HJ.out, HDJ.out, List.takeWhile_cons_of_pos (by simp [notNl, hjn])]; simp; omega)
                  clear HDJ HJ hcb hjn
                  go_wp2_with fail
                  go_round
                  case rel => exact ⟨j + 1, by go_num, by omega, by omega, HJ2.out⟩
                  case measure => simp [intOf]; omega
              · have hji : ¬ (j : Int) < (s.size : Int) := by omega
                have HJ2 := Lib.hid (show j = N by
                  rw [← HJ.out, List.drop_of_length_le (by rw [size_list]; omega)]; simp)
                clear HJ
                go_wp2_with fail
                go_roundw
                case rel => exact ⟨N, line, bg, ts, by rw [HJ2.out], by go_num, by go_num, by omega, by omega, by omega, by omega, HO.out, HQ2.out, HB.out⟩
                case measure => rw [HJ2.out]; simp [intOf]; omega
          · have g5 : ((s[k].toNat : Int) == 35) = false := beq_eq_false_iff_ne.2 (by omega)
            have hpl : plainB s[k] := ⟨h10, by omega, by omega, by omega, h35⟩
            have htk := fun W => tok_tail s W k (by omega) hlt
            rw [HDR.out] at htk
            have hln := tokP_len (s[k] :: s.data.toList.drop (k + 1))
            rw [← HDR.out, List.length_drop, size_list, HDR.out] at hln
            by_cases hz : (tokP (s[k] :: s.data.toList.drop (k + 1))).2.1 = 0
            · have HQ2 := Lib.hid (show none = R by
                rw [← HQ.out, HDR.out]; exact (rest_none (split_bad hpl hz)).symm)
              generalize tokP (s[k] :: s.data.toList.drop (k + 1)) = t at htk hz hln
              obtain ⟨kd, n, tx⟩ := t
              dsimp only at hz hln
              subst hz
              unfold tokV at htk
              have HTK := Lib.hid htk
              clear htk HDR HQ hcb h10 hbl h35 hpl
              go_wp2_with (go_at_call 46; refine (HTK.out _).mono ?_; rintro e w1 ⟨rfl, hb1⟩)
              go_ret2
              exact ⟨by rw [← HQ2.out]; rfl, HB.out.trans (hb1.mono HB.out.size)⟩
            · have hqq := show restS (ts ++ [⟨((tokP (s[k] :: s.data.toList.drop (k + 1))).1 : Int), (tokP (s[k] :: s.data.toList.drop (k + 1))).2.2, (line : Int), (k : Int) - (bg : Int) + 1⟩]) (s.data.toList.drop (k + (tokP (s[k] :: s.data.toList.drop (k + 1))).2.1)) (line : Int) (((k + (tokP (s[k] :: s.data.toList.drop (k + 1))).2.1 : Nat) : Int) - (bg : Int) + 1) = R by
                rw [← HQ.out, HDR.out]
                refine (rest_tok ?_).symm
                rw [split_tok hpl hz, ← HDR.out, List.drop_drop]
                congr 2
                omega
              generalize tokP (s[k] :: s.data.toList.drop (k + 1)) = t at htk hz hln hqq
              obtain ⟨kd, n, tx⟩ := t
              dsimp only at hz hln hqq
              unfold tokV at htk
              have HTK := Lib.hid htk
              have HQ2 := Lib.hid hqq
              have hz1 : 1 ≤ n := by omega
              have hz0 : ((n : Int) == 0) = false := beq_eq_false_iff_ne.2 (by omega)
              have hzi : ¬ (n : Int) = 0 := by omega
              clear htk HDR HQ hcb h10 hbl h35 hpl hqq hz
              go_wp2_with (first | (go_at_call 46; refine (HTK.out _).mono ?_; rintro e w1 ⟨rfl, hb1⟩; have HB1 := Lib.hid hb1; have HO1 := Lib.hid (HO.out.step hb1); have HB2 := Lib.hid (HB.out.trans (hb1.mono HB.out.size)); clear hb1) | (at_builtin; refine wpList_appK 62 70 Tryd.underlying62 info39 rfl (.tmp 60) (.tmp 69) rfl w.heap.size _ ts rfl (HO1.out.step (bel_new _ _)) _ ⟨(kd : Int), tx, (line : Int), (k : Int) - (bg : Int) + 1⟩ rfl (tok_cells 70 _ _) (by omega) (by have := HB2.out.size; simp; omega) ?_; intro v' w2 hown' hb' hz'))
              go_roundw
              case rel => exact ⟨k + n, line, bg, _, by go_num, by go_num, by go_num, by omega, by omega, by omega, by simp; omega, hown', HQ2.out, (HB2.out.trans ((bel_new w1 _).mono HB2.out.size)).trans hb'⟩
              case measure => simp [intOf]; omega
    · obtain rfl : k = s.size := by omega
      have HQ2 := Lib.hid (show some (ts ++ [⟨5, [], (line : Int), (s.size : Int) - (bg : Int) + 1⟩]) = R by
        rw [← HQ.out, List.drop_of_length_le (by rw [size_list]; omega), rest_end])
      clear HQ
      go_wp2_with (at_builtin; refine wpList_appK 62 70 Tryd.underlying62 info39 rfl (.tmp 74) (.tmp 82) rfl w.heap.size _ ts rfl (HO.out.step (bel_new _ _)) _ ⟨5, [], (line : Int), (s.size : Int) - (bg : Int) + 1⟩ rfl (tok_cells 70 _ _) (by omega) (by have := HB.out.size; simp; omega) ?_; intro v' w1 hown' hb' hz')
      go_ret2
      exact ⟨by rw [← HQ2.out]; exact ⟨_, rfl, hown'⟩, (HB.out.trans ((bel_new wr _).mono HB.out.size)).trans hb'⟩
end Go.Proofs.YtogkiifljdnjgaaDoor

/- Reading lists of tokens; large texts; the fixed example; whether two lists are the same. No condition beyond a list's length. -/
namespace Go.Proofs.YtogkiifljdnjgaaDoor
open Go.RowKit
set_option linter.unusedVariables false
set_option linter.unusedSimpArgs false

def TokAt (w : World) (g o : Nat) (e : Tok) : Prop :=
  w.cell? ⟨g, o, none⟩ = some (.int .i64 e.kind) ∧ w.cell? ⟨g, o + 1, none⟩ = some (.string ⟨e.text.toArray⟩) ∧ w.cell? ⟨g, o + 2, none⟩ = some (.int .i64 e.line) ∧ w.cell? ⟨g, o + 3, none⟩ = some (.int .i64 e.col)
theorem TokAt.step {w w' : World} {g o : Nat} {e : Tok} (h : TokAt w g o e) (hb : Below w.heap.size w w') : TokAt w' g o e := by
  obtain ⟨h0, h1, h2, h3⟩ := h
  exact ⟨keep_at hb h0, keep_at hb h1, keep_at hb h2, keep_at hb h3⟩
theorem TokAt.drewN {w : World} {g o n : Nat} {e : Tok} (h : TokAt w g o e) : TokAt (w.drewN n) g o e := h
theorem flat4 : ∀ (es : List Tok) (k : Nat) (e : Tok), es[k]? = some e → ∀ i, i < 4 → (es.flatMap tcells)[k * 4 + i]? = (tcells e)[i]? := by
  intro es
  induction es with
  | nil => intro k e hk; simp at hk
  | cons q es ih =>
    intro k e hk i hi
    rw [List.flatMap_cons]
    cases k with
    | zero =>
      simp at hk
      subst hk
      rw [List.getElem?_append_left (by simp [tcells]; omega)]
      simp
    | succ k =>
      have hl : (tcells q).length = 4 := rfl
      rw [List.getElem?_append_right (by rw [hl]; omega), hl, show (k + 1) * 4 + i - 4 = k * 4 + i by omega]
      exact ih k e (by simpa using hk) i hi
theorem OwnK.cells {T : TypeId} {w : World} {base g c : Nat} {es : List Tok} (h : OwnK T w base (.slice (some ⟨g, 0, none⟩) es.length c) es) (k : Nat) (e : Tok) (hk : es[k]? = some e) (i : Nat) (hi : i < 4) : w.cell? ⟨g, k * 4 + i, none⟩ = (tcells e)[i]? := by
  have hlt : k < es.length := (List.getElem?_eq_some_iff.1 hk).1
  rw [World.ownsRow.cellAt h (k * 4 + i) (by omega)]
  exact flat4 es k e hk i hi
/-- A list of tokens, as it is read. -/
def IsK (w : World) (v : Value) (es : List Tok) : Prop :=
  (es = [] ∧ ∃ a cap, v = .slice a 0 cap) ∨
  (es ≠ [] ∧ ∃ g cap, v = .slice (some ⟨g, 0, none⟩) es.length cap ∧ ∀ k e, es[k]? = some e → TokAt w g (k * 4) e)
theorem IsK.nil (w : World) : IsK w (.slice none 0 0) [] := .inl ⟨rfl, none, 0, rfl⟩
theorem IsK.shape {w : World} {v : Value} {es : List Tok} (h : IsK w v es) : ∃ a cap, v = .slice a es.length cap := by
  rcases h with ⟨rfl, a, cap, rfl⟩ | ⟨_, g, cap, rfl, _⟩
  · exact ⟨a, cap, rfl⟩
  · exact ⟨_, cap, rfl⟩
theorem IsK.step {w w' : World} {v : Value} {es : List Tok} (h : IsK w v es) (hb : Below w.heap.size w w') : IsK w' v es := by
  rcases h with h | ⟨h0, g, cap, hv, hc⟩
  · exact .inl h
  · exact .inr ⟨h0, g, cap, hv, fun k e hk => (hc k e hk).step hb⟩
theorem IsK.elem {w : World} {v : Value} {es : List Tok} (h : IsK w v es) {k : Nat} (hk : k < es.length) : ∃ g cap e, v = .slice (some ⟨g, 0, none⟩) es.length cap ∧ es[k]? = some e ∧ TokAt w g (k * 4) e := by
  rcases h with ⟨rfl, _⟩ | ⟨_, g, cap, hv, hc⟩
  · simp at hk
  · exact ⟨g, cap, es[k], hv, List.getElem?_eq_getElem hk, hc k _ (List.getElem?_eq_getElem hk)⟩
theorem OwnK.isK {T : TypeId} {w : World} {base : Nat} {v : Value} {es : List Tok} (h : OwnK T w base v es) : IsK w v es := by
  have h' := h
  obtain ⟨h0, h1⟩ := h
  rcases h1 with ⟨rfl, hn⟩ | ⟨g, cap, cur, rfl, hb, hg, hn, hm, hs, ht⟩
  · obtain rfl := List.eq_nil_of_length_eq_zero hn
    exact IsK.nil w
  · by_cases hl : es = []
    · subst hl
      exact .inl ⟨rfl, _, _, rfl⟩
    · refine .inr ⟨hl, g, cap, rfl, fun k e hk => ?_⟩
      have hc := fun i hi => OwnK.cells h' k e hk i hi
      exact ⟨hc 0 (by omega), hc 1 (by omega), hc 2 (by omega), hc 3 (by omega)⟩

theorem split_large (s : ByteArray) (w : World) (hs : ¬ s.size ≤ 4096) :
    Calls Tryd.prog 32 #[.string s] w fun e w' => e = .returned (.tuple #[.slice none 0 0, .iface 52 (.int .i64 5)]) ∧ Below w.heap.size w w' := by
  have hsi : (4096 : Int) < (s.size : Int) := by omega
  go_enter Tryd.func32, Tryd.ntmps32
  go_wp2_with fail
  go_ret2
  exact ⟨rfl, Below.refl _ _⟩
def exL : List Tok := [⟨1, [100, 101, 110, 121], 1, 1⟩, ⟨2, [52, 48, 51], 1, 6⟩, ⟨4, [59], 1, 9⟩, ⟨5, [], 1, 10⟩]
theorem ex_split : splitT [100, 101, 110, 121, 32, 52, 48, 51, 59] = some exL := by rfl
theorem split_ex (w : World) : Calls Tryd.prog 32 #[.string ⟨#[100, 101, 110, 121, 32, 52, 48, 51, 59]⟩] w fun e w' => (∃ g c, e = .returned (.tuple #[.slice (some ⟨g, 0, none⟩) 4 c, .nilIface]) ∧ TokAt w' g 0 ⟨1, [100, 101, 110, 121], 1, 1⟩ ∧ TokAt w' g 4 ⟨2, [52, 48, 51], 1, 6⟩ ∧ TokAt w' g 8 ⟨4, [59], 1, 9⟩ ∧ TokAt w' g 12 ⟨5, [], 1, 10⟩) ∧ Below w.heap.size w w' := by
  refine (split_any ⟨#[100, 101, 110, 121, 32, 52, 48, 51, 59]⟩ w (by decide)).mono ?_
  rintro e w' ⟨h, hb⟩
  have hx : splitT (ByteArray.mk #[100, 101, 110, 121, 32, 52, 48, 51, 59]).data.toList = some exL := ex_split
  rw [hx] at h
  obtain ⟨v, rfl, ho⟩ := h
  rcases ho.isK with ⟨h, _⟩ | ⟨_, g, c, rfl, hc⟩
  · cases h
  · exact ⟨⟨g, c, rfl, hc 0 _ rfl, hc 1 _ rfl, hc 2 _ rfl, hc 3 _ rfl⟩, hb⟩
end Go.Proofs.YtogkiifljdnjgaaDoor

/- The walk of the law RulelexKeywords: it returns true wherever the keywords lie as the program's text lays them. -/
namespace Go.Proofs.YtogkiifljdnjgaaDoor
open Go.RowKit
set_option linter.unusedVariables false
set_option linter.unusedSimpArgs false

def kws : List (List UInt8) := [[105, 102], [101, 108, 115, 101], [108, 101, 116], [118, 97, 114, 121], [116, 97, 103], [116, 116, 108], [100, 101, 110, 121], [112, 97, 115, 115], [116, 111, 107, 101, 110], [111, 114], [97, 110, 100], [110, 111, 116], [115, 116, 97, 114, 116, 115], [101, 110, 100, 115], [99, 111, 110, 116, 97, 105, 110, 115], [116, 114, 117, 101], [102, 97, 108, 115, 101]]
/-- The texts L lie from a place on. -/
def TextsAt (w : World) (b off : Nat) (L : List (List UInt8)) : Prop := ∀ i g, L[i]? = some g → w.cell? ⟨b, off + i, none⟩ = some (.string ⟨g.toArray⟩)
theorem TextsAt.step {w w' : World} {b off : Nat} {L : List (List UInt8)} (h : TextsAt w b off L) (hb : Below w.heap.size w w') : TextsAt w' b off L := fun i g hi => keep_at hb (h i g hi)
/-- What the keywords' variable holds. -/
def KW (w : World) : Prop := ∃ b off cap, w.cell? ⟨0, 0, none⟩ = some (.slice (some ⟨b, off, none⟩) 17 cap) ∧ TextsAt w b off kws
theorem KW.step {w w' : World} (h : KW w) (hb : Below w.heap.size w w') : KW w' := by
  obtain ⟨b, off, cap, h1, h2⟩ := h
  exact ⟨b, off, cap, keep_at hb h1, h2.step hb⟩
/-- What an index says of a text. -/
def IdxE (s : List UInt8) (L : List (List UInt8)) (e : Ending) : Prop := ∃ j : Int, e = .returned (.int .i64 j) ∧ (0 ≤ j ↔ s ∈ L)
set_option maxRecDepth 20000 in
set_option maxHeartbeats 1000000 in
theorem index_any (s : ByteArray) (L : List (List UInt8)) (b off cap : Nat) (w : World) (h : TextsAt w b off L) (hl : L.length ≤ 1000) :
    Calls Tryd.prog 93 #[.slice (some ⟨b, off, none⟩) L.length cap, .string s] w fun e w' => IdxE s.data.toList L e ∧ w = w' := by
  have H := Lib.hid h
  have hli : (L.length : Int) ≤ 1000 := by omega
  clear h
  go_enter Tryd.func93, Tryd.ntmps93
  go_wp2_with fail
  go_loop [8] (fun i => ∃ k : Nat, i = .int .i64 k ∧ k ≤ L.length ∧ s.data.toList ∉ L.take k) (fun i => L.length - (intOf i).toNat)
  case atStart => exact ⟨0, rfl, by omega, by simp⟩
  case round =>
    obtain ⟨k, rfl, hk, hno⟩ := hrel
    have HNO := Lib.hid hno
    clear hno
    by_cases hlt : k < L.length
    · have hg := List.getElem?_eq_getElem hlt
      generalize hgg : L[k] = g at hg
      have hcell := H.out k g hg
      have HG := Lib.hid hg
      have hk0 : (0 : Int) ≤ (k : Int) := by omega
      have hki : (k : Int) < (L.length : Int) := by omega
      have HT := Lib.hid (show L.take (k + 1) = L.take k ++ [g] by rw [List.take_succ_eq_append_getElem hlt, hgg])
      clear hg hgg
      by_cases heq : s.data.toList = g
      · have hcmp : (s.toList == g) = true := by rw [ByteArray.toList_eq, heq]; simp
        have HM := Lib.hid (show s.data.toList ∈ L by rw [heq]; exact List.mem_of_getElem? HG.out)
        clear heq
        go_wp2_with fail
        go_ret
        exact ⟨⟨k, rfl, by simp [HM.out]⟩, rfl⟩
      · have hcmp : (s.toList == g) = false := by rw [ByteArray.toList_eq]; exact beq_eq_false_iff_ne.2 heq
        have HM := Lib.hid (show s.data.toList ∉ L.take (k + 1) by rw [HT.out]; simp [HNO.out, heq])
        clear heq
        go_wp2_with fail
        go_round
        case rel => exact ⟨k + 1, by go_num, by omega, HM.out⟩
        case measure => simp [intOf]; omega
    · obtain rfl : k = L.length := by omega
      have HM := Lib.hid (show s.data.toList ∉ L by have := HNO.out; rwa [List.take_length] at this)
      go_wp2_with fail
      go_ret
      exact ⟨⟨-1, rfl, by simp [HM.out]⟩, rfl⟩
theorem contains_any (s : ByteArray) (L : List (List UInt8)) (b off cap : Nat) (w : World) (h : TextsAt w b off L) (hl : L.length ≤ 1000) :
    Calls Tryd.prog 83 #[.slice (some ⟨b, off, none⟩) L.length cap, .string s] w fun e w' => e = .returned (.bool (decide (s.data.toList ∈ L))) ∧ w = w' := by
  have HI := Lib.hid (index_any s L b off cap w h hl)
  clear h
  go_enter Tryd.func83, Tryd.ntmps83
  go_wp2_with (go_at_call 93; refine HI.out.mono ?_; rintro e w' ⟨⟨j, rfl, hj⟩, rfl⟩; have HJ := Lib.hid hj; clear hj)
  go_ret
  exact ⟨ret_bool (by rw [Bool.eq_iff_iff]; simp [HJ.out]), rfl⟩
theorem keyword_any (s : ByteArray) (w : World) (h : KW w) :
    Calls Tryd.prog 63 #[.string s] w fun e w' => e = .returned (.bool (decide (s.data.toList ∈ kws))) ∧ w = w' := by
  obtain ⟨b, off, cap, h1, h2⟩ := h
  have HI := Lib.hid (contains_any s kws b off cap w h2 (by decide))
  clear h2
  go_enter Tryd.func63, Tryd.ntmps63
  go_wp2_with (go_at_call 83; refine HI.out.mono ?_; rintro e w' ⟨rfl, rfl⟩)
  go_ret
  exact ⟨rfl, rfl⟩
def kwCells : Array Value := (kws.map fun g => Value.string ⟨g.toArray⟩).toArray
theorem kw_cell (w : World) : TextsAt (w.alloc (.cells kwCells 9)) w.heap.size 0 kws := by
  intro j g h
  rw [cell_of_row _ _ _ _ _ _ (heap_alloc_new w _)]
  simp [kwCells, h]
def KwsE (w' : World) (B : Nat) (e : Ending) : Prop := ∃ b, e = .returned (.slice (some ⟨b, 0, none⟩) 17 17) ∧ TextsAt w' b 0 kws
theorem keywords_any (w : World) : Calls Tryd.prog 92 #[] w fun e w' => KwsE w' w.heap.size e ∧ Below w.heap.size w w' := by
  have HK := Lib.hid (kw_cell w)
  go_enter Tryd.func92, Tryd.ntmps92
  go_wp2_with fail
  go_ret
  exact ⟨⟨_, rfl, HK.out⟩, bel_new _ _⟩
set_option maxRecDepth 20000 in
set_option maxHeartbeats 1000000 in
theorem rkeyword_any (s : ByteArray) (w : World) :
    Calls Tryd.prog 80 #[.string s] w fun e w' => e = .returned (.bool (decide (s.data.toList ∈ kws))) ∧ Below w.heap.size w w' := by
  obtain ⟨R, hR⟩ : ∃ R, decide (s.data.toList ∈ kws) = R := ⟨_, rfl⟩
  rw [hR]
  have HR := Lib.hid hR
  clear hR
  go_enter Tryd.func80, Tryd.ntmps80
  go_wp2_with (go_at_call 92; refine (keywords_any _).mono ?_; rintro e w1 ⟨⟨b, rfl, ht⟩, hb⟩; have HT := Lib.hid ht; have HB := Lib.hid hb; clear ht hb)
  go_loop [8] (fun i => ∃ k : Nat, i = .int .i64 k ∧ k ≤ 17 ∧ s.data.toList ∉ kws.take k) (fun i => 17 - (intOf i).toNat)
  case atStart => exact ⟨0, rfl, by omega, by simp⟩
  case round =>
    obtain ⟨k, rfl, hk, hno⟩ := hrel
    have HNO := Lib.hid hno
    clear hno
    by_cases hlt : k < 17
    · have hg : kws[k]? = some (kws[k]'hlt) := List.getElem?_eq_getElem hlt
      have htk : kws.take (k + 1) = kws.take k ++ [kws[k]'hlt] := List.take_succ_eq_append_getElem hlt
      generalize kws[k]'hlt = g at hg htk
      have hcell := HT.out k g hg
      have HG := Lib.hid hg
      have HTK := Lib.hid htk
      have hk0 : (0 : Int) ≤ (k : Int) := by omega
      rw [Nat.zero_add] at hcell
      clear hg htk
      by_cases heq : s.data.toList = g
      · have hcmp : (g == s.toList) = true := by rw [ByteArray.toList_eq, heq]; simp
        have HM := Lib.hid (show true = R by rw [← HR.out]; symm; rw [decide_eq_true_iff, heq]; exact List.mem_of_getElem? HG.out)
        clear heq
        go_wp2_with fail
        go_ret
        exact ⟨ret_bool HM.out, HB.out⟩
      · have hcmp : (g == s.toList) = false := by rw [ByteArray.toList_eq]; exact beq_eq_false_iff_ne.2 (Ne.symm heq)
        have HM := Lib.hid (show s.data.toList ∉ kws.take (k + 1) by rw [HTK.out]; simp [HNO.out, heq])
        clear heq
        go_wp2_with fail
        go_round
        case rel => exact ⟨k + 1, by go_num, by omega, HM.out⟩
        case measure => simp [intOf]; omega
    · obtain rfl : k = 17 := by omega
      have HM := Lib.hid (show false = R by
        rw [← HR.out]; symm
        rw [decide_eq_false_iff_not]
        have := HNO.out
        rwa [show kws.take 17 = kws from rfl] at this)
      go_wp2_with fail
      go_ret
      exact ⟨ret_bool HM.out, HB.out⟩
end Go.Proofs.YtogkiifljdnjgaaDoor
