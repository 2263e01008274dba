/- Byte slices: what a slice value reads as, and how it stays so; append, over this program's types. No condition. -/
import Derived.Test.YthhooocckfljaaaRows
import Derived.WalkKit
import Derived.WalkSpells
import Derived.WalkLawsBesides
import Derived.Laws.AppendOwnNone
import Derived.Lib.AppendStr
import Derived.Lib.Hide
import Derived.Deep.QuietTactic
import Derived.BigQuiet
import Derived.Deep.RegionHeld3
import Derived.Deep.LoopGhost
import Derived.Deep.DeepCutAuto
namespace Go.Proofs.Ythhooocckfljaaa
open Go.RowKit
set_option linter.unusedVariables false
set_option linter.unusedSimpArgs false

/-! ### Endings -/
theorem ret_int {k : IntKind} {a b : Int} (h : a = b) : Ending.returned (.int k a) = .returned (.int k b) := by rw [h]
theorem ret_bool {a b : Bool} (h : a = b) : Ending.returned (.bool a) = .returned (.bool b) := by rw [h]
theorem ret_int2 {k l : IntKind} {a b c d : Int} (h : a = b) (g : c = d) : Ending.returned (.tuple #[.int k a, .int l c]) = .returned (.tuple #[.int k b, .int l d]) := by rw [h, g]

/-! ### What lies below stays -/
theorem bel_draws {B : Nat} {a w : World} (h : Below B a w) (n : Nat) : Below B a (w.drewN n) :=
  { os := h.os, tape := h.tape, output := h.output, size := h.size, block := h.block }
theorem below_cells {W w' : World} (h : Below W.heap.size W w') : ∀ b o, b < W.heap.size → w'.cell? ⟨b, o, none⟩ = W.cell? ⟨b, o, none⟩ :=
  fun b o hb => h.cell (p := ⟨b, o, none⟩) hb
theorem bel_step {w W w' : World} (h : Below w.heap.size w W) (hb : Below W.heap.size W w') : Below w.heap.size w w' := h.trans (hb.mono h.size)
theorem bel_alloc {w W : World} {x : Obj} (h : Below w.heap.size w W) : Below w.heap.size w (W.alloc x) := h.alloc h.size x
theorem bel_drew {w W : World} (h : Below w.heap.size w W) : Below w.heap.size w W.drew := h.drew
theorem bel_drewN {w W : World} {n : Nat} (h : Below w.heap.size w W) : Below w.heap.size w (W.drewN n) := bel_draws h n
theorem bel_new (w : World) (x : Obj) : Below w.heap.size w (w.alloc x) := bel_alloc (Below.refl _ _)
theorem keep_at {W w' : World} (h : Below W.heap.size W w') {b o : Nat} {v : Value} (hc : W.cell? ⟨b, o, none⟩ = some v) : w'.cell? ⟨b, o, none⟩ = some v :=
  (below_cells h b o (World.block_lt_of_cell? W _ hc)).trans hc
theorem keep_alloc {W : World} {x : Obj} {b o : Nat} {v : Value} (hc : W.cell? ⟨b, o, none⟩ = some v) : (W.alloc x).cell? ⟨b, o, none⟩ = some v :=
  keep_at (bel_new W x) hc
theorem keep_drew {W : World} {b o : Nat} {v : Value} (hc : W.cell? ⟨b, o, none⟩ = some v) : W.drew.cell? ⟨b, o, none⟩ = some v := hc
theorem keep_drewN {W : World} {b o n : Nat} {v : Value} (hc : W.cell? ⟨b, o, none⟩ = some v) : (W.drewN n).cell? ⟨b, o, none⟩ = some v := hc
theorem keep_set {W : World} {g k b o : Nat} {u v : Value} (hn : b ≠ g) (hc : W.cell? ⟨b, o, none⟩ = some v) : (W.setCell ⟨g, k, none⟩ u).cell? ⟨b, o, none⟩ = some v :=
  (World.cell?_of_block (w := W) (w' := W.setCell ⟨g, k, none⟩ u) (Below.heap_setCell W ⟨g, k, none⟩ u b hn)).trans hc
theorem still_quiet {P : Program} {f : FuncId} {args : Array Value} {w : World} {n : Nat} {v : Value} (h : Calls P f args (w.drewN n) fun e w' => e = .returned v ∧ w.drewN n = w') :
    Calls P f args (w.drewN n) fun e w' => e = .returned v ∧ ∃ m, w' = w.drewN m :=
  h.mono fun _ _ x => ⟨x.1, n, x.2.symm⟩

/-! ### Byte slices -/
def bcell (c : UInt8) : Value := .int .u8 (c.toNat : Int)
theorem bcell_one (l : List UInt8) : ∀ u ∈ l.map bcell, u.oneCell' = true := by
  intro u hu
  obtain ⟨c, _, rfl⟩ := List.mem_map.1 hu
  rfl

/-- The slice value v reads as the bytes l. -/
def IsB (w : World) (v : Value) (l : List UInt8) : Prop :=
  (l = [] ∧ ∃ a cap, v = .slice a 0 cap ∧ cap ≤ maxLen ∧ (a = none → cap = 0)) ∨
  (l ≠ [] ∧ ∃ b off cap, v = .slice (some ⟨b, off, none⟩) l.length cap ∧ l.length ≤ cap ∧ cap ≤ maxLen ∧ ∀ i c, l[i]? = some c → w.cell? ⟨b, off + i, none⟩ = some (.int .u8 (c.toNat : Int)))
theorem IsB.shape {w : World} {v : Value} {l : List UInt8} (h : IsB w v l) : ∃ a cap, v = .slice a l.length cap ∧ l.length ≤ cap ∧ cap ≤ maxLen ∧ (a = none → cap = 0) := by
  rcases h with ⟨rfl, a, cap, rfl, h1, h2⟩ | ⟨_, b, off, cap, rfl, h1, h2, _⟩
  · exact ⟨a, cap, rfl, Nat.zero_le _, h1, h2⟩
  · exact ⟨_, cap, rfl, h1, h2, fun h => by cases h⟩
theorem IsB.len {w : World} {v : Value} {l : List UInt8} (h : IsB w v l) : l.length ≤ maxLen := by
  obtain ⟨_, cap, _, h1, h2, _⟩ := h.shape
  omega
theorem IsB.step {w w' : World} {v : Value} {l : List UInt8} (h : IsB w v l) (hb : Below w.heap.size w w') : IsB w' v l := by
  rcases h with h | ⟨h0, b, off, cap, rfl, h1, h2, h3⟩
  · exact .inl h
  · exact .inr ⟨h0, b, off, cap, rfl, h1, h2, fun i c hi => keep_at hb (h3 i c hi)⟩
theorem IsB.nil (w : World) : IsB w (.slice none 0 0) [] := .inl ⟨rfl, none, 0, rfl, Nat.zero_le _, fun _ => rfl⟩
theorem IsB.empty (w : World) (a : Option Addr) (cap : Nat) (h : cap ≤ maxLen) (h0 : a = none → cap = 0) : IsB w (.slice a 0 cap) [] := .inl ⟨rfl, a, cap, rfl, h, h0⟩
/-- The slice value's cells, as the laws on append ask for them. -/
theorem IsB.news {w : World} {v : Value} {l : List UInt8} (h : IsB w v l) : (l = [] ∧ v = .slice none 0 0) ∨ ∃ ad cap, v = .slice (some ad) l.length cap ∧ l.length ≤ cap ∧ cap ≤ maxLen ∧ ∀ j u, (l.map bcell)[j]? = some u → w.cell? (ad.add j) = some u := by
  rcases h with ⟨rfl, a, cap, rfl, h1, h2⟩ | ⟨h0, b, off, cap, rfl, h1, h2, h3⟩
  · cases a with
    | none => obtain rfl := h2 rfl; exact .inl ⟨rfl, rfl⟩
    | some ad => exact .inr ⟨ad, cap, rfl, Nat.zero_le _, h1, fun j u hj => by simp at hj⟩
  · refine .inr ⟨⟨b, off, none⟩, cap, rfl, h1, h2, fun j u hj => ?_⟩
    rw [List.getElem?_map] at hj
    cases hc : l[j]? with
    | none => rw [hc] at hj; simp at hj
    | some c =>
      rw [hc] at hj
      simp only [Option.map_some, Option.some.injEq] at hj
      subst hj
      by_cases h0 : j = 0
      · subst h0; simpa [bcell, Addr.add] using h3 0 c hc
      · simpa [bcell, Addr.add, h0] using h3 j c hc

/-- The call owns the bytes l, from block 'base' on. -/
def OwnB (w : World) (base : Nat) (v : Value) (l : List UInt8) : Prop := w.ownsRow base 5 1 v l.length (l.map bcell)
theorem OwnB.isB {w : World} {base : Nat} {v : Value} {l : List UInt8} (h : OwnB w base v l) : IsB w v l := by
  obtain ⟨h0, h1⟩ := h
  rcases h1 with ⟨rfl, hn⟩ | ⟨g, cap, cur, rfl, hb, hg, hn, hm, hs, ht⟩
  · obtain rfl := List.eq_nil_of_length_eq_zero hn
    exact IsB.nil w
  · by_cases hl : l = []
    · subst hl
      exact IsB.empty w _ cap hm (fun h => by cases h)
    · refine .inr ⟨hl, g, 0, cap, rfl, hn, hm, fun i c hi => ?_⟩
      have hh : (l.map bcell)[i]? = some (bcell c) := by rw [List.getElem?_map, hi]; rfl
      rw [← ht] at hh
      have hi' : i < l.length := (List.getElem?_eq_some_iff.1 hi).1
      rw [List.getElem?_take, if_pos (by omega)] at hh
      have : w.cell? ⟨g, i, none⟩ = some (bcell c) := by
        simp only [World.cell?, hg]
        simpa using hh
      simpa [bcell] using this
theorem OwnB.mono {w : World} {base B : Nat} {v : Value} {l : List UInt8} (h : OwnB w base v l) (hB : B ≤ base) : OwnB w B v l := by
  obtain ⟨h0, h1⟩ := h
  refine ⟨h0, ?_⟩
  rcases h1 with h1 | ⟨g, cap, cur, h2, h3, h4⟩
  · exact .inl h1
  · exact .inr ⟨g, cap, cur, h2, Nat.le_trans hB h3, h4⟩
theorem OwnB.step {w w' : World} {base : Nat} {v : Value} {l : List UInt8} (h : OwnB w base v l) (hb : Below w.heap.size w w') : OwnB w' base v l :=
  World.ownsRow.kept (row := none) h ⟨hb.os, hb.tape, hb.output, hb.size, fun k hk _ => hb.block k hk⟩ (by
    cases v.ownBlock with
    | none => exact .inl rfl
    | some k => exact .inr (by simp))
theorem OwnB.nil (w : World) (base : Nat) : OwnB w base (.slice none 0 0) [] := World.ownsRow_nil _ _ _ _
/-- '[]byte{}': a new block without cells. -/
theorem OwnB.made (w : World) (base : Nat) (hb : base ≤ w.heap.size) : OwnB (w.alloc (.cells #[] 5)) base (.slice (some ⟨w.heap.size, 0, none⟩) 0 0) [] :=
  World.ownsRow_made w #[] 0 hb (Nat.zero_le _) rfl

/-- One new cell, as bytes. -/
theorem IsB.one (w : World) (x : Int) (c : UInt8) (h : x = (c.toNat : Int)) : IsB (w.alloc (.cells #[.int .u8 x] 5)) (.slice (some ⟨w.heap.size, 0, none⟩) 1 1) [c] := by
  refine .inr ⟨by simp, w.heap.size, 0, 1, rfl, by simp, by unfold maxLen; omega, fun i d hi => ?_⟩
  match i, hi with
  | 0, hi =>
    simp at hi
    subst hi
    subst h
    simp [go_sem]

theorem info5 : (Try.prog.info? 5).map (fun i => (i.zero, i.size, i.bytes)) = some (some (.int .u8 0), 1, 1) := by kernel_rfl

/-- append of whatever bytes to bytes of the call's own. -/
theorem wpList_app {ops : Array Oper} {rest : List Oper} {o : Oper} {a : Act} {Q : Exit → Act → World → Prop} {w : World} (hgd : o.guard = none) (s x : Operand)
    (ho : o.op = .call { callee := .builtin .append, args := #[s, x], argTypes := #[40, 40] })
    (base : Nat) (v : Value) (l : List UInt8) (hs : a.eval s = v) (hown : OwnB w base v l) (u : Value) (l2 : List UInt8) (hx : a.eval x = u) (hu : IsB w u l2)
    (hb : l.length + l2.length ≤ 140737488355328) (hbase : base ≤ w.heap.size)
    (h : ∀ v' w', OwnB w' base v' (l ++ l2) → Below base w w' → w.heap.size ≤ w'.heap.size → (l ++ l2 ≠ [] → ∃ ad cap, v' = .slice (some ad) (l ++ l2).length cap) → wpList Try.prog ops Q rest (a.put o.dst v') w') : wpList Try.prog ops Q (o :: rest) a w := by
  obtain ⟨i0, hi, hz0, hz1, hz2⟩ := info_parts info5
  rcases hu.news with ⟨rfl, rfl⟩ | ⟨ad, cap, rfl, hc, hm, hcells⟩
  · refine wpList_append_own_none hgd s x 40 ho base 5 i0 1 Try.underlying40 hi v l.length (l.map bcell) hs hown hx ?_
    refine h v w (by simpa using hown) (Below.refl _ _) (Nat.le_refl _) fun hne => ?_
    simp only [List.append_nil] at hne
    rcases hown.2 with ⟨_, h0⟩ | ⟨g, cp, cur, hv, _⟩
    · exact absurd (List.eq_nil_of_length_eq_zero h0) hne
    · exact ⟨_, cp, by simpa using hv⟩
  · refine wpList_append_own _ hgd s x 40 ho base 5 i0 (.int .u8 0) 1 1 Try.underlying40 hi hz0 hz1 hz2 rfl (by decide) v l.length (l.map bcell) hs hown ad l2.length cap (l2.map bcell) hx (by simp) hcells (bcell_one l2)
      (by unfold maxLen; omega) (by omega) hbase ?_
    intro v' w' hown' hgrow hnil
    refine h v' w' ?_ ?_ hgrow.size ?_
    · simpa [OwnB] using hown'
    · refine (Below.refl base w).grown hgrow hbase fun k hk => ?_
      exact (World.ownsRow.lt hown k hk).1
    · intro hne
      rcases hown'.2 with ⟨rfl, h0⟩ | ⟨g, cp, cur, hv, _⟩
      · exact absurd (by simpa using h0) (fun e => hne (List.eq_nil_of_length_eq_zero (by simpa using e)))
      · exact ⟨_, cp, by simpa using hv⟩

/-- append of a string to bytes of the call's own. -/
theorem wpList_app_string {ops : Array Oper} {rest : List Oper} {o : Oper} {a : Act} {Q : Exit → Act → World → Prop} {w : World} (hgd : o.guard = none) (s x : Operand)
    (ho : o.op = .call { callee := .builtin .append, args := #[s, x], argTypes := #[40, 9] })
    (base : Nat) (v : Value) (l : List UInt8) (hs : a.eval s = v) (hown : OwnB w base v l) (t : ByteArray) (hx : a.eval x = .string t)
    (hb : l.length + t.size ≤ 140737488355328) (hbase : base ≤ w.heap.size)
    (h : ∀ v' w', OwnB w' base v' (l ++ t.data.toList) → Below base w w' → w.heap.size ≤ w'.heap.size → (l ≠ [] → ∃ ad cap, v' = .slice (some ad) (l ++ t.data.toList).length cap) → wpList Try.prog ops Q rest (a.put o.dst v') w') : wpList Try.prog ops Q (o :: rest) a w := by
  obtain ⟨i0, hi, hz0, hz1, hz2⟩ := info_parts info5
  refine Lib.wpList_append_own_string _ hgd s x 40 9 ho base 5 i0 Try.underlying40 Try.underlying9 hi hz0 hz1 hz2 v l.length (l.map bcell) hs hown t hx (by unfold maxLen; omega) hb hbase ?_
  intro v' w' hown' hgrow hnil
  have hs' : Lib.strCells t = t.data.toList.map bcell := by
    rfl
  have hsz : t.size = t.data.toList.length := by rw [Array.length_toList]; rfl
  refine h v' w' ?_ ?_ hgrow.size ?_
  · rw [hs'] at hown'
    unfold OwnB
    rw [List.length_append, List.map_append, ← hsz]
    exact hown'
  · refine (Below.refl base w).grown hgrow hbase fun k hk => ?_
    exact (World.ownsRow.lt hown k hk).1
  · intro hne
    rcases hown'.2 with ⟨rfl, h0⟩ | ⟨g, cp, cur, hv, _⟩
    · exact absurd h0 (fun e => hne (List.eq_nil_of_length_eq_zero (by omega)))
    · exact ⟨_, cp, by rw [hv, List.length_append, ← hsz]⟩
end Go.Proofs.Ythhooocckfljaaa
