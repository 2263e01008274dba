/- Appends and boxes in regions that draw their order. No condition. -/
import Derived.Test.YtnieoaadhbcjiaaLarge
namespace Go.Proofs.Ytnieoaadhbcjiaa
open Go.RowKit
set_option linter.unusedVariables false
set_option linter.unusedSimpArgs false

theorem bel_app {w W w' : World} {base : Nat} (h : Below w.heap.size w W) (hb : Below base W w') (hle : w.heap.size ≤ base) : Below w.heap.size w w' := h.trans (hb.mono hle)
theorem OwnB.alloc {w : World} {base : Nat} {v : Value} {l : List UInt8} {o : Obj} (h : OwnB w base v l) : OwnB (w.alloc o) base v l := h.step (bel_new w o)
theorem size_drew {w : World} {n : Nat} (h : n ≤ w.heap.size) : n ≤ w.drew.heap.size := h
theorem size_alloc {w : World} {o : Obj} {n : Nat} (h : n ≤ w.heap.size) : n ≤ (w.alloc o).heap.size := Nat.le_trans h (bel_new w o).size
theorem size_bel {w w' : World} {B n : Nat} (hb : Below B w w') (h : n ≤ w.heap.size) : n ≤ w'.heap.size := Nat.le_trans h hb.size

theorem OwnB.made' (w : World) (base n : Nat) (hn : w.heap.size = n) (hb : base ≤ n) : OwnB (w.alloc (.cells #[] 5)) base (.slice (some ⟨n, 0, none⟩) 0 0) [] := by
  subst hn
  exact OwnB.made w base hb
/-- A block that is no row of bytes. -/
def box40 : Obj := .cells #[.int .i64 0, .int .i64 0, .slice none 0 0] 40
theorem own_ne {w : World} {base b : Nat} {v : Value} {l : List UInt8} (h : OwnB w base v l) (hb : w.heap[b]? = some box40) : v.ownBlock ≠ some b := by
  intro e
  rcases h.2 with ⟨rfl, _⟩ | ⟨g, cap, cur, rfl, _, hg, _⟩
  · simp [Value.ownBlock] at e
  · simp [Value.ownBlock] at e
    subst e
    rw [hb] at hg
    simp [box40] at hg
theorem step_apk {ops : Array Oper} {o : Oper} {a : Act} {K : Act → World → Prop} {Q : Exit → Act → World → Prop} {E : Prop} {w : World} (hgd : o.guard = none) (s x : Operand)
    (ho : o.op = .call { callee := .builtin .append, args := #[s, x], argTypes := #[23, 23] })
    (base : Nat) (v : Value) (l : List UInt8) (hs : a.eval s = v) (hown : OwnB w base v l) (u : Value) (l2 : List UInt8) (hx : a.eval x = u) (hu : IsB w u l2)
    (hb : l.length + l2.length ≤ 140737488355328) (hbase : base ≤ w.heap.size)
    (h : ∀ (v' : Value) (w' : World), OwnB w' base v' (l ++ l2) → Below base w w' → w.heap.size ≤ w'.heap.size → (∀ b : Nat, w.heap[b]? = some box40 → w'.heap[b]? = some box40) → K (a.put o.dst v') w') :
    if Region.wanted o (yielded ops a.tmps) = true then Oper.wp Try.prog o a w K Q else E := by
  have hw : Region.wanted o (yielded ops a.tmps) = true := by simp [Region.wanted, hgd]
  rw [if_pos hw]
  obtain ⟨i0, hi, hz0, hz1, hz2⟩ := info_parts info5
  rcases hu.news with ⟨rfl, rfl⟩ | ⟨ad, cap, rfl, hc, hm, hcells⟩
  · have hrun := run_append_owned_none (P := Try.prog) (w := w) base 23 o.type 5 i0 1 Try.underlying23 hi v l.length (l.map bcell) hown
    unfold Oper.wp
    simp [execOp, ho, resolve, invoke, builtin, hs, hx, hrun, Result.andThen]
    exact h v w (by simpa using hown) (Below.refl _ _) (Nat.le_refl _) (fun _ h => h)
  · refine wp_append_own w s x 23 ho base 5 i0 (.int .u8 0) 1 1 Try.underlying23 hi hz0 hz1 hz2 rfl (by decide) v l.length (l.map bcell) hs hown ad l2.length cap (l2.map bcell) hx (by simp) hcells (bcell_one l2)
      (by unfold maxLen; omega) (by omega) hbase ?_
    intro v' w' hown' hgrow hnil
    refine h v' w' (by simpa [OwnB] using hown') ((Below.refl base w).grown hgrow hbase fun k hk => (World.ownsRow.lt hown k hk).1) hgrow.size (fun b hb => ?_)
    have hlt : b < w.heap.size := by
      rcases Nat.lt_or_ge b w.heap.size with h | h
      · exact h
      · rw [Array.getElem?_eq_none h] at hb; cases hb
    exact (hgrow.block b hlt (fun e => own_ne hown hb e.symm)).trans hb
theorem keep_blk {W w' : World} (hb : Below W.heap.size W w') {b : Nat} (h : W.heap[b]? = some box40) : w'.heap[b]? = some box40 := by
  have hlt : b < W.heap.size := by
    rcases Nat.lt_or_ge b W.heap.size with h' | h'
    · exact h'
    · rw [Array.getElem?_eq_none h'] at h; cases h
  exact (hb.block b hlt).trans h
theorem new_blk {w : World} {n : Nat} (h : w.heap.size = n) : (w.alloc box40).heap[n]? = some box40 := by subst h; exact heap_alloc_new w _
theorem old_blk {w : World} {n : Nat} {o : Obj} (h : w.heap[n]? = some box40) : (w.alloc o).heap[n]? = some box40 := keep_blk (bel_new w o) h
theorem box_cells {w : World} {b : Nat} (h : w.heap[b]? = some box40) : w.cell? ⟨b, 0, none⟩ = some (.int .i64 0) ∧ w.cell? ⟨b, 1, none⟩ = some (.int .i64 0) ∧ w.cell? ⟨b, 2, none⟩ = some (.slice none 0 0) ∧
    w.frozen? ⟨b, 0, none⟩ = false ∧ w.frozen? ⟨b, 1, none⟩ = false ∧ w.frozen? ⟨b, 2, none⟩ = false := by
  have h' : w.heap[b]? = some (.cells #[.int .i64 0, .int .i64 0, .slice none 0 0] 40) := h
  refine ⟨?_, ?_, ?_, ?_, ?_, ?_⟩ <;> simp [World.cell?, World.frozen?, h'] <;> rfl

/-- A block that holds no byte. -/
def NoB (w : World) (g : Nat) : Prop := ∀ o n, w.cell? ⟨g, o, none⟩ ≠ some (.int .u8 n)
theorem NoB.box {w : World} {g : Nat} (h : w.heap[g]? = some box40) : NoB w g := by
  intro o n e
  have h' : w.heap[g]? = some (.cells #[.int .i64 0, .int .i64 0, .slice none 0 0] 40) := h
  rw [cell_of_row w g o _ _ _ h'] at e
  match o, e with
  | 0, e => simp at e
  | 1, e => simp at e
  | 2, e => simp at e
  | o + 3, e => simp at e
theorem NoB.set {w : World} {g o : Nat} {u : Value} (h : NoB w g) (hu : ∀ n, u ≠ .int .u8 n) : NoB (w.setCell ⟨g, o, none⟩ u) g := by
  intro o' n e
  by_cases ho : o' = o
  · subst ho
    cases hc : w.cell? ⟨g, o', none⟩ with
    | none =>
      have hn : (w.setCell ⟨g, o', none⟩ u).cell? ⟨g, o', none⟩ = none := by
        unfold World.cell? at hc ⊢
        simp only [World.setCell, Array.getElem?_modify, ↓reduceIte]
        cases hb : w.heap[g]? with
        | none => simp
        | some ob =>
          rw [hb] at hc
          cases ob <;> simp_all
      rw [hn] at e
      cases e
    | some v0 =>
      have hs : (w.setCell ⟨g, o', none⟩ u).cell? ⟨g, o', none⟩ = some u := World.cell?_setCell_same _ _ _ hc
      rw [hs] at e
      injection e with e
      exact hu n e
  · have hs : (w.setCell ⟨g, o, none⟩ u).cell? ⟨g, o', none⟩ = w.cell? ⟨g, o', none⟩ := World.cell?_setCell_other _ _ _ _ (by intro h; injection h with _ h _; exact ho h.symm)
    rw [hs] at e
    exact h o' n e
theorem IsB.set {w : World} {g o : Nat} {u : Value} {v : Value} {l : List UInt8} (h : NoB w g) (hv : IsB w v l) : IsB (w.setCell ⟨g, o, none⟩ u) v l := by
  rcases hv with hv | ⟨h0, b, off, cap, rfl, h1, h2, h3⟩
  · exact .inl hv
  · refine .inr ⟨h0, b, off, cap, rfl, h1, h2, fun i c hi => ?_⟩
    refine keep_set (fun e => ?_) (h3 i c hi)
    subst e
    exact h _ _ (h3 i c hi)
theorem fin_box {w w5 : World} {g : Nat} {x y : Int} {a5 : Option Addr} {n5 c5 : Nat} {vE : Value} {E l : List UInt8} {z : Value} (hg : w5.heap[g]? = some box40) (hB : Below w.heap.size w w5) (hlt : w.heap.size < g)
    (hu : IsB w5 (.slice a5 n5 c5) l) (hE : IsB w5 vE E) (hx : w5.cell? ⟨w.heap.size, 0, none⟩ = some z) :
    (((w5.setCell ⟨g, 0, none⟩ (.int .i64 x)).setCell ⟨g, 1, none⟩ (.int .i64 y)).setCell ⟨g, 2, none⟩ (.slice a5 n5 c5)).cell? ⟨g, 0, none⟩ = some (.int .i64 x) ∧
    (((w5.setCell ⟨g, 0, none⟩ (.int .i64 x)).setCell ⟨g, 1, none⟩ (.int .i64 y)).setCell ⟨g, 2, none⟩ (.slice a5 n5 c5)).cell? ⟨g, 1, none⟩ = some (.int .i64 y) ∧
    (((w5.setCell ⟨g, 0, none⟩ (.int .i64 x)).setCell ⟨g, 1, none⟩ (.int .i64 y)).setCell ⟨g, 2, none⟩ (.slice a5 n5 c5)).cell? ⟨g, 2, none⟩ = some (.slice a5 n5 c5) ∧
    IsB (((w5.setCell ⟨g, 0, none⟩ (.int .i64 x)).setCell ⟨g, 1, none⟩ (.int .i64 y)).setCell ⟨g, 2, none⟩ (.slice a5 n5 c5)) (.slice a5 n5 c5) l ∧
    IsB (((w5.setCell ⟨g, 0, none⟩ (.int .i64 x)).setCell ⟨g, 1, none⟩ (.int .i64 y)).setCell ⟨g, 2, none⟩ (.slice a5 n5 c5)) vE E ∧
    Below w.heap.size w (((w5.setCell ⟨g, 0, none⟩ (.int .i64 x)).setCell ⟨g, 1, none⟩ (.int .i64 y)).setCell ⟨g, 2, none⟩ (.slice a5 n5 c5)) ∧
    (((w5.setCell ⟨g, 0, none⟩ (.int .i64 x)).setCell ⟨g, 1, none⟩ (.int .i64 y)).setCell ⟨g, 2, none⟩ (.slice a5 n5 c5)).cell? ⟨w.heap.size, 0, none⟩ = some z ∧
    w.heap.size < (((w5.setCell ⟨g, 0, none⟩ (.int .i64 x)).setCell ⟨g, 1, none⟩ (.int .i64 y)).setCell ⟨g, 2, none⟩ (.slice a5 n5 c5)).heap.size := by
  obtain ⟨d0, d1, d2, _⟩ := box_cells hg
  have hN := NoB.box hg
  have hN1 := hN.set (o := 0) (u := .int .i64 x) (by intro n h; cases h)
  have hN2 := hN1.set (o := 1) (u := .int .i64 y) (by intro n h; cases h)
  have hk := keep_set (g := g) (k := 2) (u := .slice a5 n5 c5) (by omega) (keep_set (g := g) (k := 1) (u := .int .i64 y) (by omega) (keep_set (g := g) (k := 0) (u := .int .i64 x) (show w.heap.size ≠ g by omega) hx))
  refine ⟨by simp [go_sem, d0, d1, d2], by simp [go_sem, d0, d1, d2], by simp [go_sem, d0, d1, d2], IsB.set hN2 (IsB.set hN1 (IsB.set hN hu)), IsB.set hN2 (IsB.set hN1 (IsB.set hN hE)), ?_, hk, World.block_lt_of_cell? _ _ hk⟩
  exact ((hB.setCell (p := ⟨g, 0, none⟩) (by show w.heap.size ≤ g; omega) _).setCell (p := ⟨g, 1, none⟩) (by show w.heap.size ≤ g; omega) _).setCell (p := ⟨g, 2, none⟩) (by show w.heap.size ≤ g; omega) _

theorem fin_new {w w5 : World} {x y : Int} {a5 : Option Addr} {n5 c5 : Nat} {vE : Value} {E l : List UInt8} {z : Value} (hB : Below w.heap.size w w5)
    (hu : IsB w5 (.slice a5 n5 c5) l) (hE : IsB w5 vE E) (hx : w5.cell? ⟨w.heap.size, 0, none⟩ = some z) :
    (w5.alloc (.cells #[.int .i64 x, .int .i64 y, .slice a5 n5 c5] 40)).cell? ⟨w5.heap.size, 0, none⟩ = some (.int .i64 x) ∧
    (w5.alloc (.cells #[.int .i64 x, .int .i64 y, .slice a5 n5 c5] 40)).cell? ⟨w5.heap.size, 1, none⟩ = some (.int .i64 y) ∧
    (w5.alloc (.cells #[.int .i64 x, .int .i64 y, .slice a5 n5 c5] 40)).cell? ⟨w5.heap.size, 2, none⟩ = some (.slice a5 n5 c5) ∧
    IsB (w5.alloc (.cells #[.int .i64 x, .int .i64 y, .slice a5 n5 c5] 40)) (.slice a5 n5 c5) l ∧
    IsB (w5.alloc (.cells #[.int .i64 x, .int .i64 y, .slice a5 n5 c5] 40)) vE E ∧
    Below w.heap.size w (w5.alloc (.cells #[.int .i64 x, .int .i64 y, .slice a5 n5 c5] 40)) ∧
    (w5.alloc (.cells #[.int .i64 x, .int .i64 y, .slice a5 n5 c5] 40)).cell? ⟨w.heap.size, 0, none⟩ = some z ∧
    w.heap.size < (w5.alloc (.cells #[.int .i64 x, .int .i64 y, .slice a5 n5 c5] 40)).heap.size := by
  have hk := keep_alloc (x := .cells #[.int .i64 x, .int .i64 y, .slice a5 n5 c5] 40) hx
  exact ⟨by simp [go_sem], by simp [go_sem], by simp [go_sem], hu.step (bel_new _ _), hE.step (bel_new _ _), bel_alloc hB, hk, World.block_lt_of_cell? _ _ hk⟩
end Go.Proofs.Ytnieoaadhbcjiaa
