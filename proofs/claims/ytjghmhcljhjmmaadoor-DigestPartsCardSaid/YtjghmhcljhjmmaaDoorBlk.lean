/- Blocks of cells that are wholly known: words, states, hashes. No condition. -/
import Derived.Test.YtjghmhcljhjmmaaDoorSha
import Derived.Deep.MidRow
import Derived.Lib.SmallJoins
import Derived.Deep.OwnRows
namespace Go.Proofs.YtjghmhcljhjmmaaDoor
open Go.RowKit
set_option linter.unusedVariables false
set_option linter.unusedSimpArgs false

/-- Block b holds the cells c, of type T, none frozen. -/
def VBlk (T : TypeId) (w : World) (b : Nat) (c : List Value) : Prop := w.heap[b]? = some (.cells c.toArray T (0, 0))
theorem VBlk.cell {T : TypeId} {w : World} {b : Nat} {c : List Value} (h : VBlk T w b c) (i : Nat) : w.cell? ⟨b, i, none⟩ = c[i]? := by
  unfold VBlk at h
  simp [World.cell?, h]
theorem VBlk.frozen {T : TypeId} {w : World} {b : Nat} {c : List Value} (h : VBlk T w b c) (i : Nat) : w.frozen? ⟨b, i, none⟩ = false := by
  unfold VBlk at h
  simp [World.frozen?, h]
theorem VBlk.lt {T : TypeId} {w : World} {b : Nat} {c : List Value} (h : VBlk T w b c) : b < w.heap.size := by
  rcases Nat.lt_or_ge b w.heap.size with h' | h'
  · exact h'
  · unfold VBlk at h; rw [Array.getElem?_eq_none h'] at h; cases h
theorem VBlk.bel {T : TypeId} {w w' : World} {B b : Nat} {c : List Value} (h : VBlk T w b c) (hb : Below B w w') (hB : b < B) : VBlk T w' b c := (hb.block b hB).trans h
theorem VBlk.step {T : TypeId} {w w' : World} {b : Nat} {c : List Value} (h : VBlk T w b c) (hb : Below w.heap.size w w') : VBlk T w' b c := h.bel hb h.lt
theorem VBlk.drewN {T : TypeId} {w : World} {b n : Nat} {c : List Value} (h : VBlk T w b c) : VBlk T (w.drewN n) b c := h
theorem VBlk.box (T : TypeId) (w : World) (c : List Value) : VBlk T (w.alloc (.cells c.toArray T)) w.heap.size c := heap_alloc_new w _
theorem VBlk.alloc {T : TypeId} {w : World} {b : Nat} {c : List Value} (h : VBlk T w b c) (o : Obj) : VBlk T (w.alloc o) b c := h.step (bel_new w o)
theorem VBlk.other {T : TypeId} {w : World} {b : Nat} {c : List Value} (h : VBlk T w b c) {a : Addr} (ha : b ≠ a.block) (v : Value) : VBlk T (w.setCell a v) b c :=
  (Below.heap_setCell w a v b ha).trans h
theorem VBlk.set {T : TypeId} {w : World} {b : Nat} {c : List Value} (h : VBlk T w b c) (i : Nat) (v : Value) : VBlk T (w.setCell ⟨b, i, none⟩ v) b (c.set i v) := by
  have := Joins.block_setCell (i := i) h v
  unfold VBlk
  rw [this, List.setIfInBounds_toArray]
theorem VBlk.range {T : TypeId} {w : World} {b : Nat} {c : List Value} (h : VBlk T w b c) (o : Nat) (d : List Value) (hd : ∀ j v, d[j]? = some v → c[o + j]? = some v) : w.rangeAt b o d := by
  intro j v hj
  rw [h.cell]
  exact hd j v hj
theorem VBlk.there {T : TypeId} {w : World} {b : Nat} {c : List Value} (h : VBlk T w b c) (o n : Nat) (hn : o + n ≤ c.length) : w.there b o n := by
  intro j hj
  refine ⟨?_, h.frozen _⟩
  rw [h.cell, List.getElem?_eq_getElem (by omega)]
  rfl
/-- What is not in block b is as it was. -/
theorem setMany_other (b : Nat) : ∀ (vs : List Value) (o : Nat) (w : World) (k : Nat), k ≠ b → (w.setCells b o vs).heap[k]? = w.heap[k]?
  | [], o, w, k, h => rfl
  | v :: vs, o, w, k, h => by
    rw [World.setCells, setMany_other b vs (o + 1) _ k h]
    exact Below.heap_setCell w ⟨b, o, none⟩ v k h
theorem VBlk.otherMany {T : TypeId} {w : World} {b g o : Nat} {c vs : List Value} (h : VBlk T w b c) (hn : b ≠ g) : VBlk T (w.setCells g o vs) b c :=
  (setMany_other g vs o w b hn).trans h
theorem bel_setMany {B b : Nat} {a : World} : ∀ (vs : List Value) (o : Nat) (w : World), Below B a w → B ≤ b → Below B a (w.setCells b o vs)
  | [], o, w, h, hb => h
  | v :: vs, o, w, h, hb => by
    rw [World.setCells]
    exact bel_setMany vs (o + 1) _ (h.setCell (p := ⟨b, o, none⟩) hb v) hb
theorem VBlk.setMany {T : TypeId} {b : Nat} : ∀ (vs pre old post : List Value) (w : World), VBlk T w b (pre ++ (old ++ post)) → old.length = vs.length → VBlk T (w.setCells b pre.length vs) b (pre ++ (vs ++ post))
  | [], pre, old, post, w, h, hl => by
    obtain rfl := List.eq_nil_of_length_eq_zero hl
    exact h
  | v :: vs, pre, [], post, w, h, hl => by simp at hl
  | v :: vs, pre, o :: old, post, w, h, hl => by
    have h1 := h.set pre.length v
    have e : (pre ++ (o :: old ++ post)).set pre.length v = (pre ++ [v]) ++ (old ++ post) := by
      simp [List.set_append]
    rw [e] at h1
    have ih := VBlk.setMany vs (pre ++ [v]) old post _ h1 (by simpa using hl)
    rw [List.length_append, List.length_singleton] at ih
    rw [World.setCells]
    simpa using ih
theorem VBlk.whole {T : TypeId} {w : World} {b : Nat} {c d : List Value} (h : VBlk T w b c) (hl : c.length = d.length) : VBlk T (w.setCells b 0 d) b d := by
  have := VBlk.setMany (T := T) (b := b) d [] c [] w (by simpa using h) hl
  simpa using this

/-! ### Words -/
/-- A word's number, shut against simp. -/
def wn (x : W32) : Nat := x.toNat
def wV (x : W32) : Value := .int .u32 (wn x : Int)
theorem wV_one (l : List W32) : ∀ v ∈ l.map wV, v.oneCell' = true := by
  intro v hv
  obtain ⟨_, _, rfl⟩ := List.mem_map.1 hv
  rfl
/-- 64 words, of which those of L are known, the others 0. -/
def padW (L : List W32) : List Value := (L ++ List.replicate (64 - L.length) 0).map wV
theorem padW_len {L : List W32} (h : L.length ≤ 64) : (padW L).length = 64 := by simp [padW]; omega
theorem padW_at {L : List W32} (h : L.length ≤ 64) {i : Nat} (hi : i < 64) : (padW L)[i]? = some (wV (L.getD i 0)) := by
  unfold padW
  rw [List.getElem?_map]
  by_cases hl : i < L.length
  · rw [List.getElem?_append_left hl, List.getElem?_eq_getElem hl]
    simp [List.getD, List.getElem?_eq_getElem hl]
  · rw [List.getElem?_append_right (by omega), List.getElem?_eq_getElem (by simp; omega)]
    simp [List.getD, List.getElem?_eq_none (show L.length ≤ i by omega)]
theorem padW_set {L : List W32} (h : L.length < 64) (x : W32) : (padW L).set L.length (wV x) = padW (L ++ [x]) := by
  unfold padW
  rw [← List.map_set, List.set_append_right _ _ (Nat.le_refl _), Nat.sub_self]
  obtain ⟨n, hn⟩ : ∃ n, 64 - L.length = n + 1 := ⟨63 - L.length, by omega⟩
  rw [hn, List.replicate_succ, List.set_cons_zero, List.length_append, List.length_singleton, show 64 - (L.length + 1) = n by omega]
  simp
theorem padW_full {L : List W32} (h : L.length = 64) : padW L = L.map wV := by
  unfold padW
  rw [h]
  simp
def stV (s : S8) : List Value := s.list.map wV
theorem stV_eq (s : S8) : stV s = [wV s.a, wV s.b, wV s.c, wV s.d, wV s.e, wV s.f, wV s.g, wV s.h] := rfl
theorem stV_len (s : S8) : (stV s).length = 8 := rfl

/-! ### Arithmetic of words -/
theorem wn_lt (x : W32) : wn x < 4294967296 := x.isLt
theorem add_w (x y : W32) : ((wn x : Int) + (wn y : Int)) % 4294967296 = (wn (x + y) : Int) := by
  unfold wn
  rw [BitVec.toNat_add]
  omega
theorem xor_w (x y : W32) : bits .xor .u32 (wn x : Int) (wn y : Int) = (wn (x ^^^ y) : Int) := by
  unfold wn
  rw [u32_xor_nat _ _ x.isLt y.isLt, BitVec.toNat_xor]
theorem and_w (x y : W32) : bits .and .u32 (wn x : Int) (wn y : Int) = (wn (x &&& y) : Int) := by
  unfold wn
  rw [u32_and_nat _ _ x.isLt y.isLt, BitVec.toNat_and]
theorem or_w (x y : W32) : bits .or .u32 (wn x : Int) (wn y : Int) = (wn (x ||| y) : Int) := by
  unfold wn
  rw [u32_or_nat _ _ x.isLt y.isLt, BitVec.toNat_or]
theorem shrI (x : W32) (n : Nat) : (wn x : Int) / ((2 ^ n : Nat) : Int) = (wn (x >>> n) : Int) := by
  unfold wn
  rw [BitVec.toNat_ushiftRight, Nat.shiftRight_eq_div_pow]
  rfl
theorem shlI (x : W32) (n : Nat) : (wn x : Int) * ((2 ^ n : Nat) : Int) % 4294967296 = (wn (x <<< n) : Int) := by
  unfold wn
  rw [BitVec.toNat_shiftLeft, Nat.shiftLeft_eq]
  omega
theorem drewN_two (w : World) (n m : Nat) : (w.drewN n).drewN m = w.drewN (n + m) := by
  first | rfl | simp [World.drewN, Nat.add_assoc]
end Go.Proofs.YtjghmhcljhjmmaaDoor
