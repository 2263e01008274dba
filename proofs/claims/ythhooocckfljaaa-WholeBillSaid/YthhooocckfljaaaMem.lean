/- Blocks of numbers in memory, and what a call leaves that writes to known blocks alone. No condition. -/
import Derived.Test.YthhooocckfljaaaBal
import Derived.Test.YthhooocckfljaaaLines
namespace Go.Proofs.Ythhooocckfljaaa
open Go.RowKit Go.Maps Go.Shelf
set_option linter.unusedVariables false
set_option linter.unusedSimpArgs false

/-- The world behind is the world ahead but for the blocks bs and what was made anew. -/
structure Kept (bs : List Nat) (w w' : World) : Prop where
  os : w'.os = w.os
  tape : w'.tape = w.tape
  output : w'.output = w.output
  size : w.heap.size ≤ w'.heap.size
  block : ∀ k, k < w.heap.size → k ∉ bs → w'.heap[k]? = w.heap[k]?
theorem Kept.refl (bs : List Nat) (w : World) : Kept bs w w := ⟨rfl, rfl, rfl, Nat.le_refl _, fun _ _ _ => rfl⟩
theorem Kept.trans {bs : List Nat} {a b c : World} (h : Kept bs a b) (k : Kept bs b c) : Kept bs a c :=
  ⟨k.os.trans h.os, k.tape.trans h.tape, k.output.trans h.output, Nat.le_trans h.size k.size, fun i hi hn => (k.block i (Nat.lt_of_lt_of_le hi h.size) hn).trans (h.block i hi hn)⟩
theorem Kept.mono {bs cs : List Nat} {w w' : World} (h : Kept bs w w') (hs : ∀ k ∈ bs, k ∈ cs) : Kept cs w w' :=
  ⟨h.os, h.tape, h.output, h.size, fun k hk hn => h.block k hk fun hm => hn (hs k hm)⟩
theorem Kept.of_below {bs : List Nat} {w w' : World} (h : Below w.heap.size w w') : Kept bs w w' := ⟨h.os, h.tape, h.output, h.size, fun k hk _ => h.block k hk⟩
theorem Kept.of_grown {bs : List Nat} {b : Nat} {w w' : World} (h : w.grownBy w' (some b)) (hb : b ∈ bs) : Kept bs w w' :=
  ⟨h.os, h.tape, h.output, h.size, fun k hk hn => h.block k hk fun e => by cases e; exact hn hb⟩
theorem Kept.of_own {bs : List Nat} {r : Option Nat} {w w' : World} (h : w.grownBy w' r) (hb : ∀ g, r = some g → g ∈ bs) : Kept bs w w' :=
  ⟨h.os, h.tape, h.output, h.size, fun k hk hn => h.block k hk fun e => hn (hb k e.symm)⟩
theorem Kept.set {bs : List Nat} {b k : Nat} {w : World} {u : Value} (hb : b ∈ bs) : Kept bs w (w.setCell ⟨b, k, none⟩ u) := Kept.of_grown (Only.set (b := b) (k := k) (w := w) (u := u)) hb
theorem Kept.drew {bs : List Nat} {w w' : World} (h : Kept bs w w') : Kept bs w w'.drew := ⟨h.os, h.tape, h.output, h.size, h.block⟩
theorem Kept.drewN {bs : List Nat} {w w' : World} (h : Kept bs w w') (n : Nat) : Kept bs w (w'.drewN n) := ⟨h.os, h.tape, h.output, h.size, h.block⟩
/-- Where all of bs are the call's own. -/
theorem Kept.below {bs : List Nat} {B : Nat} {w0 w w' : World} (h : Kept bs w w') (hb : Below B w0 w) (hB : B ≤ w.heap.size) (hs : ∀ k ∈ bs, B ≤ k) : Below B w0 w' :=
  ⟨h.os.trans hb.os, h.tape.trans hb.tape, h.output.trans hb.output, Nat.le_trans hb.size h.size, fun k hk => (h.block k (Nat.lt_of_lt_of_le hk hB) fun hm => by have := hs k hm; omega).trans (hb.block k hk)⟩
theorem Kept.cell {bs : List Nat} {w w' : World} (h : Kept bs w w') {g o : Nat} {v : Value} (hc : w.cell? ⟨g, o, none⟩ = some v) (hg : g ∉ bs) : w'.cell? ⟨g, o, none⟩ = some v :=
  (World.cell?_of_block (h.block g (World.block_lt_of_cell? w _ hc) hg)).trans hc
theorem Kept.own {bs : List Nat} {w w' : World} (h : Kept bs w w') {base : Nat} {v : Value} {es : List Ent} (hO : OwnE w base v es) (hg : ∀ g, v.ownBlock = some g → g ∉ bs) : OwnE w' base v es := by
  obtain ⟨h0, h1⟩ := hO
  refine ⟨h0, ?_⟩
  rcases h1 with h1 | ⟨g, cap, cur, rfl, h3, h4, h5⟩
  · exact .inl h1
  · have hlt : g < w.heap.size := (Array.getElem?_eq_some_iff.1 h4).1
    exact .inr ⟨g, cap, cur, rfl, h3, (h.block g hlt (hg g rfl)).trans h4, h5⟩
theorem Kept.mblk {bs : List Nat} {w w' : World} (h : Kept bs w w') {b : Nat} {m : Mtr} (hm : MBlk w b m) (hb : b ∉ bs) : MBlk w' b m := (h.block b hm.lt hb).trans hm
theorem Kept.set_ {bs : List Nat} {w w' : World} (h : Kept bs w w') {p b : Nat} {S : List Ent} (hs : IsSet w p b S) (hp : p ∉ bs) (hb : b ∉ bs) : IsSet w' p b S :=
  ⟨h.cell hs.1 hp, by
    obtain ⟨_, hm⟩ := hs
    have hl := hm.lt
    obtain ⟨D, n, ⟨es, clock, hm, F, hs, hD⟩, hc⟩ := hm
    exact ⟨D, n, ⟨es, clock, (h.block b hl hb).trans hm, F, hs, hD⟩, hc⟩⟩
theorem EntAt.kept {bs : List Nat} {w w' : World} {g o : Nat} {e : Ent} (h : EntAt w g o e) (hk : Kept bs w w') (hg : g ∉ bs) : EntAt w' g o e := by
  obtain ⟨h0, h1, h2, h3, h4, h5, h6⟩ := h
  exact ⟨hk.cell h0 hg, hk.cell h1 hg, hk.cell h2 hg, hk.cell h3 hg, hk.cell h4 hg, hk.cell h5 hg, hk.cell h6 hg⟩

/-- A block of n cells. -/
def Row (w : World) (b : Nat) (ty : TypeId) (n : Nat) (f : Nat → Value) : Prop := w.heap[b]? = some (.cells ((List.range n).map f).toArray ty (0, 0))
def updV (f : Nat → Value) (k : Nat) (v : Value) : Nat → Value := fun j => if j = k then v else f j
theorem Row.cell {w : World} {b ty n : Nat} {f : Nat → Value} (h : Row w b ty n f) {k : Nat} (hk : k < n) : w.cell? ⟨b, k, none⟩ = some (f k) := by
  unfold Row at h
  rw [cell_of_row _ _ _ _ _ _ h]
  simp [hk]
theorem Row.frozen {w : World} {b ty n : Nat} {f : Nat → Value} (h : Row w b ty n f) (k : Nat) : w.frozen? ⟨b, k, none⟩ = false := by
  unfold Row at h
  simp [World.frozen?, h]
theorem Row.lt {w : World} {b ty n : Nat} {f : Nat → Value} (h : Row w b ty n f) : b < w.heap.size := (Array.getElem?_eq_some_iff.1 h).1
theorem Row.keep {bs : List Nat} {w w' : World} {b ty n : Nat} {f : Nat → Value} (h : Row w b ty n f) (hk : Kept bs w w') (hb : b ∉ bs) : Row w' b ty n f := (hk.block b h.lt hb).trans h
theorem Row.drew {w : World} {b ty n : Nat} {f : Nat → Value} (h : Row w b ty n f) : Row w.drew b ty n f := h
theorem Row.congr {w : World} {b ty n : Nat} {f g : Nat → Value} (h : Row w b ty n f) (hf : ∀ k, k < n → f k = g k) : Row w b ty n g := by
  unfold Row at h ⊢
  rw [h]
  have : (List.range n).map f = (List.range n).map g := List.map_congr_left fun k hk => hf k (List.mem_range.1 hk)
  rw [this]
theorem Row.set {w : World} {b ty n : Nat} {f : Nat → Value} (h : Row w b ty n f) (k : Nat) (v : Value) : Row (w.setCell ⟨b, k, none⟩ v) b ty n (updV f k v) := by
  have hh := Joins.block_setCell (i := k) h v
  unfold Row
  rw [hh]
  have : ((List.range n).map f).toArray.setIfInBounds k v = ((List.range n).map (updV f k v)).toArray := by
    apply Array.ext_getElem?
    intro j
    rw [Array.getElem?_setIfInBounds]
    simp only [List.getElem?_toArray, List.size_toArray, List.length_map, List.length_range, List.getElem?_map, updV]
    by_cases hj : j < n
    · rw [List.getElem?_range hj]
      by_cases e : k = j
      · subst e; simp [hj, updV]
      · simp [e, updV, show ¬ j = k from fun h => e h.symm]
    · have hn : (List.range n)[j]? = none := by simp; omega
      rw [hn]
      by_cases e : k = j
      · subst e; simp [hj]
      · simp [e]
  rw [this]
/-- Pairs of numbers, laid in one row. -/
def pairF (H Y : Nat → Int) : Nat → Value := fun j => .int .i64 (if j % 2 = 0 then H (j / 2) else Y (j / 2))
theorem pairF_0 (H Y : Nat → Int) (t : Nat) : pairF H Y (t * 2) = .int .i64 (H t) := by
  unfold pairF
  rw [if_pos (by omega), show t * 2 / 2 = t by omega]
theorem pairF_1 (H Y : Nat → Int) (t : Nat) : pairF H Y (t * 2 + 1) = .int .i64 (Y t) := by
  unfold pairF
  rw [if_neg (by omega), show (t * 2 + 1) / 2 = t by omega]
theorem pairF_set0 (H Y : Nat → Int) (t : Nat) (x : Int) (j : Nat) : updV (pairF H Y) (t * 2) (.int .i64 x) j = pairF (upd H t x) Y j := by
  unfold updV pairF upd
  by_cases e : j = t * 2
  · subst e; simp
  · rw [if_neg e]
    by_cases h0 : j % 2 = 0
    · rw [if_pos h0, if_pos h0, if_neg (by omega)]
    · rw [if_neg h0, if_neg h0]
theorem pairF_set1 (H Y : Nat → Int) (t : Nat) (x : Int) (j : Nat) : updV (pairF H Y) (t * 2 + 1) (.int .i64 x) j = pairF H (upd Y t x) j := by
  unfold updV pairF upd
  by_cases e : j = t * 2 + 1
  · subst e; simp; omega
  · rw [if_neg e]
    by_cases h0 : j % 2 = 0
    · rw [if_pos h0, if_pos h0]
    · rw [if_neg h0, if_neg h0, if_neg (by omega)]
theorem Row.pair0 {w : World} {b ty n : Nat} {H Y : Nat → Int} (h : Row w b ty n (pairF H Y)) (t : Nat) (ht : t * 2 < n) : w.cell? ⟨b, t * 2, none⟩ = some (.int .i64 (H t)) := by
  rw [h.cell ht, pairF_0]
theorem Row.pair1 {w : World} {b ty n : Nat} {H Y : Nat → Int} (h : Row w b ty n (pairF H Y)) (t : Nat) (ht : t * 2 + 1 < n) : w.cell? ⟨b, t * 2 + 1, none⟩ = some (.int .i64 (Y t)) := by
  rw [h.cell ht, pairF_1]
theorem Row.setP0 {w : World} {b ty n : Nat} {H Y : Nat → Int} (h : Row w b ty n (pairF H Y)) (t : Nat) (x : Int) : Row (w.setCell ⟨b, t * 2, none⟩ (.int .i64 x)) b ty n (pairF (upd H t x) Y) :=
  (h.set (t * 2) (.int .i64 x)).congr fun j _ => pairF_set0 H Y t x j
theorem Row.setP1 {w : World} {b ty n : Nat} {H Y : Nat → Int} (h : Row w b ty n (pairF H Y)) (t : Nat) (x : Int) : Row (w.setCell ⟨b, t * 2 + 1, none⟩ (.int .i64 x)) b ty n (pairF H (upd Y t x)) :=
  (h.set (t * 2 + 1) (.int .i64 x)).congr fun j _ => pairF_set1 H Y t x j
theorem pairF_congr {H Y H' Y' : Nat → Int} (h : ∀ t, H t = H' t) (g : ∀ t, Y t = Y' t) : pairF H Y = pairF H' Y' := by
  rw [show H = H' from funext h, show Y = Y' from funext g]
/-- A list of entries from a place on, as a slice of it is written. -/
theorem IsE.cut {w : World} {a : Option Addr} {es : List Ent} {c : Nat} (h : IsE w (.slice a es.length c) es) (s : Nat) (hs : s ≤ es.length) :
    IsE w (.slice (if c = s then a else Option.map (fun x => x.add (s * 7)) a) (es.length - s) (c - s)) (es.drop s) := by
  have hsh := h.shape
  obtain ⟨a1, c1, hv, h1, h2⟩ := hsh
  simp only [Value.slice.injEq] at hv
  obtain ⟨rfl, _, rfl⟩ := hv
  by_cases hz : s = es.length
  · have hd : es.drop s = [] := by rw [hz, List.drop_length]
    rw [hd, show es.length - s = 0 by omega]
    refine .inl ⟨rfl, _, _, rfl, by omega, fun hn => ?_⟩
    by_cases hc : c = s
    · omega
    · rw [if_neg hc] at hn
      have ha : a = none := by simpa using hn
      rcases h with ⟨_, a', cap', hv, _, h3⟩ | ⟨_, g, o, cap', hv, _⟩
      · simp only [Value.slice.injEq] at hv
        obtain ⟨rfl, _, rfl⟩ := hv
        rw [h3 ha]; omega
      · simp only [Value.slice.injEq] at hv
        rw [hv.1] at ha
        cases ha
  · rcases h with ⟨rfl, _⟩ | ⟨h0, g, o, cap', hv, h1, h2, hc⟩
    · simp at hs hz; omega
    · simp only [Value.slice.injEq] at hv
      obtain ⟨rfl, _, rfl⟩ := hv
      rw [if_neg (by omega)]
      refine .inr ⟨fun hd => by have := congrArg List.length hd; rw [List.length_drop, List.length_nil] at this; omega, g, o + s * 7, c - s, by rw [List.length_drop]; simp [Addr.add], by rw [List.length_drop]; omega, by omega, fun k e hk => ?_⟩
      rw [List.getElem?_drop] at hk
      have := hc (s + k) e hk
      rw [show o + s * 7 + k * 7 = o + (s + k) * 7 by omega]
      exact this
end Go.Proofs.Ythhooocckfljaaa
