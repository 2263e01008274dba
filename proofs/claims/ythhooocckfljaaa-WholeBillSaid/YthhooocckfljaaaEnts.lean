/- Lists of entries in memory; the bytes of an entry's record. No condition. -/
import Derived.Test.YthhooocckfljaaaFlush
import Derived.Test.YthhooocckfljaaaEncode
import Derived.Test.YthhooocckfljaaaDecLaw
namespace Go.Proofs.Ythhooocckfljaaa
open Go.RowKit
set_option linter.unusedVariables false
set_option linter.unusedSimpArgs false

def EntAt (w : World) (g o : Nat) (e : Ent) : Prop :=
  w.cell? ⟨g, o, none⟩ = some (.string ⟨e.node.toArray⟩) ∧ w.cell? ⟨g, o + 1, none⟩ = some (.int .i64 e.boot) ∧ w.cell? ⟨g, o + 2, none⟩ = some (.int .i64 e.seq) ∧
  w.cell? ⟨g, o + 3, none⟩ = some (.int .i64 e.ten) ∧ w.cell? ⟨g, o + 4, none⟩ = some (.int .i64 e.hits) ∧ w.cell? ⟨g, o + 5, none⟩ = some (.int .i64 e.bytes) ∧ w.cell? ⟨g, o + 6, none⟩ = some (.int .i64 e.att)
theorem EntAt.step {w w' : World} {g o : Nat} {e : Ent} (h : EntAt w g o e) (hb : Below w.heap.size w w') : EntAt w' g o e := by
  obtain ⟨h0, h1, h2, h3, h4, h5, h6⟩ := h
  exact ⟨keep_at hb h0, keep_at hb h1, keep_at hb h2, keep_at hb h3, keep_at hb h4, keep_at hb h5, keep_at hb h6⟩
theorem EntAt.only {w w' : World} {g o b : Nat} {e : Ent} (h : EntAt w g o e) (ho : Only b w w') (hn : g ≠ b) : EntAt w' g o e := by
  obtain ⟨h0, h1, h2, h3, h4, h5, h6⟩ := h
  have hnn : some g ≠ some b := by simpa using hn
  exact ⟨keep_grown ho hnn h0, keep_grown ho hnn h1, keep_grown ho hnn h2, keep_grown ho hnn h3, keep_grown ho hnn h4, keep_grown ho hnn h5, keep_grown ho hnn h6⟩
theorem EntAt.drew {w : World} {g o : Nat} {e : Ent} (h : EntAt w g o e) : EntAt w.drew g o e := h
def ebox (e : Ent) : Obj := .cells #[.string ⟨e.node.toArray⟩, .int .i64 e.boot, .int .i64 e.seq, .int .i64 e.ten, .int .i64 e.hits, .int .i64 e.bytes, .int .i64 e.att] 46
theorem EntAt.box (w : World) (e : Ent) : EntAt (w.alloc (.cells #[.string ⟨e.node.toArray⟩, .int .i64 e.boot, .int .i64 e.seq, .int .i64 e.ten, .int .i64 e.hits, .int .i64 e.bytes, .int .i64 e.att] 46)) w.heap.size 0 e := by
  have hcs : ∀ i v, (#[.string ⟨e.node.toArray⟩, .int .i64 e.boot, .int .i64 e.seq, .int .i64 e.ten, .int .i64 e.hits, .int .i64 e.bytes, .int .i64 e.att] : Array Value)[i]? = some v → (w.alloc (.cells #[.string ⟨e.node.toArray⟩, .int .i64 e.boot, .int .i64 e.seq, .int .i64 e.ten, .int .i64 e.hits, .int .i64 e.bytes, .int .i64 e.att] 46)).cell? ⟨w.heap.size, i, none⟩ = some v := fun i v h => (cell_of_row _ _ _ _ _ _ (heap_alloc_new w _)).trans h
  exact ⟨hcs 0 _ rfl, hcs 1 _ rfl, hcs 2 _ rfl, hcs 3 _ rfl, hcs 4 _ rfl, hcs 5 _ rfl, hcs 6 _ rfl⟩
theorem EntAt.cells {w : World} {g : Nat} {e : Ent} (h : EntAt w g 0 e) : ∀ j u, (ecells e)[j]? = some u → w.cell? ⟨g, j, none⟩ = some u := by
  intro j u hj
  obtain ⟨h0, h1, h2, h3, h4, h5, h6⟩ := h
  simp only [Nat.zero_add] at h0 h1 h2 h3 h4 h5 h6
  match j with
  | 0 | 1 | 2 | 3 | 4 | 5 | 6 => simp [ecells] at hj; rw [← hj]; assumption
  | j + 7 => simp [ecells] at hj

def IsE (w : World) (v : Value) (es : List Ent) : Prop :=
  (es = [] ∧ ∃ a cap, v = .slice a 0 cap ∧ cap ≤ maxLen ∧ (a = none → cap = 0)) ∨
  (es ≠ [] ∧ ∃ g o cap, v = .slice (some ⟨g, o, none⟩) es.length cap ∧ es.length ≤ cap ∧ cap ≤ maxLen ∧ ∀ k e, es[k]? = some e → EntAt w g (o + k * 7) e)
theorem IsE.nil (w : World) : IsE w (.slice none 0 0) [] := .inl ⟨rfl, none, 0, rfl, Nat.zero_le _, fun _ => rfl⟩
theorem IsE.shape {w : World} {v : Value} {es : List Ent} (h : IsE w v es) : ∃ a cap, v = .slice a es.length cap ∧ es.length ≤ cap ∧ cap ≤ maxLen := by
  rcases h with ⟨rfl, a, cap, rfl, h1, _⟩ | ⟨_, g, o, cap, rfl, h1, h2, _⟩
  · exact ⟨a, cap, rfl, Nat.zero_le _, h1⟩
  · exact ⟨_, cap, rfl, h1, h2⟩
theorem IsE.step {w w' : World} {v : Value} {es : List Ent} (h : IsE w v es) (hb : Below w.heap.size w w') : IsE w' v es := by
  rcases h with h | ⟨h0, g, o, cap, hv, h1, h2, hc⟩
  · exact .inl h
  · exact .inr ⟨h0, g, o, cap, hv, h1, h2, fun k e hk => (hc k e hk).step hb⟩
theorem IsE.elem {w : World} {v : Value} {es : List Ent} (h : IsE w v es) {k : Nat} (hk : k < es.length) : ∃ g o cap e, v = .slice (some ⟨g, o, none⟩) es.length cap ∧ es[k]? = some e ∧ EntAt w g (o + k * 7) e := by
  rcases h with ⟨rfl, _⟩ | ⟨_, g, o, cap, hv, _, _, hc⟩
  · simp at hk
  · exact ⟨g, o, cap, es[k], hv, List.getElem?_eq_getElem hk, hc k _ (List.getElem?_eq_getElem hk)⟩
theorem OwnE.isE {w : World} {base : Nat} {v : Value} {es : List Ent} (h : OwnE w base v es) : IsE w v es := by
  have h' := h
  obtain ⟨h0, h1⟩ := h
  rcases h1 with ⟨rfl, hn⟩ | ⟨g, cap, cur, rfl, hb, hg, hn, hm, hs, ht⟩
  · obtain rfl := List.eq_nil_of_length_eq_zero hn
    exact IsE.nil w
  · by_cases hl : es = []
    · subst hl
      exact .inl ⟨rfl, _, _, rfl, hm, fun h => by cases h⟩
    · refine .inr ⟨hl, g, 0, cap, rfl, hn, hm, fun k e hk => ?_⟩
      have hc := fun i hi => OwnE.cells h' k e hk i hi
      simp only [Nat.zero_add]
      exact ⟨hc 0 (by omega), hc 1 (by omega), hc 2 (by omega), hc 3 (by omega), hc 4 (by omega), hc 5 (by omega), hc 6 (by omega)⟩
theorem IsE.upto {w : World} {a : Option Addr} {es : List Ent} {cap : Nat} (h : IsE w (.slice a es.length cap) es) (n : Nat) (hn : n ≤ es.length) : IsE w (.slice a n cap) (es.take n) := by
  rcases h with ⟨rfl, a', cap', hv, h1, h2⟩ | ⟨h0, g, o, cap', hv, h1, h2, hc⟩
  · simp only [Value.slice.injEq] at hv
    obtain ⟨rfl, h3, rfl⟩ := hv
    simp at hn
    subst hn
    exact .inl ⟨by simp, a, cap, rfl, h1, h2⟩
  · simp only [Value.slice.injEq] at hv
    obtain ⟨rfl, h3, rfl⟩ := hv
    by_cases hz : n = 0
    · subst hz
      exact .inl ⟨by simp, _, cap, rfl, h2, fun h => by simp at h⟩
    · refine .inr ⟨by intro h; have := congrArg List.length h; have hp := List.length_pos_iff.2 h0; rw [List.length_take, List.length_nil] at this; omega, g, o, cap, by rw [List.length_take]; congr 1; omega, by rw [List.length_take]; omega, h2, fun k e hk => ?_⟩
      rw [List.getElem?_take] at hk
      split at hk
      · exact hc k e hk
      · simp at hk

/-! ### The record of an entry -/
def numI (n : Int) : List UInt8 := numB (clampN n)
def textB (s : List UInt8) : List UInt8 := numB s.length ++ s
def intsE (e : Ent) : List Int := [e.boot, e.ten, e.hits, e.bytes, e.att]
def payE (e : Ent) : List UInt8 := textB e.node ++ (intsE e).flatMap numI
def recE (e : Ent) : List UInt8 := encP 1 e.seq.toNat (payE e)
theorem payE_len (e : Ent) : (payE e).length ≤ 60 + e.node.length := by
  have h0 := numB_len e.node.length
  have h1 := numB_len (clampN e.boot)
  have h2 := numB_len (clampN e.ten)
  have h3 := numB_len (clampN e.hits)
  have h4 := numB_len (clampN e.bytes)
  have h5 := numB_len (clampN e.att)
  simp only [payE, textB, intsE, numI, List.flatMap_cons, List.flatMap_nil, List.length_append, List.length_nil]
  omega
theorem named_short {s : List UInt8} (h : namedB s = true) : 1 ≤ s.length ∧ s.length ≤ 32 := by
  unfold namedB at h
  simp at h
  exact h.2
theorem codeE_ok {e : Ent} (h : codeE e = 0) : namedB e.node = true ∧ rangeE e := by
  unfold codeE at h
  by_cases hn : namedB e.node = true
  · rw [if_pos hn] at h
    by_cases hr : rangeE e
    · exact ⟨hn, hr⟩
    · rw [if_neg hr] at h; simp at h
  · rw [if_neg hn] at h; simp at h
theorem recE_len {e : Ent} (h : codeE e = 0) : (recE e).length ≤ 120 ∧ 5 ≤ (recE e).length := by
  have h1 := payE_len e
  have h2 := (named_short (codeE_ok h).1).2
  have h3 := numB_len e.seq.toNat
  have h4 := numB_len (payE e).length
  unfold recE
  rw [encP_len]
  omega
/-! ### The bytes of a list -/
def encsC : List Ent → Int
  | [] => 0
  | e :: es => if codeE e = 0 then encsC es else codeE e
def encsB (es : List Ent) : List UInt8 := if encsC es = 0 then es.flatMap recE else []
theorem encsC_app (es fs : List Ent) (h : ∀ e ∈ es, codeE e = 0) : encsC (es ++ fs) = encsC fs := by
  induction es with
  | nil => rfl
  | cons e es ih =>
    rw [List.cons_append, encsC, if_pos (h e (by simp))]
    exact ih fun x hx => h x (by simp [hx])
theorem encsC_all (es : List Ent) (h : ∀ e ∈ es, codeE e = 0) : encsC es = 0 := by
  have := encsC_app es [] h
  simpa [encsC] using this
theorem encsC_bad {es : List Ent} {k : Nat} {e : Ent} (h : ∀ x ∈ es.take k, codeE x = 0) (hk : es[k]? = some e) (hb : codeE e ≠ 0) : encsC es = codeE e := by
  have hlt := (List.getElem?_eq_some_iff.1 hk).1
  have he : es = es.take k ++ e :: es.drop (k + 1) := by
    conv => lhs; rw [← List.take_append_drop k es]
    rw [List.drop_eq_getElem_cons hlt]
    have := (List.getElem?_eq_some_iff.1 hk).2
    rw [this]
  conv => lhs; rw [he]
  rw [encsC_app _ _ h, encsC, if_neg hb]
theorem take_more {es : List Ent} {k : Nat} {e : Ent} (hk : es[k]? = some e) : es.take (k + 1) = es.take k ++ [e] := by
  rw [List.take_add_one, hk]; rfl
theorem recs_len (es : List Ent) (h : ∀ e ∈ es, codeE e = 0) : (es.flatMap recE).length ≤ 120 * es.length := by
  induction es with
  | nil => simp
  | cons e es ih =>
    have h1 := (recE_len (h e (by simp))).1
    have h2 := ih fun x hx => h x (by simp [hx])
    simp only [List.flatMap_cons, List.length_append, List.length_cons]
    omega
end Go.Proofs.Ythhooocckfljaaa
