/- Reading lists of tokens; large texts; the fixed example; whether two lists are the same. No condition beyond a list's length. -/
import Derived.Test.YtobndhpfdaddaaaDoorSplit
namespace Go.Proofs.YtobndhpfdaddaaaDoor
open Go.RowKit
set_option linter.unusedVariables false
set_option linter.unusedSimpArgs false

def TokAt (w : World) (g o : Nat) (e : Tok) : Prop :=
  w.cell? ⟨g, o, none⟩ = some (.int .i64 e.kind) ∧ w.cell? ⟨g, o + 1, none⟩ = some (.string ⟨e.text.toArray⟩) ∧ w.cell? ⟨g, o + 2, none⟩ = some (.int .i64 e.line) ∧ w.cell? ⟨g, o + 3, none⟩ = some (.int .i64 e.col)
theorem TokAt.step {w w' : World} {g o : Nat} {e : Tok} (h : TokAt w g o e) (hb : Below w.heap.size w w') : TokAt w' g o e := by
  obtain ⟨h0, h1, h2, h3⟩ := h
  exact ⟨keep_at hb h0, keep_at hb h1, keep_at hb h2, keep_at hb h3⟩
theorem TokAt.drewN {w : World} {g o n : Nat} {e : Tok} (h : TokAt w g o e) : TokAt (w.drewN n) g o e := h
theorem flat4 : ∀ (es : List Tok) (k : Nat) (e : Tok), es[k]? = some e → ∀ i, i < 4 → (es.flatMap tcells)[k * 4 + i]? = (tcells e)[i]? := by
  intro es
  induction es with
  | nil => intro k e hk; simp at hk
  | cons q es ih =>
    intro k e hk i hi
    rw [List.flatMap_cons]
    cases k with
    | zero =>
      simp at hk
      subst hk
      rw [List.getElem?_append_left (by simp [tcells]; omega)]
      simp
    | succ k =>
      have hl : (tcells q).length = 4 := rfl
      rw [List.getElem?_append_right (by rw [hl]; omega), hl, show (k + 1) * 4 + i - 4 = k * 4 + i by omega]
      exact ih k e (by simpa using hk) i hi
theorem OwnK.cells {T : TypeId} {w : World} {base g c : Nat} {es : List Tok} (h : OwnK T w base (.slice (some ⟨g, 0, none⟩) es.length c) es) (k : Nat) (e : Tok) (hk : es[k]? = some e) (i : Nat) (hi : i < 4) : w.cell? ⟨g, k * 4 + i, none⟩ = (tcells e)[i]? := by
  have hlt : k < es.length := (List.getElem?_eq_some_iff.1 hk).1
  rw [World.ownsRow.cellAt h (k * 4 + i) (by omega)]
  exact flat4 es k e hk i hi
/-- A list of tokens, as it is read. -/
def IsK (w : World) (v : Value) (es : List Tok) : Prop :=
  (es = [] ∧ ∃ a cap, v = .slice a 0 cap) ∨
  (es ≠ [] ∧ ∃ g cap, v = .slice (some ⟨g, 0, none⟩) es.length cap ∧ ∀ k e, es[k]? = some e → TokAt w g (k * 4) e)
theorem IsK.nil (w : World) : IsK w (.slice none 0 0) [] := .inl ⟨rfl, none, 0, rfl⟩
theorem IsK.shape {w : World} {v : Value} {es : List Tok} (h : IsK w v es) : ∃ a cap, v = .slice a es.length cap := by
  rcases h with ⟨rfl, a, cap, rfl⟩ | ⟨_, g, cap, rfl, _⟩
  · exact ⟨a, cap, rfl⟩
  · exact ⟨_, cap, rfl⟩
theorem IsK.step {w w' : World} {v : Value} {es : List Tok} (h : IsK w v es) (hb : Below w.heap.size w w') : IsK w' v es := by
  rcases h with h | ⟨h0, g, cap, hv, hc⟩
  · exact .inl h
  · exact .inr ⟨h0, g, cap, hv, fun k e hk => (hc k e hk).step hb⟩
theorem IsK.elem {w : World} {v : Value} {es : List Tok} (h : IsK w v es) {k : Nat} (hk : k < es.length) : ∃ g cap e, v = .slice (some ⟨g, 0, none⟩) es.length cap ∧ es[k]? = some e ∧ TokAt w g (k * 4) e := by
  rcases h with ⟨rfl, _⟩ | ⟨_, g, cap, hv, hc⟩
  · simp at hk
  · exact ⟨g, cap, es[k], hv, List.getElem?_eq_getElem hk, hc k _ (List.getElem?_eq_getElem hk)⟩
theorem OwnK.isK {T : TypeId} {w : World} {base : Nat} {v : Value} {es : List Tok} (h : OwnK T w base v es) : IsK w v es := by
  have h' := h
  obtain ⟨h0, h1⟩ := h
  rcases h1 with ⟨rfl, hn⟩ | ⟨g, cap, cur, rfl, hb, hg, hn, hm, hs, ht⟩
  · obtain rfl := List.eq_nil_of_length_eq_zero hn
    exact IsK.nil w
  · by_cases hl : es = []
    · subst hl
      exact .inl ⟨rfl, _, _, rfl⟩
    · refine .inr ⟨hl, g, cap, rfl, fun k e hk => ?_⟩
      have hc := fun i hi => OwnK.cells h' k e hk i hi
      exact ⟨hc 0 (by omega), hc 1 (by omega), hc 2 (by omega), hc 3 (by omega)⟩

theorem split_large (s : ByteArray) (w : World) (hs : ¬ s.size ≤ 4096) :
    Calls Tryd.prog 6 #[.string s] w fun e w' => e = .returned (.tuple #[.slice none 0 0, .iface 33 (.int .i64 5)]) ∧ Below w.heap.size w w' := by
  have hsi : (4096 : Int) < (s.size : Int) := by omega
  go_enter Tryd.func6, Tryd.ntmps6
  go_wp2_with fail
  go_ret2
  exact ⟨rfl, Below.refl _ _⟩
def exL : List Tok := [⟨1, [100, 101, 110, 121], 1, 1⟩, ⟨2, [52, 48, 51], 1, 6⟩, ⟨4, [59], 1, 9⟩, ⟨5, [], 1, 10⟩]
theorem ex_split : splitT [100, 101, 110, 121, 32, 52, 48, 51, 59] = some exL := by rfl
theorem split_ex (w : World) : Calls Tryd.prog 6 #[.string ⟨#[100, 101, 110, 121, 32, 52, 48, 51, 59]⟩] w fun e w' => (∃ g c, e = .returned (.tuple #[.slice (some ⟨g, 0, none⟩) 4 c, .nilIface]) ∧ TokAt w' g 0 ⟨1, [100, 101, 110, 121], 1, 1⟩ ∧ TokAt w' g 4 ⟨2, [52, 48, 51], 1, 6⟩ ∧ TokAt w' g 8 ⟨4, [59], 1, 9⟩ ∧ TokAt w' g 12 ⟨5, [], 1, 10⟩) ∧ Below w.heap.size w w' := by
  refine (split_any ⟨#[100, 101, 110, 121, 32, 52, 48, 51, 59]⟩ w (by decide)).mono ?_
  rintro e w' ⟨h, hb⟩
  have hx : splitT (ByteArray.mk #[100, 101, 110, 121, 32, 52, 48, 51, 59]).data.toList = some exL := ex_split
  rw [hx] at h
  obtain ⟨v, rfl, ho⟩ := h
  rcases ho.isK with ⟨h, _⟩ | ⟨_, g, c, rfl, hc⟩
  · cases h
  · exact ⟨⟨g, c, rfl, hc 0 _ rfl, hc 1 _ rfl, hc 2 _ rfl, hc 3 _ rfl⟩, hb⟩
set_option maxRecDepth 20000 in
set_option maxHeartbeats 1000000 in
theorem awake_any (w : World) : Calls Tryd.prog 4 #[] w fun e w' => e = .returned (.bool true) ∧ Below w.heap.size w w' := by
  have HX := Lib.hid split_ex
  go_enter Tryd.func4, Tryd.ntmps4
  go_wp2_with (go_at_call 6; refine (HX.out _).mono ?_; rintro e w1 ⟨⟨g, c, rfl, ⟨a0, a1, a2, a3⟩, ⟨b0, b1, b2, b3⟩, ⟨c0, c1, c2, c3⟩, ⟨d0, d1, d2, d3⟩⟩, hb1⟩)
  go_ret
  exact ⟨rfl, hb1⟩
end Go.Proofs.YtobndhpfdaddaaaDoor
