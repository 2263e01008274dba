/- Strings of the call's own: append of one. No condition beyond a length. -/
import Derived.Test.YtogkiifljdnjgaaDoorWrite2
namespace Go.Proofs.YtogkiifljdnjgaaDoor
open Go.RowKit
set_option linter.unusedVariables false
set_option linter.unusedSimpArgs false

def scell (s : List UInt8) : Value := .string ⟨s.toArray⟩
def OwnS (w : World) (base : Nat) (v : Value) (L : List (List UInt8)) : Prop := w.ownsRow base 9 1 v L.length (L.map scell)
theorem OwnS.nil (w : World) (base : Nat) : OwnS w base (.slice none 0 0) [] := World.ownsRow_nil _ _ _ _
theorem OwnS.step {w w' : World} {base : Nat} {v : Value} {L : List (List UInt8)} (h : OwnS w base v L) (hb : Below w.heap.size w w') : OwnS w' base v L :=
  World.ownsRow.kept (row := none) h ⟨hb.os, hb.tape, hb.output, hb.size, fun k hk _ => hb.block k hk⟩ (by
    cases v.ownBlock with
    | none => exact .inl rfl
    | some k => exact .inr (by simp))
theorem OwnS.shape {w : World} {base : Nat} {v : Value} {L : List (List UInt8)} (h : OwnS w base v L) : ∃ a c, v = .slice a L.length c := by
  rcases h.2 with ⟨rfl, h0⟩ | ⟨g, cp, cur, hv, _⟩
  · exact ⟨none, 0, by rw [h0]⟩
  · exact ⟨_, cp, hv⟩
theorem OwnS.cells {w : World} {base : Nat} {v : Value} {L : List (List UInt8)} (h : OwnS w base v L) : (v = .slice none 0 0 ∧ L = []) ∨ ∃ g cap, v = .slice (some ⟨g, 0, none⟩) L.length cap ∧ base ≤ g ∧ g < w.heap.size ∧ L.length ≤ cap ∧ ∀ i s, L[i]? = some s → w.cell? ⟨g, i, none⟩ = some (scell s) := by
  obtain ⟨h0, h1⟩ := h
  rcases h1 with ⟨rfl, hn⟩ | ⟨g, cap, cur, rfl, hb, hg, hn, hm, hs, ht⟩
  · exact .inl ⟨rfl, List.eq_nil_of_length_eq_zero hn⟩
  · refine .inr ⟨g, cap, rfl, hb, block_lt hg, hn, fun i c hi => ?_⟩
    have hh : (L.map scell)[i]? = some (scell c) := by rw [List.getElem?_map, hi]; rfl
    rw [← ht] at hh
    have hi' : i < L.length := (List.getElem?_eq_some_iff.1 hi).1
    rw [List.getElem?_take, if_pos (by omega)] at hh
    simp only [World.cell?, hg]
    simpa using hh
theorem infoStr : (Tryd.prog.info? 9).map (fun i => (i.zero, i.size, i.bytes)) = some (some (.string ⟨#[]⟩), 1, 16) := by kernel_rfl
/-- append of one string, just laid, to strings of the call's own. -/
theorem wpList_appStr {ops : Array Oper} {rest : List Oper} {o : Oper} {a : Act} {Q : Exit → Act → World → Prop} {w : World} (hgd : o.guard = none) (s x : Operand)
    (ho : o.op = .call { callee := .builtin .append, args := #[s, x], argTypes := #[85, 85] })
    (base : Nat) (v : Value) (L : List (List UInt8)) (hs : a.eval s = v) (hown : OwnS w base v L) (t : List UInt8) (S : ByteArray) (hS : S = ⟨t.toArray⟩) (hx : a.eval x = .slice (some ⟨w.heap.size, 0, none⟩) 1 1)
    (hb : L.length ≤ 1000000) (hbase : base ≤ w.heap.size)
    (h : ∀ v' w', OwnS w' base v' (L ++ [t]) → Below base w w' → w.heap.size ≤ w'.heap.size → (∀ k, k < w.heap.size → v.ownBlock ≠ some k → w'.heap[k]? = w.heap[k]?) → wpList Tryd.prog ops Q rest (a.put o.dst v') w') : wpList Tryd.prog ops Q (o :: rest) a (w.alloc (.cells #[.string S] 9)) := by
  subst hS
  obtain ⟨i0, hi, hz0, hz1, hz2⟩ := info_parts infoStr
  have hown2 : OwnS (w.alloc (.cells #[.string ⟨t.toArray⟩] 9)) base v L := hown.step (bel_new _ _)
  refine wpList_append_own _ hgd s x 85 ho base 9 i0 (.string ⟨#[]⟩) 1 16 Tryd.underlying85 hi hz0 hz1 hz2 rfl (by decide) v L.length (L.map scell) hs hown2 ⟨w.heap.size, 0, none⟩ 1 1 [scell t] hx (by simp) (fun j u hj => ?_) (by simp [scell]; rfl)
    (by unfold maxLen; omega) (by omega) (by simp; omega) ?_
  · match j, hj with
    | 0, hj =>
      simp at hj
      subst hj
      simp [go_sem, scell, Addr.add]
  · intro v' w' hown' hgrow hnil
    have hlt : ∀ k, v.ownBlock = some k → base ≤ k ∧ k < w.heap.size := fun k hk => World.ownsRow.lt hown k hk
    refine h v' w' ?_ ?_ (by have := hgrow.size; simp at this; omega) ?_
    · simpa [OwnS] using hown'
    · have h1 : Below base (w.alloc (.cells #[.string ⟨t.toArray⟩] 9)) w' := (Below.refl base _).grown hgrow (by simp; omega) fun k hk => (hlt k hk).1
      exact ((bel_new w _).mono hbase).trans h1
    · intro k hk hne
      rw [hgrow.block k (by simp; omega) (Ne.symm hne)]
      exact (bel_new w _).block k hk
theorem joinTail_eq : ∀ (r : List (List UInt8)) (x : List UInt8), x ++ Lib.joinTail [44, 32] r = joinP (x :: r)
  | [], x => by simp [Lib.joinTail, joinP]
  | y :: r, x => by
    rw [joinP, ← joinTail_eq r y]
    simp [Lib.joinTail]
theorem join_eq : ∀ L : List (List UInt8), Lib.join L [44, 32] = joinP L
  | [] => rfl
  | x :: r => by rw [Lib.join_cons, joinTail_eq]
theorem joinStr_any (L : List (List UInt8)) (w : World) (base : Nat) (v : Value) (ho : OwnS w base v L) (hL : L.length ≤ 1000000) (hlen : (joinP L).length ≤ 1000000000) :
    Calls Tryd.prog 89 #[v, .string ⟨#[44, 32]⟩] w fun e w' => e = .returned (.string ⟨(joinP L).toArray⟩) ∧ Below w.heap.size w w' := by
  rcases ho.cells with ⟨rfl, rfl⟩ | ⟨g, cap, rfl, hb, hg, hc, hcell⟩
  · exact (Tryd.strings_Join_none none 0 ⟨#[44, 32]⟩ w).mono fun e w' ⟨he, hw⟩ => ⟨he, hw ▸ Below.refl _ _⟩
  · have hm : (L.map fun s => (⟨s.toArray⟩ : ByteArray)).map (·.data.toList) = L := by
      rw [List.map_map]
      conv => rhs; rw [← List.map_id L]
      exact List.map_congr_left fun x _ => by simp
    have h := Tryd.strings_Join g 0 cap (L.map fun s => (⟨s.toArray⟩ : ByteArray)) ⟨#[44, 32]⟩ w (fun j x hj => ?_) hg (by simp; omega) (by simpa using hc) (by rw [hm, show (⟨#[44, 32]⟩ : ByteArray).data.toList = [44, 32] from rfl, join_eq]; omega)
    · rw [hm, show (⟨#[44, 32]⟩ : ByteArray).data.toList = [44, 32] from rfl, join_eq, List.length_map] at h
      exact h
    · rw [List.getElem?_map] at hj
      cases hs : L[j]? with
      | none => rw [hs] at hj; simp at hj
      | some s =>
        rw [hs] at hj
        simp at hj
        subst hj
        rw [Nat.zero_add]
        exact hcell j s hs
end Go.Proofs.YtogkiifljdnjgaaDoor
