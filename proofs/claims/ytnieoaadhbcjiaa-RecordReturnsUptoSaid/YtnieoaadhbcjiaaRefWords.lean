/- The walk of the reference's Words. No condition beyond a length that memory allows. -/
import Derived.Test.YtnieoaadhbcjiaaBox
namespace Go.Proofs.Ytnieoaadhbcjiaa
open Go.RowKit
set_option linter.unusedVariables false
set_option linter.unusedSimpArgs false

/-- A list of texts taken: it and what is left, or nothing. -/
def wordsF : Nat → List UInt8 → Option (List (List UInt8) × List UInt8)
  | 0, l => some ([], l)
  | n + 1, l => match wordR l with
    | none => none
    | some (s, r) => (wordsF n r).map fun x => (s :: x.1, x.2)
def wordsR (l : List UInt8) : Option (List (List UInt8) × List UInt8) :=
  match numR l with
  | none => none
  | some (n, r) => if n ≤ r.length then wordsF n r else none
theorem numR_bd {l r : List UInt8} {n : Nat} (h : numR l = some (n, r)) : r.length < l.length ∧ n ≤ 4611686018427387904 := by
  rcases num_cases l with ⟨n', k, _, _, hk1, hk2, hn, hR⟩ | ⟨_, _, hR⟩
  · rw [hR] at h
    simp only [Option.some.injEq, Prod.mk.injEq] at h
    obtain ⟨rfl, rfl⟩ := h
    simp only [List.length_drop]
    omega
  · rw [hR] at h; cases h
theorem wordR_bd {l s r : List UInt8} (h : wordR l = some (s, r)) : r.length < l.length ∧ s.length ≤ l.length := by
  unfold wordR at h
  split at h
  · cases h
  · rename_i n r' hn
    have := numR_bd hn
    split at h
    · simp only [Option.some.injEq, Prod.mk.injEq] at h
      obtain ⟨rfl, rfl⟩ := h
      simp only [List.length_drop, List.length_take]
      omega
    · cases h

/-- A cursor in hand: what the next text is. -/
theorem rword_yes {l s r : List UInt8} {a : Option Addr} {c : Nat} (B : Nat) (W : World) (h : IsB W (.slice a l.length c) l) (hL : Low B a l) (hl : l.length ≤ 1000000) (hw : wordR l = some (s, r)) :
    Calls Try.prog 45 #[.agg #[.slice a l.length c, .bool false]] W fun e w' => ∃ a' c', e = .returned (.tuple #[.agg #[.slice a' r.length c', .bool false], .string ⟨s.toArray⟩]) ∧ IsB w' (.slice a' r.length c') r ∧ Low B a' r ∧ Below W.heap.size W w' := by
  refine (rword_any B (some l) _ W ⟨a, c, rfl, h, hL⟩ (fun x hx => by cases hx; exact hl)).mono ?_
  rintro e w' ⟨v', rfl, hv, hb⟩
  simp only [wordO, wordV, Option.bind_some, hw, Option.map_some] at hv ⊢
  obtain ⟨a', c', rfl, hI, hL'⟩ := hv
  exact ⟨a', c', rfl, hI, hL', hb⟩
theorem rword_no {l : List UInt8} {a : Option Addr} {c : Nat} (W : World) (h : IsB W (.slice a l.length c) l) (hl : l.length ≤ 1000000) (hw : wordR l = none) :
    Calls Try.prog 45 #[.agg #[.slice a l.length c, .bool false]] W fun e w' => e = .returned (.tuple #[.agg #[.slice none 0 0, .bool true], .string ⟨#[]⟩]) ∧ Below W.heap.size W w' := by
  refine (rword_any _ (some l) _ W ⟨a, c, rfl, h, h.low⟩ (fun x hx => by cases hx; exact hl)).mono ?_
  rintro e w' ⟨v', rfl, hv, hb⟩
  simp only [wordO, wordV, Option.bind_some, hw, Option.map_none] at hv ⊢
  obtain rfl : v' = _ := hv
  exact ⟨rfl, hb⟩

set_option maxHeartbeats 600000 in
/-- Words whose number is bad. -/
theorem rwords_num (u : Value) (bad : Bool) (w : World) (hs : ∃ a c n, u = .slice a n c)
    (hN : ∀ W, Below w.heap.size w W → Calls Try.prog 44 #[.agg #[u, .bool bad]] W fun e w' => e = .returned (.tuple #[.agg #[.slice none 0 0, .bool true], .int .i64 0]) ∧ Below W.heap.size W w') :
    Calls Try.prog 46 #[.agg #[u, .bool bad]] w fun e w' => e = .returned (.tuple #[.agg #[.slice none 0 0, .bool true], .slice none 0 0]) ∧ Below w.heap.size w w' := by
  obtain ⟨a, c, n, rfl⟩ := hs
  have HN := Lib.hid hN
  clear hN
  have hB := bel_alloc (x := .cells #[.slice none 0 0, .bool false] 49) (bel_new w (.cells #[.slice a n c, .bool bad] 49))
  have HB := Lib.hid hB
  have hx0 : Box2 _ w.heap.size 49 (.slice a n c) (.bool bad) := (Box2.new w 49 (.slice a n c) (.bool bad)).alloc (.cells #[.slice none 0 0, .bool false] 49)
  have hx1 := Box2.new1 w (.cells #[.slice a n c, .bool bad] 49) 49 (.slice none 0 0) (.bool false)
  have HX0 := Lib.hid hx0
  have HX1 := Lib.hid hx1
  clear hB hx0 hx1
  have HB52 := Lib.hid rbad_any
  go_enter Try.func46, Try.ntmps46
  go_upto_region 3 with (go_at_call 44; refine (HN.out _ HB.out).mono ?_; rintro e w4 ⟨rfl, hb4⟩; obtain ⟨c0, c1, e0, e1⟩ := (HX0.out.step hb4).facts)
  have hx1 := ((HX1.out.step hb4).far (g := w.heap.size) (k := 0) (by omega) (.slice none 0 0)).far (g := w.heap.size) (k := 1) (by omega) (.bool true)
  have HX1' := Lib.hid hx1
  have hb9 : Below w.heap.size w ((w4.setCell ⟨w.heap.size, 0, none⟩ (.slice none 0 0)).setCell ⟨w.heap.size, 1, none⟩ (.bool true)) := ((HB.out.trans (hb4.mono HB.out.size)).setCell (p := ⟨w.heap.size, 0, none⟩) (Nat.le_refl _) _).setCell (p := ⟨w.heap.size, 1, none⟩) (Nat.le_refl _) _
  clear c0 c1 e0 e1 hx1 HX1 HX0
  generalize ((w4.setCell ⟨w.heap.size, 0, none⟩ (.slice none 0 0)).setCell ⟨w.heap.size, 1, none⟩ (.bool true)) = W at *
  have HB9 := Lib.hid hb9
  clear hb9 hb4
  go_wp2_with (go_at_call 52; refine (HB52.out _).mono ?_; rintro e w5 ⟨rfl, hb5⟩; obtain ⟨y0, y1, z0, z1⟩ := (HX1'.out.step hb5).facts)
  refine bodyPost_ret (v := .tuple #[.agg #[.slice none 0 0, .bool true], .slice none 0 0]) (by simp [results, Try.results46, go_sem, y0, y1]) rfl ⟨rfl, ?_⟩
  exact ((HB9.out.trans (hb5.mono HB9.out.size)).setCell (p := ⟨w.heap.size + 1, 0, none⟩) (by show w.heap.size ≤ w.heap.size + 1; omega) _).setCell (p := ⟨w.heap.size + 1, 1, none⟩) (by show w.heap.size ≤ w.heap.size + 1; omega) _

set_option maxHeartbeats 600000 in
/-- Words whose number is greater than what is left. -/
theorem rwords_long (a : Option Addr) (c : Nat) (l : List UInt8) (w : World) (h : IsB w (.slice a l.length c) l) (hl : l.length ≤ 140737488355328) (n k : Nat) (hr : rtP l = ((n : Int), (k : Int))) (hk : 1 ≤ k) (hkl : k ≤ l.length) (hn : (l.drop k).length < n) :
    Calls Try.prog 46 #[.agg #[.slice a l.length c, .bool false]] w fun e w' => e = .returned (.tuple #[.agg #[.slice none 0 0, .bool true], .slice none 0 0]) ∧ Below w.heap.size w w' := by
  have hN := fun W h9 => rnum_ok a c l W h9 hl n k hr hk hkl
  have HN := Lib.hid hN
  have HI := Lib.hid h
  have HB52 := Lib.hid rbad_any
  obtain ⟨r, hrr⟩ : ∃ r, r = l.drop k := ⟨_, rfl⟩
  rw [← hrr] at HN hn
  have hni : (r.length : Int) < (n : Int) := by omega
  have hB := bel_alloc (x := .cells #[.slice none 0 0, .bool false] 49) (bel_new w (.cells #[.slice a l.length c, .bool false] 49))
  have HB := Lib.hid hB
  have hx0 : Box2 _ w.heap.size 49 (.slice a l.length c) (.bool false) := (Box2.new w 49 (.slice a l.length c) (.bool false)).alloc (.cells #[.slice none 0 0, .bool false] 49)
  have hx1 := Box2.new1 w (.cells #[.slice a l.length c, .bool false] 49) 49 (.slice none 0 0) (.bool false)
  have HX0 := Lib.hid hx0
  have HX1 := Lib.hid hx1
  clear hB hx0 hx1 hN h hrr hr
  go_enter Try.func46, Try.ntmps46
  go_upto_region 3 with (go_at_call 44; refine (HN.out _ (HI.out.step HB.out)).mono ?_; rintro e w4 ⟨a4, c4, rfl, hI4, hL4, hb4⟩; obtain ⟨_, _, hv4, hc4, hc5, hc6⟩ := hI4.shape; simp only [Value.slice.injEq] at hv4; obtain ⟨rfl, _, rfl⟩ := hv4; clear hL4; clear hI4; obtain ⟨c0, c1, e0, e1⟩ := (HX0.out.step hb4).facts)
  have hx1 := ((HX1.out.step hb4).far (g := w.heap.size) (k := 0) (by omega) (.slice a4 r.length c4)).far (g := w.heap.size) (k := 1) (by omega) (.bool false)
  have HX1' := Lib.hid hx1
  have hb9 : Below w.heap.size w ((w4.setCell ⟨w.heap.size, 0, none⟩ (.slice a4 r.length c4)).setCell ⟨w.heap.size, 1, none⟩ (.bool false)) := ((HB.out.trans (hb4.mono HB.out.size)).setCell (p := ⟨w.heap.size, 0, none⟩) (Nat.le_refl _) _).setCell (p := ⟨w.heap.size, 1, none⟩) (Nat.le_refl _) _
  clear c0 c1 e0 e1 hx1 HX1 HX0
  generalize ((w4.setCell ⟨w.heap.size, 0, none⟩ (.slice a4 r.length c4)).setCell ⟨w.heap.size, 1, none⟩ (.bool false)) = W at *
  have HB9 := Lib.hid hb9
  clear hb9 hb4 HN HI hc4 hc5 hc6
  go_wp2_with (go_at_call 52; refine (HB52.out _).mono ?_; rintro e w5 ⟨rfl, hb5⟩; obtain ⟨y0, y1, z0, z1⟩ := (HX1'.out.step hb5).facts)
  refine bodyPost_ret (v := .tuple #[.agg #[.slice none 0 0, .bool true], .slice none 0 0]) (by simp [results, Try.results46, go_sem, y0, y1]) rfl ⟨rfl, ?_⟩
  exact ((HB9.out.trans (hb5.mono HB9.out.size)).setCell (p := ⟨w.heap.size + 1, 0, none⟩) (by show w.heap.size ≤ w.heap.size + 1; omega) _).setCell (p := ⟨w.heap.size + 1, 1, none⟩) (by show w.heap.size ≤ w.heap.size + 1; omega) _
end Go.Proofs.Ytnieoaadhbcjiaa
