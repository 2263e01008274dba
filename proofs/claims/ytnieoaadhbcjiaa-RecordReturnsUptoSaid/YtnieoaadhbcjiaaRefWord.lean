/- The walk of the reference's Word. No condition beyond a length that memory allows. -/
import Derived.Test.YtnieoaadhbcjiaaRefCur
namespace Go.Proofs.Ytnieoaadhbcjiaa
open Go.RowKit
set_option linter.unusedVariables false
set_option linter.unusedSimpArgs false

set_option maxHeartbeats 600000 in
/-- A Word whose number is bad. -/
theorem rword_num (u : Value) (bad : Bool) (w : World) (hs : ∃ a c n, u = .slice a n c)
    (hN : ∀ W, Below w.heap.size w W → Calls Try.prog 44 #[.agg #[u, .bool bad]] W fun e w' => e = .returned (.tuple #[.agg #[.slice none 0 0, .bool true], .int .i64 0]) ∧ Below W.heap.size W w') :
    Calls Try.prog 45 #[.agg #[u, .bool bad]] w fun e w' => e = .returned (.tuple #[.agg #[.slice none 0 0, .bool true], .string ⟨#[]⟩]) ∧ Below w.heap.size w w' := by
  obtain ⟨a, c, n, rfl⟩ := hs
  have HN := Lib.hid hN
  clear hN
  have hB := bel_alloc (x := .cells #[.slice none 0 0, .bool false] 49) (bel_new w (.cells #[.slice a n c, .bool bad] 49))
  have HB := Lib.hid hB
  clear hB
  have HB52 := Lib.hid rbad_any
  go_enter Try.func45, Try.ntmps45
  go_upto_region 3 with (go_at_call 44; refine (HN.out _ HB.out).mono ?_; rintro e w4 ⟨rfl, hb4⟩; have c0 := keep_at hb4 (show World.cell? _ ⟨w.heap.size, 0, none⟩ = some (.slice a n c) by simp [go_sem]); have c1 := keep_at hb4 (show World.cell? _ ⟨w.heap.size, 1, none⟩ = some (.bool bad) by simp [go_sem]); have e0 := frozen_lt hb4 (show w.heap.size < _ by simp [go_sem] <;> omega) (show World.frozen? _ ⟨w.heap.size, 0, none⟩ = false by simp [go_sem]); have e1 := frozen_lt hb4 (show w.heap.size < _ by simp [go_sem] <;> omega) (show World.frozen? _ ⟨w.heap.size, 1, none⟩ = false by simp [go_sem]))
  have d0 := keep_set (g := w.heap.size) (k := 1) (u := .bool true) (by omega) (keep_set (g := w.heap.size) (k := 0) (u := .slice none 0 0) (by omega) (keep_at hb4 (show World.cell? _ ⟨w.heap.size + 1, 0, none⟩ = some (.slice none 0 0) by simp [go_sem])))
  have d1 := keep_set (g := w.heap.size) (k := 1) (u := .bool true) (by omega) (keep_set (g := w.heap.size) (k := 0) (u := .slice none 0 0) (by omega) (keep_at hb4 (show World.cell? _ ⟨w.heap.size + 1, 1, none⟩ = some (.bool false) by simp [go_sem])))
  have f0 := frozen_set (q := ⟨w.heap.size, 1, none⟩) (u := .bool true) (frozen_set (q := ⟨w.heap.size, 0, none⟩) (u := .slice none 0 0) (frozen_lt hb4 (show w.heap.size + 1 < _ by simp [go_sem]) (show World.frozen? _ ⟨w.heap.size + 1, 0, none⟩ = false by simp [go_sem])))
  have f1 := frozen_set (q := ⟨w.heap.size, 1, none⟩) (u := .bool true) (frozen_set (q := ⟨w.heap.size, 0, none⟩) (u := .slice none 0 0) (frozen_lt hb4 (show w.heap.size + 1 < _ by simp [go_sem]) (show World.frozen? _ ⟨w.heap.size + 1, 1, none⟩ = false by simp [go_sem])))
  have hb9 : Below w.heap.size w ((w4.setCell ⟨w.heap.size, 0, none⟩ (.slice none 0 0)).setCell ⟨w.heap.size, 1, none⟩ (.bool true)) := ((HB.out.trans (hb4.mono HB.out.size)).setCell (p := ⟨w.heap.size, 0, none⟩) (Nat.le_refl _) _).setCell (p := ⟨w.heap.size, 1, none⟩) (Nat.le_refl _) _
  clear c0 c1 e0 e1
  generalize ((w4.setCell ⟨w.heap.size, 0, none⟩ (.slice none 0 0)).setCell ⟨w.heap.size, 1, none⟩ (.bool true)) = W at *
  have HB9 := Lib.hid hb9
  go_wp2_with (go_at_call 52; refine (HB52.out _).mono ?_; rintro e w5 ⟨rfl, hb5⟩; have y0 := keep_at hb5 d0; have y1 := keep_at hb5 d1; have z0 := frozen_lt hb5 (World.block_lt_of_cell? _ _ d0) f0; have z1 := frozen_lt hb5 (World.block_lt_of_cell? _ _ d1) f1)
  refine bodyPost_ret (v := .tuple #[.agg #[.slice none 0 0, .bool true], .string ⟨#[]⟩]) (by simp [results, Try.results45, go_sem, y0, y1]) rfl ⟨rfl, ?_⟩
  exact ((HB9.out.trans (hb5.mono HB9.out.size)).setCell (p := ⟨w.heap.size + 1, 0, none⟩) (by show w.heap.size ≤ w.heap.size + 1; omega) _).setCell (p := ⟨w.heap.size + 1, 1, none⟩) (by show w.heap.size ≤ w.heap.size + 1; omega) _

theorem NoB.of {w : World} {g : Nat} {x y : Value} {t : TypeId} (h : w.heap[g]? = some (.cells #[x, y] t)) (hx : ∀ n, x ≠ .int .u8 n) (hy : ∀ n, y ≠ .int .u8 n) : NoB w g := by
  intro o n e
  rw [cell_of_row w g o _ _ _ h] at e
  match o, e with
  | 0, e => simp at e; exact hx n e
  | 1, e => simp at e; exact hy n e
  | o + 2, e => simp at e

theorem IsB.cutif {w : World} {a : Option Addr} {cap : Nat} {l : List UInt8} (h : IsB w (.slice a l.length cap) l) (k : Nat) (hk : k ≤ l.length) :
    IsB w (.slice (if cap = k then a else Option.map (fun x => x.add k) a) (l.length - k) (cap - k)) (l.drop k) := by
  by_cases hc : cap = k
  · rw [if_pos hc]
    have := h.back k hk hc
    rwa [show cap - k = 0 by omega]
  · rw [if_neg hc]
    exact h.cut1 k hk
theorem IsB.drew1 {w : World} {v : Value} {l : List UInt8} (h : IsB w v l) : IsB w.drew v l := h.draws 1
theorem NoB.keep {w w' : World} {g : Nat} (h : NoB w g) (hb : ∀ o, w'.cell? ⟨g, o, none⟩ = w.cell? ⟨g, o, none⟩) : NoB w' g := fun o n e => h o n (by rw [← hb o]; exact e)

set_option maxHeartbeats 1000000 in
/-- A Word whose number is good: the way to its end. -/
theorem rword_ok (a : Option Addr) (c : Nat) (l : List UInt8) (w : World) (h : IsB w (.slice a l.length c) l) (hl : l.length ≤ 140737488355328) (n k : Nat) (hr : rtP l = ((n : Int), (k : Int))) (hk : 1 ≤ k) (hkl : k ≤ l.length) (hn : n ≤ (l.drop k).length) :
    Calls Try.prog 45 #[.agg #[.slice a l.length c, .bool false]] w fun e w' => ∃ a' c', e = .returned (.tuple #[.agg #[.slice a' ((l.drop k).drop n).length c', .bool false], .string ⟨((l.drop k).take n).toArray⟩]) ∧ IsB w' (.slice a' ((l.drop k).drop n).length c') ((l.drop k).drop n) ∧ (∀ B, Low B a l → Low B a' ((l.drop k).drop n)) ∧ Below w.heap.size w w' := by
  have hN := fun W h9 => rnum_ok a c l W h9 hl n k hr hk hkl
  have HN := Lib.hid hN
  have HI := Lib.hid h
  obtain ⟨r, hrr⟩ : ∃ r, r = l.drop k := ⟨_, rfl⟩
  rw [← hrr] at HN hn ⊢
  have hni : (n : Int) ≤ (r.length : Int) := by omega
  have hB := bel_alloc (x := .cells #[.slice none 0 0, .bool false] 49) (bel_new w (.cells #[.slice a l.length c, .bool false] 49))
  have HB := Lib.hid hB
  clear hB hN h hrr hr
  go_enter Try.func45, Try.ntmps45
  go_upto_region 4 with (go_at_call 44; refine (HN.out _ (HI.out.step HB.out)).mono ?_; rintro e w4 ⟨a4, c4, rfl, hI4, hL4, hb4⟩; obtain ⟨_, _, hv4, hc4, hc5, hc6⟩ := hI4.shape; simp only [Value.slice.injEq] at hv4; obtain ⟨rfl, _, rfl⟩ := hv4; have HL4 := Lib.hid hL4; clear hL4; have HI4 := Lib.hid hI4; clear hI4; have c0 := keep_at hb4 (show World.cell? _ ⟨w.heap.size, 0, none⟩ = some (.slice a l.length c) by simp [go_sem]); have c1 := keep_at hb4 (show World.cell? _ ⟨w.heap.size, 1, none⟩ = some (.bool false) by simp [go_sem]); have e0 := frozen_lt hb4 (show w.heap.size < _ by simp [go_sem] <;> omega) (show World.frozen? _ ⟨w.heap.size, 0, none⟩ = false by simp [go_sem]); have e1 := frozen_lt hb4 (show w.heap.size < _ by simp [go_sem] <;> omega) (show World.frozen? _ ⟨w.heap.size, 1, none⟩ = false by simp [go_sem]))
  have hNo : NoB w4 w.heap.size := NoB.of (x := .slice a l.length c) (y := .bool false) (t := 49) ((hb4.block w.heap.size (by simp [go_sem] <;> omega)).trans (by
    rw [Below.heap_alloc _ _ _ (by simp [go_sem])]
    exact heap_alloc_new w _)) (by intro n h; cases h) (by intro n h; cases h)
  have hNz : NoB w4 (w.heap.size + 1) := NoB.of (x := .slice none 0 0) (y := .bool false) (t := 49) ((hb4.block (w.heap.size + 1) (by simp [go_sem] <;> omega)).trans (by
    have := heap_alloc_new (w.alloc (.cells #[.slice a l.length c, .bool false] 49)) (.cells #[.slice none 0 0, .bool false] 49)
    simpa [go_sem] using this)) (by intro n h; cases h) (by intro n h; cases h)
  have hNo1 := hNo.set (o := 0) (u := .slice a4 r.length c4) (by intro n h; cases h)
  have hIW := IsB.set (o := 1) (u := .bool false) hNo1 (IsB.set (o := 0) (u := .slice a4 r.length c4) hNo HI4.out)
  have s0 : ((w4.setCell ⟨w.heap.size, 0, none⟩ (.slice a4 r.length c4)).setCell ⟨w.heap.size, 1, none⟩ (.bool false)).cell? ⟨w.heap.size, 0, none⟩ = some (.slice a4 r.length c4) := by simp [go_sem, c0, c1]
  have d0 := keep_set (g := w.heap.size) (k := 1) (u := .bool false) (by omega) (keep_set (g := w.heap.size) (k := 0) (u := .slice a4 r.length c4) (by omega) (keep_at hb4 (show World.cell? _ ⟨w.heap.size + 1, 0, none⟩ = some (.slice none 0 0) by simp [go_sem])))
  have d1 := keep_set (g := w.heap.size) (k := 1) (u := .bool false) (by omega) (keep_set (g := w.heap.size) (k := 0) (u := .slice a4 r.length c4) (by omega) (keep_at hb4 (show World.cell? _ ⟨w.heap.size + 1, 1, none⟩ = some (.bool false) by simp [go_sem])))
  have f0 := frozen_set (q := ⟨w.heap.size, 1, none⟩) (u := .bool false) (frozen_set (q := ⟨w.heap.size, 0, none⟩) (u := .slice a4 r.length c4) (frozen_lt hb4 (show w.heap.size + 1 < _ by simp [go_sem]) (show World.frozen? _ ⟨w.heap.size + 1, 0, none⟩ = false by simp [go_sem])))
  have f1 := frozen_set (q := ⟨w.heap.size, 1, none⟩) (u := .bool false) (frozen_set (q := ⟨w.heap.size, 0, none⟩) (u := .slice a4 r.length c4) (frozen_lt hb4 (show w.heap.size + 1 < _ by simp [go_sem]) (show World.frozen? _ ⟨w.heap.size + 1, 1, none⟩ = false by simp [go_sem])))
  have hb9 : Below w.heap.size w ((w4.setCell ⟨w.heap.size, 0, none⟩ (.slice a4 r.length c4)).setCell ⟨w.heap.size, 1, none⟩ (.bool false)) := ((HB.out.trans (hb4.mono HB.out.size)).setCell (p := ⟨w.heap.size, 0, none⟩) (Nat.le_refl _) _).setCell (p := ⟨w.heap.size, 1, none⟩) (Nat.le_refl _) _
  have hNzW : NoB ((w4.setCell ⟨w.heap.size, 0, none⟩ (.slice a4 r.length c4)).setCell ⟨w.heap.size, 1, none⟩ (.bool false)) (w.heap.size + 1) := hNz.keep fun o => by
    rw [World.cell?_setCell_other _ _ _ _ (by intro h; injection h with h; omega), World.cell?_setCell_other _ _ _ _ (by intro h; injection h with h; omega)]
  clear c0 c1 e0 e1 hNo hNo1 HI4 hNz
  generalize ((w4.setCell ⟨w.heap.size, 0, none⟩ (.slice a4 r.length c4)).setCell ⟨w.heap.size, 1, none⟩ (.bool false)) = W at *
  have HB9 := Lib.hid hb9
  have HIW := Lib.hid hIW
  have hcut := hIW.cutif n hn
  have hTo := hIW.upto n hn
  have hNz1 := hNzW.set (o := 0) (u := .slice (if c4 = n then a4 else Option.map (fun x => x.add n) a4) (r.length - n) (c4 - n)) (by intro n h; cases h)
  have hcut2 := IsB.set (o := 1) (u := .bool false) hNz1 (IsB.set (o := 0) (u := .slice (if c4 = n then a4 else Option.map (fun x => x.add n) a4) (r.length - n) (c4 - n)) hNzW hcut)
  have hTo1 := IsB.set (o := 0) (u := .slice (if c4 = n then a4 else Option.map (fun x => x.add n) a4) (r.length - n) (c4 - n)) hNzW hTo
  have hTo2 := IsB.set (o := 1) (u := .bool false) hNz1 hTo1
  have HC2 := Lib.hid hcut2
  have t0 : (convert 23 9 (.slice a4 n c4)).run Try.prog W = .ok (.string ⟨(r.take n).toArray⟩) W := run_str _ _ _ hTo
  have t1 : (convert 23 9 (.slice a4 n c4)).run Try.prog W.drew = .ok (.string ⟨(r.take n).toArray⟩) W.drew := run_str _ _ _ (hTo.draws 1)
  have t2 := run_str _ _ _ hTo1.drew1
  have t3 := run_str _ _ _ hTo2.drew1
  have hnc : (n : Int) ≤ (c4 : Int) := by omega
  have hn0 : (0 : Int) ≤ (n : Int) := by omega
  clear hTo hTo1 hTo2 hcut hcut2 hNz1 hNzW hIW hb9 HN HI
  go_region
  all_goals
    have HLD := Lib.hid (fun B h => (HL4.out B h).cut n c4)
    clear t0 t1 t2 t3 hnc hn0 hni hl hc4 hc5 hc6
    generalize (if c4 = n then a4 else Option.map (fun x => x.add n) a4) = av at *
    generalize c4 - n = cv at *
    generalize hnv : r.length - n = nv at *
    have HNV := Lib.hid hnv
    clear hnv
    go_wp2
    refine bodyPost_ret (v := .tuple #[.agg #[.slice av nv cv, .bool false], .string ⟨(r.take n).toArray⟩]) (by simp [results, Try.results45, go_sem, d0, d1]) rfl ⟨av, cv, by rw [List.length_drop, HNV.out], by rw [List.length_drop, HNV.out]; exact HC2.out.drew1, HLD.out, ?_⟩
    exact ((HB9.out.setCell (p := ⟨w.heap.size + 1, 0, none⟩) (by show w.heap.size ≤ w.heap.size + 1; omega) _).setCell (p := ⟨w.heap.size + 1, 1, none⟩) (by show w.heap.size ≤ w.heap.size + 1; omega) _).drew

set_option maxHeartbeats 1000000 in
/-- A Word whose number is greater than what is left. -/
theorem rword_long (a : Option Addr) (c : Nat) (l : List UInt8) (w : World) (h : IsB w (.slice a l.length c) l) (hl : l.length ≤ 140737488355328) (n k : Nat) (hr : rtP l = ((n : Int), (k : Int))) (hk : 1 ≤ k) (hkl : k ≤ l.length) (hn : (l.drop k).length < n) :
    Calls Try.prog 45 #[.agg #[.slice a l.length c, .bool false]] w fun e w' => e = .returned (.tuple #[.agg #[.slice none 0 0, .bool true], .string ⟨#[]⟩]) ∧ Below w.heap.size w w' := by
  have hN := fun W h9 => rnum_ok a c l W h9 hl n k hr hk hkl
  have HN := Lib.hid hN
  have HI := Lib.hid h
  have HB52 := Lib.hid rbad_any
  obtain ⟨r, hrr⟩ : ∃ r, r = l.drop k := ⟨_, rfl⟩
  rw [← hrr] at HN hn
  have hni : (r.length : Int) < (n : Int) := by omega
  have hB := bel_alloc (x := .cells #[.slice none 0 0, .bool false] 49) (bel_new w (.cells #[.slice a l.length c, .bool false] 49))
  have HB := Lib.hid hB
  clear hB hN h hrr hr
  go_enter Try.func45, Try.ntmps45
  go_upto_region 3 with (go_at_call 44; refine (HN.out _ (HI.out.step HB.out)).mono ?_; rintro e w4 ⟨a4, c4, rfl, hI4, hL4, hb4⟩; obtain ⟨_, _, hv4, hc4, hc5, hc6⟩ := hI4.shape; simp only [Value.slice.injEq] at hv4; obtain ⟨rfl, _, rfl⟩ := hv4; clear hL4; clear hI4; have c0 := keep_at hb4 (show World.cell? _ ⟨w.heap.size, 0, none⟩ = some (.slice a l.length c) by simp [go_sem]); have c1 := keep_at hb4 (show World.cell? _ ⟨w.heap.size, 1, none⟩ = some (.bool false) by simp [go_sem]); have e0 := frozen_lt hb4 (show w.heap.size < _ by simp [go_sem] <;> omega) (show World.frozen? _ ⟨w.heap.size, 0, none⟩ = false by simp [go_sem]); have e1 := frozen_lt hb4 (show w.heap.size < _ by simp [go_sem] <;> omega) (show World.frozen? _ ⟨w.heap.size, 1, none⟩ = false by simp [go_sem]))
  have d0 := keep_set (g := w.heap.size) (k := 1) (u := .bool false) (by omega) (keep_set (g := w.heap.size) (k := 0) (u := .slice a4 r.length c4) (by omega) (keep_at hb4 (show World.cell? _ ⟨w.heap.size + 1, 0, none⟩ = some (.slice none 0 0) by simp [go_sem])))
  have d1 := keep_set (g := w.heap.size) (k := 1) (u := .bool false) (by omega) (keep_set (g := w.heap.size) (k := 0) (u := .slice a4 r.length c4) (by omega) (keep_at hb4 (show World.cell? _ ⟨w.heap.size + 1, 1, none⟩ = some (.bool false) by simp [go_sem])))
  have f0 := frozen_set (q := ⟨w.heap.size, 1, none⟩) (u := .bool false) (frozen_set (q := ⟨w.heap.size, 0, none⟩) (u := .slice a4 r.length c4) (frozen_lt hb4 (show w.heap.size + 1 < _ by simp [go_sem]) (show World.frozen? _ ⟨w.heap.size + 1, 0, none⟩ = false by simp [go_sem])))
  have f1 := frozen_set (q := ⟨w.heap.size, 1, none⟩) (u := .bool false) (frozen_set (q := ⟨w.heap.size, 0, none⟩) (u := .slice a4 r.length c4) (frozen_lt hb4 (show w.heap.size + 1 < _ by simp [go_sem]) (show World.frozen? _ ⟨w.heap.size + 1, 1, none⟩ = false by simp [go_sem])))
  have hb9 : Below w.heap.size w ((w4.setCell ⟨w.heap.size, 0, none⟩ (.slice a4 r.length c4)).setCell ⟨w.heap.size, 1, none⟩ (.bool false)) := ((HB.out.trans (hb4.mono HB.out.size)).setCell (p := ⟨w.heap.size, 0, none⟩) (Nat.le_refl _) _).setCell (p := ⟨w.heap.size, 1, none⟩) (Nat.le_refl _) _
  clear c0 c1 e0 e1
  generalize ((w4.setCell ⟨w.heap.size, 0, none⟩ (.slice a4 r.length c4)).setCell ⟨w.heap.size, 1, none⟩ (.bool false)) = W at *
  have HB9 := Lib.hid hb9
  clear hb9 hb4 HN HI hc4 hc5 hc6
  go_wp2_with (go_at_call 52; refine (HB52.out _).mono ?_; rintro e w5 ⟨rfl, hb5⟩; have y0 := keep_at hb5 d0; have y1 := keep_at hb5 d1; have z0 := frozen_lt hb5 (World.block_lt_of_cell? _ _ d0) f0; have z1 := frozen_lt hb5 (World.block_lt_of_cell? _ _ d1) f1)
  refine bodyPost_ret (v := .tuple #[.agg #[.slice none 0 0, .bool true], .string ⟨#[]⟩]) (by simp [results, Try.results45, go_sem, y0, y1]) rfl ⟨rfl, ?_⟩
  exact ((HB9.out.trans (hb5.mono HB9.out.size)).setCell (p := ⟨w.heap.size + 1, 0, none⟩) (by show w.heap.size ≤ w.heap.size + 1; omega) _).setCell (p := ⟨w.heap.size + 1, 1, none⟩) (by show w.heap.size ≤ w.heap.size + 1; omega) _

/-- A text taken: it and what is left, or nothing. -/
def wordR (l : List UInt8) : Option (List UInt8 × List UInt8) :=
  match numR l with
  | none => none
  | some (n, r) => if n ≤ r.length then some (r.take n, r.drop n) else none
/-- The reference's cursor, with or without an error; its bytes lie below block B. -/
def RCurO (B : Nat) (w : World) (v : Value) : Option (List UInt8) → Prop
  | some l => ∃ a c, v = .agg #[.slice a l.length c, .bool false] ∧ IsB w (.slice a l.length c) l ∧ Low B a l
  | none => v = .agg #[.slice none 0 0, .bool true]
theorem RCurO.step {B : Nat} {w w' : World} {v : Value} {o : Option (List UInt8)} (h : RCurO B w v o) (hb : Below w.heap.size w w') : RCurO B w' v o := by
  cases o with
  | none => exact h
  | some l => obtain ⟨a, c, rfl, h, hL⟩ := h; exact ⟨a, c, rfl, h.step hb, hL⟩
theorem RCurO.bel {B : Nat} {w w' : World} {v : Value} {o : Option (List UInt8)} (h : RCurO B w v o) (hb : Below B w w') : RCurO B w' v o := by
  cases o with
  | none => exact h
  | some l => obtain ⟨a, c, rfl, h, hL⟩ := h; exact ⟨a, c, rfl, h.bel hL hb, hL⟩
def numV (o : Option (List UInt8)) : Int := match o.bind numR with | some (n, _) => (n : Int) | none => 0
def numO (o : Option (List UInt8)) : Option (List UInt8) := (o.bind numR).map (·.2)
def wordV (o : Option (List UInt8)) : List UInt8 := match o.bind wordR with | some (s, _) => s | none => []
def wordO (o : Option (List UInt8)) : Option (List UInt8) := (o.bind wordR).map (·.2)
def shortO (o : Option (List UInt8)) : Prop := ∀ l, o = some l → l.length ≤ 1000000
theorem rnum_any (B : Nat) (o : Option (List UInt8)) (v : Value) (w : World) (h : RCurO B w v o) (hs : shortO o) :
    Calls Try.prog 44 #[v] w fun e w' => ∃ v', e = .returned (.tuple #[v', .int .i64 (numV o)]) ∧ RCurO B w' v' (numO o) ∧ Below w.heap.size w w' := by
  cases o with
  | none =>
    obtain rfl : v = _ := h
    refine (rnum_badc w).mono ?_
    rintro e w' ⟨rfl, hb⟩
    exact ⟨_, rfl, rfl, hb⟩
  | some l =>
    obtain ⟨a, c, rfl, h, hL⟩ := h
    have hl := hs l rfl
    rcases num_cases l with ⟨n, k, _, hr, hk1, hk2, hn, hR⟩ | ⟨_, h2, hR⟩
    · refine (rnum_ok a c l w h (by omega) n k hr hk1 hk2).mono ?_
      rintro e w' ⟨a', c', rfl, hu, hL', hb⟩
      exact ⟨.agg #[.slice a' (l.drop k).length c', .bool false], by simp [numV, hR], by simp only [numO, Option.bind_some, hR, Option.map_some]; exact ⟨a', c', rfl, hu, hL' B hL⟩, hb⟩
    · refine (rnum_bad _ l w h (by omega) h2).mono ?_
      rintro e w' ⟨rfl, hb⟩
      exact ⟨.agg #[.slice none 0 0, .bool true], by simp [numV, hR], by simp [numO, hR, RCurO], hb⟩
theorem rword_any (B : Nat) (o : Option (List UInt8)) (v : Value) (w : World) (h : RCurO B w v o) (hs : shortO o) :
    Calls Try.prog 45 #[v] w fun e w' => ∃ v', e = .returned (.tuple #[v', .string ⟨(wordV o).toArray⟩]) ∧ RCurO B w' v' (wordO o) ∧ Below w.heap.size w w' := by
  cases o with
  | none =>
    obtain rfl : v = _ := h
    refine (rword_num (.slice none 0 0) true w ⟨none, 0, 0, rfl⟩ (fun W _ => rnum_badc W)).mono ?_
    rintro e w' ⟨rfl, hb⟩
    exact ⟨_, rfl, rfl, hb⟩
  | some l =>
    obtain ⟨a, c, rfl, h, hL⟩ := h
    have hl := hs l rfl
    rcases num_cases l with ⟨n, k, _, hr, hk1, hk2, hn, hR⟩ | ⟨_, h2, hR⟩
    · by_cases hle : n ≤ (l.drop k).length
      · have hW : wordR l = some ((l.drop k).take n, (l.drop k).drop n) := by simp only [wordR, hR]; rw [if_pos hle]
        refine (rword_ok a c l w h (by omega) n k hr hk1 hk2 hle).mono ?_
        rintro e w' ⟨a', c', rfl, hu, hL', hb⟩
        exact ⟨.agg #[.slice a' ((l.drop k).drop n).length c', .bool false], by simp only [wordV, Option.bind_some, hW], by simp only [wordO, Option.bind_some, hW, Option.map_some]; exact ⟨a', c', rfl, hu, hL' B hL⟩, hb⟩
      · have hW : wordR l = none := by simp only [wordR, hR]; rw [if_neg hle]
        refine (rword_long a c l w h (by omega) n k hr hk1 hk2 (by omega)).mono ?_
        rintro e w' ⟨rfl, hb⟩
        exact ⟨.agg #[.slice none 0 0, .bool true], by simp only [wordV, Option.bind_some, hW], by simp [wordO, hW, RCurO], hb⟩
    · have hW : wordR l = none := by simp only [wordR, hR]
      refine (rword_num _ false w ⟨_, _, _, rfl⟩ (fun W hbW => rnum_bad _ l W (h.step hbW) (by omega) h2)).mono ?_
      rintro e w' ⟨rfl, hb⟩
      exact ⟨.agg #[.slice none 0 0, .bool true], by simp only [wordV, Option.bind_some, hW], by simp [wordO, hW, RCurO], hb⟩
end Go.Proofs.Ytnieoaadhbcjiaa
