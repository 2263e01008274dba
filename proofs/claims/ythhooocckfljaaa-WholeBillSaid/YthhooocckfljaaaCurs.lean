/- The cursor's methods Uint and Text with what lies where. No condition beyond what a cursor in memory is. -/
import Derived.Test.YthhooocckfljaaaPay
namespace Go.Proofs.Ythhooocckfljaaa
open Go.RowKit
set_option linter.unusedVariables false
set_option linter.unusedSimpArgs false

/-- A block that holds no byte. -/
def NoB (w : World) (g : Nat) : Prop := ∀ o n, w.cell? ⟨g, o, none⟩ ≠ some (.int .u8 n)
theorem NoB.of {w : World} {g : Nat} {x y : Value} {t : TypeId} (h : w.heap[g]? = some (.cells #[x, y] t)) (hx : ∀ n, x ≠ .int .u8 n) (hy : ∀ n, y ≠ .int .u8 n) : NoB w g := by
  intro o n e
  rw [cell_of_row w g o _ _ _ h] at e
  match o, e with
  | 0, e => simp at e; exact hx n e
  | 1, e => simp at e; exact hy n e
  | o + 2, e => simp at e
/-! ### A block of two cells -/
def Box2 (w : World) (b : Nat) (t : TypeId) (x y : Value) : Prop := w.heap[b]? = some (.cells #[x, y] t (0, 0))
theorem Box2.facts {w : World} {b : Nat} {t : TypeId} {x y : Value} (h : Box2 w b t x y) :
    w.cell? ⟨b, 0, none⟩ = some x ∧ w.cell? ⟨b, 1, none⟩ = some y ∧ w.frozen? ⟨b, 0, none⟩ = false ∧ w.frozen? ⟨b, 1, none⟩ = false := by
  unfold Box2 at h
  refine ⟨?_, ?_, ?_, ?_⟩ <;> simp [World.cell?, World.frozen?, h]
theorem Box2.lt {w : World} {b : Nat} {t : TypeId} {x y : Value} (h : Box2 w b t x y) : b < w.heap.size := by
  rcases Nat.lt_or_ge b w.heap.size with h' | h'
  · exact h'
  · unfold Box2 at h; rw [Array.getElem?_eq_none h'] at h; cases h
theorem Box2.bel {w w' : World} {B b : Nat} {t : TypeId} {x y : Value} (h : Box2 w b t x y) (hb : Below B w w') (hB : b < B) : Box2 w' b t x y := (hb.block b hB).trans h
theorem Box2.step {w w' : World} {b : Nat} {t : TypeId} {x y : Value} (h : Box2 w b t x y) (hb : Below w.heap.size w w') : Box2 w' b t x y := h.bel hb h.lt
theorem Box2.new (w : World) (t : TypeId) (x y : Value) : Box2 (w.alloc (.cells #[x, y] t)) w.heap.size t x y := heap_alloc_new w _
theorem Box2.far {w : World} {b g k : Nat} {t : TypeId} {x y : Value} (h : Box2 w b t x y) (hn : b ≠ g) (u : Value) : Box2 (w.setCell ⟨g, k, none⟩ u) b t x y :=
  (Below.heap_setCell w ⟨g, k, none⟩ u b hn).trans h
theorem Box2.noB {w : World} {b : Nat} {t : TypeId} {x y : Value} (h : Box2 w b t x y) (hx : ∀ n, x ≠ .int .u8 n) (hy : ∀ n, y ≠ .int .u8 n) : NoB w b := NoB.of h hx hy
theorem IsB.onlyN {w w' : World} {v : Value} {l : List UInt8} {b : Nat} (h : IsB w v l) (ho : Only b w w') (hn : NoB w b) : IsB w' v l := by
  rcases h with h | ⟨h0, g, off, cap, rfl, h3, h4, h5⟩
  · exact .inl h
  · refine .inr ⟨h0, g, off, cap, rfl, h3, h4, fun i c hi => ?_⟩
    have hc := h5 i c hi
    have hlt : g < w.heap.size := World.block_lt_of_cell? w _ hc
    have hne : g ≠ b := by
      rintro rfl
      exact hn _ _ hc
    exact (World.cell?_of_block (ho.block g hlt (fun e => hne (by injection e)))).trans hc
/-- The bytes lie below block B. -/
def Low (B : Nat) (a : Option Addr) (l : List UInt8) : Prop := l ≠ [] → ∃ b off, a = some ⟨b, off, none⟩ ∧ b < B
theorem Low.cut {B : Nat} {a : Option Addr} {l : List UInt8} (h : Low B a l) (k cap : Nat) : Low B (if cap = k then a else Option.map (fun x => x.add k) a) (l.drop k) := by
  intro hd
  have hl : l ≠ [] := by rintro rfl; simp at hd
  obtain ⟨b, off, rfl, hb⟩ := h hl
  by_cases hc : cap = k
  · rw [if_pos hc]; exact ⟨b, off, rfl, hb⟩
  · rw [if_neg hc]
    refine ⟨b, off + k, ?_, hb⟩
    simp only [Option.map_some, Addr.add, Option.some.injEq]
    split
    · subst_vars; rfl
    · rfl
theorem IsB.low {w : World} {a : Option Addr} {n c : Nat} {l : List UInt8} (h : IsB w (.slice a n c) l) : Low w.heap.size a l := by
  intro hl
  rcases h with ⟨rfl, _⟩ | ⟨_, b, off, cap, hv, _, _, hc⟩
  · exact absurd rfl hl
  · simp only [Value.slice.injEq] at hv
    obtain ⟨rfl, _, _⟩ := hv
    cases l with
    | nil => exact absurd rfl hl
    | cons c r => exact ⟨b, off, rfl, World.block_lt_of_cell? _ _ (hc 0 c rfl)⟩
theorem IsB.bel {w w' : World} {B : Nat} {a : Option Addr} {n c : Nat} {l : List UInt8} (h : IsB w (.slice a n c) l) (hl : Low B a l) (hb : Below B w w') : IsB w' (.slice a n c) l := by
  rcases h with h | ⟨h0, b, off, cap, hv, h1, h2, h3⟩
  · exact .inl h
  · refine .inr ⟨h0, b, off, cap, hv, h1, h2, fun i x hi => ?_⟩
    simp only [Value.slice.injEq] at hv
    obtain ⟨rfl, _, _⟩ := hv
    obtain ⟨b', off', he, hlt⟩ := hl h0
    simp only [Option.some.injEq, Addr.mk.injEq] at he
    obtain ⟨rfl, _, _⟩ := he
    exact (World.cell?_of_block (hb.block b hlt)).trans (h3 i x hi)
theorem IsB.back {w : World} {a : Option Addr} {cap : Nat} {l : List UInt8} (h : IsB w (.slice a l.length cap) l) (q : Nat) (hq : q ≤ l.length) (hc : cap = q) : IsB w (.slice a (l.length - q) 0) (l.drop q) := by
  cases a with
  | none =>
    obtain ⟨rfl, rfl⟩ := h.none_nil
    simpa using h
  | some a => exact h.cut2 (by simp) q hq hc
theorem IsB.cutif {w : World} {a : Option Addr} {cap : Nat} {l : List UInt8} (h : IsB w (.slice a l.length cap) l) (k : Nat) (hk : k ≤ l.length) :
    IsB w (.slice (if cap = k then a else Option.map (fun x => x.add k) a) (l.length - k) (cap - k)) (l.drop k) := by
  by_cases hc : cap = k
  · rw [if_pos hc]
    have := h.back k hk hc
    rwa [show cap - k = 0 by omega]
  · rw [if_neg hc]
    exact h.cut1 k hk
/-- A number taken: it and what is left, or nothing. -/
def numR (l : List UInt8) : Option (Nat × List UInt8) :=
  if 1 ≤ (takeP 9 l).2 ∧ (takeP 9 l).1 ≤ 4611686018427387904 then some ((takeP 9 l).1.toNat, l.drop (takeP 9 l).2.toNat) else none
theorem num_cases (l : List UInt8) :
    (∃ n k : Nat, takeP 9 l = ((n : Int), (k : Int)) ∧ 1 ≤ k ∧ k ≤ l.length ∧ n ≤ 4611686018427387904 ∧ numR l = some (n, l.drop k)) ∨
    (((takeP 9 l).2 < 1 ∨ 4611686018427387904 < (takeP 9 l).1) ∧ numR l = none) := by
  have hb := takeP_bd 9 l
  by_cases h : 1 ≤ (takeP 9 l).2 ∧ (takeP 9 l).1 ≤ 4611686018427387904
  · have e : takeP 9 l = (((takeP 9 l).1.toNat : Int), ((takeP 9 l).2.toNat : Int)) := Prod.ext (by simp only []; omega) (by simp only []; omega)
    exact .inl ⟨_, _, e, by omega, by omega, by omega, by unfold numR; rw [if_pos h]⟩
  · exact .inr ⟨by omega, by unfold numR; rw [if_neg h]⟩
theorem numR_bd {l r : List UInt8} {n : Nat} (h : numR l = some (n, r)) : r.length < l.length ∧ n ≤ 4611686018427387904 := by
  rcases num_cases l with ⟨n', k, _, h1, h2, h3, hR⟩ | ⟨_, hR⟩
  · rw [hR] at h
    simp only [Option.some.injEq, Prod.mk.injEq] at h
    obtain ⟨rfl, rfl⟩ := h
    rw [List.length_drop]
    exact ⟨by omega, h3⟩
  · rw [hR] at h; cases h
/-- A text taken: it and what is left, or nothing. -/
def wordR (l : List UInt8) : Option (List UInt8 × List UInt8) :=
  match numR l with
  | none => none
  | some (n, r) => if n ≤ r.length then some (r.take n, r.drop n) else none
def numV (o : Option (List UInt8)) : Int := match o.bind numR with | some (n, _) => (n : Int) | none => 0
def numO (o : Option (List UInt8)) : Option (List UInt8) := (o.bind numR).map (·.2)
def wordV (o : Option (List UInt8)) : List UInt8 := match o.bind wordR with | some (s, _) => s | none => []
def wordO (o : Option (List UInt8)) : Option (List UInt8) := (o.bind wordR).map (·.2)
def shortO (o : Option (List UInt8)) : Prop := ∀ l, o = some l → l.length ≤ 1000000
/-- A cursor in block b, with or without an error; its bytes lie below block B. -/
def CurO (B : Nat) (w : World) (b : Nat) : Option (List UInt8) → Prop
  | some l => ∃ a c, Box2 w b 115 (.slice a l.length c) .nilIface ∧ IsB w (.slice a l.length c) l ∧ Low B a l
  | none => Box2 w b 115 (.slice none 0 0) (.iface 94 (.int .i64 2))
theorem CurO.lt {B : Nat} {w : World} {b : Nat} {o : Option (List UInt8)} (h : CurO B w b o) : b < w.heap.size := by
  cases o with
  | none => exact Box2.lt h
  | some l => obtain ⟨a, c, h, _⟩ := h; exact h.lt
theorem CurO.bel {B C : Nat} {w w' : World} {b : Nat} {o : Option (List UInt8)} (h : CurO B w b o) (hb : Below C w w') (hB : B ≤ C) (hC : b < C) : CurO B w' b o := by
  cases o with
  | none => exact Box2.bel h hb hC
  | some l =>
    obtain ⟨a, c, h, hI, hL⟩ := h
    exact ⟨a, c, h.bel hb hC, hI.bel hL (hb.mono hB), hL⟩
theorem CurO.step {B : Nat} {w w' : World} {b : Nat} {o : Option (List UInt8)} (h : CurO B w b o) (hb : Below w.heap.size w w') : CurO B w' b o := by
  have hlt := h.lt
  cases o with
  | none => exact Box2.step h hb
  | some l =>
    obtain ⟨a, c, h, hI, hL⟩ := h
    exact ⟨a, c, h.step hb, hI.step hb, hL⟩
theorem CurO.put {B : Nat} {w : World} {b : Nat} {x y : Value} {a : Option Addr} {c : Nat} {l : List UInt8} (h : Box2 w b 115 x .nilIface) (hx : ∀ n, x ≠ .int .u8 n) (hI : IsB w (.slice a l.length c) l) (hL : Low B a l) : CurO B (w.setCell ⟨b, 0, none⟩ (.slice a l.length c)) b (some l) := by
  refine ⟨a, c, ?_, hI.onlyN Only.set (h.noB hx (by intro n h; cases h)), hL⟩
  have := Joins.block_setCell (i := 0) h (.slice a l.length c)
  unfold Box2
  simpa using this
set_option maxHeartbeats 1000000 in
theorem uintc_ok (B b n k : Nat) (l : List UInt8) (w : World) (h : CurO B w b (some l)) (ht : takeP 9 l = ((n : Int), (k : Int))) (hk1 : 1 ≤ k) (hk2 : k ≤ l.length) (hn : n ≤ 4611686018427387904) :
    Calls Try.prog 24 #[.pointer (some ⟨b, 0, none⟩)] w fun e w' => e = .returned (.int .i64 n) ∧ CurO B w' b (some (l.drop k)) ∧ Only b w w' := by
  obtain ⟨a, cap, hx, hI, hL⟩ := h
  obtain ⟨c0, c1, f0, f1⟩ := hx.facts
  have hp := CurO.put (y := .nilIface) hx (by intro n h; cases h) (by rw [List.length_drop]; exact hI.cutif k hk2) (hL.cut k cap)
  rw [List.length_drop] at hp
  have hT : ∀ W, IsB W (.slice a l.length cap) l → Calls Try.prog 37 #[.slice a l.length cap, .int .i64 9] W fun e w' => e = .returned (.tuple #[.int .i64 n, .int .i64 k]) ∧ W = w' := fun W h9 => by
    have := take_any 9 _ l W (by omega) h9
    rw [ht] at this
    exact this
  obtain ⟨_, _, hv, h1, h2, h3⟩ := hI.shape
  simp only [Value.slice.injEq] at hv
  obtain ⟨rfl, _, rfl⟩ := hv
  have HT := Lib.hid hT
  have HI := Lib.hid hI
  have hk1' : (1 : Int) ≤ (k : Int) := by omega
  have hk2' : (k : Int) ≤ (l.length : Int) := by omega
  have hk3' : (k : Int) ≤ (cap : Int) := by omega
  have hn' : (n : Int) ≤ 4611686018427387904 := by omega
  clear hx hI hL hT ht h3
  by_cases hc : cap = k
  · rw [if_pos hc, show cap - k = 0 by omega, show l.length - k = 0 by omega] at hp
    subst hc
    have HP := Lib.hid hp
    clear hp
    go_enter Try.func24, Try.ntmps24
    go_wp2_with (go_at_call 37; refine (HT.out _ HI.out).mono ?_; rintro e w' ⟨rfl, rfl⟩)
    go_ret
    exact ⟨rfl, HP.out, Only.set⟩
  · rw [if_neg hc] at hp
    have HP := Lib.hid hp
    clear hp
    go_enter Try.func24, Try.ntmps24
    go_wp2_with (go_at_call 37; refine (HT.out _ HI.out).mono ?_; rintro e w' ⟨rfl, rfl⟩)
    go_ret
    exact ⟨rfl, HP.out, Only.set⟩
theorem uintc_any (B b : Nat) (o : Option (List UInt8)) (w : World) (h : CurO B w b o) :
    Calls Try.prog 24 #[.pointer (some ⟨b, 0, none⟩)] w fun e w' => e = .returned (.int .i64 (numV o)) ∧ CurO B w' b (numO o) ∧ Only b w w' := by
  cases o with
  | none =>
    refine (uint_bad b w h).mono ?_
    rintro e w' ⟨rfl, rfl⟩
    exact ⟨rfl, h, Only.refl _ _⟩
  | some l =>
    rcases num_cases l with ⟨n, k, ht, hk1, hk2, hn, hR⟩ | ⟨h1, hR⟩
    · refine (uintc_ok B b n k l w h ht hk1 hk2 hn).mono ?_
      rintro e w' ⟨rfl, hc, ho⟩
      exact ⟨by simp [numV, hR], by simpa only [numO, Option.bind_some, hR, Option.map_some] using hc, ho⟩
    · obtain ⟨a, c, hx, hI, hL⟩ := h
      refine (uint_fail b l w ⟨_, hx, hI⟩ h1).mono ?_
      rintro e w' ⟨rfl, hc, ho⟩
      exact ⟨by simp [numV, hR], by simp only [numO, Option.bind_some, hR, Option.map_none]; exact hc, ho⟩
set_option maxHeartbeats 1000000 in
/-- Text where the number is bad. -/
theorem textc_num (B b : Nat) (w : World) (hN : Calls Try.prog 24 #[.pointer (some ⟨b, 0, none⟩)] w fun e w' => e = .returned (.int .i64 0) ∧ CurO B w' b none ∧ Only b w w') :
    Calls Try.prog 23 #[.pointer (some ⟨b, 0, none⟩)] w fun e w' => e = .returned (.string ⟨#[]⟩) ∧ CurO B w' b none ∧ Only b w w' := by
  have HN := Lib.hid hN
  clear hN
  go_enter Try.func23, Try.ntmps23
  go_wp2_with (go_at_call 24; refine (HN.out).mono ?_; rintro e w1 ⟨rfl, hc, ho⟩; have HC := Lib.hid hc; obtain ⟨c0, c1, f0, f1⟩ := Box2.facts hc; clear hc)
  go_ret
  exact ⟨rfl, HC.out, ho⟩
set_option maxHeartbeats 1000000 in
/-- Text that is longer than what is left. -/
theorem textc_long (B b n : Nat) (r : List UInt8) (w : World) (hn : r.length < n) (hr : r.length ≤ 1000000) (hN : Calls Try.prog 24 #[.pointer (some ⟨b, 0, none⟩)] w fun e w' => e = .returned (.int .i64 n) ∧ CurO B w' b (some r) ∧ Only b w w') :
    Calls Try.prog 23 #[.pointer (some ⟨b, 0, none⟩)] w fun e w' => e = .returned (.string ⟨#[]⟩) ∧ CurO B w' b none ∧ Only b w w' := by
  have HN := Lib.hid hN
  have hni : (r.length : Int) < (n : Int) := by omega
  clear hN
  go_enter Try.func23, Try.ntmps23
  go_wp2_with (first | (go_at_call 24; refine (HN.out).mono ?_; rintro e w1 ⟨rfl, hc, ho⟩; obtain ⟨a, c, hx, hI, hL⟩ := hc; have HX := Lib.hid hx; obtain ⟨c0, c1, f0, f1⟩ := Box2.facts hx; clear hx hI hL) | (go_at_call 38; refine (fail_any b _ _ _ HX.out).mono ?_; rintro e w2 ⟨rfl, hc2, ho2⟩; have HC2 := Lib.hid hc2; clear hc2))
  go_ret
  exact ⟨rfl, HC2.out, ho.trans ho2⟩
set_option maxHeartbeats 1000000 in
/-- Text that is there. -/
theorem textc_ok (B b n : Nat) (r : List UInt8) (w : World) (hn : n ≤ r.length) (hr : r.length ≤ 1000000) (hN : Calls Try.prog 24 #[.pointer (some ⟨b, 0, none⟩)] w fun e w' => e = .returned (.int .i64 n) ∧ CurO B w' b (some r) ∧ Only b w w') :
    Calls Try.prog 23 #[.pointer (some ⟨b, 0, none⟩)] w fun e w' => e = .returned (.string ⟨(r.take n).toArray⟩) ∧ CurO B w' b (some (r.drop n)) ∧ Only b w w' := by
  have HN := Lib.hid hN
  have hni : (n : Int) ≤ (r.length : Int) := by omega
  have hn0 : (0 : Int) ≤ (n : Int) := by omega
  have hr9 : (r.length : Int) ≤ 1000000 := by omega
  clear hN
  go_enter Try.func23, Try.ntmps23
  go_upto_region 7 with (go_at_call 24; refine (HN.out).mono ?_; rintro e w1 ⟨rfl, hc, ho⟩; obtain ⟨a, c, hx, hI, hL⟩ := hc; obtain ⟨_, _, hv, h1, h2, h3⟩ := hI.shape; simp only [Value.slice.injEq] at hv; obtain ⟨rfl, _, rfl⟩ := hv; have HX := Lib.hid hx; have HI := Lib.hid hI; have HLo := Lib.hid hL; obtain ⟨c0, c1, f0, f1⟩ := Box2.facts hx; clear hx hI hL h2 h3)
  have hnc : (n : Int) ≤ (c : Int) := by omega
  have t0 : (convert 40 9 (.slice a n c)).run Try.prog w1 = .ok (.string ⟨(r.take n).toArray⟩) w1 := run_str _ _ _ (HI.out.upto n hn)
  have hp := CurO.put (y := .nilIface) HX.out (by intro n h; cases h) (by rw [List.length_drop]; exact HI.out.cutif n hn) (HLo.out.cut n c)
  rw [List.length_drop] at hp
  by_cases hcn : c = n
  · rw [if_pos hcn, show c - n = 0 by omega, show r.length - n = 0 by omega] at hp
    subst hcn
    have HP := Lib.hid hp
    clear hp
    go_wp2
    go_ret
    exact ⟨rfl, HP.out, ho.trans Only.set⟩
  · rw [if_neg hcn] at hp
    have HP := Lib.hid hp
    clear hp
    go_wp2
    go_ret
    exact ⟨rfl, HP.out, ho.trans Only.set⟩
theorem textc_any (B b : Nat) (o : Option (List UInt8)) (w : World) (h : CurO B w b o) (hs : shortO o) :
    Calls Try.prog 23 #[.pointer (some ⟨b, 0, none⟩)] w fun e w' => e = .returned (.string ⟨(wordV o).toArray⟩) ∧ CurO B w' b (wordO o) ∧ Only b w w' := by
  have hU := uintc_any B b o w h
  cases o with
  | none => exact textc_num B b w hU
  | some l =>
    have hl := hs l rfl
    cases hR : numR l with
    | none =>
      have hW : wordR l = none := by simp only [wordR, hR]
      simp only [numV, numO, wordV, wordO, Option.bind_some, hR, hW, Option.map_none] at hU ⊢
      exact textc_num B b w hU
    | some x =>
      obtain ⟨n, r⟩ := x
      have hbd := numR_bd hR
      simp only [numV, numO, Option.bind_some, hR, Option.map_some] at hU
      by_cases hle : n ≤ r.length
      · have hW : wordR l = some (r.take n, r.drop n) := by simp only [wordR, hR]; rw [if_pos hle]
        simp only [wordV, wordO, Option.bind_some, hW, Option.map_some]
        exact textc_ok B b n r w hle (by omega) hU
      · have hW : wordR l = none := by simp only [wordR, hR]; rw [if_neg hle]
        simp only [wordV, wordO, Option.bind_some, hW, Option.map_none]
        exact textc_long B b n r w (by omega) (by omega) hU
theorem takeP9_num (n : Nat) (t : List UInt8) (hn : n ≤ 4611686018427387904) : takeP 9 (numB n ++ t) = ((n : Int), ((numB n).length : Int)) ∧ 1 ≤ (numB n).length := by
  have hn9 : n < 128 ^ 9 := by omega
  have h10 : n < 128 ^ 10 := by omega
  have hl := numF_le 9 10 n hn9 (by omega) (by omega)
  have hp := numF_pos 10 n (by omega)
  have := takeF_num 9 10 n 0 0 t h10 (by omega) (by omega) (by omega)
  refine ⟨?_, hp⟩
  unfold takeP numB
  rw [this]
  simp
theorem numR_num (n : Nat) (t : List UInt8) (hn : n ≤ 4611686018427387904) : numR (numB n ++ t) = some (n, t) := by
  obtain ⟨h1, h2⟩ := takeP9_num n t hn
  rcases num_cases (numB n ++ t) with ⟨n', k, ht, _, _, _, hR⟩ | ⟨hbad, _⟩
  · rw [h1] at ht
    simp only [Prod.mk.injEq] at ht
    have e1 : n' = n := by omega
    have e2 : k = (numB n).length := by omega
    rw [hR, e1, e2, List.drop_left]
  · rw [h1] at hbad
    simp only [] at hbad
    omega
theorem numR_pre (n j : Nat) (hn : n ≤ 4611686018427387904) (hj : j < (numB n).length) : numR ((numB n).take j) = none := by
  have hn9 : n < 128 ^ 9 := by omega
  have h10 : n < 128 ^ 10 := by omega
  have hl := numF_le 9 10 n hn9 (by omega) (by omega)
  have hp : takeP 9 ((numB n).take j) = (0, 0) := by
    unfold takeP numB
    rw [takeF_pre 9 10 n 0 0 j (by omega) h10 (by omega) hj]
  rcases num_cases ((numB n).take j) with ⟨n', k, ht, hk, _, _, hR⟩ | ⟨_, hR⟩
  · rw [hp] at ht
    simp only [Prod.mk.injEq] at ht
    omega
  · exact hR
theorem wordR_text (s t : List UInt8) (hs : s.length ≤ 4611686018427387904) : wordR (textB s ++ t) = some (s, t) := by
  unfold wordR textB
  rw [List.append_assoc, numR_num _ _ hs]
  simp
end Go.Proofs.Ythhooocckfljaaa
