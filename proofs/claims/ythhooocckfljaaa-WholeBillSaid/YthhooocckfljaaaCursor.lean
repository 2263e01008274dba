/- The walks of the cursor's methods. No condition beyond what a cursor in memory is. -/
import Derived.Test.YthhooocckfljaaaTake
import Derived.Lib.SmallJoins
namespace Go.Proofs.Ythhooocckfljaaa
open Go.RowKit
set_option linter.unusedVariables false
set_option linter.unusedSimpArgs false

/-- A cursor without an error, and one with one. -/
def Cur (w : World) (b : Nat) (l : List UInt8) : Prop := ∃ v, w.heap[b]? = some (.cells #[v, .nilIface] 115 (0, 0)) ∧ IsB w v l
def CurBad (w : World) (b : Nat) : Prop := w.heap[b]? = some (.cells #[.slice none 0 0, .iface 94 (.int .i64 2)] 115 (0, 0))

theorem read_any (v : Value) (l : List UInt8) (w : World) (h : IsB w v l) (hl : l.length ≤ 140737488355328) :
    Calls Try.prog 22 #[v] w fun e w' => ∃ b, e = .returned (.pointer (some ⟨b, 0, none⟩)) ∧ w.heap.size ≤ b ∧ Cur w' b l ∧ Below w.heap.size w w' := by
  obtain ⟨a, cap, rfl, h1, h2, h3⟩ := h.shape
  have H := Lib.hid h
  unfold maxLen at h2
  clear h h3
  go_enter Try.func22, Try.ntmps22
  go_wp2_with (at_builtin; refine wpList_app rfl (.tmp 3) (.tmp 4) rfl w.heap.size _ [] rfl (OwnB.made _ _ (Nat.le_refl _)) _ l rfl (H.out.step (bel_new _ _)) (by simp; omega) (by simp) ?_; intro v2 w2 ho2 hb2 hz2 hn2; rw [List.nil_append] at ho2; obtain ⟨a2, cap2, rfl, _⟩ := ho2.isB.shape)
  go_ret
  have hB : Below w.heap.size w w2 := (bel_new w _).trans hb2
  exact ⟨w2.heap.size, rfl, hB.size, ⟨_, heap_alloc_new w2 _, ho2.isB.step (bel_new _ _)⟩, hB.trans ((bel_new w2 _).mono hB.size)⟩

theorem Cur.cells {w : World} {b : Nat} {v e : Value} (h : w.heap[b]? = some (.cells #[v, e] 115 (0, 0))) :
    w.cell? ⟨b, 0, none⟩ = some v ∧ w.cell? ⟨b, 1, none⟩ = some e ∧ w.frozen? ⟨b, 0, none⟩ = false ∧ w.frozen? ⟨b, 1, none⟩ = false := by
  refine ⟨?_, ?_, ?_, ?_⟩ <;> simp [World.cell?, World.frozen?, h]

theorem left_ok (b : Nat) (l : List UInt8) (w : World) (h : Cur w b l) : Calls Try.prog 26 #[.pointer (some ⟨b, 0, none⟩)] w fun e w' => e = .returned (.int .i64 l.length) ∧ w = w' := by
  obtain ⟨v, hv, hb⟩ := h
  obtain ⟨a, cap, rfl, h1, h2, h3⟩ := hb.shape
  obtain ⟨c0, c1, f0, f1⟩ := Cur.cells hv
  clear hv hb h3
  go_enter Try.func26, Try.ntmps26
  go_wp2
  go_ret
  exact ⟨rfl, rfl⟩
theorem left_bad (b : Nat) (w : World) (h : CurBad w b) : Calls Try.prog 26 #[.pointer (some ⟨b, 0, none⟩)] w fun e w' => e = .returned (.int .i64 0) ∧ w = w' := by
  obtain ⟨c0, c1, f0, f1⟩ := Cur.cells h
  clear h
  go_enter Try.func26, Try.ntmps26
  go_wp2
  go_ret
  exact ⟨rfl, rfl⟩
theorem err_ok (b : Nat) (l : List UInt8) (w : World) (h : Cur w b l) : Calls Try.prog 25 #[.pointer (some ⟨b, 0, none⟩)] w fun e w' => e = .returned .nilIface ∧ w = w' := by
  obtain ⟨v, hv, hb⟩ := h
  obtain ⟨c0, c1, f0, f1⟩ := Cur.cells hv
  clear hv hb
  go_enter Try.func25, Try.ntmps25
  go_wp2
  go_ret
  exact ⟨rfl, rfl⟩
theorem err_bad (b : Nat) (w : World) (h : CurBad w b) : Calls Try.prog 25 #[.pointer (some ⟨b, 0, none⟩)] w fun e w' => e = .returned (.iface 94 (.int .i64 2)) ∧ w = w' := by
  obtain ⟨c0, c1, f0, f1⟩ := Cur.cells h
  clear h
  go_enter Try.func25, Try.ntmps25
  go_wp2
  go_ret
  exact ⟨rfl, rfl⟩
theorem uint_bad (b : Nat) (w : World) (h : CurBad w b) : Calls Try.prog 24 #[.pointer (some ⟨b, 0, none⟩)] w fun e w' => e = .returned (.int .i64 0) ∧ w = w' := by
  obtain ⟨c0, c1, f0, f1⟩ := Cur.cells h
  clear h
  go_enter Try.func24, Try.ntmps24
  go_wp2
  go_ret
  exact ⟨rfl, rfl⟩
theorem left_none (w : World) : Calls Try.prog 26 #[.pointer none] w fun e w' => e = .returned (.int .i64 0) ∧ w = w' := by
  go_enter Try.func26, Try.ntmps26
  go_wp2
  go_ret
  exact ⟨rfl, rfl⟩
theorem err_none (w : World) : Calls Try.prog 25 #[.pointer none] w fun e w' => e = .returned (.iface 94 (.int .i64 3)) ∧ w = w' := by
  go_enter Try.func25, Try.ntmps25
  go_wp2
  go_ret
  exact ⟨rfl, rfl⟩
theorem uint_none (w : World) : Calls Try.prog 24 #[.pointer none] w fun e w' => e = .returned (.int .i64 0) ∧ w = w' := by
  go_enter Try.func24, Try.ntmps24
  go_wp2
  go_ret
  exact ⟨rfl, rfl⟩
theorem text_none (w : World) : Calls Try.prog 23 #[.pointer none] w fun e w' => e = .returned (.string ⟨#[]⟩) ∧ w = w' := by
  go_enter Try.func23, Try.ntmps23
  go_wp2_with (go_at_call 24; refine (uint_none _).mono ?_; rintro e w' ⟨rfl, rfl⟩)
  go_ret
  exact ⟨rfl, rfl⟩
theorem takeF_bd (bytes : Nat) : ∀ (l : List UInt8) (i acc : Nat), 0 ≤ (takeF bytes i acc l).1 ∧ -1 ≤ (takeF bytes i acc l).2 ∧ (takeF bytes i acc l).2 ≤ (i : Int) + l.length
  | [], i, acc => by simp [takeF]
  | c :: r, i, acc => by
    rw [takeF]
    have ih := takeF_bd bytes r (i + 1) (acc + (c.toNat - 128) * 128 ^ i)
    have hp : (0 : Int) ≤ ((acc + c.toNat * 128 ^ i : Nat) : Int) := Int.natCast_nonneg _
    split
    · split
      · simp; omega
      · refine ⟨hp, ?_, ?_⟩
        · show -1 ≤ (i : Int) + 1; omega
        · show (i : Int) + 1 ≤ (i : Int) + ((c :: r).length : Nat); simp only [List.length_cons]; omega
    · split
      · simp; omega
      · simp only [List.length_cons]; omega
theorem takeP_bd (bytes : Nat) (l : List UInt8) : 0 ≤ (takeP bytes l).1 ∧ -1 ≤ (takeP bytes l).2 ∧ (takeP bytes l).2 ≤ (l.length : Int) := by
  have := takeF_bd bytes l 0 0
  unfold takeP
  omega

/-- Only block b, and what is new, has turned. -/
def Only (b : Nat) (w w' : World) : Prop := w.grownBy w' (some b)
theorem Only.refl (b : Nat) (w : World) : Only b w w := World.grownBy.refl w _
theorem Only.trans {b : Nat} {u v w : World} (h : Only b u v) (g : Only b v w) : Only b u w :=
  ⟨g.os.trans h.os, g.tape.trans h.tape, g.output.trans h.output, Nat.le_trans h.size g.size, fun k hk hn => (g.block k (Nat.lt_of_lt_of_le hk h.size) hn).trans (h.block k hk hn)⟩
theorem Only.of_below {b : Nat} {w w' : World} (h : Below w.heap.size w w') : Only b w w' := ⟨h.os, h.tape, h.output, h.size, fun k hk _ => h.block k hk⟩
theorem Only.set {b k : Nat} {w : World} {u : Value} : Only b w (w.setCell ⟨b, k, none⟩ u) :=
  ⟨rfl, rfl, rfl, by simp [World.setCell], fun i hi hn => Below.heap_setCell w ⟨b, k, none⟩ u i (fun e => hn (by rw [e]))⟩
theorem Only.below {b B : Nat} {w w' : World} (h : Only b w w') (hb : B ≤ b) (hB : B ≤ w.heap.size) : Below B w w' :=
  ⟨h.os, h.tape, h.output, h.size, fun k hk => h.block k (by omega) (fun e => by injection e with e; omega)⟩
/-- Bytes lie in no cursor's block. -/
theorem IsB.only {w w' : World} {v : Value} {l : List UInt8} {b : Nat} (h : IsB w v l) (ho : Only b w w') (hb : ∃ x e, w.heap[b]? = some (.cells #[x, e] 115 (0, 0)) ∧ (∀ n, x ≠ .int .u8 n) ∧ (∀ n, e ≠ .int .u8 n)) : IsB w' v l := by
  obtain ⟨x, e, hx, h1, h2⟩ := hb
  rcases h with h | ⟨h0, g, off, cap, rfl, h3, h4, h5⟩
  · exact .inl h
  · refine .inr ⟨h0, g, off, cap, rfl, h3, h4, fun i c hi => ?_⟩
    have hc := h5 i c hi
    have hlt : g < w.heap.size := World.block_lt_of_cell? w _ hc
    have hne : g ≠ b := by
      rintro rfl
      have hc' := hc
      simp only [World.cell?, hx] at hc'
      have : off + i = 0 ∨ off + i = 1 ∨ 2 ≤ off + i := by omega
      rcases this with h | h | h
      · rw [h] at hc'; simp at hc'; exact h1 _ hc'
      · rw [h] at hc'; simp at hc'; exact h2 _ hc'
      · simp [Array.getElem?_eq_none (show (#[x, e] : Array Value).size ≤ off + i by simpa using h)] at hc'
    exact (World.cell?_of_block (ho.block g hlt (fun e => hne (by injection e)))).trans hc

/-- A slice of bytes from k on: two forms, by its capacity. -/
theorem IsB.cut1 {w : World} {a : Option Addr} {cap : Nat} {l : List UInt8} (h : IsB w (.slice a l.length cap) l) (k : Nat) (hk : k ≤ l.length) : IsB w (.slice (a.map fun x => x.add k) (l.length - k) (cap - k)) (l.drop k) := by
  rcases h with ⟨rfl, a', cap', hv, h1, h2⟩ | ⟨h0, b, off, cap', hv, h1, h2, h3⟩
  · injection hv with e1 e2 e3
    subst e1 e3
    obtain rfl : k = 0 := by simpa using hk
    refine .inl ⟨rfl, _, _, rfl, by omega, fun e => ?_⟩
    cases a with
    | none => simp [h2 rfl]
    | some x => simp at e
  · injection hv with e1 e2 e3
    subst e1 e3
    by_cases hd : l.drop k = []
    · refine .inl ⟨hd, some ((⟨b, off, none⟩ : Addr).add k), cap - k, ?_, by omega, fun e => by cases e⟩
      have : l.length - k = 0 := by have := congrArg List.length hd; simpa using this
      rw [this]
      rfl
    · refine .inr ⟨hd, b, off + k, cap - k, ?_, by simp; omega, by omega, fun i c hi => ?_⟩
      · simp only [List.length_drop, Option.map_some]
        by_cases hk0 : k = 0
        · subst hk0; simp [Addr.add]
        · simp [Addr.add, hk0]
      · rw [List.getElem?_drop] at hi
        have := h3 (k + i) c hi
        rw [Nat.add_assoc]
        exact this
theorem IsB.cut2 {w : World} {a : Option Addr} {l : List UInt8} {cap : Nat} (h : IsB w (.slice a l.length cap) l) (ha : a ≠ none) (k : Nat) (hk : k ≤ l.length) (hc : cap = k) : IsB w (.slice a (l.length - k) 0) (l.drop k) := by
  obtain ⟨a', cap', hv, h1, h2, h3⟩ := h.shape
  injection hv with e1 e2 e3
  subst e1 e3
  have e : l.length - k = 0 := by omega
  rw [e]
  exact .inl ⟨List.drop_eq_nil_of_le (by omega), a, 0, rfl, by omega, fun h => absurd h ha⟩

theorem Cur.set {w : World} {b : Nat} {v u : Value} {l : List UInt8} (hv : w.heap[b]? = some (.cells #[v, .nilIface] 115 (0, 0))) (hs : ∀ n, v ≠ .int .u8 n) (hu : IsB w u l) : Cur (w.setCell ⟨b, 0, none⟩ u) b l := by
  refine ⟨u, ?_, ?_⟩
  · have := Joins.block_setCell (i := 0) hv u
    simpa using this
  · exact hu.only Only.set ⟨v, .nilIface, hv, hs, fun n e => by cases e⟩

theorem uint_ok (b : Nat) (l : List UInt8) (w : World) (h : Cur w b l) (hk : 1 ≤ (takeP 9 l).2) (hn : (takeP 9 l).1 ≤ 4611686018427387904) :
    Calls Try.prog 24 #[.pointer (some ⟨b, 0, none⟩)] w fun e w' => e = .returned (.int .i64 (takeP 9 l).1) ∧ Cur w' b (l.drop (takeP 9 l).2.toNat) ∧ Only b w w' := by
  have ht := takeP_bd 9 l
  obtain ⟨v, hv, hb⟩ := h
  obtain ⟨c0, c1, f0, f1⟩ := Cur.cells hv
  obtain ⟨a, cap, rfl, h1, h2, h3⟩ := hb.shape
  have ha : a ≠ none := fun e => by have := h3 e; omega
  have HV := Lib.hid hv
  have HB := Lib.hid hb
  have HA := Lib.hid ha
  clear hv hb ha h3
  by_cases hc : cap = (takeP 9 l).2.toNat
  · have HC := Lib.hid hc
    have hp := Cur.set HV.out (fun n e => by cases e) (HB.out.cut2 HA.out (takeP 9 l).2.toNat (by omega) hc)
    have HP := Lib.hid hp
    clear hc hp
    go_enter Try.func24, Try.ntmps24
    go_wp2_with (go_at_call 37; refine (take_any 9 _ l _ (by omega) HB.out).mono ?_; rintro e w' ⟨rfl, rfl⟩)
    go_ret
    exact ⟨rfl, HP.out, Only.set⟩
  · have hp := Cur.set HV.out (fun n e => by cases e) (HB.out.cut1 (takeP 9 l).2.toNat (by omega))
    have HP := Lib.hid hp
    clear hp
    go_enter Try.func24, Try.ntmps24
    go_wp2_with (go_at_call 37; refine (take_any 9 _ l _ (by omega) HB.out).mono ?_; rintro e w' ⟨rfl, rfl⟩)
    go_ret
    exact ⟨rfl, HP.out, Only.set⟩

theorem fail_any (b : Nat) (x y : Value) (w : World) (hv : w.heap[b]? = some (.cells #[x, y] 115 (0, 0))) :
    Calls Try.prog 38 #[.pointer (some ⟨b, 0, none⟩)] w fun e w' => e = .returned (.tuple #[]) ∧ CurBad w' b ∧ Only b w w' := by
  obtain ⟨c0, c1, f0, f1⟩ := Cur.cells hv
  have hp : CurBad ((w.setCell ⟨b, 1, none⟩ (.iface 94 (.int .i64 2))).setCell ⟨b, 0, none⟩ (.slice none 0 0)) b := by
    have h1 := Joins.block_setCell (i := 1) hv (.iface 94 (.int .i64 2))
    have h2 := Joins.block_setCell (i := 0) h1 (.slice none 0 0)
    unfold CurBad
    simpa using h2
  have HP := Lib.hid hp
  clear hv hp
  go_enter Try.func38, Try.ntmps38
  go_wp2
  go_end0
  exact ⟨rfl, HP.out, Only.set.trans Only.set⟩

theorem uint_fail (b : Nat) (l : List UInt8) (w : World) (h : Cur w b l) (hk : (takeP 9 l).2 < 1 ∨ 4611686018427387904 < (takeP 9 l).1) :
    Calls Try.prog 24 #[.pointer (some ⟨b, 0, none⟩)] w fun e w' => e = .returned (.int .i64 0) ∧ CurBad w' b ∧ Only b w w' := by
  have ht := takeP_bd 9 l
  obtain ⟨v, hv, hb⟩ := h
  obtain ⟨c0, c1, f0, f1⟩ := Cur.cells hv
  obtain ⟨a, cap, rfl, h1, h2, h3⟩ := hb.shape
  have HV := Lib.hid hv
  have HB := Lib.hid hb
  clear hv hb h3
  rcases hk with hk | hk
  all_goals
    go_enter Try.func24, Try.ntmps24
    go_wp2_with (first | (go_at_call 37; refine (take_any 9 _ l _ (by omega) HB.out).mono ?_; rintro e w' ⟨rfl, rfl⟩) | (go_at_call 38; refine (fail_any _ _ _ _ HV.out).mono ?_; rintro e w1 ⟨rfl, hc1, ho1⟩; have HC1 := Lib.hid hc1; clear hc1))
    all_goals
      go_ret
      exact ⟨rfl, HC1.out, ho1⟩
end Go.Proofs.Ythhooocckfljaaa
