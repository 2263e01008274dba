/- The walk of hop.Decode (begun). No condition beyond that there are at most a million bytes. -/
import Derived.Test.YtbfpjldincnihaaHopEnc
import Derived.Test.YtbfpjldincnihaaCurTexts
import Derived.Test.YtbfpjldincnihaaDecode
namespace Go.Proofs.Ytbfpjldincnihaa
open Go.RowKit
set_option linter.unusedVariables false
set_option linter.unusedSimpArgs false

theorem CurO.cur {B : Nat} {w : World} {b : Nat} {l : List UInt8} (h : CurO B w b (some l)) : Cur w b l := by
  obtain ⟨a, c, h1, h2, h3⟩ := h
  exact ⟨_, h1, h2⟩
def ErrV : Option (List UInt8) → Value
  | some _ => .nilIface
  | none => .iface 43 (.int .i64 2)
theorem errc_any (B b : Nat) (o : Option (List UInt8)) (w : World) (h : CurO B w b o) :
    Calls Try.prog 42 #[.pointer (some ⟨b, 0, none⟩)] w fun e w' => e = .returned (ErrV o) ∧ w = w' := by
  cases o with
  | none => exact err_bad b w h
  | some l => exact err_ok b l w h.cur
theorem readc_any (v : Value) (l : List UInt8) (w : World) (h : IsB w v l) (hl : l.length ≤ 140737488355328) :
    Calls Try.prog 38 #[v] w fun e w' => ∃ b, e = .returned (.pointer (some ⟨b, 0, none⟩)) ∧ w.heap.size ≤ b ∧ CurO w'.heap.size w' b (some l) ∧ Below w.heap.size w w' := by
  refine (read_any v l w h hl).mono ?_
  rintro e w' ⟨b, rfl, hz, ⟨u, h1, h2⟩, hb⟩
  obtain ⟨a, c, rfl, _, _, _⟩ := h2.shape
  exact ⟨b, rfl, hz, ⟨a, c, h1, h2, h2.low⟩, hb⟩
theorem equal_any (a b : Value) (la lb : List UInt8) (w : World) (ha : IsB w a la) (hb : IsB w b lb) : Calls Try.prog 43 #[a, b] w fun e w' => e = .returned (.bool (la == lb)) ∧ w = w' := by
  obtain ⟨a1, c1, rfl, _, _, _⟩ := ha.shape
  obtain ⟨a2, c2, rfl, _, _, _⟩ := hb.shape
  have t0 := run_str w _ _ ha
  have t1 := run_str w _ _ hb
  clear ha hb
  go_enter Try.func43, Try.ntmps43
  go_wp2
  go_ret
  exact ⟨ret_bool (by simp [ByteArray.toList_eq]), rfl⟩

/-- A block that holds a message. -/
def mrow (k id nm tt of : Int) (tx : List UInt8) (lv dv : Value) : Array Value := #[.int .i64 k, .int .i64 id, .int .i64 nm, .int .i64 tt, .int .i64 of, .string ⟨tx.toArray⟩, lv, dv]
def MBox (w : World) (b : Nat) (k id nm tt of : Int) (tx : List UInt8) (lv dv : Value) : Prop := w.heap[b]? = some (.cells (mrow k id nm tt of tx lv dv) 25 (0, 0))
theorem MBox.cells {w : World} {b : Nat} {k id nm tt of : Int} {tx : List UInt8} {lv dv : Value} (h : MBox w b k id nm tt of tx lv dv) : MCells w b k id nm tt of tx lv dv := by
  unfold MBox at h
  refine ⟨?_, ?_, ?_, ?_, ?_, ?_, ?_, ?_⟩ <;> simp [World.cell?, h, mrow]
theorem MBox.frozen {w : World} {b : Nat} {k id nm tt of : Int} {tx : List UInt8} {lv dv : Value} (h : MBox w b k id nm tt of tx lv dv) (i : Nat) : w.frozen? ⟨b, i, none⟩ = false := by
  unfold MBox at h
  simp [World.frozen?, h]
theorem MBox.lt {w : World} {b : Nat} {k id nm tt of : Int} {tx : List UInt8} {lv dv : Value} (h : MBox w b k id nm tt of tx lv dv) : b < w.heap.size := by
  rcases Nat.lt_or_ge b w.heap.size with h' | h'
  · exact h'
  · unfold MBox at h; rw [Array.getElem?_eq_none h'] at h; cases h
theorem MBox.only {w w' : World} {b c : Nat} {k id nm tt of : Int} {tx : List UInt8} {lv dv : Value} (h : MBox w b k id nm tt of tx lv dv) (ho : Only c w w') (hn : b ≠ c) : MBox w' b k id nm tt of tx lv dv :=
  (ho.block b h.lt (by simpa using hn)).trans h
theorem MBox.step {w w' : World} {b : Nat} {k id nm tt of : Int} {tx : List UInt8} {lv dv : Value} (h : MBox w b k id nm tt of tx lv dv) (hb : Below w.heap.size w w') : MBox w' b k id nm tt of tx lv dv := (hb.block b h.lt).trans h
theorem MBox.new (w : World) (k id nm tt of : Int) (tx : List UInt8) (lv dv : Value) : MBox (w.alloc (.cells #[.int .i64 k, .int .i64 id, .int .i64 nm, .int .i64 tt, .int .i64 of, .string ⟨tx.toArray⟩, lv, dv] 25)) w.heap.size k id nm tt of tx lv dv := heap_alloc_new w _
theorem MBox.drew {w : World} {b : Nat} {k id nm tt of : Int} {tx : List UInt8} {lv dv : Value} (h : MBox w b k id nm tt of tx lv dv) : MBox w.drew b k id nm tt of tx lv dv := h
theorem MBox.sets {w : World} {b : Nat} {k id nm tt of : Int} {tx : List UInt8} {lv dv : Value} (h : MBox w b k id nm tt of tx lv dv) (k' id' nm' tt' of' : Int) (tx' : List UInt8) (lv' dv' : Value) :
    MBox ((((((((w.setCell ⟨b, 0, none⟩ (.int .i64 k')).setCell ⟨b, 1, none⟩ (.int .i64 id')).setCell ⟨b, 2, none⟩ (.int .i64 nm')).setCell ⟨b, 3, none⟩ (.int .i64 tt')).setCell ⟨b, 4, none⟩ (.int .i64 of')).setCell ⟨b, 5, none⟩ (.string ⟨tx'.toArray⟩)).setCell ⟨b, 6, none⟩ lv').setCell ⟨b, 7, none⟩ dv') b k' id' nm' tt' of' tx' lv' dv' := by
  have g0 := Joins.block_setCell (i := 0) h (.int .i64 k')
  have g1 := Joins.block_setCell (i := 1) g0 (.int .i64 id')
  have g2 := Joins.block_setCell (i := 2) g1 (.int .i64 nm')
  have g3 := Joins.block_setCell (i := 3) g2 (.int .i64 tt')
  have g4 := Joins.block_setCell (i := 4) g3 (.int .i64 of')
  have g5 := Joins.block_setCell (i := 5) g4 (.string ⟨tx'.toArray⟩)
  have g6 := Joins.block_setCell (i := 6) g5 lv'
  have g7 := Joins.block_setCell (i := 7) g6 dv'
  unfold MBox
  simpa [mrow] using g7
theorem MBox.set_num {w : World} {b : Nat} {k id nm tt of : Int} {tx : List UInt8} {lv dv : Value} (h : MBox w b k id nm tt of tx lv dv) (x : Int) : MBox (w.setCell ⟨b, 2, none⟩ (.int .i64 x)) b k id x tt of tx lv dv := Joins.block_setCell (i := 2) h (.int .i64 x)
theorem MBox.set_tot {w : World} {b : Nat} {k id nm tt of : Int} {tx : List UInt8} {lv dv : Value} (h : MBox w b k id nm tt of tx lv dv) (x : Int) : MBox (w.setCell ⟨b, 3, none⟩ (.int .i64 x)) b k id nm x of tx lv dv := Joins.block_setCell (i := 3) h (.int .i64 x)
theorem MBox.set_off {w : World} {b : Nat} {k id nm tt of : Int} {tx : List UInt8} {lv dv : Value} (h : MBox w b k id nm tt of tx lv dv) (x : Int) : MBox (w.setCell ⟨b, 4, none⟩ (.int .i64 x)) b k id nm tt x tx lv dv := Joins.block_setCell (i := 4) h (.int .i64 x)
theorem MBox.set_txt {w : World} {b : Nat} {k id nm tt of : Int} {tx : List UInt8} {lv dv : Value} (h : MBox w b k id nm tt of tx lv dv) (x : List UInt8) : MBox (w.setCell ⟨b, 5, none⟩ (.string ⟨x.toArray⟩)) b k id nm tt of x lv dv := Joins.block_setCell (i := 5) h (.string ⟨x.toArray⟩)
theorem MBox.set_lst {w : World} {b : Nat} {k id nm tt of : Int} {tx : List UInt8} {lv dv : Value} (h : MBox w b k id nm tt of tx lv dv) (x : Value) : MBox (w.setCell ⟨b, 6, none⟩ (x)) b k id nm tt of tx x dv := Joins.block_setCell (i := 6) h (x)
theorem MBox.set_dat {w : World} {b : Nat} {k id nm tt of : Int} {tx : List UInt8} {lv dv : Value} (h : MBox w b k id nm tt of tx lv dv) (x : Value) : MBox (w.setCell ⟨b, 7, none⟩ (x)) b k id nm tt of tx lv x := Joins.block_setCell (i := 7) h (x)
theorem MBox.noB {w : World} {b : Nat} {k id nm tt of : Int} {tx : List UInt8} {la da : Option Addr} {ll lc dl dc : Nat} (h : MBox w b k id nm tt of tx (.slice la ll lc) (.slice da dl dc)) : NoB w b := by
  intro o n e
  unfold MBox at h
  rw [cell_of_row w b o _ _ _ h] at e
  unfold mrow at e
  match o, e with
  | 0, e | 1, e | 2, e | 3, e | 4, e | 5, e | 6, e | 7, e => simp at e
  | o + 8, e => simp at e
theorem CurO.onlyN {B b c : Nat} {w w' : World} {o : Option (List UInt8)} (h : CurO B w b o) (ho : Only c w w') (hn : b ≠ c) (hb : NoB w c) : CurO B w' b o := by
  cases o with
  | none => exact (ho.block b (CurO.lt h) (by simpa using hn)).trans h
  | some l =>
    obtain ⟨a, cc, h1, h2, h3⟩ := h
    exact ⟨a, cc, (ho.block b h1.lt (by simpa using hn)).trans h1, h2.onlyN ho hb, h3⟩
theorem FCells.only {w w' : World} {b c : Nat} {u : Flds} (h : FCells w b u) (ho : Only c w w') (hn : b ≠ c) : FCells w' b u := by
  have kp : ∀ o v, w.cell? ⟨b, o, none⟩ = some v → w'.cell? ⟨b, o, none⟩ = some v := fun o v h => (World.cell?_of_block (ho.block b (World.block_lt_of_cell? _ _ h) (by simpa using hn))).trans h
  obtain ⟨h0, h1, h2, h3, h4, h5, h6⟩ := h
  exact ⟨kp _ _ h0, kp _ _ h1, kp _ _ h2, kp _ _ h3, kp _ _ h4, kp _ _ h5, kp _ _ h6⟩

/-! ### What Decode reads -/
def wordsV (o : Option (List UInt8)) : List (List UInt8) := match o.bind wordsR with | some (s, _) => s | none => []
def wordsO (o : Option (List UInt8)) : Option (List UInt8) := (o.bind wordsR).map (·.2)
def rdN (b : Bool) (o : Option (List UInt8)) : Int := if b then numV o else 0
def rdNO (b : Bool) (o : Option (List UInt8)) : Option (List UInt8) := if b then numO o else o
def rdT (b : Bool) (o : Option (List UInt8)) : List UInt8 := if b then wordV o else []
def rdTO (b : Bool) (o : Option (List UInt8)) : Option (List UInt8) := if b then wordO o else o
def rdL (b : Bool) (o : Option (List UInt8)) : List (List UInt8) := if b then wordsV o else []
def rdLO (b : Bool) (o : Option (List UInt8)) : Option (List UInt8) := if b then wordsO o else o
def parseM (u : Flds) (k n : Nat) (p : List UInt8) : Msg × Option (List UInt8) :=
  (⟨k, n, rdN u.num (some p), rdN u.tot (rdNO u.num (some p)), rdN u.off (rdNO u.tot (rdNO u.num (some p))), rdT u.txt (rdNO u.off (rdNO u.tot (rdNO u.num (some p)))),
    rdL u.lst (rdTO u.txt (rdNO u.off (rdNO u.tot (rdNO u.num (some p))))), rdT u.dat (rdLO u.lst (rdTO u.txt (rdNO u.off (rdNO u.tot (rdNO u.num (some p))))))⟩,
   rdTO u.dat (rdLO u.lst (rdTO u.txt (rdNO u.off (rdNO u.tot (rdNO u.num (some p)))))))
/-- The message of bytes. -/
def hdecP (b : List UInt8) : Option Msg :=
  match decP b with
  | .inl _ => none
  | .inr (k, n, p, s) =>
    if s = b.length ∧ okK k = true ∧ (parseM (usesF k) k n p).2 ≠ none ∧ codeM (parseM (usesF k) k n p).1 = 0 ∧ encM (parseM (usesF k) k n p).1 = b then some (parseM (usesF k) k n p).1 else none
theorem keep_only {w w' : World} {b g o : Nat} {v : Value} (ho : Only b w w') (hn : g ≠ b) (hc : w.cell? ⟨g, o, none⟩ = some v) : w'.cell? ⟨g, o, none⟩ = some v := (World.cell?_of_block (ho.block g (World.block_lt_of_cell? _ _ hc) (by simpa using hn))).trans hc
end Go.Proofs.Ytbfpjldincnihaa
