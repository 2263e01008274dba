/- The statements' own large at any size, and arguments that are messages, taken apart. No condition. -/
import Derived.Test.YtbfpjldincnihaaLawLarge
import Derived.Test.YtbfpjldincnihaaOpen
import Derived.ChangeSame
namespace Go.Proofs.Ytbfpjldincnihaa
open Go.ChangeShapes Go.WideShapes Go.ChangeAt Go.RowKit Go.Deep
set_option linter.unusedVariables false
set_option linter.unusedSimpArgs false

def LargePost (w : World) (n : Nat) (e : Ending) (w' : World) : Prop := ∃ b : Bool, e = .returned (.bool b) ∧ (b = false → n ≤ 1100) ∧ Below w.heap.size w w'
theorem maxLen_le : maxLen ≤ 9223372036854775807 := by decide
set_option maxRecDepth 20000 in
set_option maxHeartbeats 2000000 in
theorem lawlarge_wild (m : Msg) (la da : Option Addr) (lc dc : Nat) (w : World) (hT : IsT w (.slice la m.lst.length lc) m.lst) :
    Calls Try.prog 12 #[m.val (.slice la m.lst.length lc) (.slice da m.dat.length dc)] w (LargePost w m.lst.length) := by
  obtain ⟨k, id, nm, tt, of, tx, ls, dt⟩ := m
  unfold Msg.val
  dsimp only at hT ⊢
  have hf4' : (ls.length : Int) ≤ 9223372036854775807 := by
    obtain ⟨_, _, hv, h1, h2⟩ := hT.shape
    have := maxLen_le
    omega
  have hsz : ((ByteArray.mk tx.toArray).size : Int) = (tx.length : Int) := by simp [ByteArray.size]
  have HT := Lib.hid hT
  have HB0 := Lib.hid (bel_new w (.cells #[.int .i64 k, .int .i64 id, .int .i64 nm, .int .i64 tt, .int .i64 of, .string ⟨tx.toArray⟩, .slice la ls.length lc, .slice da dt.length dc] 25))
  have hm0 := MCells.box w k id nm tt of tx (.slice la ls.length lc) (.slice da dt.length dc)
  obtain ⟨c0, c1, c2, c3, c4, c5, c6, c7⟩ := hm0
  clear hT
  go_enter Try.func12, Try.ntmps12
  go_upto_region 1 with fail
  generalize w.alloc (.cells #[.int .i64 k, .int .i64 id, .int .i64 nm, .int .i64 tt, .int .i64 of, .string ⟨tx.toArray⟩, .slice la ls.length lc, .slice da dt.length dc] 25) = W1 at *
  have HT1 := Lib.hid (HT.out.step HB0.out)
  clear HT
  go_wp2_with fail
  go_loopw [3, 16] (fun n i wr => ∃ (k : Nat) (z : Int), n = .int .i64 z ∧ i = .int .i64 k ∧ k ≤ ls.length ∧ wr = W1) (fun _ i _ => ls.length - (intOf i).toNat)
  case atStart => exact ⟨0, _, rfl, rfl, Nat.zero_le _, rfl⟩
  case round =>
    obtain ⟨q, z, rfl, rfl, hq, rfl⟩ := hrel
    by_cases hlt : q < ls.length
    · obtain ⟨g, o, cap', hv, hc⟩ := HT1.out.elem hlt
      simp only [Value.slice.injEq] at hv
      obtain ⟨rfl, _, rfl⟩ := hv
      have hq0 : (0 : Int) ≤ (q : Int) := by omega
      have hq1 : (q : Int) < (ls.length : Int) := by omega
      generalize ls[q] = s at *
      have hsz2 : ((ByteArray.mk s.toArray).size : Int) = (s.length : Int) := by simp [ByteArray.size]
      go_wp2_with fail
      go_roundw
      case rel => exact ⟨q + 1, _, rfl, by go_num, by omega, by first | rfl | trivial⟩
      case measure => simp [intOf]; omega
    · obtain rfl : q = ls.length := by omega
      by_cases hL : 1100 < ls.length
      · have hL' : (1100 : Int) < (ls.length : Int) := by omega
        by_cases hz2 : 20000 < z
        · go_wp2_with fail
          go_ret
          exact ⟨_, rfl, by simp, HB0.out⟩
        · go_wp2_with fail
          go_ret
          exact ⟨_, rfl, by simp, HB0.out⟩
      · have hL' : ¬ (1100 : Int) < (ls.length : Int) := by omega
        by_cases hz2 : 20000 < z
        · go_wp2_with fail
          go_ret
          exact ⟨_, rfl, by simp, HB0.out⟩
        · go_wp2_with fail
          go_ret
          exact ⟨_, rfl, fun _ => by omega, HB0.out⟩

/-- What is known of a message that the statements do not take for large: few texts, and either a field is larger than Encode takes or all is small. -/
theorem lawlarge_all (m : Msg) (la da : Option Addr) (lc dc : Nat) (w : World) (hT : IsT w (.slice la m.lst.length lc) m.lst) :
    Calls Try.prog 12 #[m.val (.slice la m.lst.length lc) (.slice da m.dat.length dc)] w fun e w' => ∃ b : Bool, e = .returned (.bool b) ∧ (b = false → m.lst.length ≤ 1100 ∧ (largeM m = true ∨ bigM m = false)) ∧ Below w.heap.size w w' := by
  by_cases hl : largeM m = true
  · refine (lawlarge_wild m la da lc dc w hT).mono ?_
    rintro e w' ⟨b, rfl, h, hB⟩
    exact ⟨b, rfl, fun h' => ⟨h h', .inl hl⟩, hB⟩
  · have hF : FitT m := by
      simp only [largeM, Bool.or_eq_true, decide_eq_true_eq, not_or, List.any_eq_true, not_exists, not_and, longT] at hl
      obtain ⟨⟨⟨h1, h2⟩, h3⟩, h4⟩ := hl
      exact ⟨by omega, by omega, by omega, fun s hs => by have := h4 s hs; omega⟩
    refine (lawlarge_any m la da lc dc w hT hF).mono ?_
    rintro e w' ⟨rfl, hB⟩
    refine ⟨_, rfl, fun h' => ⟨?_, .inr h'⟩, hB⟩
    simp only [bigM, Bool.or_eq_false_iff, decide_eq_false_iff_not] at h'
    omega

theorem add_plain (b off i : Nat) : (⟨b, off, none⟩ : Addr).add i = ⟨b, off + i, none⟩ := by unfold Addr.add; split <;> simp_all
theorem cells_3 : Try.prog.cellsOf 3 = 1 := by kernel_rfl
theorem cells_9 : Try.prog.cellsOf 9 = 1 := by kernel_rfl
theorem cells_22 : Try.prog.cellsOf 22 = 1 := by kernel_rfl
theorem cells_23 : Try.prog.cellsOf 23 = 1 := by kernel_rfl
theorem cells_25 : Try.prog.cellsOf 25 = 8 := by kernel_rfl
theorem open_texts {H : Type} {enc : TypeId × Value → H} {fuel : Nat} {W : World} {c : Value} {x : DataW H × List MemPlace} (hf : DataW.trod enc Try.prog W 0 (fun _ => true) true fuel 22 [c] = some x) :
    ∃ ts a cap, c = .slice a ts.length cap ∧ IsT W c ts := by
  rcases open_slice1 Try.underlying22 cells_9 hf with ⟨h1, _⟩ | ⟨a', len', cap', m, n, V, D, Pl, h1, _, hl, hm, hmm, hx2, hx⟩
  · simp only [List.cons.injEq, and_true] at h1
    subst h1
    exact ⟨[], _, _, rfl, .inl ⟨rfl, _, _, rfl, Nat.zero_le _, fun _ => rfl⟩⟩
  · simp only [List.cons.injEq, and_true] at h1
    subst h1
    simp only [if_true] at hmm
    subst hmm
    by_cases h0 : len' = 0
    · subst h0
      exact ⟨[], _, _, rfl, .inl ⟨rfl, _, _, rfl, hm, fun h => by cases h⟩⟩
    · obtain ⟨b, off, spot⟩ := a'
      obtain ⟨C, hC⟩ := choose_lt (α := List UInt8) (p := fun i c => V i = .string ⟨c.toArray⟩) (n := m) (fun i hi => by
        obtain ⟨s, h1, h2, _⟩ := DataW.trod_string Try.underlying9 (hx i hi).2
        exact ⟨s.data.toList, by simpa using h1⟩)
      have hspot : spot = none := by simpa [Addr.add] using World.cell?_spot (hx 0 (by omega)).1
      subst hspot
      refine ⟨(List.range len').map C, some ⟨b, off, none⟩, m, by simp, .inr ⟨by simp [h0], b, off, m, by simp, by simpa using hl, hm, fun i c hi => ?_⟩⟩
      rw [List.getElem?_map] at hi
      have hil : i < len' := by
        rcases Nat.lt_or_ge i len' with h | h
        · exact h
        · simp [List.getElem?_eq_none (show (List.range len').length ≤ i by simpa using h)] at hi
      simp [List.getElem?_eq_getElem (show i < (List.range len').length by simpa using hil)] at hi
      subst hi
      rw [← add_plain, (hx i (by omega)).1, hC i (by omega)]
theorem open_bytes1 {H : Type} {enc : TypeId × Value → H} {fuel : Nat} {W : World} {c : Value} {x : DataW H × List MemPlace} (hf : DataW.trod enc Try.prog W 0 (fun _ => true) true fuel 23 [c] = some x) : ∃ l a cap, c = .slice a l.length cap ∧ IsB W c l := by
  have h : ∃ a len cap, c = .slice a len cap := by
    rcases open_slice1 Try.underlying23 cells_5 hf with ⟨h1, _⟩ | ⟨a', len', cap', m, n, V, D, Pl, h1, _⟩
    · simp only [List.cons.injEq, and_true] at h1
      exact ⟨_, _, _, h1⟩
    · simp only [List.cons.injEq, and_true] at h1
      exact ⟨_, _, _, h1⟩
  obtain ⟨a, len, cap, rfl⟩ := h
  obtain ⟨l, hI⟩ := open_bytes hf
  obtain ⟨a2, c2, hv, _⟩ := hI.shape
  exact ⟨l, a2, c2, hv, hI⟩
theorem open25 {H : Type} {enc : TypeId × Value → H} {base : Nat} {W : World} {v : Value} {d : DataW H} {p : List MemPlace} (o : Value.okWide Try.prog W .any base 25 v) (h : DataW.Trod enc Try.prog W 0 (fun _ => true) true 25 v d p) :
    ∃ (m : Msg) (la da : Option Addr) (lc dc : Nat), v = m.val (.slice la m.lst.length lc) (.slice da m.dat.length dc) ∧ IsT W (.slice la m.lst.length lc) m.lst ∧ IsB W (.slice da m.dat.length dc) m.dat := by
  obtain ⟨cs, rfl, hs⟩ := okWide_struct Try.underlying25 o
  rw [cells_25] at hs
  obtain ⟨l⟩ := cs
  match l, hs with
  | [c0, c1, c2, c3, c4, c5, c6, c7], _ =>
    obtain ⟨fuel, hf⟩ := h
    simp only [Value.cells] at hf
    obtain ⟨xs0, n0, _, _, _, l0, g0⟩ := DataW.trod_struct Try.underlying25 hf
    obtain ⟨y0_0, hy0_0⟩ : ∃ y, xs0[0]? = some y := ⟨_, List.getElem?_eq_getElem (by simp [l0])⟩
    have f0_0 := g0 0 _ rfl
    rw [hy0_0] at f0_0
    simp [cells_3, cells_9, cells_22, cells_23, cells_25] at f0_0
    obtain ⟨a0, e0, _, w0⟩ := DataW.trod_int Try.underlying3 f0_0
    simp at e0
    subst e0
    obtain ⟨y0_1, hy0_1⟩ : ∃ y, xs0[1]? = some y := ⟨_, List.getElem?_eq_getElem (by simp [l0])⟩
    have f0_1 := g0 1 _ rfl
    rw [hy0_1] at f0_1
    simp [cells_3, cells_9, cells_22, cells_23, cells_25] at f0_1
    obtain ⟨a1, e1, _, w1⟩ := DataW.trod_int Try.underlying3 f0_1
    simp at e1
    subst e1
    obtain ⟨y0_2, hy0_2⟩ : ∃ y, xs0[2]? = some y := ⟨_, List.getElem?_eq_getElem (by simp [l0])⟩
    have f0_2 := g0 2 _ rfl
    rw [hy0_2] at f0_2
    simp [cells_3, cells_9, cells_22, cells_23, cells_25] at f0_2
    obtain ⟨a2, e2, _, w2⟩ := DataW.trod_int Try.underlying3 f0_2
    simp at e2
    subst e2
    obtain ⟨y0_3, hy0_3⟩ : ∃ y, xs0[3]? = some y := ⟨_, List.getElem?_eq_getElem (by simp [l0])⟩
    have f0_3 := g0 3 _ rfl
    rw [hy0_3] at f0_3
    simp [cells_3, cells_9, cells_22, cells_23, cells_25] at f0_3
    obtain ⟨a3, e3, _, w3⟩ := DataW.trod_int Try.underlying3 f0_3
    simp at e3
    subst e3
    obtain ⟨y0_4, hy0_4⟩ : ∃ y, xs0[4]? = some y := ⟨_, List.getElem?_eq_getElem (by simp [l0])⟩
    have f0_4 := g0 4 _ rfl
    rw [hy0_4] at f0_4
    simp [cells_3, cells_9, cells_22, cells_23, cells_25] at f0_4
    obtain ⟨a4, e4, _, w4⟩ := DataW.trod_int Try.underlying3 f0_4
    simp at e4
    subst e4
    obtain ⟨y0_5, hy0_5⟩ : ∃ y, xs0[5]? = some y := ⟨_, List.getElem?_eq_getElem (by simp [l0])⟩
    have f0_5 := g0 5 _ rfl
    rw [hy0_5] at f0_5
    simp [cells_3, cells_9, cells_22, cells_23, cells_25] at f0_5
    obtain ⟨a5, e5, _, w5⟩ := DataW.trod_string Try.underlying9 f0_5
    simp at e5
    subst e5
    obtain ⟨y0_6, hy0_6⟩ : ∃ y, xs0[6]? = some y := ⟨_, List.getElem?_eq_getElem (by simp [l0])⟩
    have f0_6 := g0 6 _ rfl
    rw [hy0_6] at f0_6
    simp [cells_3, cells_9, cells_22, cells_23, cells_25] at f0_6
    obtain ⟨ts, la, lc, rfl, hT⟩ := open_texts f0_6
    obtain ⟨y0_7, hy0_7⟩ : ∃ y, xs0[7]? = some y := ⟨_, List.getElem?_eq_getElem (by simp [l0])⟩
    have f0_7 := g0 7 _ rfl
    rw [hy0_7] at f0_7
    simp [cells_3, cells_9, cells_22, cells_23, cells_25] at f0_7
    obtain ⟨bs, da, dc, rfl, hD⟩ := open_bytes1 f0_7
    exact ⟨⟨a0, a1, a2, a3, a4, a5.data.toList, ts, bs⟩, la, da, lc, dc, by simp [Msg.val], hT, hD⟩
end Go.Proofs.Ytbfpjldincnihaa
