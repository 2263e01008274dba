/- The walks of Field, Fresh, Stale and of the statements' own small functions about ages. No condition. -/
import Derived.Test.YtgefcejolfikoabAge
import Derived.Test.YtgefcejolfikoabRead
namespace Go.Proofs.Ytgefcejolfikoab
open Go.RowKit
set_option linter.unusedVariables false
set_option linter.unusedSimpArgs false

/-- A cell of the world that a call began in reads on. -/
theorem keep_at {W w' : World} (h : Below W.heap.size W w') {b o : Nat} {v : Value} (hc : W.cell? ⟨b, o, none⟩ = some v) : w'.cell? ⟨b, o, none⟩ = some v :=
  (below_cells h b o (World.block_lt_of_cell? W _ hc)).trans hc

/-- What lay there when a call began: one step more. -/
theorem bel_step {w W w' : World} (h : Below w.heap.size w W) (hb : Below W.heap.size W w') : Below w.heap.size w w' := h.trans (hb.mono h.size)
theorem bel_alloc {w W : World} {x : Obj} (h : Below w.heap.size w W) : Below w.heap.size w (W.alloc x) := h.alloc h.size x
theorem bel_drew {w W : World} (h : Below w.heap.size w W) : Below w.heap.size w W.drew := h.drew
theorem bel_drewN {w W : World} {n : Nat} (h : Below w.heap.size w W) : Below w.heap.size w (W.drewN n) := below_draws h n

theorem keep_alloc {W : World} {x : Obj} {b o : Nat} {v : Value} (hc : W.cell? ⟨b, o, none⟩ = some v) : (W.alloc x).cell? ⟨b, o, none⟩ = some v := by
  have h : b < W.heap.size := World.block_lt_of_cell? W _ hc
  exact (World.cell?_of_block (w := W) (w' := W.alloc x) (Below.heap_alloc W x b h)).trans hc
theorem keep_drew {W : World} {b o : Nat} {v : Value} (hc : W.cell? ⟨b, o, none⟩ = some v) : W.drew.cell? ⟨b, o, none⟩ = some v := hc
theorem keep_drewN {W : World} {b o n : Nat} {v : Value} (hc : W.cell? ⟨b, o, none⟩ = some v) : (W.drewN n).cell? ⟨b, o, none⟩ = some v := hc

theorem at_yes (s r a n p : Int) (w : World) (h : ordB s r n = true) : Calls Try.prog 8 #[.agg #[.int .i64 s, .int .i64 r, .int .i64 a], .int .i64 n, .int .i64 p] w fun e w' => e = .returned (.tuple #[.int .i64 (atLo s r a n p), .int .i64 (atHi s r a n p), .nilIface]) ∧ Below w.heap.size w w' := by
  have := at_any s r a n p w
  rwa [atE, h] at this
theorem at_no (s r a n p : Int) (w : World) (h : ordB s r n = false) : Calls Try.prog 8 #[.agg #[.int .i64 s, .int .i64 r, .int .i64 a], .int .i64 n, .int .i64 p] w fun e w' => e = .returned (.tuple #[.int .i64 0, .int .i64 0, .iface 50 (.int .i64 7)]) ∧ Below w.heap.size w w' := by
  have := at_any s r a n p w
  rwa [atE, atLo, atHi, h] at this
theorem num_at (s r n : Int) (w : World) : Calls Try.prog 27 #[atE s r n] w fun e w' => e = .returned (.int .i64 (atN s r n)) ∧ w = w' := by
  cases h : ordB s r n
  · rw [atE, atN, h]; exact num_err 7 w
  · rw [atE, atN, h]; exact num_nil w

theorem atHi_bd (s r a n p : Int) : 0 ≤ atHi s r a n p ∧ atHi s r a n p ≤ 4398046511104000 := by
  have hs := lim_bd s 1099511627776 (by omega)
  have hn := lim_bd n 1099511627776 (by omega)
  have hp := lim_bd p 100000 (by omega)
  rw [atHi]
  split
  · rename_i h
    have h := ord_true s r n h
    have g1 := ehi_nonneg (lim n 1099511627776 - lim s 1099511627776) (lim p 100000) (by omega) hp.1 hp.2
    have g2 := ehi_le (lim n 1099511627776 - lim s 1099511627776) (lim p 100000) (by omega) (by omega) hp.1 hp.2
    unfold ageOf
    split <;> (try split) <;> omega
  · omega

theorem field_any (s r a n p : Int) (w : World) : Calls Try.prog 11 #[.agg #[.int .i64 s, .int .i64 r, .int .i64 a], .int .i64 n, .int .i64 p] w fun e w' => e = .returned (.tuple #[.int .i64 (atHi s r a n p / 1000), atE s r n]) ∧ Below w.heap.size w w' := by
  have hb := atHi_bd s r a n p
  go_enter Try.func11, Try.ntmps11
  go_wp2_with fail
  refine (at_any _ _ _ _ _ _).mono ?_
  rintro e w1 ⟨rfl, hB⟩
  have hC : Below w.heap.size w w1 := ((Below.refl _ _).alloc (Nat.le_refl _) _).trans (hB.mono (by simp))
  clear hB
  go_wp2_with fail
  go_ret2
  exact ⟨rfl, hC⟩

def freshB (s r a n p l : Int) : Bool := ordB s r n && decide (atHi s r a n p < l)
def staleB (s r a n p l : Int) : Bool := ordB s r n && decide (l ≤ atLo s r a n p)

theorem fresh_any (s r a n p l : Int) (w : World) : Calls Try.prog 9 #[.agg #[.int .i64 s, .int .i64 r, .int .i64 a], .int .i64 n, .int .i64 p, .int .i64 l] w fun e w' => e = .returned (.bool (freshB s r a n p l)) ∧ Below w.heap.size w w' := by
  cases ho : ordB s r n
  · go_enter Try.func9, Try.ntmps9
    go_wp2_with fail
    refine (at_no _ _ _ _ _ _ ho).mono ?_
    rintro e w1 ⟨rfl, hB⟩
    have hC : Below w.heap.size w w1 := ((Below.refl _ _).alloc (Nat.le_refl _) _).trans (hB.mono (by simp))
    clear hB
    go_wp2_with fail
    go_ret
    exact ⟨ret_bool (by rw [freshB, ho]; rfl), hC⟩
  · go_enter Try.func9, Try.ntmps9
    go_wp2_with fail
    refine (at_yes _ _ _ _ _ _ ho).mono ?_
    rintro e w1 ⟨rfl, hB⟩
    have hC : Below w.heap.size w w1 := ((Below.refl _ _).alloc (Nat.le_refl _) _).trans (hB.mono (by simp))
    clear hB
    go_wp2_with fail
    go_ret
    exact ⟨ret_bool (by rw [freshB, ho]; rfl), hC⟩
theorem stale_any (s r a n p l : Int) (w : World) : Calls Try.prog 10 #[.agg #[.int .i64 s, .int .i64 r, .int .i64 a], .int .i64 n, .int .i64 p, .int .i64 l] w fun e w' => e = .returned (.bool (staleB s r a n p l)) ∧ Below w.heap.size w w' := by
  cases ho : ordB s r n
  · go_enter Try.func10, Try.ntmps10
    go_wp2_with fail
    refine (at_no _ _ _ _ _ _ ho).mono ?_
    rintro e w1 ⟨rfl, hB⟩
    have hC : Below w.heap.size w w1 := ((Below.refl _ _).alloc (Nat.le_refl _) _).trans (hB.mono (by simp))
    clear hB
    go_wp2_with fail
    go_ret
    exact ⟨ret_bool (by rw [staleB, ho]; rfl), hC⟩
  · go_enter Try.func10, Try.ntmps10
    go_wp2_with fail
    refine (at_yes _ _ _ _ _ _ ho).mono ?_
    rintro e w1 ⟨rfl, hB⟩
    have hC : Below w.heap.size w w1 := ((Below.refl _ _).alloc (Nat.le_refl _) _).trans (hB.mono (by simp))
    clear hB
    go_wp2_with fail
    go_ret
    exact ⟨ret_bool (by rw [staleB, ho]; rfl), hC⟩

theorem times_any (s r a : Int) (w : World) : Calls Try.prog 13 #[.agg #[.int .i64 s, .int .i64 r, .int .i64 a]] w fun e w' => e = .returned (.agg #[.int .i64 s, .int .i64 r, .int .i64 a]) ∧ (w.alloc (.cells #[.int .i64 s, .int .i64 r, .int .i64 a] 39)).alloc (.cells #[.int .i64 s, .int .i64 r, .int .i64 a] 30) = w' := by
  go_enter Try.func13, Try.ntmps13
  go_wp2
  refine bodyPost_ret (v := .agg #[.int .i64 s, .int .i64 r, .int .i64 a]) (by simp [results, Try.results13, go_sem]) rfl ⟨rfl, rfl⟩

theorem ageAwake_any (w : World) : Calls Try.prog 6 #[] w fun e w' => e = .returned (.bool true) ∧ Below w.heap.size w w' := by
  have h1 : atLo 1000 1500 7 3000 0 = 1500 := by decide
  have h2 : atHi 1000 1500 7 3000 0 = 10000 := by decide
  have h3 : ordB 1000 1500 3000 = true := by decide
  have h := at_yes 1000 1500 7 3000 0
  rw [h1, h2] at h
  clear h1 h2
  have H := Lib.hid h
  clear h
  go_enter Try.func6, Try.ntmps6
  go_wp2_with fail
  refine (H.out _ h3).mono ?_
  rintro e w1 ⟨rfl, hB⟩
  go_wp2_with fail
  go_ret
  exact ⟨rfl, hB⟩
end Go.Proofs.Ytgefcejolfikoab
