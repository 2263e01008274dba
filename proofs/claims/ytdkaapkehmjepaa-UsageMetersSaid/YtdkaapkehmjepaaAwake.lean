/- The walk of the statements' fixed example. No condition. -/
import Derived.Test.YtdkaapkehmjepaaFlush
import Derived.Laws.StructEq
namespace Go.Proofs.Ytdkaapkehmjepaa
open Go.RowKit
set_option linter.unusedVariables false
set_option linter.unusedSimpArgs false

def exM : Mtr := addM (addM (addM (newM [101, 49] 2) 3 100) 3 50) 0 7
theorem OwnE.shape {w : World} {base : Nat} {v : Value} {es : List Ent} (h : OwnE w base v es) : ∃ a c, v = .slice a es.length c := by
  rcases h.2 with ⟨rfl, hn⟩ | ⟨g, cap, cur, rfl, _⟩
  · exact ⟨none, 0, by rw [hn]⟩
  · exact ⟨_, cap, rfl⟩
theorem OwnE.form {w : World} {base : Nat} {v : Value} {es : List Ent} (h : OwnE w base v es) (h0 : 0 < es.length) : ∃ g c, v = .slice (some ⟨g, 0, none⟩) es.length c ∧ base ≤ g := by
  obtain ⟨g, c, hv, hg, _⟩ := World.ownsRow.form h h0
  exact ⟨g, c, hv, hg⟩
theorem flat7 : ∀ (es : List Ent) (k : Nat) (e : Ent), es[k]? = some e → ∀ i, i < 7 → (es.flatMap ecells)[k * 7 + i]? = (ecells e)[i]? := by
  intro es
  induction es with
  | nil => intro k e hk; simp at hk
  | cons q es ih =>
    intro k e hk i hi
    rw [List.flatMap_cons]
    cases k with
    | zero =>
      simp at hk
      subst hk
      rw [List.getElem?_append_left (by simp [ecells]; omega)]
      simp
    | succ k =>
      have hl7 : (ecells q).length = 7 := rfl
      rw [List.getElem?_append_right (by rw [hl7]; omega), hl7, show (k + 1) * 7 + i - 7 = k * 7 + i by omega]
      exact ih k e (by simpa using hk) i hi
theorem OwnE.cells {w : World} {base g c : Nat} {es : List Ent} (h : OwnE w base (.slice (some ⟨g, 0, none⟩) es.length c) es) (k : Nat) (e : Ent) (hk : es[k]? = some e) (i : Nat) (hi : i < 7) : w.cell? ⟨g, k * 7 + i, none⟩ = (ecells e)[i]? := by
  have hlt : k < es.length := (List.getElem?_eq_some_iff.1 hk).1
  rw [World.ownsRow.cellAt h (k * 7 + i) (by omega)]
  exact flat7 es k e hk i hi

set_option maxRecDepth 100000 in
set_option maxHeartbeats 2000000 in
theorem awake_any (w : World) : Calls Try.prog 12 #[] w fun e w' => e = .returned (.bool true) ∧ Below w.heap.size w w' := by
  have hc : codeE ⟨[101, 49], 2, 1, 0, 0, 0, 0⟩ = 0 := by decide
  have f0 := fit_new [101, 49] 2
  have f1 : Fit (addM (newM [101, 49] 2) 3 100) := fun t _ => by simp only [addM, newM, upd]; split <;> omega
  have f2 : Fit (addM (addM (newM [101, 49] 2) 3 100) 3 50) := fun t _ => by simp only [addM, newM, upd]; split <;> (try split) <;> omega
  have o1 : addOk (newM [101, 49] 2) ((3 : Nat) : Int) 100 := by decide
  have o2 : addOk (addM (newM [101, 49] 2) 3 100) ((3 : Nat) : Int) 50 := by decide
  have o3 : addOk (addM (addM (newM [101, 49] 2) 3 100) 3 50) ((0 : Nat) : Int) 7 := by decide
  have hz : ∀ t, t < 16 → exM.H t = 0 → exM.Y t = 0 := fun t ht => by
    simp only [exM, addM, newM, upd]
    by_cases h0 : t = 0
    · subst h0; simp
    · by_cases h3 : t = 3
      · subst h3; simp
      · simp [h0, h3]
  have hfl : (flushEs exM (clampT 9) 16).2 = [⟨[101, 49], 2, 1, 0, 1, 7, 9⟩, ⟨[101, 49], 2, 2, 3, 2, 150, 9⟩] := by rfl
  have HC := Lib.hid (fun W => new_ok [101, 49] 2 W (by simp) hc)
  have A1 := Lib.hid (fun b W h => add_ok b 3 100 (newM [101, 49] 2) W h f0 o1)
  have A2 := Lib.hid (fun b W h => add_ok b 3 50 (addM (newM [101, 49] 2) 3 100) W h f1 o2)
  have A3 := Lib.hid (fun b W h => add_ok b 0 7 (addM (addM (newM [101, 49] 2) 3 100) 3 50) W h f2 o3)
  have A4 := Lib.hid (fun b W h => flush_any b 9 exM W h hz (by decide))
  rw [hfl] at A4
  clear hc f0 f1 f2 o1 o2 o3 hz hfl
  go_enter Try.func12, Try.ntmps12
  go_wp2_with fail
  refine (HC.out _).mono ?_
  rintro e w1 ⟨b, rfl, hbz, hM, hB⟩
  have HM := Lib.hid hM
  clear hM
  go_wp2_with fail
  refine (A1.out b _ HM.out).mono ?_
  rintro e w2 ⟨rfl, hM2, ho2⟩
  have HM2 := Lib.hid hM2
  clear hM2 HM
  go_wp2_with fail
  refine (A2.out b _ HM2.out).mono ?_
  rintro e w3 ⟨rfl, hM3, ho3⟩
  have HM3 := Lib.hid hM3
  clear hM3 HM2
  go_wp2_with fail
  refine (A3.out b _ HM3.out).mono ?_
  rintro e w4 ⟨rfl, hM4, ho4⟩
  have HM4 := Lib.hid hM4
  clear hM4 HM3
  go_wp2_with fail
  refine (A4.out b _ HM4.out).mono ?_
  rintro e w5 ⟨v5, rfl, hE, _, ho5⟩
  obtain ⟨g, c, rfl, hg⟩ := hE.form (by simp)
  have x0 := fun i hi => hE.cells 0 _ rfl i hi
  have x1 := fun i hi => hE.cells 1 _ rfl i hi
  have a0 := x0 0 (by omega)
  have a1 := x0 1 (by omega)
  have a2 := x0 2 (by omega)
  have a3 := x0 3 (by omega)
  have a4 := x0 4 (by omega)
  have a5 := x0 5 (by omega)
  have a6 := x0 6 (by omega)
  have b0 := x1 0 (by omega)
  have b1 := x1 1 (by omega)
  have b2 := x1 2 (by omega)
  have b3 := x1 3 (by omega)
  have b4 := x1 4 (by omega)
  have b5 := x1 5 (by omega)
  have b6 := x1 6 (by omega)
  simp [ecells] at a0 a1 a2 a3 a4 a5 a6 b0 b1 b2 b3 b4 b5 b6
  have hfin : Below w.heap.size w w5 := hB.trans ((((ho2.trans ho3).trans ho4).trans ho5).below hbz hB.size)
  have HFIN := Lib.hid hfin
  clear x0 x1 hE hfin ho2 ho3 ho4 ho5 hB HM4 HC A1 A2 A3 A4
  go_wp2_with fail
  go_ret
  exact ⟨rfl, HFIN.out⟩
theorem usageNil_walk (t y : Int) (w : World) : Calls Try.prog 6 #[.int .i64 t, .int .i64 y] w fun e w' => e = .returned (.bool true) ∧ Below w.heap.size w w' := by
  go_enter Try.func6, Try.ntmps6
  go_wp2_with fail
  refine (awake_any _).mono ?_
  rintro e w1 ⟨rfl, hb⟩
  go_wp2_with (first | (go_at_call 22; refine (pending_nil _ _).mono ?_; rintro e w' ⟨rfl, rfl⟩) | (go_at_call 21; refine (add_nil _ _ _).mono ?_; rintro e w' ⟨rfl, rfl⟩) | (go_at_call 19; refine (flush_nil _ _).mono ?_; rintro e w' ⟨rfl, rfl⟩) | (go_at_call 23; refine (is_yes 3 (by decide) _).mono ?_; rintro e w' ⟨rfl, rfl⟩))
  go_ret
  exact ⟨rfl, hb⟩
theorem num_code (c : Int) (w : World) : Calls Try.prog 13 #[errV c] w fun e w' => e = .returned (.int .i64 c) ∧ w = w' := by
  unfold errV
  by_cases h : c = 0
  · rw [if_pos h, h]; exact num_nil w
  · rw [if_neg h]; exact num_err c w
theorem usageChecks_walk (e : Ent) (w : World) (hn : e.node.length ≤ 9223372036854775807) (hs : -9223372036854775808 ≤ e.seq ∧ e.seq ≤ 9223372036854775807) : Calls Try.prog 3 #[e.val] w fun r w' => r = .returned (.bool true) ∧ Below w.heap.size w w' := by
  have HC := Lib.hid (fun W => check_any e W hn hs)
  have HD := Lib.hid (fun W => codeE_any e W hn hs)
  obtain ⟨nd, bt, sq, tn, ht, by', at'⟩ := e
  unfold Ent.val at *
  dsimp only at *
  generalize codeE ⟨nd, bt, sq, tn, ht, by', at'⟩ = c at *
  clear hn hs
  have hB := bel_new w (.cells #[.string ⟨nd.toArray⟩, .int .i64 bt, .int .i64 sq, .int .i64 tn, .int .i64 ht, .int .i64 by', .int .i64 at'] 23)
  have HB := Lib.hid hB
  have hcs : ∀ i v, (#[.string ⟨nd.toArray⟩, .int .i64 bt, .int .i64 sq, .int .i64 tn, .int .i64 ht, .int .i64 by', .int .i64 at'] : Array Value)[i]? = some v → (w.alloc (.cells #[.string ⟨nd.toArray⟩, .int .i64 bt, .int .i64 sq, .int .i64 tn, .int .i64 ht, .int .i64 by', .int .i64 at'] 23)).cell? ⟨w.heap.size, i, none⟩ = some v := fun i v h => (cell_of_row _ _ _ _ _ _ (heap_alloc_new w _)).trans h
  have c0 := hcs 0 (.string ⟨nd.toArray⟩) rfl
  have c1 := hcs 1 (.int .i64 bt) rfl
  have c2 := hcs 2 (.int .i64 sq) rfl
  have c3 := hcs 3 (.int .i64 tn) rfl
  have c4 := hcs 4 (.int .i64 ht) rfl
  have c5 := hcs 5 (.int .i64 by') rfl
  have c6 := hcs 6 (.int .i64 at') rfl
  clear hB hcs
  go_enter Try.func3, Try.ntmps3
  go_upto_region 1 with fail
  generalize w.alloc (.cells #[.string ⟨nd.toArray⟩, .int .i64 bt, .int .i64 sq, .int .i64 tn, .int .i64 ht, .int .i64 by', .int .i64 at'] 23) = W at *
  go_region_held3 (fun w' => w'.cell? ⟨w.heap.size, 0, none⟩ = some (.string ⟨nd.toArray⟩) ∧ w'.cell? ⟨w.heap.size, 1, none⟩ = some (.int .i64 bt) ∧ w'.cell? ⟨w.heap.size, 2, none⟩ = some (.int .i64 sq) ∧ w'.cell? ⟨w.heap.size, 3, none⟩ = some (.int .i64 tn) ∧ w'.cell? ⟨w.heap.size, 4, none⟩ = some (.int .i64 ht) ∧ w'.cell? ⟨w.heap.size, 5, none⟩ = some (.int .i64 by') ∧ w'.cell? ⟨w.heap.size, 6, none⟩ = some (.int .i64 at'))
    ((go_split_ands; refine ⟨?_, ?_, ?_, ?_, ?_, ?_, ?_⟩ <;> (repeat (with_reducible (first | assumption | refine keep_drew ?_ | refine keep_at hb9 ?_ | refine keep_at hb8 ?_ | refine keep_at hb7 ?_)))))
    (first | (go_at_call 12; refine (awake_any _).mono ?_; rintro e w7 ⟨rfl, hb7⟩) | (go_at_call 14; refine (HC.out _).mono ?_; rintro e w8 ⟨rfl, hb8⟩) | (go_at_call 15; refine (HD.out _).mono ?_; rintro e w9 ⟨rfl, hb9⟩) | (go_at_call 13; refine (num_code _ _).mono ?_; rintro e w' ⟨rfl, rfl⟩))
  have hfin : Below w.heap.size w w9 := bel_step (bel_step (bel_step (bel_drew HB.out) hb7) hb8) hb9
  go_wp2_with fail
  go_ret
  exact ⟨rfl, hfin⟩
end Go.Proofs.Ytdkaapkehmjepaa
