/- Messages of the greatest permitted sizes. No program beyond makeSlice. -/
import Derived.Test.YtbfpjldincnihaaLawsC
import Derived.Test.YtbfpjldincnihaaSums
namespace Go.Proofs.Ytbfpjldincnihaa
open Go.RowKit
set_option linter.unusedVariables false
set_option linter.unusedSimpArgs false

theorem make_bytes (n : Nat) (h : n ≤ 200000) (w : World) : (Instr.makeSlice 23 (.int .i64 (n : Int)) (.int .i64 (n : Int))).run Try.prog w = .ok (.slice (some ⟨w.heap.size, 0, none⟩) n n) (w.alloc (.cells (madeCells #[.int .u8 0] n) 5)) :=
  run_make_row' 23 5 (.int .u8 0) 1 Try.underlying23 info5 rfl .i64 .i64 n (by omega) (by omega) w
theorem zeros_isB (n : Nat) (h : n ≤ 200000) (w : World) : IsB (w.alloc (.cells (madeCells #[.int .u8 0] n) 5)) (.slice (some ⟨w.heap.size, 0, none⟩) n n) (List.replicate n 0) := by
  have hr : (w.alloc (.cells (madeCells #[.int .u8 0] n) 5)).rowIs w.heap.size 5 (List.replicate n (0 : UInt8)).length (fun _ => .int .u8 0) := by
    rw [List.length_replicate]
    exact World.rowIs_made w (.int .u8 0) n 5
  have := rowB hr (l := List.replicate n 0) (fun i c hi => by
    obtain ⟨hi', rfl⟩ := List.getElem?_eq_some_iff.1 hi
    simp) (by simp [maxLen]; omega)
  rwa [List.length_replicate] at this
theorem make_texts (n : Nat) (h : n ≤ 200000) (w : World) : (Instr.makeSlice 22 (.int .i64 (n : Int)) (.int .i64 (n : Int))).run Try.prog w = .ok (.slice (some ⟨w.heap.size, 0, none⟩) n n) (w.alloc (.cells (madeCells #[.string ⟨#[]⟩] n) 9)) :=
  run_make_row' 22 9 (.string ⟨#[]⟩) 16 Try.underlying22 info9 rfl .i64 .i64 n (by omega) (by omega) w
theorem empties_isT (n : Nat) (h : 1 ≤ n ∧ n ≤ 200000) (w : World) : IsT (w.alloc (.cells (madeCells #[.string ⟨#[]⟩] n) 9)) (.slice (some ⟨w.heap.size, 0, none⟩) n n) (List.replicate n []) := by
  have hr := World.rowIs_made w (.string ⟨#[]⟩) n 9
  refine .inr ⟨fun e => by have := congrArg List.length e; rw [List.length_replicate] at this; simp at this; omega, w.heap.size, 0, n, by rw [List.length_replicate], by rw [List.length_replicate]; exact Nat.le_refl _, by unfold maxLen; omega, fun k s hk => ?_⟩
  obtain ⟨hk', rfl⟩ := List.getElem?_eq_some_iff.1 hk
  rw [List.length_replicate] at hk'
  have := hr.cell hk'
  simpa using this

/-- What Encode says of a message whose size alone decides. -/
def LimPost (small : Prop) (w : World) (e : Ending) (w' : World) : Prop := ∃ a L c E, e = .returned (.tuple #[.slice a L c, E]) ∧ ((small ∧ E = .nilIface) ∨ (¬ small ∧ E = .iface 43 (.int .i64 5) ∧ L = 0)) ∧ Below w.heap.size w w'
theorem lim_any (m : Msg) (small : Prop) (hc : (small ∧ codeM m = 0) ∨ (¬ small ∧ codeM m = 5)) (la da : Option Addr) (lc dc : Nat) (w : World) (hT : IsT w (.slice la m.lst.length lc) m.lst) (hD : IsB w (.slice da m.dat.length dc) m.dat) :
    Calls Try.prog 14 #[m.val (.slice la m.lst.length lc) (.slice da m.dat.length dc)] w (LimPost small w) := by
  refine (henc_any m la da lc dc w hT hD).mono ?_
  rintro e w' ⟨u, rfl, ho, hb⟩
  obtain ⟨a, c, rfl, _⟩ := ho.isB.shape
  refine ⟨a, _, c, errV (codeM m), rfl, ?_, hb⟩
  rcases hc with ⟨h1, h2⟩ | ⟨h1, h2⟩
  · rw [h2]; exact .inl ⟨h1, rfl⟩
  · refine .inr ⟨h1, by rw [h2]; rfl, ?_⟩
    unfold encM
    rw [h2]
    rfl
theorem code_head (z : List UInt8) (h : z.length ≤ 9000) : (z.length ≤ 8192 ∧ codeM ⟨2, 0, 0, 0, 0, z, [], []⟩ = 0) ∨ (¬ z.length ≤ 8192 ∧ codeM ⟨2, 0, 0, 0, 0, z, [], []⟩ = 5) := by
  have h1 : (okK 2 && rightM ⟨2, 0, 0, 0, 0, z, [], []⟩ (usesF 2)) = true := by simp [okK, rightM, usesF]
  have h2 : rangeM ⟨2, 0, 0, 0, 0, z, [], []⟩ := by unfold rangeM inR; simp
  by_cases hz : z.length ≤ 8192
  · refine .inl ⟨hz, code_ok h1 h2 (by simp [largeM]; omega) ?_⟩
    have e1 := numB_len (clampN 0)
    have e2 := numB_len z.length
    simp only [payM, usesF, numI, textB, List.length_append]
    simp only [show ((2 : Int) = 1) = False by simp, if_false, if_true, List.length_append, List.length_nil]
    simp
    omega
  · exact .inr ⟨hz, code_large h1 h2 (by simp [largeM]; omega)⟩
theorem code_body (z : List UInt8) (h : z.length ≤ 70000) : (z.length ≤ 65536 ∧ codeM ⟨3, 0, 0, 0, 0, [], [], z⟩ = 0) ∨ (¬ z.length ≤ 65536 ∧ codeM ⟨3, 0, 0, 0, 0, [], [], z⟩ = 5) := by
  have h1 : (okK 3 && rightM ⟨3, 0, 0, 0, 0, [], [], z⟩ (usesF 3)) = true := by simp [okK, rightM, usesF]
  have h2 : rangeM ⟨3, 0, 0, 0, 0, [], [], z⟩ := by unfold rangeM inR; simp
  by_cases hz : z.length ≤ 65536
  · refine .inl ⟨hz, code_ok h1 h2 (by simp [largeM]; omega) ?_⟩
    have e1 := numB_len (clampN 0)
    have e2 := numB_len z.length
    simp [payM, usesF, numI, textB]
    omega
  · exact .inr ⟨hz, code_large h1 h2 (by simp [largeM]; omega)⟩
theorem flat_same (n B : Nat) (s : List UInt8) (h : (textB s).length = B) : ((List.replicate n s).flatMap textB).length = n * B := by
  induction n with
  | zero => simp
  | succ n ih => rw [List.replicate_succ, List.flatMap_cons, List.length_append, ih, h, Nat.succ_mul]; omega
theorem pay_list (ts : List (List UInt8)) : (payM ⟨8, 0, 0, 0, 0, [], ts, []⟩ (usesF 8)).length = 2 + (numB ts.length).length + (ts.flatMap textB).length := by
  have hp : payM ⟨8, 0, 0, 0, 0, [], ts, []⟩ (usesF 8) = numI 0 ++ (numI 0 ++ textsB ts) := by simp [payM, usesF]
  have h0 : numI 0 = [0] := by decide
  rw [hp, h0, List.length_append, List.length_append, textsB, List.length_append]
  simp only [List.length_cons, List.length_nil]
  omega
theorem code_list (ts : List (List UInt8)) (h : (ts.flatMap textB).length + 12 ≤ 131072) (hs : ts.any longT = false) : (ts.length ≤ 1024 ∧ codeM ⟨8, 0, 0, 0, 0, [], ts, []⟩ = 0) ∨ (¬ ts.length ≤ 1024 ∧ codeM ⟨8, 0, 0, 0, 0, [], ts, []⟩ = 5) := by
  have h1 : (okK 8 && rightM ⟨8, 0, 0, 0, 0, [], ts, []⟩ (usesF 8)) = true := by simp [okK, rightM, usesF]
  have h2 : rangeM ⟨8, 0, 0, 0, 0, [], ts, []⟩ := by unfold rangeM inR; simp
  by_cases hz : ts.length ≤ 1024
  · refine .inl ⟨hz, code_ok h1 h2 (by simp only [largeM, hs]; simp; omega) ?_⟩
    have e2 := numB_len ts.length
    have e3 := pay_list ts
    dsimp only
    omega
  · exact .inr ⟨hz, code_large h1 h2 (by simp [largeM]; omega)⟩
theorem code_long2 (ts : List (List UInt8)) (h : 131072 < (ts.flatMap textB).length) (hs : ts.any longT = false) (hz : ts.length ≤ 1024) : codeM ⟨8, 0, 0, 0, 0, [], ts, []⟩ = 5 := by
  have h1 : (okK 8 && rightM ⟨8, 0, 0, 0, 0, [], ts, []⟩ (usesF 8)) = true := by simp [okK, rightM, usesF]
  have h2 : rangeM ⟨8, 0, 0, 0, 0, [], ts, []⟩ := by unfold rangeM inR; simp
  refine code_long h1 h2 (by simp only [largeM, hs]; simp; omega) ?_
  have e3 := pay_list ts
  dsimp only
  omega
theorem code_big (ts : List (List UInt8)) (hs : ts.any longT = true) : codeM ⟨8, 0, 0, 0, 0, [], ts, []⟩ = 5 := by
  have h1 : (okK 8 && rightM ⟨8, 0, 0, 0, 0, [], ts, []⟩ (usesF 8)) = true := by simp [okK, rightM, usesF]
  have h2 : rangeM ⟨8, 0, 0, 0, 0, [], ts, []⟩ := by unfold rangeM inR; simp
  exact code_large h1 h2 (by simp only [largeM, hs]; simp)
theorem lim_ok (m : Msg) (hc : codeM m = 0) (la da : Option Addr) (lc dc : Nat) (w : World) (hT : IsT w (.slice la m.lst.length lc) m.lst) (hD : IsB w (.slice da m.dat.length dc) m.dat) :
    Calls Try.prog 14 #[m.val (.slice la m.lst.length lc) (.slice da m.dat.length dc)] w fun e w' => (∃ a n c, e = .returned (.tuple #[.slice a n c, .nilIface])) ∧ Below w.heap.size w w' := by
  refine (henc_any m la da lc dc w hT hD).mono ?_
  rintro e w' ⟨u, rfl, ho, hb⟩
  obtain ⟨a, c, rfl, _⟩ := ho.isB.shape
  exact ⟨⟨a, _, c, by rw [hc]; rfl⟩, hb⟩
theorem lim_bad (m : Msg) (hc : codeM m = 5) (la da : Option Addr) (lc dc : Nat) (w : World) (hT : IsT w (.slice la m.lst.length lc) m.lst) (hD : IsB w (.slice da m.dat.length dc) m.dat) :
    Calls Try.prog 14 #[m.val (.slice la m.lst.length lc) (.slice da m.dat.length dc)] w fun e w' => (∃ a n c, e = .returned (.tuple #[.slice a n c, .iface 43 (.int .i64 5)])) ∧ Below w.heap.size w w' := by
  refine (henc_any m la da lc dc w hT hD).mono ?_
  rintro e w' ⟨u, rfl, ho, hb⟩
  obtain ⟨a, c, rfl, _⟩ := ho.isB.shape
  exact ⟨⟨a, _, c, by rw [hc]; rfl⟩, hb⟩
theorem any_same (n : Nat) (Z : List UInt8) (h : longT Z = false) : (List.replicate n Z).any longT = false := by
  rw [List.any_eq_false]
  intro x hx
  rw [(List.mem_replicate.1 hx).2, h]
  simp
theorem code_63 (Z : List UInt8) (h1 : (textB Z).length ≤ 2058) (h2 : longT Z = false) : codeM ⟨8, 0, 0, 0, 0, [], List.replicate 63 Z, []⟩ = 0 := by
  have hf := flat_same 63 _ Z rfl
  rcases code_list (List.replicate 63 Z) (by omega) (any_same 63 Z h2) with ⟨_, h⟩ | ⟨h, _⟩
  · exact h
  · rw [List.length_replicate] at h; omega
theorem code_64 (Z : List UInt8) (h1 : 2049 ≤ (textB Z).length) (h2 : longT Z = false) : codeM ⟨8, 0, 0, 0, 0, [], List.replicate 64 Z, []⟩ = 5 := by
  have hf := flat_same 64 _ Z rfl
  exact code_long2 _ (by omega) (any_same 64 Z h2) (by rw [List.length_replicate]; omega)
theorem code_x (Z : List UInt8) (h1 : Z.length = 2048) : codeM ⟨8, 0, 0, 0, 0, [], (List.replicate 63 Z).set 0 (Z ++ [120]), []⟩ = 5 := by
  apply code_big
  rw [List.any_eq_true]
  refine ⟨Z ++ [120], ?_, by simp [longT, h1]⟩
  exact List.mem_iff_getElem?.2 ⟨0, by rw [List.getElem?_set_self (by rw [List.length_replicate]; decide)]⟩
theorem OwnT.form {w : World} {base : Nat} {v : Value} {l : List (List UInt8)} (h : OwnT w base v l) (hl : l ≠ []) : ∃ g cap, v = .slice (some ⟨g, 0, none⟩) l.length cap ∧ base ≤ g ∧ g < w.heap.size :=
  World.ownsRow.form h (by cases l with | nil => exact absurd rfl hl | cons => simp)
theorem OwnT.at {w : World} {base g n cap : Nat} {L : List (List UInt8)} (h : OwnT w base (.slice (some ⟨g, 0, none⟩) n cap) L) (hn : n = L.length) (j : Nat) (s : List UInt8) (hj : L[j]? = some s) : w.cell? ⟨g, j, none⟩ = some (.string ⟨s.toArray⟩) ∧ w.frozen? ⟨g, j, none⟩ = false := by
  subst hn
  refine ⟨?_, World.ownsRow.frozenAt h j⟩
  obtain ⟨hl, he⟩ := List.getElem?_eq_some_iff.1 hj
  rw [World.ownsRow.cellAt h j (by omega), List.getElem?_map, hj]
  rfl
theorem OwnT.put {w : World} {base g n cap : Nat} {L : List (List UInt8)} (h : OwnT w base (.slice (some ⟨g, 0, none⟩) n cap) L) (hn : n = L.length) (j : Nat) (s : List UInt8) : OwnT (w.setCell ⟨g, j, none⟩ (.string ⟨s.toArray⟩)) base (.slice (some ⟨g, 0, none⟩) n cap) (L.set j s) := by
  subst hn
  have h9 := World.ownsRow.stored h j (.string ⟨s.toArray⟩)
  unfold OwnT
  rw [List.length_set, List.map_set]
  exact h9.1
theorem add_x (Z : List UInt8) : ((ByteArray.mk Z.toArray) ++ (ByteArray.mk #[120])) = ByteArray.mk (Z ++ [120]).toArray := by
  apply ByteArray.ext
  simp
end Go.Proofs.Ytbfpjldincnihaa
