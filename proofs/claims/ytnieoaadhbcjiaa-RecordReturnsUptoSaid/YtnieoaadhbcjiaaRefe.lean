/- The walk of the reference's Encode. No condition beyond lengths that memory allows. -/
import Derived.Test.YtnieoaadhbcjiaaRefn
namespace Go.Proofs.Ytnieoaadhbcjiaa
open Go.RowKit
set_option linter.unusedVariables false
set_option linter.unusedSimpArgs false

theorem bel4 {w wc w1 w2 : World} (hB : Below w.heap.size w wc) (h : w.heap.size < wc.heap.size) (hb : Below wc.heap.size wc w1) (hb2 : Below (w.heap.size + 1) w1 w2) : Below w.heap.size w w2 :=
  (hB.trans (hb.mono (by omega))).trans (hb2.mono (by omega))
theorem renc_range (k n : Int) (v : Value) (w : World) (h : rangeBad k n = true) : Calls Try.prog 21 #[.agg #[.int .i64 k, .int .i64 n, v]] w fun e w' => e = .returned (.tuple #[.slice none 0 0, .int .i64 1]) ∧ Below w.heap.size w w' := by
  have h' : k < 1 ∨ (¬ k < 1 ∧ 127 < k) ∨ (¬ k < 1 ∧ ¬ 127 < k ∧ n < 0) ∨ (¬ k < 1 ∧ ¬ 127 < k ∧ ¬ n < 0 ∧ 1099511627776 < n) := by
    simp only [rangeBad, decide_eq_true_eq] at h
    omega
  clear h
  rcases h' with h | ⟨h1, h⟩ | ⟨h1, h2, h⟩ | ⟨h1, h2, h3, h⟩
  all_goals
    go_enter Try.func21, Try.ntmps21
    go_wp2
    go_ret2
    exact ⟨rfl, bel_new _ _⟩
theorem renc_large (k n : Int) (v : Value) (l : List UInt8) (w : World) (h : rangeBad k n = false) (hv : IsB w v l) (hl : 131072 < l.length) : Calls Try.prog 21 #[.agg #[.int .i64 k, .int .i64 n, v]] w fun e w' => e = .returned (.tuple #[.slice none 0 0, .int .i64 5]) ∧ Below w.heap.size w w' := by
  have h' : 1 ≤ k ∧ k ≤ 127 ∧ 0 ≤ n ∧ n ≤ 1099511627776 := by
    simp only [rangeBad, decide_eq_false_iff_not] at h
    omega
  obtain ⟨a, cap, rfl, _⟩ := hv.shape
  have hl' : (131072 : Int) < (l.length : Int) := by omega
  clear h hv hl
  obtain ⟨h1, h2, h3, h4⟩ := h'
  go_enter Try.func21, Try.ntmps21
  go_wp2
  go_ret2
  exact ⟨rfl, bel_new _ _⟩


set_option maxRecDepth 20000 in
set_option maxHeartbeats 2000000 in
theorem renc_ok (k n : Nat) (v : Value) (l : List UInt8) (w : World) (hk : 1 ≤ k ∧ k ≤ 127) (hn : (n : Int) ≤ 1099511627776) (hv : IsB w v l) (hl : l.length ≤ 131072) :
    Calls Try.prog 21 #[.agg #[.int .i64 k, .int .i64 n, v]] w fun e w' => ∃ u, e = .returned (.tuple #[u, .int .i64 0]) ∧ OwnB w' w.heap.size u (encP k n l) ∧ Below w.heap.size w w' := by
  have hcn : clampN (n : Int) = n := by unfold clampN; omega
  have hcl : clampN (l.length : Int) = l.length := by unfold clampN; omega
  have hn1 := numB_len n
  have hn2 := numB_len l.length
  have HV := Lib.hid hv
  have HCN := Lib.hid hcn
  have HCL := Lib.hid hcl
  obtain ⟨a, cap, rfl, _⟩ := hv.shape
  have hl' : (l.length : Int) ≤ 131072 := by omega
  clear hv hcn hcl
  have hnum : ∀ W : World, Calls Try.prog 40 #[.int .i64 n] W fun e w' => ∃ v, e = .returned v ∧ OwnB w' W.heap.size v (numB n) ∧ Below W.heap.size W w' := fun W => by
    refine (ruint_any (n : Int) W).mono ?_
    rintro e w' ⟨u, he, ho, hb⟩
    rw [HCN.out] at ho
    exact ⟨u, he, ho, hb⟩
  have HNUM := Lib.hid hnum
  clear hnum
  go_enter Try.func21, Try.ntmps21
  go_upto_region 5 with fail
  go_cut [4] (fun u wx => OwnB wx (w.heap.size + 1) u ([UInt8.ofNat k] ++ numB n) ∧ Below w.heap.size w wx ∧ wx.cell? ⟨w.heap.size, 2, none⟩ = some (.slice a l.length cap))
  case first =>
    go_region_held3 (fun w' => w'.cell? ⟨w.heap.size, 0, none⟩ = some (.int .i64 k) ∧ w'.cell? ⟨w.heap.size, 1, none⟩ = some (.int .i64 n) ∧ w'.cell? ⟨w.heap.size, 2, none⟩ = some (.slice a l.length cap))
      ((go_split_ands; refine ⟨?_, ?_, ?_⟩ <;> (first | (simp [go_sem]; done) | (repeat (with_reducible (first | assumption | refine keep_drew ?_ | refine keep_alloc ?_ | refine keep_lt hb2 (by omega) ?_ | refine keep_at hb ?_))))))
      (first | (go_at_call 40; refine (HNUM.out _).mono ?_; rintro e w1 ⟨v1, rfl, ho, hb⟩; have HO := Lib.hid ho; clear ho) | (refine step_app (by rfl) _ _ (by rfl) (w.heap.size + 1) _ [UInt8.ofNat k] (by rfl) (by exact oneA hb (u8_wrap k)) _ (numB n) (by rfl) (by exact HO.out.isB) (by simp; omega) (by have := hb.size; simp [go_sem] at this ⊢; omega) ?_; intro v2 w2 ho2 hb2 hz2) | (refine step_app (by rfl) _ _ (by rfl) (w.heap.size + 1) _ [UInt8.ofNat k] (by rfl) (by exact oneB hb (u8_wrap k)) _ (numB n) (by rfl) (by exact (HO.out.step (bel_new _ _)).isB) (by simp; omega) (by have := hb.size; simp [go_sem] at this ⊢; omega) ?_; intro v2 w2 ho2 hb2 hz2))
    all_goals
      go_wp2_with fail
      go_meet
      refine ⟨ho2, ?_, ?_⟩
    · exact ((bel_drew (bel_alloc (bel_new w _))).trans (hb.mono (by simp [go_sem] <;> omega))).trans (hb2.mono (by omega))
    · exact keep_lt hb2 (by omega) (keep_at hb (by simp [go_sem]))
    · exact ((bel_drew (bel_new w _)).trans (hb.mono (by simp [go_sem] <;> omega))).trans ((bel_alloc (Below.refl _ _)).mono (by have := hb.size; simp [go_sem] at this ⊢; omega) |>.trans (hb2.mono (by omega)))
    · exact keep_lt hb2 (by omega) (keep_alloc (keep_at hb (by simp [go_sem])))
  case rest =>
    obtain ⟨hu, hB, c2⟩ := hcut
    have hBs := World.block_lt_of_cell? _ _ c2
    replace hBs : w.heap.size < wc.heap.size := hBs
    have HU := Lib.hid hu
    have hn2' : (∀ W : World, Calls Try.prog 40 #[.int .i64 (l.length : Int)] W fun e w' => ∃ v, e = .returned v ∧ OwnB w' W.heap.size v (numB l.length) ∧ Below W.heap.size W w') := fun W => by
      refine (ruint_any (l.length : Int) W).mono ?_
      rintro e w' ⟨u, he, ho, hb⟩
      rw [HCL.out] at ho
      exact ⟨u, he, ho, hb⟩
    have HN2 := Lib.hid hn2'
    clear hu hn2'
    have hlt1 : w.heap.size + 1 ≤ wc.heap.size := by omega
    go_wp2_with (first | (go_at_call 40; refine (HN2.out _).mono ?_; rintro e w1 ⟨v1, rfl, ho, hb⟩; have HO := Lib.hid ho; have c2 := keep_at hb c2; clear ho) | (at_builtin; refine wpList_app rfl _ _ rfl (w.heap.size + 1) _ ([UInt8.ofNat k] ++ numB n) rfl (HU.out.step hb) _ (numB l.length) rfl HO.out.isB (by simp; omega) (by have := hb.size; omega) ?_; intro v2 w2 ho2 hb2 hz2 hn2; have c2 := keep_lt hb2 (by omega) c2; clear hn2) | (at_builtin; refine wpList_app rfl _ _ rfl (w.heap.size + 1) _ ([UInt8.ofNat k] ++ numB n ++ numB l.length) rfl ho2 _ l rfl (HV.out.step (bel4 hB (by omega) hb hb2)) (by simp; omega) (by have := hb.size; omega) ?_; intro v3 w3 ho3 hb3 hz3 hn3; clear hn3) | (go_at_call 19; fail))
    have hB3 : Below w.heap.size w w3 := (bel4 hB (by omega) hb hb2).trans (hb3.mono (by omega))
    have hs3 : w.heap.size < w3.heap.size := by have := hb.size; have := hb2.size; have := hb3.size; omega
    obtain ⟨H, hH⟩ : ∃ H, H = headP k n l := ⟨_, rfl⟩
    have hH0 : H ≠ [] := by rw [hH]; simp [headP]
    have hHl : H.length ≤ 140737488355000 := by rw [hH]; simp [headP]; omega
    change OwnB w3 (w.heap.size + 1) v3 (headP k n l) at ho3
    rw [← hH] at ho3
    have HH := Lib.hid hH
    clear hH
    obtain ⟨g, cp, rfl, hg1, hg2⟩ := ho3.shape hH0
    have hS := word_sumP H
    unfold Word at hS
    have HO3 := Lib.hid ho3
    clear ho2 ho3 HO
    go_wp2_with (first | (go_at_call 19; refine (rsum_any _ _ _ HO3.out.isB).mono ?_; rintro e w4 ⟨rfl, rfl⟩) | (at_builtin; refine wpList_app rfl (.tmp 48) (.tmp 60) rfl (w.heap.size + 1) _ H rfl (HO3.out.step (bel_new _ _)) _ (four (sumP H)) rfl (isB_four _ _ _ _ _ _ hS rfl rfl rfl rfl) (by simp [four]; omega) (by simp; omega) ?_; intro v4 w4 ho4 hb4 hz4 hn4))
    go_ret2
    refine ⟨v4, rfl, ?_, ?_⟩
    · have := ho4.mono (Nat.le_succ _)
      rw [HH.out] at this
      exact this
    · exact (bel_alloc hB3).trans (hb4.mono (by omega))
end Go.Proofs.Ytnieoaadhbcjiaa
