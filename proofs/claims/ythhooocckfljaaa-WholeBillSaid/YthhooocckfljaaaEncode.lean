/- The walk of record.Encode. No condition beyond lengths that memory allows. -/
import Derived.Test.YthhooocckfljaaaStep
namespace Go.Proofs.Ythhooocckfljaaa
open Go.RowKit
set_option linter.unusedVariables false
set_option linter.unusedSimpArgs false

def rangeBad (k n : Int) : Bool := decide (k < 1 ∨ 127 < k ∨ n < 0 ∨ 1099511627776 < n)
def headP (k n : Nat) (l : List UInt8) : List UInt8 := [UInt8.ofNat k] ++ numB n ++ numB l.length ++ l
def four (s : Nat) : List UInt8 := [UInt8.ofNat (s / 16777216), UInt8.ofNat (s / 65536), UInt8.ofNat (s / 256), UInt8.ofNat s]
def encP (k n : Nat) (l : List UInt8) : List UInt8 := headP k n l ++ four (sumP (headP k n l))

theorem enc_range (k n : Int) (v : Value) (w : World) (h : rangeBad k n = true) : Calls Try.prog 20 #[.agg #[.int .i64 k, .int .i64 n, v]] w fun e w' => e = .returned (.tuple #[.slice none 0 0, .iface 94 (.int .i64 1)]) ∧ Below w.heap.size w w' := by
  have h' : k < 1 ∨ (¬ k < 1 ∧ 127 < k) ∨ (¬ k < 1 ∧ ¬ 127 < k ∧ n < 0) ∨ (¬ k < 1 ∧ ¬ 127 < k ∧ ¬ n < 0 ∧ 1099511627776 < n) := by
    simp only [rangeBad, decide_eq_true_eq] at h
    omega
  clear h
  rcases h' with h | ⟨h1, h⟩ | ⟨h1, h2, h⟩ | ⟨h1, h2, h3, h⟩
  all_goals
    go_enter Try.func20, Try.ntmps20
    go_wp2
    go_ret2
    exact ⟨rfl, bel_new _ _⟩
theorem enc_large (k n : Int) (v : Value) (l : List UInt8) (w : World) (h : rangeBad k n = false) (hv : IsB w v l) (hl : 131072 < l.length) : Calls Try.prog 20 #[.agg #[.int .i64 k, .int .i64 n, v]] w fun e w' => e = .returned (.tuple #[.slice none 0 0, .iface 94 (.int .i64 5)]) ∧ Below w.heap.size w w' := by
  have h' : 1 ≤ k ∧ k ≤ 127 ∧ 0 ≤ n ∧ n ≤ 1099511627776 := by
    simp only [rangeBad, decide_eq_false_iff_not] at h
    omega
  obtain ⟨a, cap, rfl, _⟩ := hv.shape
  have hl' : (131072 : Int) < (l.length : Int) := by omega
  clear h hv hl
  obtain ⟨h1, h2, h3, h4⟩ := h'
  go_enter Try.func20, Try.ntmps20
  go_wp2
  go_ret2
  exact ⟨rfl, bel_new _ _⟩

theorem u8_wrap (k : Nat) : IntKind.u8.wrap (k : Int) = ((UInt8.ofNat k).toNat : Int) := by
  rw [UInt8.toNat_ofNat', IntKind.wrap_u8]
  omega
theorem OwnB.drew {w : World} {base : Nat} {v : Value} {l : List UInt8} (h : OwnB w base v l) : OwnB w.drew base v l := h
theorem oneA {w w1 : World} {o : Obj} {x : Int} {c : UInt8} (hb : Below ((w.alloc o).alloc (.cells #[.int .u8 x] 5)).drew.heap.size ((w.alloc o).alloc (.cells #[.int .u8 x] 5)).drew w1) (h : x = (c.toNat : Int)) :
    OwnB w1 (w.heap.size + 1) (.slice (some ⟨w.heap.size + 1, 0, none⟩) 1 1) [c] := by
  have := (OwnB.one (w.alloc o) (w.heap.size + 1) x c h (by simp)).drew.step hb
  simpa using this
theorem oneB {w w1 : World} {o : Obj} {x : Int} {c : UInt8} (hb : Below (w.alloc o).drew.heap.size (w.alloc o).drew w1) (h : x = (c.toNat : Int)) :
    OwnB (w1.alloc (.cells #[.int .u8 x] 5)) (w.heap.size + 1) (.slice (some ⟨w1.heap.size, 0, none⟩) 1 1) [c] := by
  refine OwnB.one w1 (w.heap.size + 1) x c h ?_
  have := hb.size
  simpa [go_sem] using this
theorem bel3 {w wc w1 w2 : World} (hB : Below w.heap.size w wc) (h : w.heap.size < wc.heap.size) (hb : Below wc.drew.heap.size wc.drew w1) (hb2 : Below (w.heap.size + 1) w1 w2) : Below w.heap.size w w2 :=
  ((bel_drew hB).trans (hb.mono (by simp [go_sem]; omega))).trans (hb2.mono (by omega))
theorem sum_own (w : World) (base : Nat) (v : Value) (l : List UInt8) (h : OwnB w base v l) (hl : l ≠ []) : Calls Try.prog 36 #[v] w fun e w' => e = .returned (.int .u32 (sumP l)) ∧ w = w' := by
  have hm := h.isB.len
  rcases h.isB with ⟨h0, _⟩ | ⟨_, b, off, cap, rfl, h1, h2, h3⟩
  · exact absurd h0 hl
  · exact sum_some b off cap l w (by unfold maxLen at hm; omega) h3
theorem word_sumP (l : List UInt8) : Word (sumP l) := word_full.xor (Word.sum word_full l)
theorem IsB.four (w : World) (x1 x2 x3 x4 : Int) (c1 c2 c3 c4 : UInt8) (h1 : x1 = (c1.toNat : Int)) (h2 : x2 = (c2.toNat : Int)) (h3 : x3 = (c3.toNat : Int)) (h4 : x4 = (c4.toNat : Int)) :
    IsB (w.alloc (.cells #[.int .u8 x1, .int .u8 x2, .int .u8 x3, .int .u8 x4] 5)) (.slice (some ⟨w.heap.size, 0, none⟩) 4 4) [c1, c2, c3, c4] := by
  subst h1 h2 h3 h4
  refine .inr ⟨by simp, w.heap.size, 0, 4, rfl, by simp, by unfold maxLen; omega, fun i d hi => ?_⟩
  match i, hi with
  | 0, hi => simp at hi; subst hi; simp [go_sem]
  | 1, hi => simp at hi; subst hi; simp [go_sem]
  | 2, hi => simp at hi; subst hi; simp [go_sem]
  | 3, hi => simp at hi; subst hi; simp [go_sem]
theorem isB_four (w : World) (x1 x2 x3 x4 : Int) (s : Nat) (h : s < 4294967296) (h1 : x1 = (s : Int) / 16777216) (h2 : x2 = (s : Int) / 65536 % 256) (h3 : x3 = (s : Int) / 256 % 256) (h4 : x4 = (s : Int) % 256) :
    IsB (w.alloc (.cells #[.int .u8 x1, .int .u8 x2, .int .u8 x3, .int .u8 x4] 5)) (.slice (some ⟨w.heap.size, 0, none⟩) 4 4) (four s) :=
  IsB.four w x1 x2 x3 x4 _ _ _ _ (by rw [UInt8.toNat_ofNat']; omega) (by rw [UInt8.toNat_ofNat']; omega) (by rw [UInt8.toNat_ofNat']; omega) (by rw [UInt8.toNat_ofNat']; omega)
theorem keep_lt {W w' : World} {B b o : Nat} {v : Value} (h : Below B W w') (hb : b < B) (hc : W.cell? ⟨b, o, none⟩ = some v) : w'.cell? ⟨b, o, none⟩ = some v :=
  (h.cell (p := ⟨b, o, none⟩) hb).trans hc

set_option maxRecDepth 20000 in
set_option maxHeartbeats 2000000 in
theorem enc_ok (k n : Nat) (v : Value) (l : List UInt8) (w : World) (hk : 1 ≤ k ∧ k ≤ 127) (hn : (n : Int) ≤ 1099511627776) (hv : IsB w v l) (hl : l.length ≤ 131072) :
    Calls Try.prog 20 #[.agg #[.int .i64 k, .int .i64 n, v]] w fun e w' => ∃ u, e = .returned (.tuple #[u, .nilIface]) ∧ OwnB w' w.heap.size u (encP k n l) ∧ Below w.heap.size w w' := by
  have hcn : clampN (n : Int) = n := by unfold clampN; omega
  have hcl : clampN (l.length : Int) = l.length := by unfold clampN; omega
  have hn1 := numB_len n
  have hn2 := numB_len l.length
  have HV := Lib.hid hv
  have HCN := Lib.hid hcn
  have HCL := Lib.hid hcl
  obtain ⟨a, cap, rfl, _⟩ := hv.shape
  have hl' : (l.length : Int) ≤ 131072 := by omega
  clear hv hcn hcl
  have hnum : ∀ W : World, Calls Try.prog 35 #[.int .i64 n] W fun e w' => ∃ v, e = .returned v ∧ OwnB w' W.heap.size v (numB n) ∧ Below W.heap.size W w' := fun W => by
    refine (number_any (n : Int) W).mono ?_
    rintro e w' ⟨u, he, ho, _, hb⟩
    rw [HCN.out] at ho
    exact ⟨u, he, ho, hb⟩
  have HNUM := Lib.hid hnum
  clear hnum
  go_enter Try.func20, Try.ntmps20
  go_upto_region 5 with fail
  go_cut [4] (fun u wx => OwnB wx (w.heap.size + 1) u ([UInt8.ofNat k] ++ numB n) ∧ Below w.heap.size w wx ∧ wx.cell? ⟨w.heap.size, 2, none⟩ = some (.slice a l.length cap))
  case first =>
    go_region_held3 (fun w' => w'.cell? ⟨w.heap.size, 0, none⟩ = some (.int .i64 k) ∧ w'.cell? ⟨w.heap.size, 1, none⟩ = some (.int .i64 n) ∧ w'.cell? ⟨w.heap.size, 2, none⟩ = some (.slice a l.length cap))
      ((go_split_ands; refine ⟨?_, ?_, ?_⟩ <;> (first | (simp [go_sem]; done) | (repeat (with_reducible (first | assumption | refine keep_drew ?_ | refine keep_alloc ?_ | refine keep_lt hb2 (by omega) ?_ | refine keep_at hb ?_))))))
      (first | (go_at_call 35; refine (HNUM.out _).mono ?_; rintro e w1 ⟨v1, rfl, ho, hb⟩; have HO := Lib.hid ho; clear ho) | (refine step_app (by rfl) _ _ (by rfl) (w.heap.size + 1) _ [UInt8.ofNat k] (by rfl) (by exact oneA hb (u8_wrap k)) _ (numB n) (by rfl) (by exact HO.out.isB) (by simp; omega) (by have := hb.size; simp [go_sem] at this ⊢; omega) ?_; intro v2 w2 ho2 hb2 hz2) | (refine step_app (by rfl) _ _ (by rfl) (w.heap.size + 1) _ [UInt8.ofNat k] (by rfl) (by exact oneB hb (u8_wrap k)) _ (numB n) (by rfl) (by exact (HO.out.step (bel_new _ _)).isB) (by simp; omega) (by have := hb.size; simp [go_sem] at this ⊢; omega) ?_; intro v2 w2 ho2 hb2 hz2))
    all_goals
      go_wp2_with fail
      go_meet
      refine ⟨ho2, ?_, ?_⟩
    · exact ((bel_drew (bel_alloc (bel_new w _))).trans (hb.mono (by simp [go_sem] <;> omega))).trans (hb2.mono (by omega))
    · exact keep_lt hb2 (by omega) (keep_at hb (by simp [go_sem]))
    · exact ((bel_drew (bel_new w _)).trans (hb.mono (by simp [go_sem] <;> omega))).trans ((bel_alloc (Below.refl _ _)).mono (by have := hb.size; simp [go_sem] at this ⊢; omega) |>.trans (hb2.mono (by omega)))
    · exact keep_lt hb2 (by omega) (keep_alloc (keep_at hb (by simp [go_sem])))
  case rest =>
    obtain ⟨hu, hB, c2⟩ := hcut
    have hBs := World.block_lt_of_cell? _ _ c2
    replace hBs : w.heap.size < wc.heap.size := hBs
    have HU := Lib.hid hu
    have hn2' : (∀ W : World, Calls Try.prog 35 #[.int .i64 (l.length : Int)] W fun e w' => ∃ v, e = .returned v ∧ OwnB w' W.heap.size v (numB l.length) ∧ Below W.heap.size W w') := fun W => by
      refine (number_any (l.length : Int) W).mono ?_
      rintro e w' ⟨u, he, ho, _, hb⟩
      rw [HCL.out] at ho
      exact ⟨u, he, ho, hb⟩
    have HN2 := Lib.hid hn2'
    clear hu hn2'
    go_upto_region 6 with fail
    go_region_held3 (fun w' => w'.cell? ⟨w.heap.size, 2, none⟩ = some (.slice a l.length cap))
      ((first | (simp [go_sem]; done) | (repeat (with_reducible (first | assumption | refine keep_drew ?_ | refine keep_alloc ?_ | refine keep_lt hb2 (by omega) ?_ | refine keep_lt hb3 (by omega) ?_ | refine keep_at hb ?_)))))
      (first | (go_at_call 35; refine (HN2.out _).mono ?_; rintro e w1 ⟨v1, rfl, ho, hb⟩; have HO := Lib.hid ho; clear ho) | (refine step_app (by rfl) _ _ (by rfl) (w.heap.size + 1) _ ([UInt8.ofNat k] ++ numB n) (by rfl) (by exact OwnB.step (OwnB.drew HU.out) hb) _ (numB l.length) (by rfl) (by exact HO.out.isB) (by simp; omega) (by have := hb.size; simp [go_sem] at this ⊢; omega) ?_; intro v2 w2 ho2 hb2 hz2) | (refine step_app (by rfl) _ _ (by rfl) (w.heap.size + 1) _ ([UInt8.ofNat k] ++ numB n ++ numB l.length) (by rfl) (by exact ho2) _ l (by rfl) (by exact HV.out.step (bel3 hB (by omega) hb hb2)) (by simp; omega) (by have := hb.size; simp [go_sem] at this ⊢; omega) ?_; intro v3 w3 ho3 hb3 hz3))
    have hB3 : Below w.heap.size w w3 := (bel3 hB (by omega) hb hb2).trans (hb3.mono (by omega))
    have hs3 : w.heap.size < w3.heap.size := by have := hb.size; have := hb2.size; have := hb3.size; simp [go_sem] at *; omega
    obtain ⟨H, hH⟩ : ∃ H, H = headP k n l := ⟨_, rfl⟩
    have hH0 : H ≠ [] := by rw [hH]; simp [headP]
    have hHl : H.length ≤ 140737488355000 := by rw [hH]; simp [headP]; omega
    change OwnB w3 (w.heap.size + 1) v3 (headP k n l) at ho3
    rw [← hH] at ho3
    have HH := Lib.hid hH
    clear hH
    obtain ⟨g, cp, rfl, hg1, hg2⟩ := ho3.shape hH0
    have hS := word_sumP H
    unfold Word at hS
    have HO3 := Lib.hid ho3
    clear ho2 ho3 HO
    go_wp2_with (first | (go_at_call 36; refine (sum_own _ _ _ _ HO3.out hH0).mono ?_; rintro e w4 ⟨rfl, rfl⟩) | (at_builtin; refine wpList_app rfl (.tmp 49) (.tmp 61) rfl (w.heap.size + 1) _ H rfl (HO3.out.step (bel_new _ _)) _ (four (sumP H)) rfl (isB_four _ _ _ _ _ _ hS rfl rfl rfl rfl) (by simp [four]; omega) (by simp; omega) ?_; intro v4 w4 ho4 hb4 hz4 hn4))
    go_ret2
    refine ⟨v4, rfl, ?_, ?_⟩
    · have := ho4.mono (Nat.le_succ _)
      rw [HH.out] at this
      exact this
    · exact (bel_alloc hB3).trans (hb4.mono (by omega))
end Go.Proofs.Ythhooocckfljaaa
