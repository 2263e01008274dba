/- The walks of the reference's Uint, Text and Texts. No condition beyond lengths that memory allows. -/
import Derived.Test.YtnieoaadhbcjiaaRefs
namespace Go.Proofs.Ytnieoaadhbcjiaa
open Go.RowKit
set_option linter.unusedVariables false
set_option linter.unusedSimpArgs false

set_option maxRecDepth 20000 in
theorem ruint_any (n : Int) (w : World) : Calls Try.prog 40 #[.int .i64 n] w fun e w' => ∃ v, e = .returned v ∧ OwnB w' w.heap.size v (numB (clampN n)) ∧ Below w.heap.size w w' := by
  have hc : (4611686018427387904 < n ∧ clampN n = 4611686018427387904) ∨ (¬ 4611686018427387904 < n ∧ 0 < n ∧ (clampN n : Int) = n) ∨ (¬ 4611686018427387904 < n ∧ ¬ 0 < n ∧ clampN n = 0) := by unfold clampN; omega
  have hcm : clampN n < 128 ^ 10 := by unfold clampN; omega
  have HCM := Lib.hid hcm
  clear hcm
  rcases hc with ⟨h1, h2⟩ | ⟨h1, h3, h2⟩ | ⟨h1, h3, h2⟩
  all_goals
    have H2 := Lib.hid h2
    clear h2
    go_enter Try.func40, Try.ntmps40
    go_wp2
    go_loopw [0, 3] (fun i v wr => ∃ (m f : Nat) (l : List UInt8), i = .int .i64 m ∧ m ≤ topN ∧ 1 ≤ f ∧ f ≤ 10 ∧ m < 128 ^ f ∧ l.length + f = 10 ∧ l ++ numF f m = numB (clampN n) ∧ OwnB wr w.heap.size v l ∧ Below w.heap.size w wr) (fun i _ _ => (intOf i).toNat)
    case atStart => exact ⟨clampN n, 10, [], congrArg _ (by have := H2.out; omega), by unfold clampN topN; omega, by omega, by omega, HCM.out, rfl, rfl, OwnB.made w w.heap.size (Nat.le_refl _), bel_new _ _⟩
    clear H2 h1
    try clear h3
    case round =>
      obtain ⟨m, f, l, rfl, hmt, hf1, hf2, hmf, hl, hlist, hown, hB⟩ := hrel
      have HL := Lib.hid hlist
      have HM := Lib.hid hmf
      have HO := Lib.hid hown
      have HLL := Lib.hid hl
      have hlen : l.length ≤ 9 := by omega
      have hmt' : m ≤ 4611686018427387904 := hmt
      clear hlist hmf hown hl
      have hz : w.heap.size ≤ wr.heap.size := hB.size
      by_cases hlt : m < 128
      · go_wp2_with (at_builtin; refine wpList_app rfl (.tmp 19) (.tmp 22) rfl w.heap.size _ l rfl (HO.out.step (bel_new _ _)) _ [UInt8.ofNat m] rfl (IsB.one _ _ _ (by rw [UInt8.toNat_ofNat']; omega)) (by simp; omega) (by simp; omega) ?_; intro v' w1 hown' hb' hz' hne)
        go_ret
        have e : l ++ [UInt8.ofNat m] = numB (clampN n) := by
          rw [← HL.out]
          cases f with
          | zero => omega
          | succ f => rw [numF_small f m hlt]
        rw [e] at hown'
        exact ⟨v', rfl, hown', (hB.trans (bel_new wr _ |>.mono hz)).trans hb'⟩
      · go_wp2_with (at_builtin; refine wpList_app rfl (.tmp 10) (.tmp 15) rfl w.heap.size _ l rfl (HO.out.step (bel_new _ _)) _ [UInt8.ofNat (m % 128 + 128)] rfl (IsB.one _ _ _ (by rw [UInt8.toNat_ofNat']; omega)) (by simp; omega) (by simp; omega) ?_; intro v' w1 hown' hb' hz' hne)
        have hS := numF_step m f l _ hlt hf1 HM.out HLL.out HL.out
        go_roundw
        case rel => exact ⟨m / 128, f - 1, l ++ [UInt8.ofNat (m % 128 + 128)], by go_num, by omega, hS.1, by omega, hS.2.1, hS.2.2.1, hS.2.2.2, hown', (hB.trans ((bel_new wr _).mono hz)).trans hb'⟩
        case measure => simp [intOf]; omega

theorem rtext_any (s : ByteArray) (w : World) (hs : s.size ≤ 70368744177664) : Calls Try.prog 41 #[.string s] w fun e w' => ∃ v, e = .returned v ∧ OwnB w' w.heap.size v (numB s.size ++ s.data.toList) ∧ Below w.heap.size w w' := by
  have hc : clampN (s.size : Int) = s.size := by unfold clampN; omega
  have hn := numB_len s.size
  have HC := Lib.hid hc
  clear hc
  go_enter Try.func41, Try.ntmps41
  go_wp2_with fail
  refine (ruint_any _ _).mono ?_
  rintro e w1 ⟨v1, rfl, ho, hb⟩
  rw [HC.out] at ho
  have HO := Lib.hid ho
  clear ho
  go_wp2_with (at_builtin; refine wpList_app_string rfl _ _ rfl w.heap.size _ (numB s.size) rfl HO.out s rfl (by omega) hb.size ?_; intro v2 w2 ho2 hb2 hz2 hn2; have HO2 := Lib.hid ho2; have hB2 := hb.trans hb2; clear ho2 hn2 hb2)
  go_ret
  exact ⟨v2, rfl, HO2.out, hB2⟩
end Go.Proofs.Ytnieoaadhbcjiaa
