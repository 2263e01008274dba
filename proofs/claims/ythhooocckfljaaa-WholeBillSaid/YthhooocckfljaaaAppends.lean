/- The walks of AppendUint, AppendText and of the statements' fixed example. No condition beyond lengths that memory allows. -/
import Derived.Test.YthhooocckfljaaaCursor
namespace Go.Proofs.Ythhooocckfljaaa
open Go.RowKit
set_option linter.unusedVariables false
set_option linter.unusedSimpArgs false

theorem appendUint_any (v : Value) (l : List UInt8) (n : Int) (w : World) (h : IsB w v l) (hl : l.length ≤ 70368744177664) :
    Calls Try.prog 19 #[v, .int .i64 n] w fun e w' => ∃ u, e = .returned u ∧ OwnB w' w.heap.size u (l ++ numB (clampN n)) ∧ Below w.heap.size w w' := by
  have hn := numB_len (clampN n)
  have H := Lib.hid h
  clear h
  go_enter Try.func19, Try.ntmps19
  go_wp2_with fail
  refine (number_any _ _).mono ?_
  rintro e w1 ⟨v1, rfl, ho, _, hb⟩
  have HO := Lib.hid ho
  clear ho
  go_wp2_with fail
  refine (joined_any _ _ l (numB (clampN n)) _ (H.out.step hb) HO.out.isB (by omega)).mono ?_
  rintro e w2 ⟨v2, rfl, ho2, hb2⟩
  have HO2 := Lib.hid (ho2.mono hb.size)
  have hB := bel_step hb hb2
  clear ho2 hb2
  go_wp2_with fail
  go_ret
  exact ⟨v2, rfl, HO2.out, hB⟩

theorem appendText_any (v : Value) (l : List UInt8) (s : ByteArray) (w : World) (h : IsB w v l) (hl : l.length + s.size ≤ 70368744177664) :
    Calls Try.prog 18 #[v, .string s] w fun e w' => ∃ u, e = .returned u ∧ OwnB w' w.heap.size u (l ++ (numB s.size ++ s.data.toList)) ∧ Below w.heap.size w w' := by
  have hc : clampN (s.size : Int) = s.size := by unfold clampN; omega
  have hn := numB_len s.size
  have hsz : s.data.toList.length = s.size := by rw [Array.length_toList]; rfl
  have H := Lib.hid h
  have HC := Lib.hid hc
  have HSZ := Lib.hid hsz
  clear h hc hsz
  go_enter Try.func18, Try.ntmps18
  go_wp2_with fail
  refine (number_any _ _).mono ?_
  rintro e w1 ⟨v1, rfl, ho, _, hb⟩
  rw [HC.out] at ho
  have HO := Lib.hid ho
  clear ho
  go_wp2_with (at_builtin; refine wpList_app_string rfl _ _ rfl w.heap.size _ (numB s.size) rfl HO.out s rfl (by omega) hb.size ?_; intro v2 w2 ho2 hb2 hz2 hn2; have HO2 := Lib.hid ho2; have hB2 := hb.trans hb2; clear ho2 hn2 hb2)
  refine (joined_any _ _ l (numB s.size ++ s.data.toList) _ (H.out.step hB2) HO2.out.isB (by have := HSZ.out; simp only [List.length_append]; omega)).mono ?_
  rintro e w3 ⟨v3, rfl, ho3, hb3⟩
  have HO3 := Lib.hid (ho3.mono hB2.size)
  have hB := bel_step hB2 hb3
  clear ho3 hb3
  go_wp2_with fail
  go_ret
  exact ⟨v3, rfl, HO3.out, hB⟩

end Go.Proofs.Ythhooocckfljaaa
