/- The walk of the law RulelexSplits: it returns true. No condition. -/
import Derived.Test.YtobndhpfdaddaaaLists
import Derived.Test.YtobndhpfdaddaaaPlain2
import Derived.BigQuiet
namespace Go.Proofs.Ytobndhpfdaddaaa
open Go.RowKit
set_option linter.unusedVariables false
set_option linter.unusedSimpArgs false

set_option maxRecDepth 20000 in
set_option maxHeartbeats 4000000 in
theorem are_same (u v : Value) (es : List Tok) (w : World) (h : IsK w u es) (g : IsK w v es) (hl : es.length ≤ 1000000) :
    Calls Try.prog 13 #[u, v] w fun r w' => r = .returned (.bool true) ∧ Below w.heap.size w w' := by
  obtain ⟨a1, c1, rfl⟩ := h.shape
  obtain ⟨a2, c2, rfl⟩ := g.shape
  have H := Lib.hid h
  have G := Lib.hid g
  have hl9 : (es.length : Int) ≤ 1000000 := by omega
  clear h g hl
  go_enter Try.func13, Try.ntmps13
  go_wp2_with fail
  go_loopw [13] (fun i wr => ∃ k : Nat, i = .int .i64 k ∧ k ≤ es.length ∧ Below w.heap.size w wr) (fun i _ => es.length - (intOf i).toNat)
  case atStart => exact ⟨0, rfl, Nat.zero_le _, Below.refl _ _⟩
  case round =>
    obtain ⟨k, rfl, hk, hb⟩ := hrel
    have HB := Lib.hid hb
    clear hb
    by_cases hlt : k < es.length
    · obtain ⟨g1, p1, e, hv1, he, hat1⟩ := (H.out.step HB.out).elem hlt
      obtain ⟨g2, p2, f, hv2, hf, hat2⟩ := (G.out.step HB.out).elem hlt
      rw [he] at hf
      injection hf with hf
      subst hf
      simp only [Value.slice.injEq] at hv1 hv2
      obtain ⟨rfl, _, rfl⟩ := hv1
      obtain ⟨rfl, _, rfl⟩ := hv2
      obtain ⟨x0, x1, x2, x3⟩ := hat1
      obtain ⟨y0, y1, y2, y3⟩ := hat2
      have hq0 : (0 : Int) ≤ (k : Int) := by omega
      have hq1 : (k : Int) < (es.length : Int) := by omega
      clear he
      obtain ⟨e0, e1, e2, e3⟩ := e
      dsimp only at x0 x1 x2 x3 y0 y1 y2 y3
      go_wp2_with fail
      go_quiet (fail)
      go_wp2_with fail
      go_roundw
      case rel => exact ⟨k + 1, by go_num, by omega, bel_drewN HB.out⟩
      case measure => simp [intOf]; omega
    · obtain rfl : k = es.length := by omega
      go_wp2_with fail
      go_ret
      exact ⟨rfl, HB.out⟩

set_option maxRecDepth 20000 in
set_option maxHeartbeats 4000000 in
theorem splits_walk (s : ByteArray) (w : World) : Calls Try.prog 3 #[.string s] w fun e w' => e = .returned (.bool true) ∧ Below w.heap.size w w' := by
  by_cases h5 : s.size ≤ 5000
  · have h5i : ¬ 5000 < (s.size : Int) := by omega
    by_cases h4 : s.size ≤ 4096
    · have HS := Lib.hid (fun W => split_any s W h4)
      have HR := Lib.hid (fun W => rsplit_any s W h4)
      cases hsp : splitT s.data.toList with
      | none =>
        rw [hsp] at HS HR
        clear hsp h5 h4
        unfold SplitE at HS HR
        go_enter Try.func3, Try.ntmps3
        go_wp2_with (first | (go_at_call 9; refine (awake_any _).mono ?_; rintro e w1 ⟨rfl, hb1⟩; have HB1 := Lib.hid hb1; clear hb1) | (go_at_call 10; refine (HS.out _).mono ?_; rintro e w2 ⟨rfl, hb2⟩; have HB2 := Lib.hid hb2; clear hb2) | (go_at_call 11; refine (HR.out _).mono ?_; rintro e w3 ⟨rfl, hb3⟩; have HB3 := Lib.hid hb3; clear hb3) | (go_at_call 12; refine (num_err _ _).mono ?_; rintro e w4 ⟨rfl, rfl⟩) | (go_at_call 13; refine (are_same _ _ [] _ (IsK.nil _) (IsK.nil _) (by simp)).mono ?_; rintro e w5 ⟨rfl, hb5⟩))
        go_ret
        exact ⟨rfl, bel_step (bel_step (bel_step HB1.out HB2.out) HB3.out) hb5⟩
      | some ts =>
        rw [hsp] at HS HR
        unfold SplitE at HS HR
        have hts : ts.length ≤ 1000000 := by have := splitT_len hsp; rw [size_list] at this; omega
        have HTS := Lib.hid hts
        clear hsp h5 h4 hts
        go_enter Try.func3, Try.ntmps3
        go_wp2_with (first | (go_at_call 9; refine (awake_any _).mono ?_; rintro e w1 ⟨rfl, hb1⟩; have HB1 := Lib.hid hb1; clear hb1) | (go_at_call 10; refine (HS.out _).mono ?_; rintro e w2 ⟨⟨v2, rfl, ho2⟩, hb2⟩; have HB2 := Lib.hid hb2; have HO2 := Lib.hid ho2; clear hb2 ho2) | (go_at_call 11; refine (HR.out _).mono ?_; rintro e w3 ⟨⟨v3, rfl, ho3⟩, hb3⟩; have HB3 := Lib.hid hb3; have HO3 := Lib.hid ho3; clear hb3 ho3) | (go_at_call 12; refine (num_nil _).mono ?_; rintro e w4 ⟨rfl, rfl⟩) | (go_at_call 13; refine (are_same _ _ ts _ (HO2.out.isK.step HB3.out) HO3.out.isK HTS.out).mono ?_; rintro e w5 ⟨rfl, hb5⟩))
        go_ret
        exact ⟨rfl, bel_step (bel_step (bel_step HB1.out HB2.out) HB3.out) hb5⟩
    · have HS := Lib.hid (fun W => split_large s W h4)
      have HR := Lib.hid (fun W => rsplit_large s W h4)
      clear h5 h4
      go_enter Try.func3, Try.ntmps3
      go_wp2_with (first | (go_at_call 9; refine (awake_any _).mono ?_; rintro e w1 ⟨rfl, hb1⟩; have HB1 := Lib.hid hb1; clear hb1) | (go_at_call 10; refine (HS.out _).mono ?_; rintro e w2 ⟨rfl, hb2⟩; have HB2 := Lib.hid hb2; clear hb2) | (go_at_call 11; refine (HR.out _).mono ?_; rintro e w3 ⟨rfl, hb3⟩; have HB3 := Lib.hid hb3; clear hb3) | (go_at_call 12; refine (num_err _ _).mono ?_; rintro e w4 ⟨rfl, rfl⟩) | (go_at_call 13; refine (are_same _ _ [] _ (IsK.nil _) (IsK.nil _) (by simp)).mono ?_; rintro e w5 ⟨rfl, hb5⟩))
      go_ret
      exact ⟨rfl, bel_step (bel_step (bel_step HB1.out HB2.out) HB3.out) hb5⟩
  · have h5i : 5000 < (s.size : Int) := by omega
    go_enter Try.func3, Try.ntmps3
    go_wp2_with (go_at_call 9; refine (awake_any _).mono ?_; rintro e w1 ⟨rfl, hb1⟩; first | (have HB2 := Lib.hid (bel_step HB1.out hb1); clear hb1) | (have HB1 := Lib.hid hb1; clear hb1))
    go_ret
    exact ⟨rfl, HB2.out⟩
end Go.Proofs.Ytobndhpfdaddaaa
