/- The walk of the law RulelexStrings: it returns true. No condition. -/
import Derived.Test.YtobndhpfdaddaaaRquote
namespace Go.Proofs.Ytobndhpfdaddaaa
open Go.RowKit
set_option linter.unusedVariables false
set_option linter.unusedSimpArgs false

theorem quo_back : ∀ (l rest : List UInt8) (i : Nat) (out : List UInt8), l.all okB = true → quoP (l.flatMap escB ++ 34 :: rest) i out = (i + (l.flatMap escB).length + 1, out ++ l)
  | [], rest, i, out, h => by
    rw [List.flatMap_nil, List.nil_append]
    unfold quoP
    rw [if_pos (by rfl)]
    simp
  | c :: l, rest, i, out, h => by
    rw [List.all_cons, Bool.and_eq_true] at h
    have hc : ¬ c.toNat < 32 ∧ ¬ 126 < c.toNat := by simpa [okB] using h.1
    rw [List.flatMap_cons]
    by_cases hq : c.toNat = 34 ∨ c.toNat = 92
    · rw [show escB c = [92, c] by rw [escB, if_pos hq]]
      simp only [List.cons_append, List.nil_append, List.append_assoc]
      unfold quoP
      rw [if_neg (by decide), if_pos (by rfl)]
      simp only []
      rw [if_pos hq, quo_back l rest (i + 2) (out ++ [c]) h.2]
      simp only [List.length_cons, List.append_assoc, List.cons_append, List.nil_append]
      congr 1
      omega
    · rw [show escB c = [c] by rw [escB, if_neg hq]]
      simp only [List.cons_append, List.nil_append]
      unfold quoP
      rw [if_neg (by omega), if_neg (by omega), if_neg (by omega), quo_back l rest (i + 1) (out ++ [c]) h.2]
      simp only [List.length_cons, List.append_assoc, List.cons_append, List.nil_append]
      congr 1
      omega
theorem tok_quo (l rest : List UInt8) (h : l.all okB = true) : tokP (quoL l ++ rest) = (3, (quoL l).length, l) := by
  unfold quoL
  rw [List.cons_append, List.cons_append, tokP_quo (by decide) (by decide) (by decide), List.append_assoc, List.cons_append, List.nil_append, quo_back l rest 1 [] h]
  simp
  omega
theorem split_quo (l : List UInt8) (h : l.all okB = true) : splitT (quoL l) = some [⟨3, l, 1, 1⟩, ⟨5, [], 1, 1 + ((quoL l).length : Nat)⟩] := by
  have ht := tok_quo l [] h
  rw [List.append_nil] at ht
  have hn : (tokP (quoL l)).2.1 ≠ 0 := by rw [ht]; simp [quoL]
  unfold splitT
  have h0 : quoL l = 34 :: (l.flatMap escB ++ [34]) := rfl
  rw [h0] at hn ⊢
  rw [split_tok ⟨by decide, by decide, by decide, by decide, by decide⟩ hn, ← h0, ht]
  simp only [List.drop_length, splitS, Option.map_some]
  rfl

set_option maxRecDepth 20000 in
set_option maxHeartbeats 4000000 in
theorem strings_walk (s : ByteArray) (w : World) : Calls Try.prog 8 #[.string s] w fun e w' => e = .returned (.bool true) ∧ Below w.heap.size w w' := by
  by_cases h5 : s.size ≤ 1000
  · have h5i : ¬ 1000 < (s.size : Int) := by omega
    have HQ := Lib.hid (fun W => quote_any s W (by omega))
    have HR := Lib.hid (fun W => rquote_any s W (by omega))
    cases hok : s.data.toList.all okB with
    | false =>
      unfold quoV at HQ
      unfold rquoV at HR
      rw [hok] at HQ HR
      simp only [Bool.false_eq_true, if_false] at HQ HR
      clear hok h5
      go_enter Try.func8, Try.ntmps8
      go_wp2_with (first | (go_at_call 9; refine (awake_any _).mono ?_; rintro e w1 ⟨rfl, hb1⟩; have HB1 := Lib.hid hb1; clear hb1) | (go_at_call 16; refine (HQ.out _).mono ?_; rintro e w2 ⟨rfl, hb2⟩; have HB2 := Lib.hid hb2; clear hb2) | (go_at_call 17; refine (HR.out _).mono ?_; rintro e w3 ⟨rfl, hb3⟩; have HB3 := Lib.hid hb3; clear hb3) | (go_at_call 14; refine (is_yes _ (by decide) _).mono ?_; rintro e w4 ⟨rfl, rfl⟩))
      go_ret
      exact ⟨rfl, bel_step (bel_step HB1.out HB2.out) HB3.out⟩
    | true =>
      unfold quoV at HQ
      unfold rquoV at HR
      rw [hok] at HQ HR
      simp only [if_true] at HQ HR
      have hlen : (ByteArray.mk (quoL s.data.toList).toArray).size ≤ 4096 := by
        rw [mk_size]
        have := esc_len s.data.toList
        rw [size_list] at this
        simp only [quoL, List.length_append, List.length_cons, List.length_nil]
        omega
      have HS := Lib.hid (show ∀ W, Calls Try.prog 10 #[.string ⟨(quoL s.data.toList).toArray⟩] W fun e w' => (∃ g c, e = .returned (.tuple #[.slice (some ⟨g, 0, none⟩) 2 c, .nilIface]) ∧ TokAt w' g 0 ⟨3, s.data.toList, 1, 1⟩ ∧ TokAt w' g 4 ⟨5, [], 1, 1 + ((quoL s.data.toList).length : Nat)⟩) ∧ Below W.heap.size W w' by
        intro W
        refine (split_any _ W hlen).mono ?_
        rintro e w' ⟨h, hb⟩
        rw [show (ByteArray.mk (quoL s.data.toList).toArray).data.toList = quoL s.data.toList by simp, split_quo _ hok] at h
        obtain ⟨v, rfl, ho⟩ := h
        rcases ho.isK with ⟨h, _⟩ | ⟨_, g, c, rfl, hc⟩
        · cases h
        · exact ⟨⟨g, c, rfl, hc 0 _ rfl, hc 1 _ rfl⟩, hb⟩)
      have htx := text_mk s
      generalize s.data.toList = l at htx HQ HR HS
      generalize quoL l = q at HQ HR HS
      clear hok h5 hlen
      go_enter Try.func8, Try.ntmps8
      go_wp2_with (first | (go_at_call 9; refine (awake_any _).mono ?_; rintro e w1 ⟨rfl, hb1⟩; have HB1 := Lib.hid hb1; clear hb1) | (go_at_call 16; refine (HQ.out _).mono ?_; rintro e w2 ⟨rfl, hb2⟩; have HB2 := Lib.hid hb2; clear hb2) | (go_at_call 17; refine (HR.out _).mono ?_; rintro e w3 ⟨rfl, hb3⟩; have HB3 := Lib.hid hb3; clear hb3) | (go_at_call 10; refine (HS.out _).mono ?_; rintro e w4 ⟨⟨g, c, rfl, ⟨a0, a1, a2, a3⟩, ⟨b0, b1, b2, b3⟩⟩, hb4⟩; have HB4 := Lib.hid hb4; clear hb4; rw [htx] at a1))
      go_ret
      exact ⟨rfl, bel_step (bel_step (bel_step HB1.out HB2.out) HB3.out) HB4.out⟩
  · have h5i : 1000 < (s.size : Int) := by omega
    go_enter Try.func8, Try.ntmps8
    go_wp2_with (go_at_call 9; refine (awake_any _).mono ?_; rintro e w1 ⟨rfl, hb1⟩; first | (have HB2 := Lib.hid (bel_step HB1.out hb1); clear hb1) | (have HB1 := Lib.hid hb1; clear hb1))
    go_ret
    exact ⟨rfl, HB2.out⟩
end Go.Proofs.Ytobndhpfdaddaaa
