/- The walk of the reference's Left. No condition. -/
import Derived.Test.YtgefcejolfikoabLeft
namespace Go.Proofs.Ytgefcejolfikoab
open Go.RowKit
set_option linter.unusedVariables false
set_option linter.unusedSimpArgs false

/-- The reference's At where the response is fresh, and where it is not: its third result, and its second one against the lifetime. -/
theorem fresh_parts (s r a n p l : Int) (h : freshB s r a n p l = true) : ordB s r n = true ∧ atHi s r a n p < l := by
  simpa [freshB] using h
theorem stale_parts (s r a n p l : Int) (h : freshB s r a n p l = false) : ordB s r n = false ∨ (ordB s r n = true ∧ l ≤ atHi s r a n p) := by
  cases ho : ordB s r n
  · exact .inl rfl
  · refine .inr ⟨rfl, ?_⟩
    simpa [freshB, ho] using h

set_option maxHeartbeats 2000000 in
theorem leftRef_any (s r a n p l : Int) (w : World) : Calls Try.prog 14 #[.agg #[.int .i64 s, .int .i64 r, .int .i64 a], .int .i64 n, .int .i64 p, .int .i64 l] w (LeftPost s r a n p l w) := by
  have hm := lim_bd n 1099511627776 (by omega)
  cases hF : freshB s r a (lim n 1099511627776) p l
  · rcases stale_parts _ _ _ _ _ _ hF with ho | ⟨ho, hl⟩
    · have HF := Lib.hid hF
      clear hF
      go_enter Try.func14, Try.ntmps14
      go_wp2_with (go_at_call 15; refine (time_any _ _).mono ?_; rintro e w' ⟨rfl, rfl⟩)
      refine (atRef_no _ _ _ _ _ _ ho).mono ?_
      rintro e w1 ⟨rfl, hb⟩
      have hB : Below w.heap.size w w1 := bel_step (bel_alloc (Below.refl _ _)) hb
      clear hb
      go_wp2_with fail
      go_ret
      exact ⟨0, rfl, Or.inl ⟨HF.out, rfl⟩, hB⟩
    · have HF := Lib.hid hF
      clear hF
      go_enter Try.func14, Try.ntmps14
      go_wp2_with (go_at_call 15; refine (time_any _ _).mono ?_; rintro e w' ⟨rfl, rfl⟩)
      refine (atRef_yes _ _ _ _ _ _ ho).mono ?_
      rintro e w1 ⟨rfl, hb⟩
      have hB : Below w.heap.size w w1 := bel_step (bel_alloc (Below.refl _ _)) hb
      clear hb
      go_wp2_with fail
      go_ret
      exact ⟨0, rfl, Or.inl ⟨HF.out, rfl⟩, hB⟩
  · obtain ⟨ho, hl⟩ := fresh_parts _ _ _ _ _ _ hF
    have HF := Lib.hid hF
    clear hF
    go_enter Try.func14, Try.ntmps14
    go_wp2_with (go_at_call 15; refine (time_any _ _).mono ?_; rintro e w' ⟨rfl, rfl⟩)
    refine (atRef_yes _ _ _ _ _ _ ho).mono ?_
    rintro e w1 ⟨rfl, hb⟩
    have hB : Below w.heap.size w w1 := bel_step (bel_alloc (Below.refl _ _)) hb
    have c0 := keep_at hb (b := w.heap.size) (o := 0) (v := .int .i64 s) (by simp [go_sem])
    have c1 := keep_at hb (b := w.heap.size) (o := 1) (v := .int .i64 r) (by simp [go_sem])
    have c2 := keep_at hb (b := w.heap.size) (o := 2) (v := .int .i64 a) (by simp [go_sem])
    clear hb
    generalize em : lim n 1099511627776 = m at *
    have EM := Lib.hid em
    clear em
    go_wp2_with fail
    go_loopw [12, 13] (fun i j wr => ∃ x y : Int, i = .int .i64 x ∧ j = .int .i64 y ∧ 0 ≤ x ∧ x < y ∧ y ≤ 1099511627776 - m + 2 ∧ (x = 0 ∨ freshB s r a (m + (x - 1)) p l = true) ∧ (y = 1099511627776 - m + 2 ∨ freshB s r a (m + (y - 1)) p l = false) ∧
        wr.cell? ⟨w.heap.size, 0, none⟩ = some (.int .i64 s) ∧ wr.cell? ⟨w.heap.size, 1, none⟩ = some (.int .i64 r) ∧ wr.cell? ⟨w.heap.size, 2, none⟩ = some (.int .i64 a) ∧ Below w.heap.size w wr) (fun i j _ => (intOf j - intOf i).toNat)
    case atStart => exact ⟨0, _, rfl, rfl, by omega, by omega, by omega, Or.inl rfl, Or.inl rfl, c0, c1, c2, hB⟩
    case round =>
      obtain ⟨x, y, rfl, rfl, hx, hxy, hy, hL, hR, d0, d1, d2, hB⟩ := hrel
      have HL := Lib.hid hL
      have HR := Lib.hid hR
      clear hL hR hl c0 c1 c2
      by_cases hlt : 1 < y - x
      · have e1 : m + ((x + y) / 2 - 1) = m + (x + y) / 2 - 1 := by omega
        have HE := Lib.hid e1
        clear e1
        cases hF : freshB s r a (m + (x + y) / 2 - 1) p l
        · rcases stale_parts _ _ _ _ _ _ hF with hq | ⟨hq, hl⟩
          · have HFF := Lib.hid hF
            clear hF
            go_wp2_with fail
            refine (atRef_no _ _ _ _ _ _ hq).mono ?_
            rintro e w2 ⟨rfl, hb⟩
            have d0 := keep_at hb d0
            have d1 := keep_at hb d1
            have d2 := keep_at hb d2
            have hB := bel_step hB hb
            clear hb
            go_wp2_with fail
            go_roundw
            case rel => exact ⟨x, (x + y) / 2, rfl, rfl, hx, by omega, by omega, HL.out, Or.inr (by rw [HE.out]; exact HFF.out), d0, d1, d2, hB⟩
            case measure => simp [intOf]; omega
          · have HFF := Lib.hid hF
            clear hF
            go_wp2_with fail
            refine (atRef_yes _ _ _ _ _ _ hq).mono ?_
            rintro e w2 ⟨rfl, hb⟩
            have d0 := keep_at hb d0
            have d1 := keep_at hb d1
            have d2 := keep_at hb d2
            have hB := bel_step hB hb
            clear hb
            go_wp2_with fail
            go_roundw
            case rel => exact ⟨x, (x + y) / 2, rfl, rfl, hx, by omega, by omega, HL.out, Or.inr (by rw [HE.out]; exact HFF.out), d0, d1, d2, hB⟩
            case measure => simp [intOf]; omega
        · obtain ⟨hq, hl⟩ := fresh_parts _ _ _ _ _ _ hF
          have HFF := Lib.hid hF
          clear hF
          go_wp2_with fail
          refine (atRef_yes _ _ _ _ _ _ hq).mono ?_
          rintro e w2 ⟨rfl, hb⟩
          have d0 := keep_at hb d0
          have d1 := keep_at hb d1
          have d2 := keep_at hb d2
          have hB := bel_step hB hb
          clear hb
          go_wp2_with fail
          go_roundw
          case rel => exact ⟨(x + y) / 2, y, rfl, rfl, by omega, by omega, by omega, Or.inr (by rw [HE.out]; exact HFF.out), HR.out, d0, d1, d2, hB⟩
          case measure => simp [intOf]; omega
      · go_wp2_with fail
        go_ret
        obtain rfl : y = x + 1 := by omega
        refine ⟨x, rfl, ?_, hB⟩
        unfold IsLeft
        rw [EM.out]
        refine Or.inr ⟨HF.out, hx, by omega, HL.out, ?_⟩
        rcases HR.out with h | h
        · exact .inl (by omega)
        · exact .inr (by rw [show m + x = m + (x + 1 - 1) from by omega]; exact h)
end Go.Proofs.Ytgefcejolfikoab
