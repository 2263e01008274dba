/- The walk of the law RecordEncodes: it returns true. No condition beyond the slice's reading. -/
import Derived.Test.YtnieoaadhbcjiaaRefe
import Derived.Test.YtnieoaadhbcjiaaNone
namespace Go.Proofs.Ytnieoaadhbcjiaa
open Go.RowKit
set_option linter.unusedVariables false
set_option linter.unusedSimpArgs false

set_option maxHeartbeats 2000000 in
theorem encodes_walk (k n : Int) (v : Value) (l : List UInt8) (w : World) (hv : IsB w v l) : Calls Try.prog 5 #[.int .i64 k, .int .i64 n, v] w fun e w' => e = .returned (.bool true) ∧ Below w.heap.size w w' := by
  have HV := Lib.hid hv
  obtain ⟨a, cap, rfl, _⟩ := hv.shape
  clear hv
  by_cases hl : 200000 < l.length
  · have hl' : (200000 : Int) < (l.length : Int) := by omega
    clear hl
    go_enter Try.func5, Try.ntmps5
    go_wp2_with fail
    refine (awake_any _).mono ?_
    rintro e w1 ⟨rfl, hb⟩
    go_wp2_with fail
    refine (awake_any _).mono ?_
    rintro e w2 ⟨rfl, hb2⟩
    go_wp2_with fail
    go_ret
    exact ⟨rfl, bel_step hb hb2⟩
  have hl' : (l.length : Int) ≤ 200000 := by omega
  clear hl
  by_cases hr : rangeBad k n = true
  · have HR := Lib.hid hr
    clear hr
    go_enter Try.func5, Try.ntmps5
    go_wp2_with fail
    refine (awake_any _).mono ?_
    rintro e w1 ⟨rfl, hb⟩
    go_wp2_with fail
    refine (enc_range k n _ _ HR.out).mono ?_
    rintro e w2 ⟨rfl, hb2⟩
    go_wp2_with fail
    refine (renc_range k n _ _ HR.out).mono ?_
    rintro e w3 ⟨rfl, hb3⟩
    have hB := bel_step (bel_step hb hb2) hb3
    go_wp2_with (first | (go_at_call 22; refine (num_err _ _).mono ?_; rintro e w' ⟨rfl, rfl⟩) | (go_at_call 17; refine (bytes_any _ _ [] [] _ (IsB.nil _) (IsB.nil _)).mono ?_; rintro e w' ⟨rfl, rfl⟩))
    go_ret
    exact ⟨rfl, hB⟩
  · have hr' : rangeBad k n = false := by simpa using hr
    by_cases hL : 131072 < l.length
    · have HR := Lib.hid hr'
      have HL := Lib.hid hL
      clear hr hr' hL
      go_enter Try.func5, Try.ntmps5
      go_wp2_with fail
      refine (awake_any _).mono ?_
      rintro e w1 ⟨rfl, hb⟩
      go_wp2_with fail
      refine (enc_large k n _ l _ HR.out (HV.out.step hb) HL.out).mono ?_
      rintro e w2 ⟨rfl, hb2⟩
      go_wp2_with fail
      refine (renc_large k n _ l _ HR.out (HV.out.step (bel_step hb hb2)) HL.out).mono ?_
      rintro e w3 ⟨rfl, hb3⟩
      have hB := bel_step (bel_step hb hb2) hb3
      go_wp2_with (first | (go_at_call 22; refine (num_err _ _).mono ?_; rintro e w' ⟨rfl, rfl⟩) | (go_at_call 17; refine (bytes_any _ _ [] [] _ (IsB.nil _) (IsB.nil _)).mono ?_; rintro e w' ⟨rfl, rfl⟩))
      go_ret
      exact ⟨rfl, hB⟩
    · have hkn : 1 ≤ k ∧ k ≤ 127 ∧ 0 ≤ n ∧ n ≤ 1099511627776 := by
        simp only [rangeBad, decide_eq_false_iff_not] at hr'
        omega
      obtain ⟨k, rfl⟩ : ∃ k' : Nat, k = (k' : Int) := ⟨k.toNat, by omega⟩
      obtain ⟨n, rfl⟩ : ∃ n' : Nat, n = (n' : Int) := ⟨n.toNat, by omega⟩
      have hk : 1 ≤ k ∧ k ≤ 127 := by omega
      have hn : (n : Int) ≤ 1099511627776 := hkn.2.2.2
      have hlen : l.length ≤ 131072 := by omega
      clear hr hr' hL hkn
      go_enter Try.func5, Try.ntmps5
      go_wp2_with fail
      refine (awake_any _).mono ?_
      rintro e w1 ⟨rfl, hb⟩
      go_wp2_with fail
      refine (enc_ok k n _ l _ hk hn (HV.out.step hb) hlen).mono ?_
      rintro e w2 ⟨u, rfl, ho, hb2⟩
      have hi := ho.isB
      obtain ⟨E, hE⟩ : ∃ E, E = encP k n l := ⟨_, rfl⟩
      rw [← hE] at hi
      have HE := Lib.hid hE
      clear hE
      obtain ⟨au, cu, rfl, _⟩ := hi.shape
      have HI := Lib.hid hi
      clear ho hi
      go_wp2_with fail
      refine (renc_ok k n _ l _ hk hn (HV.out.step (bel_step hb hb2)) hlen).mono ?_
      rintro e w3 ⟨u, rfl, ho, hb3⟩
      have hi := ho.isB
      rw [← HE.out] at hi
      obtain ⟨au', cu', rfl, _⟩ := hi.shape
      have HI2 := Lib.hid hi
      clear ho hi HE
      have ha := bytes_any _ _ E E w3 (HI.out.step hb3) HI2.out
      rw [beq_self_eq_true] at ha
      have HA := Lib.hid ha
      clear ha
      have hB := bel_step (bel_step hb hb2) hb3
      go_wp2_with (first | (go_at_call 22; refine (num_nil _).mono ?_; rintro e w' ⟨rfl, rfl⟩) | (go_at_call 17; refine HA.out.mono ?_; rintro e w' ⟨rfl, rfl⟩))
      go_ret
      exact ⟨rfl, hB⟩
end Go.Proofs.Ytnieoaadhbcjiaa
