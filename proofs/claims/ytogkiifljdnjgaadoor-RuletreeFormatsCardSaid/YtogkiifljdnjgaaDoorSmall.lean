/- digits, printable, named: no condition beyond a text's length. -/
import Derived.Test.YtogkiifljdnjgaaDoorQuote
import Derived.Test.YtogkiifljdnjgaaDoorParse
import Derived.Lib.QuietBelow
namespace Go.Proofs.YtogkiifljdnjgaaDoor
open Go.RowKit
set_option linter.unusedVariables false
set_option linter.unusedSimpArgs false

def digitsP (l : List UInt8) : Bool := l.all digB && decide (1 ≤ l.length ∧ l.length ≤ 9)
theorem all_badD (s : ByteArray) (k : Nat) (h : k < s.size) (hb : digB s[k] = false) : s.data.toList.all digB = false := by
  rw [Bool.eq_false_iff]
  intro ha
  rw [List.all_eq_true] at ha
  have := ha s[k] (by have : s[k] = s.data[k]'h := rfl; rw [this]; simp)
  rw [hb] at this
  cases this
set_option maxRecDepth 20000 in
theorem digits_any (s : ByteArray) (w : World) (hs : s.size ≤ 100000) :
    Calls Tryd.prog 82 #[.string s] w fun e w' => e = .returned (.bool (digitsP s.data.toList)) ∧ w = w' := by
  have hsi : (s.size : Int) ≤ 100000 := by omega
  obtain ⟨R, hR⟩ : ∃ R, digitsP s.data.toList = R := ⟨_, rfl⟩
  rw [hR]
  have HR := Lib.hid hR
  clear hR
  go_enter Tryd.func82, Tryd.ntmps82
  go_wp2_with fail
  go_loop [6] (fun i => ∃ k : Nat, i = .int .i64 k ∧ k ≤ s.size ∧ (s.data.toList.take k).all digB = true) (fun i => s.size - (intOf i).toNat)
  case atStart => exact ⟨0, rfl, by omega, rfl⟩
  case round =>
    obtain ⟨k, rfl, hk, hall⟩ := hrel
    have HA := Lib.hid hall
    clear hall
    by_cases hlt : k < s.size
    · have hcb := s[k].toNat_lt
      have hk0 : (0 : Int) ≤ (k : Int) := by omega
      have hki : (k : Int) < (s.size : Int) := by omega
      cases hok : digB s[k] with
      | false =>
        have HQ := Lib.hid (all_badD s k hlt hok)
        have hbi : (s[k].toNat : Int) < 48 ∨ (¬ (s[k].toNat : Int) < 48 ∧ 57 < (s[k].toNat : Int)) := by
          simp only [digB, digN, decide_eq_false_iff_not] at hok
          omega
        clear hok hcb
        rcases hbi with g1 | ⟨g1, g2⟩
        all_goals
          go_wp2_with fail
          go_ret
          exact ⟨by rw [← HR.out, digitsP, HQ.out]; rfl, rfl⟩
      | true =>
        have HA2 := Lib.hid (show (s.data.toList.take (k + 1)).all digB = true by rw [take_one s k hlt, List.all_append, HA.out]; simp [hok])
        have g1 : ¬ (s[k].toNat : Int) < 48 := by simp only [digB, digN, decide_eq_true_iff] at hok; omega
        have g2 : ¬ 57 < (s[k].toNat : Int) := by simp only [digB, digN, decide_eq_true_iff] at hok; omega
        clear hok hcb
        go_wp2_with fail
        go_round
        case rel => exact ⟨k + 1, by go_num, by omega, HA2.out⟩
        case measure => simp [intOf]; omega
    · obtain rfl : k = s.size := by omega
      rw [List.take_of_length_le (by rw [size_list]; omega)] at HA
      have hz : s.data.toList.length = s.size := size_list s
      have HZ := Lib.hid hz
      clear hz
      by_cases h1 : 1 ≤ s.size
      · have h1i : (1 : Int) ≤ (s.size : Int) := by omega
        by_cases h9 : s.size ≤ 9
        · have h9i : (s.size : Int) ≤ 9 := by omega
          go_wp2_with fail
          go_ret
          exact ⟨by rw [← HR.out, digitsP, HA.out, HZ.out]; simp [h1, h9], rfl⟩
        · have h9i : ¬ (s.size : Int) ≤ 9 := by omega
          go_wp2_with fail
          go_ret
          exact ⟨by rw [← HR.out, digitsP, HA.out, HZ.out]; simp [h1, h9], rfl⟩
      · have h1i : ¬ (1 : Int) ≤ (s.size : Int) := by omega
        go_wp2_with fail
        go_ret
        exact ⟨by rw [← HR.out, digitsP, HA.out, HZ.out]; simp [h1], rfl⟩
set_option maxRecDepth 20000 in
theorem printable_any (s : ByteArray) (w : World) (hs : s.size ≤ 100000) :
    Calls Tryd.prog 44 #[.string s] w fun e w' => e = .returned (.bool (s.data.toList.all okB)) ∧ Below w.heap.size w w' := by
  have HC := Lib.hid (quote_any s w hs)
  cases hok : s.data.toList.all okB with
  | false =>
    have HV := Lib.hid (show quoV s.data.toList = .tuple #[.string ⟨#[]⟩, .iface 52 (.int .i64 2)] by rw [quoV, hok]; rfl)
    clear hok
    go_enter Tryd.func44, Tryd.ntmps44
    go_wp2_with (first | (go_at_call 62; refine HC.out.mono ?_; rintro e w1 ⟨he, hb1⟩; rw [HV.out] at he; subst he; have HB1 := Lib.hid hb1; clear hb1))
    go_ret
    exact ⟨rfl, HB1.out⟩
  | true =>
    obtain ⟨q, hq⟩ : ∃ q, (⟨(quoL s.data.toList).toArray⟩ : ByteArray) = q := ⟨_, rfl⟩
    have HV := Lib.hid (show quoV s.data.toList = .tuple #[.string q, .nilIface] by rw [quoV, hok, ← hq]; rfl)
    clear hok hq
    go_enter Tryd.func44, Tryd.ntmps44
    go_wp2_with (first | (go_at_call 62; refine HC.out.mono ?_; rintro e w1 ⟨he, hb1⟩; rw [HV.out] at he; subst he; have HB1 := Lib.hid hb1; clear hb1))
    go_ret
    exact ⟨rfl, HB1.out⟩
/-- What named says of a text. -/
def namedP (l : List UInt8) : Bool := decide (l.length ≤ 4096) && match splitT l with
  | some [a, _] => a.kind == 1 && (a.text == l && !decide (l ∈ kws))
  | _ => false
theorem namedP_large {l : List UInt8} (h : ¬ l.length ≤ 4096) : namedP l = false := by unfold namedP; simp [h]
theorem namedP_none {l : List UInt8} (h : splitT l = none) : namedP l = false := by unfold namedP; rw [h]; simp
theorem namedP_two {l : List UInt8} {a b : Tok} (hl : l.length ≤ 4096) (h : splitT l = some [a, b]) : namedP l = (a.kind == 1 && (a.text == l && !decide (l ∈ kws))) := by unfold namedP; rw [h]; simp [hl]
theorem namedP_other {l : List UInt8} {es : List Tok} (h : splitT l = some es) (hn : es.length ≠ 2) : namedP l = false := by
  unfold namedP
  rw [h]
  rcases es with _ | ⟨a, _ | ⟨b, _ | ⟨c, r⟩⟩⟩
  · simp
  · simp
  · simp at hn
  · simp
theorem OwnK.slice {w : World} {base : Nat} {v : Value} {es : List Tok} (h : OwnK 70 w base v es) : ∃ a c, v = .slice a es.length c := by
  rcases OwnK.isK h with ⟨rfl, a, c, hv⟩ | ⟨_, g, c, hv, _⟩
  · exact ⟨a, c, hv⟩
  · exact ⟨_, c, hv⟩
theorem OwnK.two {w : World} {base : Nat} {v : Value} {a b : Tok} (h : OwnK 70 w base v [a, b]) : ∃ g c, v = .slice (some ⟨g, 0, none⟩) 2 c ∧ w.cell? ⟨g, 0, none⟩ = some (.int .i64 a.kind) ∧ w.cell? ⟨g, 1, none⟩ = some (.string ⟨a.text.toArray⟩) := by
  rcases OwnK.isK h with ⟨h0, _⟩ | ⟨_, g, c, hv, hc⟩
  · cases h0
  · have h0 := hc 0 a rfl
    exact ⟨g, c, hv, by simpa using h0.1, by simpa using h0.2.1⟩
set_option maxRecDepth 20000 in
theorem named_any (s : ByteArray) (w : World) (hw : KW w) :
    Calls Tryd.prog 45 #[.string s] w fun e w' => e = .returned (.bool (namedP s.data.toList)) ∧ Below w.heap.size w w' := by
  have hsz : s.size = s.data.toList.length := by rw [Array.length_toList]; rfl
  have HW := Lib.hid hw
  clear hw
  obtain ⟨R, hR⟩ : ∃ R, namedP s.data.toList = R := ⟨_, rfl⟩
  rw [hR]
  have HR := Lib.hid hR
  clear hR
  by_cases hl : s.size ≤ 4096
  rotate_left
  · have HQ := Lib.hid (show false = R by rw [← HR.out, namedP_large (by omega)])
    have HS := Lib.hid (split_large s w hl)
    clear hl hsz
    go_enter Tryd.func45, Tryd.ntmps45
    go_wp2_with (go_at_call 32; refine HS.out.mono ?_; rintro e w1 ⟨rfl, hb1⟩; have HB1 := Lib.hid hb1; clear hb1)
    go_ret
    exact ⟨by rw [← HQ.out]; rfl, HB1.out⟩
  cases hn : splitT s.data.toList with
  | none =>
    have HQ := Lib.hid (show false = R by rw [← HR.out, namedP_none hn])
    have HS := Lib.hid (split_none s w hl hn)
    clear hl hsz hn
    go_enter Tryd.func45, Tryd.ntmps45
    go_wp2_with (go_at_call 32; refine HS.out.mono ?_; rintro e w1 ⟨rfl, hb1⟩; have HB1 := Lib.hid hb1; clear hb1)
    go_ret
    exact ⟨by rw [← HQ.out]; rfl, HB1.out⟩
  | some es =>
    have HS := Lib.hid (split_some s w hl hn)
    by_cases h2 : es.length = 2
    rotate_left
    · have HQ := Lib.hid (show false = R by rw [← HR.out, namedP_other hn h2])
      have h2i : ¬ ((es.length : Nat) : Int) = 2 := by omega
      have h2b : (((es.length : Nat) : Int) == 2) = false := beq_eq_false_iff_ne.2 h2i
      clear hl hsz hn h2
      go_enter Tryd.func45, Tryd.ntmps45
      go_wp2_with (go_at_call 32; refine HS.out.mono ?_; rintro e w1 ⟨⟨v, rfl, hv⟩, hb1⟩; obtain ⟨a, c, rfl⟩ := OwnK.slice hv; have HB1 := Lib.hid hb1; clear hb1 hv)
      go_ret
      exact ⟨by rw [← HQ.out]; rfl, HB1.out⟩
    · obtain ⟨a, b, rfl⟩ : ∃ a b, es = [a, b] := by
        rcases es with _ | ⟨a, _ | ⟨b, _ | ⟨c, r⟩⟩⟩ <;> simp at h2
        exact ⟨a, b, rfl⟩
      have HQ := Lib.hid (show (a.kind == 1 && (a.text == s.data.toList && !decide (s.data.toList ∈ kws))) = R by rw [← HR.out, namedP_two (by omega) hn])
      clear hl hsz hn h2 HR
      by_cases hk : a.kind = 1
      rotate_left
      · have hkb : (a.kind == 1) = false := beq_eq_false_iff_ne.2 hk
        have HQ2 := Lib.hid (show false = R by rw [← HQ.out, hkb]; rfl)
        go_enter Tryd.func45, Tryd.ntmps45
        go_wp2_with (go_at_call 32; refine HS.out.mono ?_; rintro e w1 ⟨⟨v, rfl, hv⟩, hb1⟩; obtain ⟨g, c, rfl, x0, x1⟩ := OwnK.two hv; have HB1 := Lib.hid hb1; clear hb1 hv)
        go_ret
        exact ⟨by rw [← HQ2.out]; rfl, HB1.out⟩
      · by_cases ht : a.text = s.data.toList
        rotate_left
        · have htb : (a.text == s.data.toList) = false := beq_eq_false_iff_ne.2 ht
          have HQ2 := Lib.hid (show false = R by rw [← HQ.out, htb]; simp)
          obtain ⟨ak, tx, al, ac⟩ := a
          obtain rfl : ak = 1 := hk
          obtain ⟨l, rfl⟩ : ∃ l : List UInt8, s = ⟨l.toArray⟩ := ⟨s.data.toList, rfl⟩
          have htb1 : (tx == l) = false := htb
          have htne : ¬ tx = l := ht
          clear htb ht HQ
          go_enter Tryd.func45, Tryd.ntmps45
          go_wp2_with (go_at_call 32; refine HS.out.mono ?_; rintro e w1 ⟨⟨v, rfl, hv⟩, hb1⟩; obtain ⟨g, c, rfl, x0, x1⟩ := OwnK.two hv; have HB1 := Lib.hid hb1; clear hb1 hv)
          go_ret
          exact ⟨by rw [← HQ2.out]; rfl, HB1.out⟩
        · have HQ2 := Lib.hid (show (!decide (s.data.toList ∈ kws)) = R by rw [← HQ.out, hk, ht]; simp)
          have HKY := Lib.hid (fun W h => keyword_any s W h)
          generalize decide (s.data.toList ∈ kws) = D at *
          obtain ⟨ak, at', al, ac⟩ := a
          obtain rfl : ak = 1 := hk
          obtain rfl : at' = s.data.toList := ht
          clear HQ
          go_enter Tryd.func45, Tryd.ntmps45
          go_wp2_with (first | (go_at_call 32; refine HS.out.mono ?_; rintro e w1 ⟨⟨v, rfl, hv⟩, hb1⟩; obtain ⟨g, c, rfl, x0, x1⟩ := OwnK.two hv; have HB1 := Lib.hid hb1; clear hb1 hv) | (go_at_call 63; (with_reducible refine (HKY.out _ (HW.out.step HB1.out)).mono ?_); rintro e w2 ⟨rfl, rfl⟩))
          go_ret
          exact ⟨by rw [← HQ2.out]; rfl, HB1.out⟩
end Go.Proofs.YtogkiifljdnjgaaDoor
