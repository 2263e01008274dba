/- Lists of texts: how they are written. No condition beyond lengths that memory allows. -/
import Derived.Test.YtbfpjldincnihaaLarge
import Derived.Test.YtbfpjldincnihaaCanon
namespace Go.Proofs.Ytbfpjldincnihaa
open Go.RowKit
set_option linter.unusedVariables false
set_option linter.unusedSimpArgs false

def textsB (ts : List (List UInt8)) : List UInt8 := numB ts.length ++ ts.flatMap textB
theorem IsT.elem2 {w : World} {v : Value} {k : Nat} {ts : List (List UInt8)} (h : IsT w v ts) (hk : k < ts.length) : ∃ g off c s, v = .slice (some ⟨g, off, none⟩) ts.length c ∧ ts[k]? = some s ∧ w.cell? ⟨g, off + k, none⟩ = some (.string ⟨s.toArray⟩) := by
  obtain ⟨g, o, c, hv, hc⟩ := h.elem hk
  exact ⟨g, o, c, ts[k], hv, List.getElem?_eq_getElem hk, hc⟩
theorem flat_take {ts : List (List UInt8)} {k : Nat} {s : List UInt8} (h : ts[k]? = some s) : (ts.take (k + 1)).flatMap textB = (ts.take k).flatMap textB ++ (numB s.length ++ s) := by
  obtain ⟨hk, rfl⟩ := List.getElem?_eq_some_iff.1 h
  rw [List.take_succ_eq_append_getElem hk, List.flatMap_append]
  simp only [List.flatMap_cons, List.flatMap_nil, List.append_nil, textB]
theorem flat_le (ts : List (List UInt8)) (k : Nat) : ((ts.take k).flatMap textB).length ≤ (ts.flatMap textB).length := by
  conv => rhs; rw [← List.take_append_drop k ts]
  rw [List.flatMap_append, List.length_append]
  omega
theorem clamp_len (n : Nat) (h : n ≤ 4611686018427387904) : clampN (n : Int) = n := by unfold clampN; omega
theorem size_of (s : List UInt8) : (ByteArray.mk s.toArray).size = s.length := by simp [ByteArray.size]

set_option maxHeartbeats 1000000 in
theorem appendTexts_any (v t : Value) (l : List UInt8) (ts : List (List UInt8)) (w : World) (h : IsB w v l) (ht : IsT w t ts) (hl : l.length + (textsB ts).length ≤ 70368744177664) (hts : ts.length ≤ 70368744177664) :
    Calls Try.prog 49 #[v, t] w fun e w' => ∃ u, e = .returned u ∧ OwnB w' w.heap.size u (l ++ textsB ts) ∧ Below w.heap.size w w' := by
  obtain ⟨at', ct, rfl, _, _⟩ := ht.shape
  have H := Lib.hid h
  have HT := Lib.hid ht
  have HL := Lib.hid hl
  have hti : (ts.length : Int) ≤ 70368744177664 := by omega
  clear h ht hl
  go_enter Try.func49, Try.ntmps49
  go_wp2_with (go_at_call 33; refine (number_any _ _).mono ?_; rintro e w1 ⟨v1, rfl, ho, _, hb⟩; rw [clamp_len _ (by omega)] at ho; have HO := Lib.hid ho; have HB := Lib.hid hb; clear ho)
  go_loopw [5, 13] (fun u i wr => ∃ k : Nat, i = .int .i64 k ∧ k ≤ ts.length ∧ OwnB wr w.heap.size u (numB ts.length ++ (ts.take k).flatMap textB) ∧ Below w.heap.size w wr) (fun _ i _ => ts.length - (intOf i).toNat)
  case atStart => exact ⟨0, rfl, Nat.zero_le _, by simpa using HO.out, HB.out⟩
  case round =>
    obtain ⟨k, rfl, hk, hO, hB⟩ := hrel
    clear HO HB hb
    have HO := Lib.hid hO
    have HB := Lib.hid hB
    clear hO hB
    by_cases hlt : k < ts.length
    · obtain ⟨g, off, c, s, hv, hks, hcell⟩ := (HT.out.step HB.out).elem2 hlt
      simp only [Value.slice.injEq] at hv
      obtain ⟨rfl, _, rfl⟩ := hv
      have hft := flat_take hks
      have hfl := flat_le ts (k + 1)
      have hsl : (numB ts.length ++ (ts.take k).flatMap textB).length + (numB s.length).length + s.length ≤ 70368744177664 := by
        have := HL.out
        unfold textsB at this
        rw [hft] at hfl
        simp only [List.length_append] at this hfl ⊢
        omega
      have HFT := Lib.hid hft
      have HSL := Lib.hid hsl
      have hk0 : (0 : Int) ≤ (k : Int) := by omega
      have hk1 : (k : Int) < (ts.length : Int) := by omega
      have hz : w.heap.size ≤ wr.heap.size := HB.out.size
      have hs9 : s.length ≤ 70368744177664 := by omega
      clear hks hft hfl hsl
      go_wp2_with (first | (go_at_call 33; refine (number_any _ _).mono ?_; rintro e w2 ⟨v2, rfl, ho2, _, hb2⟩; rw [clamp_len _ (by first | omega | (simp; omega))] at ho2; have HO2 := Lib.hid ho2; clear ho2; have hz2 : w.heap.size ≤ w2.heap.size := Nat.le_trans hz hb2.size) | (at_builtin; refine wpList_app rfl (.tmp 17) (.tmp 20) rfl w.heap.size _ _ rfl (HO.out.step hb2) _ (numB s.length) rfl HO2.out.isB (by have := HSL.out; omega) hz2 ?_; intro v3 w3 ho3 hb3 hz3 hn3; have HO3 := Lib.hid ho3; clear ho3 hn3) | (at_builtin; refine wpList_app_string rfl (.tmp 21) (.tmp 22) rfl w.heap.size _ _ rfl HO3.out ⟨s.toArray⟩ rfl (by have := HSL.out; rw [size_of]; simp only [List.length_append] at this ⊢; omega) (Nat.le_trans hz2 hz3) ?_; intro v4 w4 ho4 hb4 hz4 hn4))
      go_roundw
      case rel => exact ⟨k + 1, by go_num, by omega, by rw [HFT.out]; simpa only [List.append_assoc] using ho4, ((HB.out.trans (hb2.mono hz)).trans hb3).trans hb4⟩
      case measure => simp [intOf]; omega
    · have hfin : (ts.take k).flatMap textB = ts.flatMap textB := by rw [List.take_of_length_le (by omega)]
      rw [hfin] at HO
      clear hfin
      go_wp2_with (go_at_call 53; refine (joined_any _ _ l _ _ (H.out.step HB.out) HO.out.isB (by have := HL.out; unfold textsB at this; exact Nat.le_trans this (by omega))).mono ?_; rintro e w5 ⟨v5, rfl, ho5, hb5⟩)
      go_ret
      exact ⟨v5, rfl, ho5.mono HB.out.size, bel_step HB.out hb5⟩

end Go.Proofs.Ytbfpjldincnihaa
