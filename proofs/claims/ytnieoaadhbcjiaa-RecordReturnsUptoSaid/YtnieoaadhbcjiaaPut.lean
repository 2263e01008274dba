/- The statements' own put, form and size. No condition beyond lengths that memory allows. -/
import Derived.Test.YtnieoaadhbcjiaaVals
namespace Go.Proofs.Ytnieoaadhbcjiaa
open Go.RowKit
set_option linter.unusedVariables false
set_option linter.unusedSimpArgs false

structure Val where
  k : Nat
  n : Int
  s : List UInt8
  L : List (List UInt8)
def formV (x : Val) : List UInt8 := if x.k % 3 = 0 then numB (clampN x.n) else if x.k % 3 = 1 then textB x.s else textsB x.L
def textSum (L : List (List UInt8)) : Nat := (L.map fun s => 10 + s.length).sum
def lenV (x : Val) : Nat := 10 + x.s.length + textSum x.L
def sizeV (vs : List Val) : Nat := (vs.map lenV).sum
theorem flat_sum (L : List (List UInt8)) : (L.flatMap textB).length ≤ textSum L := by
  induction L with
  | nil => simp [textSum]
  | cons s r ih =>
    have h1 := numB_len s.length
    have e1 : ((s :: r).flatMap textB).length = (numB s.length).length + s.length + (r.flatMap textB).length := by
      rw [List.flatMap_cons, List.length_append, show textB s = numB s.length ++ s from rfl, List.length_append]
    have e2 : textSum (s :: r) = 10 + s.length + textSum r := by simp [textSum]
    omega
theorem formV_len (x : Val) : (formV x).length ≤ lenV x := by
  unfold formV lenV
  split
  · have := numB_len (clampN x.n); omega
  · split
    · have := numB_len x.s.length; simp only [textB, List.length_append]; omega
    · have := numB_len x.L.length
      have := flat_sum x.L
      simp only [textsB, List.length_append]
      omega
theorem len_sum (L : List (List UInt8)) : L.length ≤ textSum L := by
  induction L with
  | nil => simp
  | cons s r ih => simp only [textSum, List.map_cons, List.sum_cons, List.length_cons] at ih ⊢; omega

def valV (x : Val) (u : Value) : Value := .agg #[.int .u8 x.k, .int .i64 x.n, .string ⟨x.s.toArray⟩, u]

set_option maxHeartbeats 1000000 in
theorem put_any (v u : Value) (l : List UInt8) (x : Val) (w : World) (h : IsB w v l) (hu : IsT w u x.L) (hk : x.k < 256) (hl : l.length + lenV x ≤ 1000000000) :
    Calls Try.prog 15 #[v, valV x u] w fun e w' => ∃ v', e = .returned v' ∧ OwnB w' w.heap.size v' (l ++ formV x) ∧ Below w.heap.size w w' := by
  obtain ⟨k, n, s, L⟩ := x
  obtain ⟨a, c, rfl, _⟩ := h.shape
  obtain ⟨au, cu, rfl⟩ := hu.shape
  have hfs := flat_sum L
  have hls := len_sum L
  have hnl := numB_len L.length
  unfold valV formV lenV at *
  dsimp only at *
  have hB := bel_new w (.cells #[.int .u8 k, .int .i64 n, .string ⟨s.toArray⟩, .slice au L.length cu] 29)
  have H := Lib.hid (h.step hB)
  have HU := Lib.hid (hu.step hB)
  have HB := Lib.hid hB
  have hki : (k : Int) < 256 := by omega
  have hki0 : (0 : Int) ≤ (k : Int) := by omega
  clear h hu hB
  by_cases h0 : k % 3 = 0
  · rw [if_pos h0]
    have hk0 : ((k : Int) % 3 == 0) = true := by simp; omega
    go_enter Try.func15, Try.ntmps15
    go_wp2_with (go_at_call 37; refine (appendUint_any _ l n _ H.out (by omega)).mono ?_; rintro e w1 ⟨v1, rfl, ho, hb⟩)
    go_ret
    exact ⟨v1, rfl, ho.mono HB.out.size, bel_step HB.out hb⟩
  · rw [if_neg h0]
    have hk0 : ((k : Int) % 3 == 0) = false := by simp; omega
    by_cases h1 : k % 3 = 1
    · rw [if_pos h1]
      have hk1 : ((k : Int) % 3 == 1) = true := by simp; omega
      have hA := fun W h9 => appendText_any (.slice a l.length c) l ⟨s.toArray⟩ W h9 (by rw [size_of]; omega)
      rw [size_of] at hA
      have HA := Lib.hid hA
      clear hA
      go_enter Try.func15, Try.ntmps15
      go_wp2_with (go_at_call 38; refine (HA.out _ H.out).mono ?_; rintro e w1 ⟨v1, rfl, ho, hb⟩)
      go_ret
      exact ⟨v1, rfl, ho.mono HB.out.size, bel_step HB.out hb⟩
    · rw [if_neg h1]
      have hk1 : ((k : Int) % 3 == 1) = false := by simp; omega
      have hA := fun W h9 h8 => appendTexts_any (.slice a l.length c) (.slice au L.length cu) l L W h9 h8 (by unfold textsB; rw [List.length_append]; omega) (by omega)
      have HA := Lib.hid hA
      clear hA
      go_enter Try.func15, Try.ntmps15
      go_wp2_with (go_at_call 39; refine (HA.out _ H.out HU.out).mono ?_; rintro e w1 ⟨v1, rfl, ho, hb⟩)
      go_ret
      exact ⟨v1, rfl, ho.mono HB.out.size, bel_step HB.out hb⟩
set_option maxHeartbeats 1000000 in
theorem form_any (u : Value) (x : Val) (w : World) (hu : IsT w u x.L) (hk : x.k < 256) (hl : lenV x ≤ 1000000000) :
    Calls Try.prog 16 #[valV x u] w fun e w' => ∃ v', e = .returned v' ∧ OwnB w' w.heap.size v' (formV x) ∧ Below w.heap.size w w' := by
  obtain ⟨k, n, s, L⟩ := x
  obtain ⟨au, cu, rfl⟩ := hu.shape
  have hfs := flat_sum L
  have hls := len_sum L
  have hnl := numB_len L.length
  unfold valV formV lenV at *
  dsimp only at *
  have hB := bel_new w (.cells #[.int .u8 k, .int .i64 n, .string ⟨s.toArray⟩, .slice au L.length cu] 29)
  have HU := Lib.hid (hu.step hB)
  have HB := Lib.hid hB
  have hki : (k : Int) < 256 := by omega
  have hki0 : (0 : Int) ≤ (k : Int) := by omega
  clear hu hB
  by_cases h0 : k % 3 = 0
  · rw [if_pos h0]
    have hk0 : ((k : Int) % 3 == 0) = true := by simp; omega
    go_enter Try.func16, Try.ntmps16
    go_wp2_with (go_at_call 40; refine (ruint_any n _).mono ?_; rintro e w1 ⟨v1, rfl, ho, hb⟩)
    go_ret
    exact ⟨v1, rfl, ho.mono HB.out.size, bel_step HB.out hb⟩
  · rw [if_neg h0]
    have hk0 : ((k : Int) % 3 == 0) = false := by simp; omega
    by_cases h1 : k % 3 = 1
    · rw [if_pos h1]
      have hk1 : ((k : Int) % 3 == 1) = true := by simp; omega
      have hA := fun W => rtext_any ⟨s.toArray⟩ W (by rw [size_of]; omega)
      rw [size_of] at hA
      have HA := Lib.hid hA
      clear hA
      go_enter Try.func16, Try.ntmps16
      go_wp2_with (go_at_call 41; refine (HA.out _).mono ?_; rintro e w1 ⟨v1, rfl, ho, hb⟩)
      go_ret
      exact ⟨v1, rfl, ho.mono HB.out.size, bel_step HB.out hb⟩
    · rw [if_neg h1]
      have hk1 : ((k : Int) % 3 == 1) = false := by simp; omega
      have hA := fun W h8 => rtexts_any (.slice au L.length cu) L W h8 (by unfold textsB; rw [List.length_append]; omega) (by omega)
      have HA := Lib.hid hA
      clear hA
      go_enter Try.func16, Try.ntmps16
      go_wp2_with (go_at_call 42; refine (HA.out _ HU.out).mono ?_; rintro e w1 ⟨v1, rfl, ho, hb⟩)
      go_ret
      exact ⟨v1, rfl, ho.mono HB.out.size, bel_step HB.out hb⟩

/-- A value in memory. -/
def ValAt (w : World) (b o : Nat) (x : Val) : Prop := x.k < 256 ∧ w.cell? ⟨b, o, none⟩ = some (.int .u8 x.k) ∧ w.cell? ⟨b, o + 1, none⟩ = some (.int .i64 x.n) ∧ w.cell? ⟨b, o + 2, none⟩ = some (.string ⟨x.s.toArray⟩) ∧ ∃ u, w.cell? ⟨b, o + 3, none⟩ = some u ∧ IsT w u x.L
theorem ValAt.step {w w' : World} {b o : Nat} {x : Val} (h : ValAt w b o x) (hb : Below w.heap.size w w') : ValAt w' b o x := by
  obtain ⟨h0, h1, h2, h3, u, h4, h5⟩ := h
  exact ⟨h0, keep_at hb h1, keep_at hb h2, keep_at hb h3, u, keep_at hb h4, h5.step hb⟩
/-- The slice value v reads as the list of values vs. -/
def IsV (w : World) (v : Value) (vs : List Val) : Prop :=
  (vs = [] ∧ ∃ a cap, v = .slice a 0 cap) ∨
  (vs ≠ [] ∧ ∃ b off cap, v = .slice (some ⟨b, off, none⟩) vs.length cap ∧ vs.length ≤ cap ∧ cap ≤ maxLen ∧ ∀ i x, vs[i]? = some x → ValAt w b (off + i * 4) x)
theorem IsV.shape {w : World} {v : Value} {vs : List Val} (h : IsV w v vs) : ∃ a cap, v = .slice a vs.length cap := by
  rcases h with ⟨rfl, a, cap, rfl⟩ | ⟨_, b, off, cap, rfl, _⟩
  · exact ⟨a, cap, rfl⟩
  · exact ⟨_, cap, rfl⟩
theorem IsV.step {w w' : World} {v : Value} {vs : List Val} (h : IsV w v vs) (hb : Below w.heap.size w w') : IsV w' v vs := by
  rcases h with h | ⟨h0, b, off, cap, rfl, h1, h2, h3⟩
  · exact .inl h
  · exact .inr ⟨h0, b, off, cap, rfl, h1, h2, fun i c hi => (h3 i c hi).step hb⟩
theorem IsV.elem {w : World} {v : Value} {k : Nat} {vs : List Val} (h : IsV w v vs) (hk : k < vs.length) : ∃ g off c x, v = .slice (some ⟨g, off, none⟩) vs.length c ∧ vs[k]? = some x ∧ ValAt w g (off + k * 4) x := by
  rcases h with ⟨rfl, _⟩ | ⟨h0, b, off, cap, rfl, h1, h2, h3⟩
  · simp at hk
  · exact ⟨b, off, cap, vs[k], rfl, List.getElem?_eq_getElem hk, h3 k _ (List.getElem?_eq_getElem hk)⟩
theorem sizeV_take {vs : List Val} {k : Nat} {x : Val} (h : vs[k]? = some x) : sizeV (vs.take (k + 1)) = sizeV (vs.take k) + lenV x := by
  obtain ⟨hk, rfl⟩ := List.getElem?_eq_some_iff.1 h
  rw [List.take_succ_eq_append_getElem hk, sizeV, List.map_append, List.sum_append]
  simp only [List.map_cons, List.map_nil, List.sum_cons, List.sum_nil, Nat.add_zero, sizeV]
theorem sizeV_le (vs : List Val) (k : Nat) : sizeV (vs.take k) ≤ sizeV vs := by
  conv => rhs; rw [← List.take_append_drop k vs]
  simp only [sizeV, List.map_append, List.sum_append]
  omega
theorem textSum_take {L : List (List UInt8)} {k : Nat} {s : List UInt8} (h : L[k]? = some s) : textSum (L.take (k + 1)) = textSum (L.take k) + (10 + s.length) := by
  obtain ⟨hk, rfl⟩ := List.getElem?_eq_some_iff.1 h
  rw [List.take_succ_eq_append_getElem hk, textSum, List.map_append, List.sum_append]
  simp only [List.map_cons, List.map_nil, List.sum_cons, List.sum_nil, Nat.add_zero, textSum]
theorem textSum_le (L : List (List UInt8)) (k : Nat) : textSum (L.take k) ≤ textSum L := by
  conv => rhs; rw [← List.take_append_drop k L]
  simp only [textSum, List.map_append, List.sum_append]
  omega

set_option maxHeartbeats 2000000 in
theorem size_any (v : Value) (vs : List Val) (w : World) (h : IsV w v vs) (hl : sizeV vs ≤ 1000000000) (hvl : vs.length ≤ 1000000000) : Calls Try.prog 14 #[v] w fun e w' => e = .returned (.int .i64 (sizeV vs)) ∧ w = w' := by
  obtain ⟨a, c, rfl⟩ := h.shape
  have H := Lib.hid h
  have HL := Lib.hid hl
  have hvi : (vs.length : Int) ≤ 1000000000 := by omega
  clear h hl hvl
  go_enter Try.func14, Try.ntmps14
  go_wp2_with fail
  go_loop [3, 4] (fun n i => ∃ k : Nat, i = .int .i64 k ∧ k ≤ vs.length ∧ n = .int .i64 (sizeV (vs.take k))) (fun _ i => vs.length - (intOf i).toNat)
  case atStart => exact ⟨0, rfl, Nat.zero_le _, by simp [sizeV]⟩
  case round =>
    obtain ⟨k, rfl, hk, rfl⟩ := hrel
    by_cases hlt : k < vs.length
    · obtain ⟨g, off, cc, x, hv, hx, hat⟩ := H.out.elem hlt
      simp only [Value.slice.injEq] at hv
      obtain ⟨rfl, _, rfl⟩ := hv
      obtain ⟨_, x0, x1, x2, u, x3, hT⟩ := hat
      obtain ⟨au, cu, rfl⟩ := hT.shape
      have hst := sizeV_take hx
      have hsl := sizeV_le vs (k + 1)
      have hll := HL.out
      unfold lenV at hst
      have HST := Lib.hid hst
      have HT := Lib.hid hT
      have b1 : (0 : Int) ≤ (sizeV (vs.take k) : Int) := by omega
      have b2 : (sizeV (vs.take k) : Int) ≤ 1000000000 := by omega
      have b3 : (x.s.length : Int) ≤ 1000000000 := by omega
      have b4 : (x.L.length : Int) ≤ 1000000000 := by have := len_sum x.L; omega
      have b5 : (sizeV (vs.take k) : Int) + (10 + (x.s.length : Int)) + (textSum x.L : Int) ≤ 1000000000 := by omega
      have B5 := Lib.hid b5
      have hk0 : (0 : Int) ≤ (k : Int) := by omega
      have hk1 : (k : Int) < (vs.length : Int) := by omega
      clear hx hst hsl hll hT b5
      go_wp2_with fail
      go_loop [3, 5] (fun n j => ∃ m : Nat, j = .int .i64 m ∧ m ≤ x.L.length ∧ n = .int .i64 ((sizeV (vs.take k) : Int) + (10 + (x.s.length : Int)) + (textSum (x.L.take m) : Int))) (fun _ j => x.L.length - (intOf j).toNat)
      case atStart => exact ⟨0, rfl, Nat.zero_le _, by simp [textSum]⟩
      case round =>
        obtain ⟨m, rfl, hm, rfl⟩ := hrel
        by_cases hlm : m < x.L.length
        · obtain ⟨gl, ol, cl, s, hv, hs, hcell⟩ := HT.out.elem hlm
          simp only [Value.slice.injEq] at hv
          obtain ⟨rfl, _, rfl⟩ := hv
          have ht1 := textSum_take hs
          have ht2 := textSum_le x.L (m + 1)
          have c1 : (0 : Int) ≤ (textSum (x.L.take m) : Int) := by omega
          have c2 : (s.length : Int) ≤ 1000000000 := by have := B5.out; omega
          have c3 : (textSum (x.L.take m) : Int) ≤ 1000000000 := by have := B5.out; omega
          have HT1 := Lib.hid ht1
          have hm0 : (0 : Int) ≤ (m : Int) := by omega
          have hm1 : (m : Int) < (x.L.length : Int) := by omega
          clear hs ht1 ht2
          go_wp2_with fail
          go_round
          case rel => exact ⟨m + 1, by go_num, by omega, congrArg _ (by have := HT1.out; omega)⟩
          case measure => simp [intOf]; omega
        · go_wp2_with fail
          go_round
          case rel => exact ⟨k + 1, by go_num, by omega, congrArg _ (by have := HST.out; rw [List.take_of_length_le (show x.L.length ≤ m by omega)]; omega)⟩
          case measure => simp [intOf]; omega
    · go_wp2_with fail
      go_ret
      rw [List.take_of_length_le (by omega)]
      exact ⟨rfl, rfl⟩
end Go.Proofs.Ytnieoaadhbcjiaa
