/- The cursor's methods Uint and Text, with what lies where. No condition beyond what a cursor in memory is. -/
import Derived.Test.YtnieoaadhbcjiaaRefList
namespace Go.Proofs.Ytnieoaadhbcjiaa
open Go.RowKit
set_option linter.unusedVariables false
set_option linter.unusedSimpArgs false

/-- A cursor in block b, with or without an error; its bytes lie below block B. -/
def CurO (B : Nat) (w : World) (b : Nat) : Option (List UInt8) → Prop
  | some l => ∃ a c, Box2 w b 84 (.slice a l.length c) .nilIface ∧ IsB w (.slice a l.length c) l ∧ Low B a l
  | none => Box2 w b 84 (.slice none 0 0) (.iface 55 (.int .i64 2))
theorem CurO.lt {B : Nat} {w : World} {b : Nat} {o : Option (List UInt8)} (h : CurO B w b o) : b < w.heap.size := by
  cases o with
  | none => exact Box2.lt h
  | some l => obtain ⟨a, c, h, _⟩ := h; exact h.lt
theorem CurO.bel {B C : Nat} {w w' : World} {b : Nat} {o : Option (List UInt8)} (h : CurO B w b o) (hb : Below C w w') (hB : B ≤ C) (hC : b < C) : CurO B w' b o := by
  cases o with
  | none => exact Box2.bel h hb hC
  | some l =>
    obtain ⟨a, c, h, hI, hL⟩ := h
    exact ⟨a, c, h.bel hb hC, hI.bel hL (hb.mono hB), hL⟩
theorem CurO.step {B : Nat} {w w' : World} {b : Nat} {o : Option (List UInt8)} (h : CurO B w b o) (hb : Below w.heap.size w w') : CurO B w' b o := by
  have hlt := h.lt
  cases o with
  | none => exact Box2.step h hb
  | some l =>
    obtain ⟨a, c, h, hI, hL⟩ := h
    exact ⟨a, c, h.step hb, hI.step hb, hL⟩
theorem CurO.put {B : Nat} {w : World} {b : Nat} {x y : Value} {a : Option Addr} {c : Nat} {l : List UInt8} (h : Box2 w b 84 x .nilIface) (hx : ∀ n, x ≠ .int .u8 n) (hI : IsB w (.slice a l.length c) l) (hL : Low B a l) : CurO B (w.setCell ⟨b, 0, none⟩ (.slice a l.length c)) b (some l) := by
  refine ⟨a, c, ?_, hI.onlyN Only.set (h.noB hx (by intro n h; cases h)), hL⟩
  have := Joins.block_setCell (i := 0) h (.slice a l.length c)
  unfold Box2
  simpa using this

set_option maxHeartbeats 1000000 in
theorem uintc_ok (B b n k : Nat) (l : List UInt8) (w : World) (h : CurO B w b (some l)) (ht : takeP 9 l = ((n : Int), (k : Int))) (hk1 : 1 ≤ k) (hk2 : k ≤ l.length) (hn : n ≤ 4611686018427387904) :
    Calls Try.prog 28 #[.pointer (some ⟨b, 0, none⟩)] w fun e w' => e = .returned (.int .i64 n) ∧ CurO B w' b (some (l.drop k)) ∧ Only b w w' := by
  obtain ⟨a, cap, hx, hI, hL⟩ := h
  obtain ⟨c0, c1, f0, f1⟩ := hx.facts
  have hp := CurO.put (y := .nilIface) hx (by intro n h; cases h) (by rw [List.length_drop]; exact hI.cutif k hk2) (hL.cut k cap)
  rw [List.length_drop] at hp
  have hT : ∀ W, IsB W (.slice a l.length cap) l → Calls Try.prog 47 #[.slice a l.length cap, .int .i64 9] W fun e w' => e = .returned (.tuple #[.int .i64 n, .int .i64 k]) ∧ W = w' := fun W h9 => by
    have := take_any 9 _ l W (by omega) h9
    rw [ht] at this
    exact this
  obtain ⟨_, _, hv, h1, h2, h3⟩ := hI.shape
  simp only [Value.slice.injEq] at hv
  obtain ⟨rfl, _, rfl⟩ := hv
  have HT := Lib.hid hT
  have HI := Lib.hid hI
  have hk1' : (1 : Int) ≤ (k : Int) := by omega
  have hk2' : (k : Int) ≤ (l.length : Int) := by omega
  have hk3' : (k : Int) ≤ (cap : Int) := by omega
  have hn' : (n : Int) ≤ 4611686018427387904 := by omega
  clear hx hI hL hT ht h3
  by_cases hc : cap = k
  · rw [if_pos hc, show cap - k = 0 by omega, show l.length - k = 0 by omega] at hp
    subst hc
    have HP := Lib.hid hp
    clear hp
    go_enter Try.func28, Try.ntmps28
    go_wp2_with (go_at_call 47; refine (HT.out _ HI.out).mono ?_; rintro e w' ⟨rfl, rfl⟩)
    go_ret
    exact ⟨rfl, HP.out, Only.set⟩
  · rw [if_neg hc] at hp
    have HP := Lib.hid hp
    clear hp
    go_enter Try.func28, Try.ntmps28
    go_wp2_with (go_at_call 47; refine (HT.out _ HI.out).mono ?_; rintro e w' ⟨rfl, rfl⟩)
    go_ret
    exact ⟨rfl, HP.out, Only.set⟩
theorem uintc_any (B b : Nat) (o : Option (List UInt8)) (w : World) (h : CurO B w b o) :
    Calls Try.prog 28 #[.pointer (some ⟨b, 0, none⟩)] w fun e w' => e = .returned (.int .i64 (numV o)) ∧ CurO B w' b (numO o) ∧ Only b w w' := by
  cases o with
  | none =>
    refine (uint_bad b w h).mono ?_
    rintro e w' ⟨rfl, rfl⟩
    exact ⟨rfl, h, Only.refl _ _⟩
  | some l =>
    rcases num_cases l with ⟨n, k, ht, hr, hk1, hk2, hn, hR⟩ | ⟨h1, h2, hR⟩
    · refine (uintc_ok B b n k l w h ht hk1 hk2 hn).mono ?_
      rintro e w' ⟨rfl, hc, ho⟩
      exact ⟨by simp [numV, hR], by simpa only [numO, Option.bind_some, hR, Option.map_some] using hc, ho⟩
    · obtain ⟨a, c, hx, hI, hL⟩ := h
      refine (uint_fail b l w ⟨_, hx, hI⟩ h1).mono ?_
      rintro e w' ⟨rfl, hc, ho⟩
      exact ⟨by simp [numV, hR], by simp only [numO, Option.bind_some, hR, Option.map_none]; exact hc, ho⟩

set_option maxHeartbeats 1000000 in
/-- Text where the number is bad. -/
theorem textc_num (B b : Nat) (w : World) (hN : Calls Try.prog 28 #[.pointer (some ⟨b, 0, none⟩)] w fun e w' => e = .returned (.int .i64 0) ∧ CurO B w' b none ∧ Only b w w') :
    Calls Try.prog 29 #[.pointer (some ⟨b, 0, none⟩)] w fun e w' => e = .returned (.string ⟨#[]⟩) ∧ CurO B w' b none ∧ Only b w w' := by
  have HN := Lib.hid hN
  clear hN
  go_enter Try.func29, Try.ntmps29
  go_wp2_with (go_at_call 28; refine (HN.out).mono ?_; rintro e w1 ⟨rfl, hc, ho⟩; have HC := Lib.hid hc; obtain ⟨c0, c1, f0, f1⟩ := Box2.facts hc; clear hc)
  go_ret
  exact ⟨rfl, HC.out, ho⟩
set_option maxHeartbeats 1000000 in
/-- Text that is longer than what is left. -/
theorem textc_long (B b n : Nat) (r : List UInt8) (w : World) (hn : r.length < n) (hr : r.length ≤ 1000000) (hN : Calls Try.prog 28 #[.pointer (some ⟨b, 0, none⟩)] w fun e w' => e = .returned (.int .i64 n) ∧ CurO B w' b (some r) ∧ Only b w w') :
    Calls Try.prog 29 #[.pointer (some ⟨b, 0, none⟩)] w fun e w' => e = .returned (.string ⟨#[]⟩) ∧ CurO B w' b none ∧ Only b w w' := by
  have HN := Lib.hid hN
  have hni : (r.length : Int) < (n : Int) := by omega
  clear hN
  go_enter Try.func29, Try.ntmps29
  go_wp2_with (first | (go_at_call 28; refine (HN.out).mono ?_; rintro e w1 ⟨rfl, hc, ho⟩; obtain ⟨a, c, hx, hI, hL⟩ := hc; have HX := Lib.hid hx; obtain ⟨c0, c1, f0, f1⟩ := Box2.facts hx; clear hx hI hL) | (go_at_call 48; refine (fail_any b _ _ _ HX.out).mono ?_; rintro e w2 ⟨rfl, hc2, ho2⟩; have HC2 := Lib.hid hc2; clear hc2))
  go_ret
  exact ⟨rfl, HC2.out, ho.trans ho2⟩
set_option maxHeartbeats 1000000 in
/-- Text that is there. -/
theorem textc_ok (B b n : Nat) (r : List UInt8) (w : World) (hn : n ≤ r.length) (hr : r.length ≤ 1000000) (hN : Calls Try.prog 28 #[.pointer (some ⟨b, 0, none⟩)] w fun e w' => e = .returned (.int .i64 n) ∧ CurO B w' b (some r) ∧ Only b w w') :
    Calls Try.prog 29 #[.pointer (some ⟨b, 0, none⟩)] w fun e w' => e = .returned (.string ⟨(r.take n).toArray⟩) ∧ CurO B w' b (some (r.drop n)) ∧ Only b w w' := by
  have HN := Lib.hid hN
  have hni : (n : Int) ≤ (r.length : Int) := by omega
  have hn0 : (0 : Int) ≤ (n : Int) := by omega
  have hr9 : (r.length : Int) ≤ 1000000 := by omega
  clear hN
  go_enter Try.func29, Try.ntmps29
  go_upto_region 7 with (go_at_call 28; refine (HN.out).mono ?_; rintro e w1 ⟨rfl, hc, ho⟩; obtain ⟨a, c, hx, hI, hL⟩ := hc; obtain ⟨_, _, hv, h1, h2, h3⟩ := hI.shape; simp only [Value.slice.injEq] at hv; obtain ⟨rfl, _, rfl⟩ := hv; have HX := Lib.hid hx; have HI := Lib.hid hI; have HLo := Lib.hid hL; obtain ⟨c0, c1, f0, f1⟩ := Box2.facts hx; clear hx hI hL h2 h3)
  have hnc : (n : Int) ≤ (c : Int) := by omega
  have t0 : (convert 23 9 (.slice a n c)).run Try.prog w1 = .ok (.string ⟨(r.take n).toArray⟩) w1 := run_str _ _ _ (HI.out.upto n hn)
  have hp := CurO.put (y := .nilIface) HX.out (by intro n h; cases h) (by rw [List.length_drop]; exact HI.out.cutif n hn) (HLo.out.cut n c)
  rw [List.length_drop] at hp
  by_cases hcn : c = n
  · rw [if_pos hcn, show c - n = 0 by omega, show r.length - n = 0 by omega] at hp
    subst hcn
    have HP := Lib.hid hp
    clear hp
    go_wp2
    go_ret
    exact ⟨rfl, HP.out, ho.trans Only.set⟩
  · rw [if_neg hcn] at hp
    have HP := Lib.hid hp
    clear hp
    go_wp2
    go_ret
    exact ⟨rfl, HP.out, ho.trans Only.set⟩
theorem textc_any (B b : Nat) (o : Option (List UInt8)) (w : World) (h : CurO B w b o) (hs : shortO o) :
    Calls Try.prog 29 #[.pointer (some ⟨b, 0, none⟩)] w fun e w' => e = .returned (.string ⟨(wordV o).toArray⟩) ∧ CurO B w' b (wordO o) ∧ Only b w w' := by
  have hU := uintc_any B b o w h
  cases o with
  | none => exact textc_num B b w hU
  | some l =>
    have hl := hs l rfl
    cases hR : numR l with
    | none =>
      have hW : wordR l = none := by simp only [wordR, hR]
      simp only [numV, numO, wordV, wordO, Option.bind_some, hR, hW, Option.map_none] at hU ⊢
      exact textc_num B b w hU
    | some x =>
      obtain ⟨n, r⟩ := x
      have hbd := numR_bd hR
      simp only [numV, numO, Option.bind_some, hR, Option.map_some] at hU
      by_cases hle : n ≤ r.length
      · have hW : wordR l = some (r.take n, r.drop n) := by simp only [wordR, hR]; rw [if_pos hle]
        simp only [wordV, wordO, Option.bind_some, hW, Option.map_some]
        exact textc_ok B b n r w hle (by omega) hU
      · have hW : wordR l = none := by simp only [wordR, hR]; rw [if_neg hle]
        simp only [wordV, wordO, Option.bind_some, hW, Option.map_none]
        exact textc_long B b n r w (by omega) (by omega) hU
end Go.Proofs.Ytnieoaadhbcjiaa
