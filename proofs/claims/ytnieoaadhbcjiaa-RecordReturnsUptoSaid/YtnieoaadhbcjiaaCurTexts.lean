/- The cursor's method Texts. No condition beyond what a cursor in memory is. -/
import Derived.Test.YtnieoaadhbcjiaaCurText
namespace Go.Proofs.Ytnieoaadhbcjiaa
open Go.RowKit
set_option linter.unusedVariables false
set_option linter.unusedSimpArgs false

theorem Only.bel {b B : Nat} {w w5 w7 : World} (h : Only b w w5) (hb : Below B w5 w7) (hB : w.heap.size ≤ B) : Only b w w7 :=
  ⟨hb.os.trans h.os, hb.tape.trans h.tape, hb.output.trans h.output, Nat.le_trans h.size hb.size, fun k hk hn => (hb.block k (by omega)).trans (h.block k hk hn)⟩
def TextsPost (B : Nat) (w : World) (b : Nat) (o : Option (List (List UInt8) × List UInt8)) (e : Ending) (w' : World) : Prop :=
  ∃ u, e = .returned u ∧ IsT w' u (match o with | some (s, _) => s | none => []) ∧ (∃ a c n, u = .slice a n c) ∧ CurO B w' b (o.map (·.2)) ∧ Only b w w'
def TextsR (n q : Nat) (ts : List (List UInt8)) (o : Option (List UInt8)) (W : Option (List (List UInt8) × List UInt8)) : Prop :=
  match o with
  | some ll => (wordsF (n - q) ll).map (fun x => (ts ++ x.1, x.2)) = W
  | none => W = none
theorem TextsR.next {n q : Nat} {ts : List (List UInt8)} {o : Option (List UInt8)} {W : Option (List (List UInt8) × List UInt8)} (h : TextsR n q ts o W) (hq : q < n) : TextsR n (q + 1) (ts ++ [wordV o]) (wordO o) W := by
  cases o with
  | none => exact h
  | some ll =>
    cases hw : wordR ll with
    | none =>
      simp only [wordV, wordO, Option.bind_some, hw, Option.map_none]
      exact wordsF_fail hq hw h
    | some x =>
      obtain ⟨s, r⟩ := x
      simp only [wordV, wordO, Option.bind_some, hw, Option.map_some]
      exact wordsF_more hq hw h
theorem shortO.next {o : Option (List UInt8)} (h : shortO o) : shortO (wordO o) := by
  cases o with
  | none => exact fun l h => by cases h
  | some ll =>
    have h9 := h ll rfl
    cases hw : wordR ll with
    | none => simp only [wordO, Option.bind_some, hw, Option.map_none]; exact fun l h => by cases h
    | some x =>
      obtain ⟨s, r⟩ := x
      have hb := wordR_bd hw
      simp only [wordO, Option.bind_some, hw, Option.map_some]
      intro l hl
      simp only [Option.some.injEq] at hl
      subst hl
      omega

set_option maxHeartbeats 1000000 in
/-- Texts where the number is bad. -/
theorem textsc_num (B b : Nat) (w : World) (hN : Calls Try.prog 28 #[.pointer (some ⟨b, 0, none⟩)] w fun e w' => e = .returned (.int .i64 0) ∧ CurO B w' b none ∧ Only b w w') :
    Calls Try.prog 30 #[.pointer (some ⟨b, 0, none⟩)] w (TextsPost B w b none) := by
  have HN := Lib.hid hN
  clear hN
  go_enter Try.func30, Try.ntmps30
  go_wp2_with (go_at_call 28; refine (HN.out).mono ?_; rintro e w1 ⟨rfl, hc, ho⟩; have HC := Lib.hid hc; obtain ⟨c0, c1, f0, f1⟩ := Box2.facts hc; clear hc)
  go_ret
  exact ⟨_, rfl, .inl ⟨rfl, _, _, rfl⟩, ⟨_, _, _, rfl⟩, HC.out, ho⟩
set_option maxHeartbeats 1000000 in
/-- A list that is longer than what is left. -/
theorem textsc_long (B b n : Nat) (r : List UInt8) (w : World) (hn : r.length < n) (hr : r.length ≤ 1000000) (hN : Calls Try.prog 28 #[.pointer (some ⟨b, 0, none⟩)] w fun e w' => e = .returned (.int .i64 n) ∧ CurO B w' b (some r) ∧ Only b w w') :
    Calls Try.prog 30 #[.pointer (some ⟨b, 0, none⟩)] w (TextsPost B w b none) := by
  have HN := Lib.hid hN
  have hni : (r.length : Int) < (n : Int) := by omega
  clear hN
  go_enter Try.func30, Try.ntmps30
  go_wp2_with (first | (go_at_call 28; refine (HN.out).mono ?_; rintro e w1 ⟨rfl, hc, ho⟩; obtain ⟨a, c, hx, hI, hL⟩ := hc; have HX := Lib.hid hx; obtain ⟨c0, c1, f0, f1⟩ := Box2.facts hx; clear hx hI hL) | (go_at_call 48; refine (fail_any b _ _ _ HX.out).mono ?_; rintro e w2 ⟨rfl, hc2, ho2⟩; have HC2 := Lib.hid hc2; clear hc2))
  go_ret
  exact ⟨_, rfl, .inl ⟨rfl, _, _, rfl⟩, ⟨_, _, _, rfl⟩, HC2.out, ho.trans ho2⟩
set_option maxRecDepth 20000 in
set_option maxHeartbeats 2000000 in
/-- A list that may be there. -/
theorem textsc_ok (B b n : Nat) (r : List UInt8) (w : World) (hbw : b < w.heap.size) (hBw : B ≤ w.heap.size) (hn : n ≤ r.length) (hr : r.length ≤ 1000000) (hN : Calls Try.prog 28 #[.pointer (some ⟨b, 0, none⟩)] w fun e w' => e = .returned (.int .i64 n) ∧ CurO B w' b (some r) ∧ Only b w w') :
    Calls Try.prog 30 #[.pointer (some ⟨b, 0, none⟩)] w (TextsPost B w b (wordsF n r)) := by
  have HN := Lib.hid hN
  have hni : (n : Int) ≤ (r.length : Int) := by omega
  have hn0 : (0 : Int) ≤ (n : Int) := by omega
  have hn9 : (n : Int) ≤ 1000000 := by omega
  have hdb : decide (r.length < n) = false := by simp; omega
  clear hN
  go_enter Try.func30, Try.ntmps30
  go_upto_region 8 with (go_at_call 28; refine (HN.out).mono ?_; rintro e w1 ⟨rfl, hc, ho⟩; have HC := Lib.hid hc; obtain ⟨a, c, hx, hI, hL⟩ := hc; obtain ⟨c0, c1, f0, f1⟩ := Box2.facts hx; clear hx hI hL)
  go_wp2_with fail
  go_loopw [4, 26] (fun v i wr => ∃ (q : Nat) (ts : List (List UInt8)) (o : Option (List UInt8)), i = .int .i64 q ∧ q ≤ n ∧ CurO B wr b o ∧ OwnT wr w.heap.size v ts ∧ ts.length = q ∧ shortO o ∧ TextsR n q ts o (wordsF n r) ∧ Only b w wr) (fun _ i _ => n - (intOf i).toNat)
  case atStart => exact ⟨0, [], some r, rfl, Nat.zero_le _, HC.out, OwnT.nil _ _, rfl, (fun l h => by cases h; exact hr), by simp [TextsR], ho⟩
  case round =>
    obtain ⟨q, ts, o, rfl, hq, hC, hO, hts, hs, hW, hOn⟩ := hrel
    clear HC HN
    have HC := Lib.hid hC
    have HO := Lib.hid hO
    have HTS := Lib.hid hts
    have HS := Lib.hid hs
    have HW := Lib.hid hW
    have HON := Lib.hid hOn
    have hwz : w.heap.size ≤ wr.heap.size := hOn.size
    clear hC hO hts hs hW hOn ho
    by_cases hlt : q < n
    · have hN := HW.out.next hlt
      have HNX := Lib.hid hN
      clear hN
      go_wp2_with (first | (go_at_call 29; refine (textc_any B b o _ HC.out HS.out).mono ?_; rintro e w5 ⟨rfl, hc5, ho5⟩; have HC5 := Lib.hid hc5; have HO5 := Lib.hid ho5; have hz5 : w.heap.size ≤ w5.heap.size := Nat.le_trans hwz ho5.size; clear hc5 ho5; have hn1 := bel_new w5 (.cells #[.string ⟨(wordV o).toArray⟩] 9)) | (at_builtin; refine wpList_appT rfl (.tmp 28) (.tmp 31) rfl w.heap.size _ ts rfl ((HO.out.only HO5.out hbw).step hn1) w5.heap.size (wordV o) rfl (by simp [go_sem]) (by have := HTS.out; omega) (by simp [go_sem]; omega) ?_; intro v7 w7 ho7 hb7 hz7))
      go_roundw
      case rel => exact ⟨q + 1, ts ++ [wordV o], wordO o, by go_num, by omega, (HC5.out.step hn1).bel hb7 hBw hbw, ho7, by have := HTS.out; simp; omega, HS.out.next, HNX.out, ((HON.out.trans HO5.out).bel hn1 hz5).bel hb7 (Nat.le_refl _)⟩
      case measure => simp [intOf]; omega
    · obtain ⟨a9, c9, hsh⟩ := HO.out.shape
      cases o with
      | none =>
        have hE : wordsF n r = none := HW.out
        have HE := Lib.hid hE
        obtain ⟨c0, c1, f0, f1⟩ := Box2.facts HC.out
        clear hE
        go_wp2_with fail
        go_ret
        rw [HE.out]
        exact ⟨_, rfl, .inl ⟨rfl, _, _, rfl⟩, ⟨_, _, _, rfl⟩, HC.out, HON.out⟩
      | some ll =>
        have hE : wordsF n r = some (ts, ll) := wordsF_done (by omega) HW.out
        have HE := Lib.hid hE
        obtain ⟨a, c, hx, hI, hL⟩ := HC.out
        obtain ⟨c0, c1, f0, f1⟩ := Box2.facts hx
        have HSH := Lib.hid hsh
        clear hE hx hI hL hsh
        go_wp2_with fail
        go_ret
        rw [HE.out]
        exact ⟨_, rfl, HO.out.isT, ⟨_, _, _, HSH.out⟩, HC.out, HON.out⟩
theorem textsc_any (B b : Nat) (o : Option (List UInt8)) (w : World) (h : CurO B w b o) (hs : shortO o) (hBw : B ≤ w.heap.size) :
    Calls Try.prog 30 #[.pointer (some ⟨b, 0, none⟩)] w (TextsPost B w b (o.bind wordsR)) := by
  have hU := uintc_any B b o w h
  cases o with
  | none => exact textsc_num B b w hU
  | some l =>
    have hl := hs l rfl
    rw [Option.bind_some]
    cases hR : numR l with
    | none =>
      have hW : wordsR l = none := by simp only [wordsR, hR]
      simp only [numV, numO, Option.bind_some, hR, Option.map_none] at hU
      rw [hW]
      exact textsc_num B b w hU
    | some x =>
      obtain ⟨n, r⟩ := x
      have hbd := numR_bd hR
      simp only [numV, numO, Option.bind_some, hR, Option.map_some] at hU
      by_cases hle : n ≤ r.length
      · have hW : wordsR l = wordsF n r := by simp only [wordsR, hR]; rw [if_pos hle]
        rw [hW]
        exact textsc_ok B b n r w h.lt hBw hle (by omega) hU
      · have hW : wordsR l = none := by simp only [wordsR, hR]; rw [if_neg hle]
        rw [hW]
        exact textsc_long B b n r w (by omega) (by omega) hU
end Go.Proofs.Ytnieoaadhbcjiaa
