/- operands: how many expressions a kind of node has. Condition: a text's length. -/
import Derived.Test.YtogkiifljdnjgaaDoorSmall
namespace Go.Proofs.YtogkiifljdnjgaaDoor
open Go.RowKit
set_option linter.unusedVariables false
set_option linter.unusedSimpArgs false

def boolP (l : List UInt8) : Bool := decide (l = [116, 114, 117, 101]) || decide (l = [102, 97, 108, 115, 101])
def operandsP (k : Int) (tx : List UInt8) : Int :=
  if k = 13 ∨ k = 14 ∨ k = 17 ∨ k = 18 ∨ k = 19 then if tx = [] then 2 else -2
  else if k = 15 then if tx = [] then 1 else -2
  else if k = 16 then if (cmpW 4 tx || cmpW 1 tx) = true then 2 else -2
  else if k = 20 then if digitsP tx = true then 0 else -2
  else if k = 21 then if tx.all okB = true then 0 else -2
  else if k = 22 then if boolP tx = true then 0 else -2
  else if k = 23 then if namedP tx = true then 0 else -2
  else if k = 24 then if namedP tx = true then -1 else -2
  else -2
set_option maxRecDepth 20000 in
set_option maxHeartbeats 1000000 in
theorem operands_any (k : Int) (tx : List UInt8) (a : Option Addr) (n c : Nat) (l : Int) (w : World) (hw : KW w) (hs : tx.length ≤ 100000) :
    Calls Tryd.prog 61 #[.agg #[.int .i64 k, .string ⟨tx.toArray⟩, .slice a n c, .int .i64 l]] w fun e w' => e = .returned (.int .i64 (operandsP k tx)) ∧ Below w.heap.size w w' := by
  have HW := Lib.hid hw
  clear hw
  obtain ⟨R, hR⟩ : ∃ R, operandsP k tx = R := ⟨_, rfl⟩
  rw [hR]
  have HR := Lib.hid hR
  clear hR
  have hsz : (⟨tx.toArray⟩ : ByteArray).size ≤ 100000 := by show tx.toArray.size ≤ 100000; simpa using hs
  have HS := Lib.hid hsz
  have HB0 := Lib.hid (bel_new w (.cells #[.int .i64 k, .string ⟨tx.toArray⟩, .slice a n c, .int .i64 l] 32))
  have HX0 := Lib.hid (heap_alloc_new w (.cells #[.int .i64 k, .string ⟨tx.toArray⟩, .slice a n c, .int .i64 l] 32))
  clear hs hsz
  by_cases h13 : k = 13
  · subst h13
    obtain ⟨r0, r1, r2, r3, q0, q1, q2, q3⟩ := box4 HX0.out
    rcases tx with _ | ⟨y, r⟩
    · have HQ := Lib.hid (show 2 = R by rw [← HR.out]; simp [operandsP])
      go_enter Tryd.func61, Tryd.ntmps61
      go_wp2_with fail
      go_ret
      exact ⟨by rw [← HQ.out]; rfl, HB0.out⟩
    · have HQ := Lib.hid (show -2 = R by rw [← HR.out]; simp [operandsP])
      go_enter Tryd.func61, Tryd.ntmps61
      go_wp2_with fail
      go_ret
      exact ⟨by rw [← HQ.out]; rfl, HB0.out⟩
  by_cases h14 : k = 14
  · subst h14
    obtain ⟨r0, r1, r2, r3, q0, q1, q2, q3⟩ := box4 HX0.out
    rcases tx with _ | ⟨y, r⟩
    · have HQ := Lib.hid (show 2 = R by rw [← HR.out]; simp [operandsP])
      go_enter Tryd.func61, Tryd.ntmps61
      go_wp2_with fail
      go_ret
      exact ⟨by rw [← HQ.out]; rfl, HB0.out⟩
    · have HQ := Lib.hid (show -2 = R by rw [← HR.out]; simp [operandsP])
      go_enter Tryd.func61, Tryd.ntmps61
      go_wp2_with fail
      go_ret
      exact ⟨by rw [← HQ.out]; rfl, HB0.out⟩
  by_cases h17 : k = 17
  · subst h17
    obtain ⟨r0, r1, r2, r3, q0, q1, q2, q3⟩ := box4 HX0.out
    rcases tx with _ | ⟨y, r⟩
    · have HQ := Lib.hid (show 2 = R by rw [← HR.out]; simp [operandsP])
      go_enter Tryd.func61, Tryd.ntmps61
      go_wp2_with fail
      go_ret
      exact ⟨by rw [← HQ.out]; rfl, HB0.out⟩
    · have HQ := Lib.hid (show -2 = R by rw [← HR.out]; simp [operandsP])
      go_enter Tryd.func61, Tryd.ntmps61
      go_wp2_with fail
      go_ret
      exact ⟨by rw [← HQ.out]; rfl, HB0.out⟩
  by_cases h18 : k = 18
  · subst h18
    obtain ⟨r0, r1, r2, r3, q0, q1, q2, q3⟩ := box4 HX0.out
    rcases tx with _ | ⟨y, r⟩
    · have HQ := Lib.hid (show 2 = R by rw [← HR.out]; simp [operandsP])
      go_enter Tryd.func61, Tryd.ntmps61
      go_wp2_with fail
      go_ret
      exact ⟨by rw [← HQ.out]; rfl, HB0.out⟩
    · have HQ := Lib.hid (show -2 = R by rw [← HR.out]; simp [operandsP])
      go_enter Tryd.func61, Tryd.ntmps61
      go_wp2_with fail
      go_ret
      exact ⟨by rw [← HQ.out]; rfl, HB0.out⟩
  by_cases h19 : k = 19
  · subst h19
    obtain ⟨r0, r1, r2, r3, q0, q1, q2, q3⟩ := box4 HX0.out
    rcases tx with _ | ⟨y, r⟩
    · have HQ := Lib.hid (show 2 = R by rw [← HR.out]; simp [operandsP])
      go_enter Tryd.func61, Tryd.ntmps61
      go_wp2_with fail
      go_ret
      exact ⟨by rw [← HQ.out]; rfl, HB0.out⟩
    · have HQ := Lib.hid (show -2 = R by rw [← HR.out]; simp [operandsP])
      go_enter Tryd.func61, Tryd.ntmps61
      go_wp2_with fail
      go_ret
      exact ⟨by rw [← HQ.out]; rfl, HB0.out⟩
  by_cases h15 : k = 15
  · subst h15
    obtain ⟨r0, r1, r2, r3, q0, q1, q2, q3⟩ := box4 HX0.out
    rcases tx with _ | ⟨y, r⟩
    · have HQ := Lib.hid (show 1 = R by rw [← HR.out]; simp [operandsP])
      go_enter Tryd.func61, Tryd.ntmps61
      go_wp2_with fail
      go_ret
      exact ⟨by rw [← HQ.out]; rfl, HB0.out⟩
    · have HQ := Lib.hid (show -2 = R by rw [← HR.out]; simp [operandsP])
      go_enter Tryd.func61, Tryd.ntmps61
      go_wp2_with fail
      go_ret
      exact ⟨by rw [← HQ.out]; rfl, HB0.out⟩
  by_cases h16 : k = 16
  · subst h16
    obtain ⟨r0, r1, r2, r3, q0, q1, q2, q3⟩ := box4 HX0.out
    have HD : ∀ D1 D2, cmpW 4 tx = D1 → cmpW 1 tx = D2 → (if (D1 || D2) = true then 2 else -2) = R := by intro D1 D2 e1 e2; rw [← HR.out, ← e1, ← e2]; simp [operandsP]
    cases e1 : cmpW 4 tx with
    | true =>
      have HQ := Lib.hid (show 2 = R by rw [← HD true _ e1 rfl]; rfl)
      have HC4 := Lib.hid (fun W => show Calls Tryd.prog 81 #[.int .i64 4, .string ⟨tx.toArray⟩] W fun e w' => e = .returned (.bool true) ∧ W = w' by rw [← e1]; exact compares_any 4 ⟨tx.toArray⟩ W)
      clear e1 HD
      go_enter Tryd.func61, Tryd.ntmps61
      go_wp2_with (first | (go_at_call 81; (with_reducible refine (HC4.out _).mono ?_); rintro e w1 ⟨rfl, rfl⟩))
      go_ret
      exact ⟨by rw [← HQ.out]; rfl, HB0.out⟩
    | false =>
      have HC4 := Lib.hid (fun W => show Calls Tryd.prog 81 #[.int .i64 4, .string ⟨tx.toArray⟩] W fun e w' => e = .returned (.bool false) ∧ W = w' by rw [← e1]; exact compares_any 4 ⟨tx.toArray⟩ W)
      cases e2 : cmpW 1 tx with
      | true =>
        have HQ := Lib.hid (show 2 = R by rw [← HD false true e1 e2]; rfl)
        have HC1 := Lib.hid (fun W => show Calls Tryd.prog 81 #[.int .i64 1, .string ⟨tx.toArray⟩] W fun e w' => e = .returned (.bool true) ∧ W = w' by rw [← e2]; exact compares_any 1 ⟨tx.toArray⟩ W)
        clear e1 e2 HD
        go_enter Tryd.func61, Tryd.ntmps61
        go_wp2_with (first | (go_at_call 81; (with_reducible refine (HC4.out _).mono ?_); rintro e w1 ⟨rfl, rfl⟩) | (go_at_call 81; (with_reducible refine (HC1.out _).mono ?_); rintro e w1 ⟨rfl, rfl⟩))
        go_ret
        exact ⟨by rw [← HQ.out]; rfl, HB0.out⟩
      | false =>
        have HQ := Lib.hid (show -2 = R by rw [← HD false false e1 e2]; rfl)
        have HC1 := Lib.hid (fun W => show Calls Tryd.prog 81 #[.int .i64 1, .string ⟨tx.toArray⟩] W fun e w' => e = .returned (.bool false) ∧ W = w' by rw [← e2]; exact compares_any 1 ⟨tx.toArray⟩ W)
        clear e1 e2 HD
        go_enter Tryd.func61, Tryd.ntmps61
        go_wp2_with (first | (go_at_call 81; (with_reducible refine (HC4.out _).mono ?_); rintro e w1 ⟨rfl, rfl⟩) | (go_at_call 81; (with_reducible refine (HC1.out _).mono ?_); rintro e w1 ⟨rfl, rfl⟩))
        go_ret
        exact ⟨by rw [← HQ.out]; rfl, HB0.out⟩
  by_cases h20 : k = 20
  · subst h20
    obtain ⟨r0, r1, r2, r3, q0, q1, q2, q3⟩ := box4 HX0.out
    have HD : ∀ D, digitsP tx = D → (if D = true then 0 else -2) = R := by intro D e1; rw [← HR.out, ← e1]; simp [operandsP]
    cases e1 : digitsP tx with
    | true =>
      have HQ := Lib.hid (show 0 = R by rw [← HD true e1]; rfl)
      have HC := Lib.hid (fun W => show Calls Tryd.prog 82 #[.string ⟨tx.toArray⟩] W fun e w' => e = .returned (.bool true) ∧ W = w' by rw [← e1]; exact digits_any ⟨tx.toArray⟩ W HS.out)
      clear e1 HD
      go_enter Tryd.func61, Tryd.ntmps61
      go_wp2_with (go_at_call 82; (with_reducible refine (HC.out _).mono ?_); rintro e w1 ⟨rfl, rfl⟩)
      go_ret
      exact ⟨by rw [← HQ.out]; rfl, HB0.out⟩
    | false =>
      have HQ := Lib.hid (show -2 = R by rw [← HD false e1]; rfl)
      have HC := Lib.hid (fun W => show Calls Tryd.prog 82 #[.string ⟨tx.toArray⟩] W fun e w' => e = .returned (.bool false) ∧ W = w' by rw [← e1]; exact digits_any ⟨tx.toArray⟩ W HS.out)
      clear e1 HD
      go_enter Tryd.func61, Tryd.ntmps61
      go_wp2_with (go_at_call 82; (with_reducible refine (HC.out _).mono ?_); rintro e w1 ⟨rfl, rfl⟩)
      go_ret
      exact ⟨by rw [← HQ.out]; rfl, HB0.out⟩
  by_cases h21 : k = 21
  · subst h21
    obtain ⟨r0, r1, r2, r3, q0, q1, q2, q3⟩ := box4 HX0.out
    have HD : ∀ D, tx.all okB = D → (if D = true then 0 else -2) = R := by intro D e1; rw [← HR.out, ← e1]; simp [operandsP]
    cases e1 : tx.all okB with
    | true =>
      have HQ := Lib.hid (show 0 = R by rw [← HD true e1]; rfl)
      have HC := Lib.hid (fun W => show Calls Tryd.prog 44 #[.string ⟨tx.toArray⟩] W fun e w' => e = .returned (.bool true) ∧ Below W.heap.size W w' by rw [← e1]; exact printable_any ⟨tx.toArray⟩ W HS.out)
      clear e1 HD
      go_enter Tryd.func61, Tryd.ntmps61
      go_wp2_with (go_at_call 44; (with_reducible refine (HC.out _).mono ?_); rintro e w1 ⟨rfl, hb1⟩; have HB1 := Lib.hid hb1; clear hb1)
      go_ret
      exact ⟨by rw [← HQ.out]; rfl, HB0.out.trans (HB1.out.mono HB0.out.size)⟩
    | false =>
      have HQ := Lib.hid (show -2 = R by rw [← HD false e1]; rfl)
      have HC := Lib.hid (fun W => show Calls Tryd.prog 44 #[.string ⟨tx.toArray⟩] W fun e w' => e = .returned (.bool false) ∧ Below W.heap.size W w' by rw [← e1]; exact printable_any ⟨tx.toArray⟩ W HS.out)
      clear e1 HD
      go_enter Tryd.func61, Tryd.ntmps61
      go_wp2_with (go_at_call 44; (with_reducible refine (HC.out _).mono ?_); rintro e w1 ⟨rfl, hb1⟩; have HB1 := Lib.hid hb1; clear hb1)
      go_ret
      exact ⟨by rw [← HQ.out]; rfl, HB0.out.trans (HB1.out.mono HB0.out.size)⟩
  by_cases h22 : k = 22
  · subst h22
    obtain ⟨r0, r1, r2, r3, q0, q1, q2, q3⟩ := box4 HX0.out
    by_cases t1 : tx = [116, 114, 117, 101]
    · subst t1
      have HQ := Lib.hid (show 0 = R by rw [← HR.out]; simp [operandsP, boolP])
      go_enter Tryd.func61, Tryd.ntmps61
      go_wp2_with fail
      go_ret
      exact ⟨by rw [← HQ.out]; rfl, HB0.out⟩
    · by_cases t2 : tx = [102, 97, 108, 115, 101]
      · subst t2
        have HQ := Lib.hid (show 0 = R by rw [← HR.out]; simp [operandsP, boolP])
        go_enter Tryd.func61, Tryd.ntmps61
        go_wp2_with fail
        go_ret
        exact ⟨by rw [← HQ.out]; rfl, HB0.out⟩
      · have HQ := Lib.hid (show -2 = R by rw [← HR.out]; simp [operandsP, boolP, t1, t2])
        have b1 : (tx == [116, 114, 117, 101]) = false := beq_eq_false_iff_ne.2 t1
        have b2 : (tx == [102, 97, 108, 115, 101]) = false := beq_eq_false_iff_ne.2 t2
        go_enter Tryd.func61, Tryd.ntmps61
        go_wp2_with fail
        go_ret
        exact ⟨by rw [← HQ.out]; rfl, HB0.out⟩
  by_cases h23 : k = 23
  · subst h23
    obtain ⟨r0, r1, r2, r3, q0, q1, q2, q3⟩ := box4 HX0.out
    have HD : ∀ D, namedP tx = D → (if D = true then 0 else -2) = R := by intro D e1; rw [← HR.out, ← e1]; simp [operandsP]
    cases e1 : namedP tx with
    | true =>
      have HQ := Lib.hid (show 0 = R by rw [← HD true e1]; rfl)
      have HC := Lib.hid (fun W (hW : KW W) => show Calls Tryd.prog 45 #[.string ⟨tx.toArray⟩] W fun e w' => e = .returned (.bool true) ∧ Below W.heap.size W w' by rw [← e1]; exact named_any ⟨tx.toArray⟩ W hW)
      clear e1 HD
      go_enter Tryd.func61, Tryd.ntmps61
      go_wp2_with (go_at_call 45; (with_reducible refine (HC.out _ (HW.out.step HB0.out)).mono ?_); rintro e w1 ⟨rfl, hb1⟩; have HB1 := Lib.hid hb1; clear hb1)
      go_ret
      exact ⟨by rw [← HQ.out]; rfl, HB0.out.trans (HB1.out.mono HB0.out.size)⟩
    | false =>
      have HQ := Lib.hid (show -2 = R by rw [← HD false e1]; rfl)
      have HC := Lib.hid (fun W (hW : KW W) => show Calls Tryd.prog 45 #[.string ⟨tx.toArray⟩] W fun e w' => e = .returned (.bool false) ∧ Below W.heap.size W w' by rw [← e1]; exact named_any ⟨tx.toArray⟩ W hW)
      clear e1 HD
      go_enter Tryd.func61, Tryd.ntmps61
      go_wp2_with (go_at_call 45; (with_reducible refine (HC.out _ (HW.out.step HB0.out)).mono ?_); rintro e w1 ⟨rfl, hb1⟩; have HB1 := Lib.hid hb1; clear hb1)
      go_ret
      exact ⟨by rw [← HQ.out]; rfl, HB0.out.trans (HB1.out.mono HB0.out.size)⟩
  by_cases h24 : k = 24
  · subst h24
    obtain ⟨r0, r1, r2, r3, q0, q1, q2, q3⟩ := box4 HX0.out
    have HD : ∀ D, namedP tx = D → (if D = true then -1 else -2) = R := by intro D e1; rw [← HR.out, ← e1]; simp [operandsP]
    cases e1 : namedP tx with
    | true =>
      have HQ := Lib.hid (show -1 = R by rw [← HD true e1]; rfl)
      have HC := Lib.hid (fun W (hW : KW W) => show Calls Tryd.prog 45 #[.string ⟨tx.toArray⟩] W fun e w' => e = .returned (.bool true) ∧ Below W.heap.size W w' by rw [← e1]; exact named_any ⟨tx.toArray⟩ W hW)
      clear e1 HD
      go_enter Tryd.func61, Tryd.ntmps61
      go_wp2_with (go_at_call 45; (with_reducible refine (HC.out _ (HW.out.step HB0.out)).mono ?_); rintro e w1 ⟨rfl, hb1⟩; have HB1 := Lib.hid hb1; clear hb1)
      go_ret
      exact ⟨by rw [← HQ.out]; rfl, HB0.out.trans (HB1.out.mono HB0.out.size)⟩
    | false =>
      have HQ := Lib.hid (show -2 = R by rw [← HD false e1]; rfl)
      have HC := Lib.hid (fun W (hW : KW W) => show Calls Tryd.prog 45 #[.string ⟨tx.toArray⟩] W fun e w' => e = .returned (.bool false) ∧ Below W.heap.size W w' by rw [← e1]; exact named_any ⟨tx.toArray⟩ W hW)
      clear e1 HD
      go_enter Tryd.func61, Tryd.ntmps61
      go_wp2_with (go_at_call 45; (with_reducible refine (HC.out _ (HW.out.step HB0.out)).mono ?_); rintro e w1 ⟨rfl, hb1⟩; have HB1 := Lib.hid hb1; clear hb1)
      go_ret
      exact ⟨by rw [← HQ.out]; rfl, HB0.out.trans (HB1.out.mono HB0.out.size)⟩
  have HQ := Lib.hid (show -2 = R by rw [← HR.out]; simp [operandsP, h13, h14, h17, h18, h19, h15, h16, h20, h21, h22, h23, h24])
  obtain ⟨r0, r1, r2, r3, q0, q1, q2, q3⟩ := box4 HX0.out
  go_enter Tryd.func61, Tryd.ntmps61
  go_wp2_with fail
  go_ret
  exact ⟨by rw [← HQ.out]; rfl, HB0.out⟩
end Go.Proofs.YtogkiifljdnjgaaDoor
