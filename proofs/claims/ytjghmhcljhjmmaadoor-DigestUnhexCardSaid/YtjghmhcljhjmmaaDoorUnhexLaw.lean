/- The walk of the law DigestUnhex: it returns true wherever the constants lie as the program's text lays them. -/
import Derived.Test.YtjghmhcljhjmmaaDoorSums
import Derived.Test.YtjghmhcljhjmmaaDoorUnhexW
import Derived.Test.YtjghmhcljhjmmaaDoorRHex
namespace Go.Proofs.YtjghmhcljhjmmaaDoor
open Go.RowKit
set_option linter.unusedVariables false
set_option linter.unusedSimpArgs false

/-- A hexadecimal digit. -/
def isD (c : UInt8) : Bool := (decide (48 ≤ (c.toNat : Int)) && decide ((c.toNat : Int) ≤ 57)) || (decide (97 ≤ (c.toNat : Int)) && decide ((c.toNat : Int) ≤ 102))
theorem isD_all : ∀ n : Fin 256, isD (UInt8.ofNat n.val) = (digN (UInt8.ofNat n.val)).isSome := by decide +kernel
theorem isD_dig (c : UInt8) : isD c = (digN c).isSome := by
  have h := isD_all ⟨c.toNat, c.toNat_lt⟩
  simpa using h
theorem hex_unhex : ∀ (n : Nat) (l b : List UInt8), l.length ≤ n → unhexP l = some b → hexP b = l
  | _, [], b, _, h => by
    simp only [unhexP, Option.some.injEq] at h
    subst h
    rfl
  | _, [_], b, _, h => by simp [unhexP] at h
  | 0, _ :: _ :: _, b, hn, _ => by simp at hn
  | n + 1, x :: y :: r, b, hn, h => by
    rw [unhexP] at h
    cases hp : digN x with
    | none => rw [hp] at h; simp at h
    | some p =>
      cases hq : digN y with
      | none => rw [hp, hq] at h; simp at h
      | some q =>
        cases hr : unhexP r with
        | none => rw [hp, hq, hr] at h; simp at h
        | some t =>
          rw [hp, hq, hr] at h
          simp only [Option.some.injEq] at h
          subst h
          have ih := hex_unhex n r t (by simp at hn; omega) hr
          have h1 := digN_lt hp
          have h2 := digN_lt hq
          have e1 : hexP (UInt8.ofNat (16 * p + q) :: t) = hexD ((UInt8.ofNat (16 * p + q)).toNat / 16) :: hexD ((UInt8.ofNat (16 * p + q)).toNat % 16) :: hexP t := rfl
          have e2 : (UInt8.ofNat (16 * p + q)).toNat = 16 * p + q := by rw [UInt8.toNat_ofNat']; omega
          rw [e1, e2, ih, show (16 * p + q) / 16 = p by omega, show (16 * p + q) % 16 = q by omega, ← digN_digit hp, ← digN_digit hq]
theorem unhex_some : ∀ (n : Nat) (l : List UInt8), l.length ≤ n → (unhexP l).isSome = (decide (l.length % 2 = 0) && l.all isD)
  | _, [], _ => rfl
  | _, [_], _ => by simp [unhexP]
  | 0, _ :: _ :: _, hn => by simp at hn
  | n + 1, x :: y :: r, hn => by
    have ih := unhex_some n r (by simp at hn; omega)
    have hl : decide ((x :: y :: r).length % 2 = 0) = decide (r.length % 2 = 0) := by
      simp only [List.length_cons]
      congr 1
      apply propext
      omega
    rw [hl, List.all_cons, List.all_cons, isD_dig x, isD_dig y, unhexP]
    cases digN x with
    | none => simp
    | some p =>
      cases digN y with
      | none => simp
      | some q =>
        cases hr : unhexP r with
        | none => rw [hr] at ih; simp at ih ⊢; exact fun h => by simpa using ih h
        | some t => rw [hr] at ih; simpa using ih
theorem all_snoc (l : List UInt8) (k : Nat) (h : k < l.length) : (l.take (k + 1)).all isD = ((l.take k).all isD && isD l[k]) := by
  rw [List.take_succ_eq_append_getElem h, List.all_append]
  simp
theorem assert_errno (n : Int) (w : World) : (Instr.typeAssert (.iface 45 (.int .i64 n)) 41 45 true).run Tryd.prog w = .ok (.tuple #[.int .i64 n, .bool true]) w := by kernel_rfl
theorem num_form (w : World) : Calls Tryd.prog 32 #[.iface 45 (.int .i64 2)] w fun e w' => e = .returned (.int .i64 2) ∧ w = w' := by
  have h := assert_errno 2
  go_enter Tryd.func32, Tryd.ntmps32
  go_wp2_with fail
  go_ret
  exact ⟨rfl, rfl⟩
theorem is_form (w : World) : Calls Tryd.prog 24 #[.iface 45 (.int .i64 2), .int .i64 2] w fun e w' => e = .returned (.bool true) ∧ w = w' := by
  go_enter Tryd.func24, Tryd.ntmps24
  go_wp2_with (go_at_call 32; refine (num_form _).mono ?_; rintro e w' ⟨rfl, rfl⟩)
  go_ret
  exact ⟨rfl, rfl⟩
set_option maxRecDepth 20000 in
set_option maxHeartbeats 4000000 in
theorem unhexlaw_walk (s : ByteArray) (w : World) (hk : KW w) (hs : s.size ≤ 140737488351232) : Calls Tryd.prog 9 #[.string s] w fun e w' => e = .returned (.bool true) ∧ Below w.heap.size w w' := by
  have HK := Lib.hid hk
  clear hk
  by_cases hlt : s.size ≤ 1000
  · have hl : s.data.toList.length = s.size := by rw [Array.length_toList]; rfl
    have HSM := Lib.hid (unhex_some _ s.data.toList (Nat.le_refl _))
    rw [hl] at HSM
    have HUN := Lib.hid (fun (W : World) => unhex_any s W hs)
    have HHX := Lib.hid (fun b (h : unhexP s.data.toList = some b) => hex_unhex _ s.data.toList b (Nat.le_refl _) h)
    have HSN := Lib.hid (fun k h => all_snoc s.data.toList k h)
    have HLN := Lib.hid hl
    clear hl hs
    generalize unhexP s.data.toList = U at *
    obtain ⟨E, hE⟩ : ∃ E, E = ((s.size : Int) % 2 == 0) := ⟨_, rfl⟩
    have hE2 : decide (s.size % 2 = 0) = E := by rw [hE, Bool.eq_iff_iff]; simp; omega
    rw [hE2] at HSM
    clear hE2
    go_enter Tryd.func9, Tryd.ntmps9
    go_wp2_with (go_at_call 11; refine (awake_any _ HK.out).mono ?_; rintro e w1 ⟨rfl, hb1⟩; have HB1 := Lib.hid hb1; clear hb1)
    rw [← hE]
    clear hE
    go_loop [3, 21] (fun o i => ∃ k : Nat, i = .int .i64 k ∧ k ≤ s.size ∧ o = .bool (E && (s.data.toList.take k).all isD)) (fun _ i => s.size - (intOf i).toNat)
    case atStart => exact ⟨0, rfl, Nat.zero_le _, by simp⟩
    case round =>
      obtain ⟨k, rfl, hk, rfl⟩ := hrel
      by_cases hlk : k < s.size
      · obtain ⟨c, hc⟩ : ∃ c, c = s[k] := ⟨_, rfl⟩
        have hi1 : ∀ W, (Instr.index 9 (.string s) (.int .i64 (k : Int))).run Tryd.prog W = .ok (.int .u8 (c.toNat : Int)) W := by
          intro W
          rw [hc]
          go_simp
        have hn := HSN.out k (by rw [HLN.out]; exact hlk)
        rw [show s.data.toList[k]'(by rw [HLN.out]; exact hlk) = c from hc.symm] at hn
        have HN := Lib.hid (show (E && (s.data.toList.take (k + 1)).all isD) = ((E && (s.data.toList.take k).all isD) && isD c) by rw [hn, Bool.and_assoc])
        clear hn hc
        generalize (E && (s.data.toList.take k).all isD) = q at *
        cases q
        · go_wp2_with fail
          go_round
          case rel => exact ⟨k + 1, by go_num, by omega, by rw [HN.out]; rfl⟩
          case measure => simp [intOf]; omega
        · by_cases a1 : 48 ≤ (c.toNat : Int)
          all_goals by_cases a2 : (c.toNat : Int) ≤ 57
          all_goals by_cases a3 : 97 ≤ (c.toNat : Int)
          all_goals by_cases a4 : (c.toNat : Int) ≤ 102
          all_goals first | (exfalso; omega) | skip
          all_goals
            have HD := Lib.hid (show isD c = ((decide (48 ≤ (c.toNat : Int)) && decide ((c.toNat : Int) ≤ 57)) || (decide (97 ≤ (c.toNat : Int)) && decide ((c.toNat : Int) ≤ 102))) from rfl)
            go_wp2_with fail
            go_round
            case rel => exact ⟨k + 1, by go_num, by omega, by rw [HN.out, HD.out]; simp [a1, a2, a3, a4]⟩
            case measure => simp [intOf]; omega
      · obtain rfl : k = s.size := by omega
        have hS : (E && (s.data.toList.take s.size).all isD) = U.isSome := by
          rw [HSM.out, List.take_of_length_le (by rw [HLN.out]; exact Nat.le_refl _)]
        rw [hS]
        clear hS
        cases U with
        | none =>
          have hn : (none : Option (List UInt8)).isSome = false := rfl
          rw [hn]
          go_wp2_with (first | (go_at_call 22; refine (HUN.out _).mono ?_; rintro e w3 ⟨rfl, hb3⟩; have HB3 := Lib.hid (bel_step HB1.out hb3); clear hb3) | (go_at_call 24; refine (is_form _).mono ?_; rintro e w4 ⟨rfl, rfl⟩))
          go_ret
          exact ⟨rfl, HB3.out⟩
        | some l =>
          have hn : (some l).isSome = true := rfl
          rw [hn]
          have hx := HHX.out l rfl
          have hll : l.length ≤ 1000 := by
            have h := congrArg List.length hx
            rw [hex_len, HLN.out] at h
            omega
          have HG := Lib.hid (fun (u : Value) (W : World) (h : IsB W u l) => show Calls Tryd.prog 21 #[u] W (fun e w' => e = .returned (.string s) ∧ Below W.heap.size W w') by
            have h2 := hex_any u l W h (by omega)
            rw [hx] at h2
            have e : (⟨s.data.toList.toArray⟩ : ByteArray) = s := by cases s; simp
            rwa [e] at h2)
          clear hx hn
          go_wp2_with (first | (go_at_call 22; refine (HUN.out _).mono ?_; rintro e w3 ⟨v3, rfl, ho3, hb3⟩; have HO3 := Lib.hid ho3.isB; have HB3 := Lib.hid (bel_step HB1.out hb3); clear ho3 hb3) | (go_at_call 21; refine (HG.out v3 _ HO3.out).mono ?_; rintro e w4 ⟨rfl, hb4⟩; have HB4 := Lib.hid (bel_step HB3.out hb4); clear hb4))
          go_ret
          exact ⟨rfl, HB4.out⟩
  · go_enter Tryd.func9, Tryd.ntmps9
    go_wp2_with (first | (go_at_call 11; with_reducible refine (awake_any w HK.out).mono ?_; rintro e w1 ⟨rfl, hb1⟩; have HB1 := Lib.hid hb1; clear hb1) | (go_at_call 11; refine (awake_any _ (HK.out.step HB1.out)).mono ?_; rintro e w2 ⟨rfl, hb2⟩; have HB2 := Lib.hid (bel_step HB1.out hb2); clear hb2))
    go_ret
    exact ⟨rfl, HB2.out⟩
end Go.Proofs.YtjghmhcljhjmmaaDoor
