/- The walk of the law DigestEqual: it returns true wherever the constants lie as the program's text lays them. -/
import Derived.Test.YtjghmhcljhjmmaaDoorSums
import Derived.Test.YtjghmhcljhjmmaaDoorHmac
namespace Go.Proofs.YtjghmhcljhjmmaaDoor
open Go.RowKit Go.Joins
set_option linter.unusedVariables false
set_option linter.unusedSimpArgs false

def jefe : List UInt8 := [74, 101, 102, 101]
def what : List UInt8 := [119, 104, 97, 116, 32, 100, 111, 32, 121, 97, 32, 119, 97, 110, 116, 32, 102, 111, 114, 32, 110, 111, 116, 104, 105, 110, 103, 63]
def jefeH : List UInt8 := [53, 98, 100, 99, 99, 49, 52, 54, 98, 102, 54, 48, 55, 53, 52, 101, 54, 97, 48, 52, 50, 52, 50, 54, 48, 56, 57, 53, 55, 53, 99, 55, 53, 97, 48, 48, 51, 102, 48, 56, 57, 100, 50, 55, 51, 57, 56, 51, 57, 100, 101, 99, 53, 56, 98, 57, 54, 52, 101, 99, 51, 56, 52, 51]
theorem jefe_sha : hexP (hmacP jefe what) = jefeH := by decide +kernel
theorem write_nil (u : Value) (w : World) : Calls Tryd.prog 17 #[.pointer none, u] w fun e w' => e = .returned (.tuple #[]) ∧ w = w' := by
  go_enter Tryd.func17, Tryd.ntmps17
  go_wp2
  try simp only [Exit.inBlock, Exit.then]
  exact bodyPost_ret (results_none rfl _ _ _) rfl ⟨rfl, rfl⟩
theorem hsum_nil (w : World) : Calls Tryd.prog 18 #[.pointer none] w fun e w' => e = .returned (.slice none 0 0) ∧ w = w' := by
  go_enter Tryd.func18, Tryd.ntmps18
  go_wp2
  go_ret
  exact ⟨rfl, rfl⟩
/-- A byte of one's own, changed. -/
theorem OwnO.set {w : World} {base g off n cap : Nat} {l : List UInt8} (h : OwnO w base (.slice (some ⟨g, off, none⟩) n cap) l) (i : Nat) (y : UInt8) (hi : i < l.length) :
    OwnO (w.setCell ⟨g, off + i, none⟩ (bcell y)) base (.slice (some ⟨g, off, none⟩) n cap) (l.set i y) ∧ base ≤ g := by
  rcases h with ⟨rfl, _⟩ | ⟨g', off', cap', c, hv, hb, h3, h1, h2, h4, h5⟩
  · simp at hi
  · simp only [Value.slice.injEq, Option.some.injEq, Addr.mk.injEq] at hv
    obtain ⟨⟨rfl, rfl, _⟩, rfl, rfl⟩ := hv
    refine ⟨.inr ⟨g, off, cap, c.set (off + i) (bcell y), by rw [List.length_set], hb, h3.set (off + i) (bcell y), by rw [List.length_set]; exact h1, h2, by rw [List.length_set]; exact h4, fun j x hj => ?_⟩, hb⟩
    rw [List.getElem?_set] at hj ⊢
    by_cases hij : i = j
    · subst hij
      rw [if_pos rfl, if_pos hi] at hj
      injection hj with hj
      subst hj
      rw [if_pos rfl, if_pos (by omega)]
    · rw [if_neg hij] at hj
      rw [if_neg (by omega)]
      exact h5 j x hj
theorem set_ne (l : List UInt8) (i : Nat) (y : UInt8) (hi : i < l.length) (h : l[i] ≠ y) : l ≠ l.set i y := by
  intro e
  have h2 := congrArg (fun m : List UInt8 => m[i]?) e
  simp only [List.getElem?_set, if_true, if_pos hi, List.getElem?_eq_getElem hi, Option.some.injEq] at h2
  exact h h2
theorem xor_ne (c x : UInt8) (h : x ≠ 0) : c ≠ c ^^^ x := by
  intro e
  apply h
  have h2 : c ^^^ c = c ^^^ (c ^^^ x) := congrArg (c ^^^ ·) e
  rw [← UInt8.xor_assoc, UInt8.xor_self, UInt8.zero_xor] at h2
  exact h2.symm
/-- 'a[1:]'. -/
theorem IsB.cut1 {w : World} {n : Nat} {a : Option Addr} {cap : Nat} {l : List UInt8} (h : IsB w (.slice a n cap) l) (hn : n = l.length) (h1 : 1 ≤ n) :
    ∃ g off, a = some ⟨g, off, none⟩ ∧ (cap ≠ 1 → IsB w (.slice (some ⟨g, off + 1, none⟩) (n - 1) (cap - 1)) (l.drop 1)) ∧ (cap = 1 → IsB w (.slice (some ⟨g, off, none⟩) 0 0) (l.drop 1)) := by
  subst hn
  rcases h with ⟨rfl, _⟩ | ⟨hne, b, off, cap', hv, g1, g2, hc⟩
  · simp at h1
  · simp only [Value.slice.injEq] at hv
    obtain ⟨rfl, _, rfl⟩ := hv
    refine ⟨b, off, rfl, fun hc64 => ?_, fun hc64 => ?_⟩
    · by_cases h0 : l.drop 1 = []
      · have hl : l.length = 1 := by have := congrArg List.length h0; rw [List.length_drop, List.length_nil] at this; omega
        rw [h0, hl]
        exact IsB.empty w _ _ (by omega) (fun h => by cases h)
      · refine .inr ⟨h0, b, off + 1, cap - 1, by rw [List.length_drop], by rw [List.length_drop]; omega, by omega, fun i c hi => ?_⟩
        rw [List.getElem?_drop] at hi
        have := hc (1 + i) c hi
        rwa [← Nat.add_assoc] at this
    · have hl : l.drop 1 = [] := List.eq_nil_of_length_eq_zero (by rw [List.length_drop]; omega)
      rw [hl]
      exact IsB.empty w _ _ (Nat.zero_le _) (fun h => by cases h)
theorem drop_ne (l : List UInt8) (h : 1 ≤ l.length) : l ≠ l.drop 1 := by
  intro e
  have := congrArg List.length e
  rw [List.length_drop] at this
  omega
theorem equal_yes (u v : Value) (a : List UInt8) (w : World) (ha : IsB w u a) (hb : IsB w v a) : Calls Tryd.prog 25 #[u, v] w fun e w' => e = .returned (.bool true) ∧ w = w' := by
  have := equal_any u v a a w ha hb
  rwa [decide_eq_true rfl] at this
theorem equal_no (u v : Value) (a b : List UInt8) (w : World) (ha : IsB w u a) (hb : IsB w v b) (h : a ≠ b) : Calls Tryd.prog 25 #[u, v] w fun e w' => e = .returned (.bool false) ∧ w = w' := by
  have := equal_any u v a b w ha hb
  rwa [decide_eq_false h] at this
theorem hex_jefe (v : Value) (w : World) (hv : IsB w v (hmacP jefe what)) : Calls Tryd.prog 21 #[v] w fun e w' => e = .returned (.string ⟨#[53, 98, 100, 99, 99, 49, 52, 54, 98, 102, 54, 48, 55, 53, 52, 101, 54, 97, 48, 52, 50, 52, 50, 54, 48, 56, 57, 53, 55, 53, 99, 55, 53, 97, 48, 48, 51, 102, 48, 56, 57, 100, 50, 55, 51, 57, 56, 51, 57, 100, 101, 99, 53, 56, 98, 57, 54, 52, 101, 99, 51, 56, 52, 51]⟩) ∧ Below w.heap.size w w' := by
  refine (hex_any v _ w hv (by rw [show (hmacP jefe what).length = 32 from rfl]; omega)).mono ?_
  rintro e w' ⟨rfl, hb⟩
  rw [jefe_sha]
  exact ⟨rfl, hb⟩
abbrev jefeC : Array Value := #[.int .u8 74, .int .u8 101, .int .u8 102, .int .u8 101]
abbrev whatC : Array Value := #[.int .u8 119, .int .u8 104, .int .u8 97, .int .u8 116, .int .u8 32, .int .u8 100, .int .u8 111, .int .u8 32, .int .u8 121, .int .u8 97, .int .u8 32, .int .u8 119, .int .u8 97, .int .u8 110, .int .u8 116, .int .u8 32, .int .u8 102, .int .u8 111, .int .u8 114, .int .u8 32, .int .u8 110, .int .u8 111, .int .u8 116, .int .u8 104, .int .u8 105, .int .u8 110, .int .u8 103, .int .u8 63]
/-- The two constants' rows. -/
theorem jefe_rows (w : World) : IsB ((w.alloc (.cells jefeC 5 (4, 5))).alloc (.cells whatC 5 (28, 29))) (.slice (some ⟨w.heap.size, 0, none⟩) 4 4) jefe ∧ IsB ((w.alloc (.cells jefeC 5 (4, 5))).alloc (.cells whatC 5 (28, 29))) (.slice (some ⟨w.heap.size + 1, 0, none⟩) 28 28) what ∧ Below w.heap.size w ((w.alloc (.cells jefeC 5 (4, 5))).alloc (.cells whatC 5 (28, 29))) := by
  have h1 : IsB (w.alloc (.cells jefeC 5 (4, 5))) (.slice (some ⟨w.heap.size, 0, none⟩) 4 4) jefe := IsB.row w (4, 5) jefe (by decide) (by decide)
  have h2 := IsB.row (w.alloc (.cells jefeC 5 (4, 5))) (28, 29) what (by decide) (by decide)
  have hs : (w.alloc (.cells jefeC 5 (4, 5))).heap.size = w.heap.size + 1 := by simp [go_sem]
  rw [hs] at h2
  exact ⟨h1.step (bel_new _ _), h2, bel_step (bel_new w _) (bel_new _ _)⟩
set_option maxRecDepth 20000 in
set_option maxHeartbeats 4000000 in
theorem equallaw_walk (u v : Value) (a b : List UInt8) (z : Int) (w : World) (hk : KW w) (hu : IsB w u a) (hv : IsB w v b) (hku : a.length ≤ 140737488351232) (hkv : b.length ≤ 140737488351232) (hz : 0 ≤ z ∧ z < 256) :
    Calls Tryd.prog 10 #[u, v, .int .u8 z] w fun e w' => e = .returned (.bool true) ∧ Below w.heap.size w w' := by
  have HK := Lib.hid hk
  have HU := Lib.hid hu
  have HV := Lib.hid hv
  obtain ⟨hz0, hz1⟩ := hz
  obtain ⟨ua, uc, rfl, h1, h2, _⟩ := hu.shape
  obtain ⟨va, vc, rfl, h1', h2', _⟩ := hv.shape
  have h3 : (a.length : Int) ≤ 140737488355328 := by omega
  have h4 : (b.length : Int) ≤ 140737488355328 := by omega
  clear hk hv hu
  by_cases hlt : a.length + b.length ≤ 2000
  · have HL := Lib.hid (show a.length + b.length ≤ 2000 from hlt)
    have hli : ¬ (2000 : Int) < (a.length : Int) + (b.length : Int) := by omega
    go_enter Tryd.func10, Tryd.ntmps10
    go_upto_region 3 with (go_at_call 11; refine (awake_any _ HK.out).mono ?_; rintro e w1 ⟨rfl, hb1⟩; have HB1 := Lib.hid hb1; clear hb1)
    have kc := fun (C : Array Value) (n c : Nat) => Lib.run_convert_bytes_const (P := Tryd.prog) w1 22 5 C n c Tryd.underlying22 Tryd.underlying5
    have kc2 := fun (C : Array Value) (n c : Nat) => run_convert_bytes_const_at (P := Tryd.prog) (w1.alloc (.cells jefeC 5 (4, 5))) 22 5 C n c (w1.heap.size + 1) (by simp [go_sem]) Tryd.underlying22 Tryd.underlying5
    have HJ := Lib.hid (jefe_rows w1)
    generalize Value.slice ua a.length uc = u at *
    generalize Value.slice va b.length vc = v at *
    clear h1 h2 h1' h2' h3 h4 hli hlt hku hkv
    go_upto_region 6 with (first | (go_at_call 19; refine (hmac_any _ _ jefe what _ (HK.out.step (bel_step HB1.out HJ.out.2.2)) HJ.out.1 HJ.out.2.1 (by decide)).mono ?_; rintro e w2 ⟨v2, rfl, ho2, hb2⟩; have HO2 := Lib.hid ho2.isB; have HB2 := Lib.hid (bel_step (bel_step HB1.out HJ.out.2.2) hb2); clear ho2 hb2) | (go_at_call 21; refine (hex_jefe v2 _ HO2.out).mono ?_; rintro e w3 ⟨rfl, hb3⟩; have HB3 := Lib.hid (bel_step HB2.out hb3); clear hb3))
    have HO := Lib.hid (OwnB.made w3 w3.heap.size (Nat.le_refl _))
    have HU3 := Lib.hid ((HU.out.step HB3.out).step (bel_new w3 (.cells #[] 5)))
    have HB4 := Lib.hid (bel_step HB3.out (bel_new w3 (.cells #[] 5)))
    have hlb : 0 + a.length ≤ 140737488355328 := by have := HL.out; omega
    have hbs : w3.heap.size ≤ (w3.alloc (.cells #[] 5)).heap.size := by simp [go_sem]
    have HEQ := Lib.hid (fun (W : World) (h1 : IsB W u a) (h2 : IsB W v b) => equal_any u v a b W h1 h2)
    have HBQ := Lib.hid (fun (W : World) (h1 : IsB W u a) (h2 : IsB W v b) => bytes_any u v a b W h1 h2)
    generalize decide (a = b) = D at *
    clear kc kc2
    go_upto_region 10 with (first | (go_at_call 17; refine (write_nil _ _).mono ?_; rintro e w' ⟨rfl, rfl⟩) | (at_builtin; refine wpList_app rfl (.tmp 30) (.tmp 31) rfl w3.heap.size _ [] rfl HO.out _ a rfl HU3.out hlb hbs ?_; intro v5 w5 ho5 hb5 hs5 hn5; have HO5 := Lib.hid (show OwnB w5 w.heap.size v5 a from OwnB.mono ho5 HB3.out.size); have HB5 := Lib.hid (HB4.out.trans (hb5.mono HB3.out.size)); clear ho5 hb5 hs5 hn5) | (go_at_call 25; with_reducible refine (equal_yes u v5 a _ (HU.out.step HB5.out) HO5.out.isB).mono ?_; rintro e w' ⟨rfl, rfl⟩) | (go_at_call 18; refine (hsum_nil _).mono ?_; rintro e w' ⟨rfl, rfl⟩) | (go_at_call 25; with_reducible refine (HEQ.out _ (HU.out.step HB5.out) (HV.out.step HB5.out)).mono ?_; rintro e w' ⟨rfl, rfl⟩) | (go_at_call 13; with_reducible refine (HBQ.out _ (HU.out.step HB5.out) (HV.out.step HB5.out)).mono ?_; rintro e w' ⟨rfl, rfl⟩))
    obtain ⟨n, hn⟩ : ∃ n, n = a.length := ⟨_, rfl⟩
    have HN := Lib.hid hn
    by_cases hn0 : n = 0
    · obtain rfl : a = [] := List.eq_nil_of_length_eq_zero (by omega)
      obtain ⟨ka, kc, rfl, _, _, _⟩ := HO5.out.isB.shape
      clear hn hn0
      go_wp2_with (go_at_call 25; refine (equal_yes (.slice none 0 0) _ [] _ (IsB.nil _) HO5.out.isB).mono ?_; rintro e w' ⟨rfl, rfl⟩)
      go_ret
      exact ⟨rfl, HB5.out⟩
    · have hne : a ≠ [] := by intro h; rw [h] at hn; exact hn0 hn
      obtain ⟨g, kc, rfl, hgb, hgl⟩ := HO5.out.shape hne
      obtain ⟨i, hi⟩ : ∃ i : Nat, (i : Int) = z % (n : Int) := ⟨(z % (n : Int)).toNat, by have := Int.emod_nonneg z (show (n : Int) ≠ 0 by omega); omega⟩
      have hin : i < n := by have := Int.emod_lt_of_pos z (show (0 : Int) < (n : Int) by omega); omega
      obtain ⟨x, hx⟩ : ∃ x : UInt8, (x.toNat : Int) = 1 + z % 255 := ⟨UInt8.ofNat (1 + z % 255).toNat, by rw [UInt8.toNat_ofNat']; omega⟩
      have hx0 : x ≠ 0 := by
        intro h
        rw [h] at hx
        simp at hx
        omega
      obtain ⟨c, hc⟩ : ∃ c, a[i]? = some c := ⟨a[i]'(by omega), List.getElem?_eq_getElem _⟩
      have hcell : w5.cell? ⟨g, i, none⟩ = some (.int .u8 (c.toNat : Int)) := by
        rcases HO5.out.isB with ⟨h0, _⟩ | ⟨_, b', off', cap', he, _, _, hcl⟩
        · exact absurd h0 hne
        · simp only [Value.slice.injEq, Option.some.injEq, Addr.mk.injEq] at he
          obtain ⟨⟨rfl, rfl, _⟩, _, _⟩ := he
          have := hcl i c hc
          rwa [Nat.zero_add] at this
      have hfz : w5.frozen? ⟨g, i, none⟩ = false := by
        rcases HO5.out.ownO with ⟨h0, _⟩ | ⟨b', off', cap', cc, he, _, hvb, _⟩
        · exact absurd h0 hne
        · simp only [Value.slice.injEq, Option.some.injEq, Addr.mk.injEq] at he
          obtain ⟨⟨rfl, _, _⟩, _, _⟩ := he
          exact hvb.frozen i
      have hxx := xor_byte c x
      rw [hx] at hxx
      have HS := Lib.hid (HO5.out.ownO.set i (c ^^^ x) (by omega)).1
      rw [Nat.zero_add] at HS
      have HB6 := Lib.hid (HB5.out.setCell (p := ⟨g, i, none⟩) hgb (bcell (c ^^^ x)))
      have HU6 := Lib.hid (HU.out.step HB6.out)
      have HNE := Lib.hid (show a ≠ a.set i (c ^^^ x) by
        refine set_ne a i (c ^^^ x) (by omega) ?_
        obtain ⟨h1, h2⟩ := List.getElem?_eq_some_iff.1 hc
        rw [h2]
        exact xor_ne c x hx0)
      have hw := show bcell (c ^^^ x) = .int .u8 ((c ^^^ x).toNat : Int) from rfl
      rw [hw] at HS HB6 HU6
      rw [← hn] at HS ⊢
      have hi2 := hi.symm
      have hi0 : (0 : Int) ≤ (i : Int) := by omega
      have hin2 : (i : Int) < (n : Int) := by omega
      have hn1 : (n : Int) ≠ 0 := by omega
      have hnpos : (0 : Int) < (n : Int) := by omega
      have hnle : (n : Int) ≤ 2000 := by have := HL.out; omega
      clear hx0 hc hw hne hn hx hgl hi HO5 HEQ HBQ
      go_upto_region 13 with fail
      rw [← UInt8.toNat_xor]
      generalize w5.setCell ⟨g, i, none⟩ (.int .u8 ((c ^^^ x).toNat : Int)) = W6 at *
      clear hcell hfz hxx hi2
      obtain ⟨ua2, uc2, rfl, hua, hub, _⟩ := HU6.out.shape
      have hn2 : 1 ≤ a.length := by have := HN.out; omega
      obtain ⟨ug, uo, rfl, hd1, hd2⟩ := HU6.out.cut1 rfl hn2
      have HD1 := Lib.hid hd1
      have HD2 := Lib.hid hd2
      have HDN := Lib.hid (drop_ne a hn2)
      clear hd1 hd2
      have HCS := Lib.hid HS.out.isB
      clear HS
      rw [HN.out] at HCS ⊢
      by_cases hu1 : uc2 = 1
      · subst hu1
        have ha1 : a.length = 1 := by omega
        have HD := Lib.hid (HD2.out rfl)
        clear HD1 HD2
        rw [ha1] at HU6 HCS ⊢
        go_wp2_with (first | (go_at_call 25; with_reducible refine (equal_no _ _ a (a.set i (c ^^^ x)) _ HU6.out HCS.out HNE.out).mono ?_; rintro e w' ⟨rfl, rfl⟩) | (go_at_call 25; with_reducible refine (equal_no _ _ a (a.drop 1) _ HU6.out HD.out HDN.out).mono ?_; rintro e w' ⟨rfl, rfl⟩))
        go_ret
        exact ⟨rfl, HB6.out⟩
      · have HD := Lib.hid (HD1.out hu1)
        clear HD1 HD2
        go_wp2_with (first | (go_at_call 25; with_reducible refine (equal_no _ _ a (a.set i (c ^^^ x)) _ HU6.out HCS.out HNE.out).mono ?_; rintro e w' ⟨rfl, rfl⟩) | (go_at_call 25; with_reducible refine (equal_no _ _ a (a.drop 1) _ HU6.out HD.out HDN.out).mono ?_; rintro e w' ⟨rfl, rfl⟩))
        go_ret
        exact ⟨rfl, HB6.out⟩
  · have hli : (2000 : Int) < (a.length : Int) + (b.length : Int) := by omega
    go_enter Tryd.func10, Tryd.ntmps10
    go_wp2_with (first | (go_at_call 11; with_reducible refine (awake_any w HK.out).mono ?_; rintro e w1 ⟨rfl, hb1⟩; have HB1 := Lib.hid hb1; clear hb1) | (go_at_call 11; refine (awake_any _ (HK.out.step HB1.out)).mono ?_; rintro e w2 ⟨rfl, hb2⟩; have HB2 := Lib.hid (bel_step HB1.out hb2); clear hb2))
    go_ret
    exact ⟨rfl, HB2.out⟩
end Go.Proofs.YtjghmhcljhjmmaaDoor
