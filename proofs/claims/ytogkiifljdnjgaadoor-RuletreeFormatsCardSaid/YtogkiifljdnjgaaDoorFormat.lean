/- The walk of Format. Conditions: bounds on size and texts. -/
import Derived.Test.YtogkiifljdnjgaaDoorLine
namespace Go.Proofs.YtogkiifljdnjgaaDoor
open Go.RowKit
set_option linter.unusedVariables false
set_option linter.unusedSimpArgs false

theorem line_ok (n : Nat) (HL : LineC 49 stOK lineP n) (HB : LineC 74 blOK braceP n) : LineC 49 stOK lineP (n + 1) := by
  intro t F w v bl ht hd hs hsh hok hbl
  obtain ⟨k, tx, ks, l⟩ := t
  rcases ks with _ | ⟨e, _ | ⟨b, _ | ⟨x, _ | ⟨y, r⟩⟩⟩⟩
  · rw [stOK_0] at hok
    by_cases h6 : k = 6
    · subst h6
      exact line_6 n tx l F w v bl ht hd hs hsh hbl (by simpa [head0] using hok)
    by_cases h10 : k = 10
    · subst h10
      exact line_10 n tx l F w v bl ht hd hs hsh hbl
    by_cases h11 : k = 11
    · subst h11
      exact line_11 n tx l F w v bl ht hd hs hsh hbl
    simp [head0, h6, h10, h11] at hok
  · rw [stOK_1, Bool.and_eq_true] at hok
    obtain ⟨hh, he⟩ := hok
    by_cases h3 : k = 3
    · subst h3
      exact line_3 n tx e l F w v bl ht hd hs hsh hbl he
    by_cases h4 : k = 4
    · subst h4
      exact line_4 n tx e l F w v bl ht hd hs hsh hbl he
    by_cases h5 : k = 5
    · subst h5
      exact line_5 n tx e l F w v bl ht hd hs hsh hbl he (by simpa [head1] using hh)
    by_cases h7 : k = 7
    · subst h7
      exact line_7 n tx e l F w v bl ht hd hs hsh hbl he
    by_cases h8 : k = 8
    · subst h8
      exact line_8 n tx e l F w v bl ht hd hs hsh hbl he
    by_cases h9 : k = 9
    · subst h9
      exact line_9 n tx e l F w v bl ht hd hs hsh hbl he
    simp [head1, h3, h4, h5, h7, h8, h9] at hh
  · rw [stOK_2, Bool.and_eq_true, Bool.and_eq_true] at hok
    obtain ⟨hh, he, hb⟩ := hok
    have h2 : k = 2 := by simp [headI] at hh; exact hh.1
    subst h2
    exact line_if2 n HB tx e b l F w v bl ht hd hs hsh hbl he hb
  · rw [stOK_3, Bool.and_eq_true, Bool.and_eq_true, Bool.and_eq_true] at hok
    obtain ⟨hh, he, hb, hx⟩ := hok
    have h2 : k = 2 := by simp [headI] at hh; exact hh.1
    subst h2
    by_cases hxk : x.kind = 2
    · refine line_if3l n HB HL tx e b x l F w v bl ht hd hs hsh hbl he hb hxk ?_
      cases hbx : blOK x with
      | false => rw [hbx] at hx; simpa [hxk] using hx
      | true =>
        obtain ⟨k', tx', ks', l'⟩ := x
        rw [blOK_node] at hbx
        simp [Tree.kind] at hxk
        simp [hxk] at hbx
    · refine line_if3b n HB HL tx e b x l F w v bl ht hd hs hsh hbl he hb hxk ?_
      simpa [hxk] using hx
  · rw [stOK_4 (by simp)] at hok
    cases hok
theorem line_all : ∀ n, LineC 49 stOK lineP n ∧ LineC 74 blOK braceP n
  | 0 => ⟨fun t F w v bl ht hd => by have := depth_pos t; omega, fun t F w v bl ht hd => by have := depth_pos t; omega⟩
  | n + 1 => ⟨line_ok n (line_all n).1 (line_all n).2, braces_ok n (lines_ok n (line_all n).1)⟩
/-- What Format gives: the text, and the error's number. -/
def fmtP (t : Tree) : List UInt8 × Nat := if validP t = true then (if (linesP t.kids []).length ≤ 4096 then (linesP t.kids [], 0) else ([], 5)) else ([], 2)
set_option maxRecDepth 20000 in
set_option maxHeartbeats 1000000 in
theorem format_any (t : Tree) (F : Nat → Prop) (w : World) (v : Value) (ht : IsT w F t v) (hw : KW w) (hs : sizeT t ≤ 1000000000) (hsh : shortT t) :
    Calls Tryd.prog 19 #[v] w fun e w' => e = .returned (.tuple #[.string ⟨(fmtP t).1.toArray⟩, errV (fmtP t).2]) ∧ Below w.heap.size w w' := by
  have HVAL := Lib.hid (fun W hW => valid_any t F W v (ht.step hW) (hw.step hW) hs hsh)
  have hpair : ∀ ks : List Tree, ∀ kv, IsKids w F ks kv → stsOK ks = true → sizeL ks ≤ 1000 → depthL ks ≤ 100 → shortL ks → ∀ W, Below w.heap.size w W → Calls Tryd.prog 38 #[kv, .string ⟨#[]⟩] W fun e w' => e = .returned (.string ⟨(linesP ks []).toArray⟩) ∧ Below W.heap.size W w' :=
    fun ks kv hk h1 h2 h3 h4 W hW => lines_ok 100 (line_all 100).1 ks F W kv [] (hk.step hW) h3 h2 h4 h1 (by simp; omega)
  obtain ⟨k, tx, ks, l⟩ := t
  obtain ⟨kv, rfl, hks⟩ := isT_node.1 ht
  obtain ⟨a, c, rfl⟩ : ∃ a c, kv = .slice a ks.length c := by
    obtain ⟨a, c, hv, _⟩ := hks
    exact ⟨a, c, hv⟩
  have HB0 := Lib.hid (bel_new w (.cells #[.int .i64 k, .string ⟨tx.toArray⟩, .slice a ks.length c, .int .i64 l] 32))
  have HX0 := Lib.hid (heap_alloc_new w (.cells #[.int .i64 k, .string ⟨tx.toArray⟩, .slice a ks.length c, .int .i64 l] 32))
  obtain ⟨r0, r1, r2, r3, q0, q1, q2, q3⟩ := box4 HX0.out
  cases hv : validP (.node k tx ks l) with
  | false =>
    have HQ := Lib.hid (show fmtP (.node k tx ks l) = ([], 2) by unfold fmtP; rw [hv]; rfl)
    rw [hv] at HVAL
    rw [HQ.out]
    clear hv hpair hks ht hs hsh hw
    generalize ks.length = N at *
    go_enter Tryd.func19, Tryd.ntmps19
    go_wp2_with (first | (go_at_call 16; (with_reducible refine (HVAL.out _ HB0.out).mono ?_); rintro e1 w1 ⟨rfl, hb⟩; have HB1 := Lib.hid (HB0.out.trans (hb.mono HB0.out.size)); clear hb))
    go_ret2
    exact ⟨rfl, HB1.out⟩
  | true =>
    have hfm : fmtP (.node k tx ks l) = if (linesP ks []).length ≤ 4096 then (linesP ks [], 0) else ([], 5) := by unfold fmtP; rw [hv]; rfl
    rw [hv] at HVAL
    rw [validP_node] at hv
    simp only [Bool.and_eq_true, decide_eq_true_eq] at hv
    obtain ⟨⟨-, -, hv1, hv2⟩, hv3⟩ := hv
    rw [sizeT_node] at hv1
    rw [depthT_node] at hv2
    rw [shortT_node] at hsh
    have HLI := Lib.hid (hpair ks _ hks hv3 (by omega) (by omega) hsh.2)
    have hlen := linesP_len ks [] hsh.2 (by simp; omega)
    obtain ⟨S, hS⟩ : ∃ S : ByteArray, S = ⟨(linesP ks []).toArray⟩ := ⟨_, rfl⟩
    have hSz : S.size = (linesP ks []).length := by rw [hS]; show (linesP ks []).toArray.size = _; simp
    rw [← hS] at HLI
    have hS1 : S.size ≤ 703000000 := by omega
    have hSi : (S.size : Int) ≤ 703000000 := by omega
    generalize hN : ks.length = N at *
    by_cases hl : S.size ≤ 4096
    · rw [hfm, if_pos (by omega)]
      have hli : ¬ (4096 : Int) < (S.size : Int) := by omega
      have hln : ¬ 4096 < S.size := by omega
      have HS := Lib.hid hS
      clear hv1 hv2 hv3 hsh hpair hks ht hs hw hlen hfm hS hSz hN
      go_enter Tryd.func19, Tryd.ntmps19
      go_wp2_with (first | (go_at_call 16; (with_reducible refine (HVAL.out _ HB0.out).mono ?_); rintro e1 w1 ⟨rfl, hb⟩; have HB1 := Lib.hid (HB0.out.trans (hb.mono HB0.out.size)); have HX1 := Lib.hid (keep_blk hb HX0.out); obtain ⟨s0, s1, s2, s3, z0, z1, z2, z3⟩ := box4 HX1.out; clear hb) | (go_at_call 38; (with_reducible refine (HLI.out _ HB1.out).mono ?_); rintro e1 w2 ⟨rfl, hb⟩; have HB2 := Lib.hid (HB1.out.trans (hb.mono HB1.out.size)); clear hb))
      go_ret2
      exact ⟨by rw [← HS.out]; rfl, HB2.out⟩
    · rw [hfm, if_neg (by omega)]
      have hli : (4096 : Int) < (S.size : Int) := by omega
      have hln : 4096 < S.size := by omega
      clear hv1 hv2 hv3 hsh hpair hks ht hs hw hlen hfm hS hSz hN
      go_enter Tryd.func19, Tryd.ntmps19
      go_wp2_with (first | (go_at_call 16; (with_reducible refine (HVAL.out _ HB0.out).mono ?_); rintro e1 w1 ⟨rfl, hb⟩; have HB1 := Lib.hid (HB0.out.trans (hb.mono HB0.out.size)); have HX1 := Lib.hid (keep_blk hb HX0.out); obtain ⟨s0, s1, s2, s3, z0, z1, z2, z3⟩ := box4 HX1.out; clear hb) | (go_at_call 38; (with_reducible refine (HLI.out _ HB1.out).mono ?_); rintro e1 w2 ⟨rfl, hb⟩; have HB2 := Lib.hid (HB1.out.trans (hb.mono HB1.out.size)); clear hb))
      go_ret2
      exact ⟨rfl, HB2.out⟩
end Go.Proofs.YtogkiifljdnjgaaDoor
