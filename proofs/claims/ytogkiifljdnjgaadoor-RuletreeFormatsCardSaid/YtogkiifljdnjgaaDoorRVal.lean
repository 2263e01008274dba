/- The walks of the reference's Valid and of what it calls. Conditions: bounds on size and texts. -/
import Derived.Test.YtogkiifljdnjgaaDoorRefLex
import Derived.Test.YtogkiifljdnjgaaDoorTokF
import Derived.Test.YtogkiifljdnjgaaDoorValidE
import Derived.Test.YtogkiifljdnjgaaDoorValidV
namespace Go.Proofs.YtogkiifljdnjgaaDoor
open Go.RowKit
set_option linter.unusedVariables false
set_option linter.unusedSimpArgs false

/-! ### What a token's text is -/
theorem word_tok : ∀ (s : List UInt8) (k : Nat) (l c : Int) (ts : List Tok), splitS s k l c = some ts → ∀ u ∈ ts, (u.kind = 1 → ∃ c r, u.text = c :: r ∧ letN c.toNat = true ∧ r.all wordB = true) ∧ (u.kind = 2 → ∃ c r, u.text = c :: r ∧ (c :: r).all digB = true ∧ (c :: r).length ≤ 9) := by
  intro s
  induction s with
  | nil =>
    intro k l c ts hs u hu
    cases k <;> simp only [splitS, Option.some.injEq] at hs <;> subst hs <;> obtain rfl := List.mem_singleton.1 hu <;> exact ⟨fun h => by simp at h, fun h => by simp at h⟩
  | cons x r ih =>
    intro k l c ts hs u hu
    cases k with
    | succ k => rw [splitS] at hs; exact ih _ _ _ _ hs u hu
    | zero =>
      rw [splitS] at hs
      split at hs
      · exact ih _ _ _ _ hs u hu
      split at hs
      · exact ih _ _ _ _ hs u hu
      split at hs
      · exact ih _ _ _ _ hs u hu
      split at hs
      · cases hs
      obtain ⟨ts', h', rfl⟩ := Option.map_eq_some_iff.1 hs
      rcases List.mem_cons.1 hu with rfl | hu
      · dsimp only
        cases hx : letN x.toNat with
        | true =>
          rw [tokP_word hx]
          exact ⟨fun _ => ⟨x, _, rfl, hx, takeWhile_all r⟩, fun h => by simp at h⟩
        | false =>
          cases hd : digN x.toNat with
          | true =>
            by_cases h9 : 9 < 1 + (r.takeWhile digB).length
            · rw [tokP_long hx hd h9]
              exact ⟨fun h => by simp at h, fun h => by simp at h⟩
            · rw [tokP_dig hx hd h9]
              refine ⟨fun h => by simp at h, fun _ => ⟨x, _, rfl, ?_, by simp only [List.length_cons]; omega⟩⟩
              rw [List.all_cons, takeWhile_all, show digB x = true from hd]
              rfl
          | false =>
            rw [tokP, if_neg (by rw [hx]; decide), if_neg (by rw [hd]; decide)]
            split
            · exact ⟨fun h => by simp at h, fun h => by simp at h⟩
            · split <;> exact ⟨fun h => by simp at h, fun h => by simp at h⟩
      · exact ih _ _ _ _ h' u hu
theorem split_num {c : UInt8} {r : List UInt8} (h : (c :: r).all digB = true) (hl : (c :: r).length ≤ 9) : splitT (c :: r) = some [⟨2, c :: r, 1, 1⟩, ⟨5, [], 1, 1 + ((r.length + 1 : Nat) : Int)⟩] := by
  rw [List.all_cons, Bool.and_eq_true] at h
  have hd : 48 ≤ c.toNat ∧ c.toNat ≤ 57 := by simpa [digB, digN] using h.1
  have h1 : letN c.toNat = false := by simp [letN]; omega
  have h2 : plainB c := by unfold plainB; omega
  simp only [List.length_cons] at hl
  have ht : tokP (c :: r) = (2, 1 + r.length, c :: r) := by rw [tokP_dig h1 h.1 (by rw [takeWhile_self h.2]; omega), takeWhile_self h.2]
  unfold splitT
  rw [split_tok h2 (by rw [ht]; dsimp only; omega), ht]
  dsimp only
  rw [List.drop_of_length_le (by simp only [List.length_cons]; omega), splitS, Nat.add_comm 1 r.length]
  rfl
/-- What token says of a text. -/
def tokOK (tx : List UInt8) (k : Int) (a b : Tok) : Bool := a.kind == k && (a.text == tx && (a.col == 1 && (b.col == (tx.length : Int) + 1 && b.line == 1)))
def tokenP (tx : List UInt8) (k : Int) : Bool := decide (tx.length ≤ 4096) && match splitT tx with
  | some [a, b] => tokOK tx k a b
  | _ => false
theorem tokenP_large {l : List UInt8} {k : Int} (h : ¬ l.length ≤ 4096) : tokenP l k = false := by unfold tokenP; simp [h]
theorem tokenP_none {l : List UInt8} {k : Int} (h : splitT l = none) : tokenP l k = false := by unfold tokenP; rw [h]; simp
theorem tokenP_two {l : List UInt8} {k : Int} {a b : Tok} (hl : l.length ≤ 4096) (h : splitT l = some [a, b]) : tokenP l k = tokOK l k a b := by unfold tokenP; rw [h]; simp [hl]
theorem tokenP_other {l : List UInt8} {k : Int} {es : List Tok} (h : splitT l = some es) (hn : es.length ≠ 2) : tokenP l k = false := by
  unfold tokenP
  rw [h]
  rcases es with _ | ⟨a, _ | ⟨b, _ | ⟨c, r⟩⟩⟩
  · simp
  · simp
  · simp at hn
  · simp
theorem tokenP_word {tx : List UInt8} : (tokenP tx 1 && !decide (tx ∈ kws)) = namedP tx := by
  by_cases hl : tx.length ≤ 4096
  rotate_left
  · rw [tokenP_large hl, namedP_large hl]; rfl
  cases hs : splitT tx with
  | none => rw [tokenP_none hs, namedP_none hs]; rfl
  | some es =>
    by_cases hn : es.length = 2
    rotate_left
    · rw [tokenP_other hs hn, namedP_other hs hn]; rfl
    obtain ⟨a, b, rfl⟩ : ∃ a b, es = [a, b] := by
      rcases es with _ | ⟨a, _ | ⟨b, _ | ⟨c, r⟩⟩⟩ <;> simp at hn
      exact ⟨a, b, rfl⟩
    rw [tokenP_two hl hs, namedP_two hl hs]
    by_cases hk : a.kind = 1
    rotate_left
    · rw [tokOK, beq_eq_false_iff_ne.2 hk]; rfl
    by_cases ht : a.text = tx
    rotate_left
    · rw [tokOK, beq_eq_false_iff_ne.2 ht]; simp
    obtain ⟨c, r, h1, h2, h3⟩ := (word_tok _ _ _ _ _ hs a (by simp)).1 hk
    rw [ht] at h1
    subst h1
    rw [split_word h2 h3] at hs
    simp only [Option.some.injEq, List.cons.injEq, and_true] at hs
    obtain ⟨rfl, rfl⟩ := hs
    have hc : (1 + ((r.length + 1 : Nat) : Int)) = (((c :: r).length : Nat) : Int) + 1 := by simp only [List.length_cons]; omega
    simp only [tokOK, hc, beq_self_eq_true, Bool.true_and]
theorem tokenP_num {tx : List UInt8} : tokenP tx 2 = digitsP tx := by
  have key : ∀ c r, tx = c :: r → (c :: r).all digB = true → (c :: r).length ≤ 9 → tokenP tx 2 = digitsP tx := by
    intro c r e h1 h2
    have hs := split_num h1 h2
    rw [e, tokenP_two (by omega) hs]
    have hc : (1 + ((r.length + 1 : Nat) : Int)) = (((c :: r).length : Nat) : Int) + 1 := by simp only [List.length_cons]; omega
    rw [digitsP, h1, decide_eq_true (by simp only [List.length_cons] at h2 ⊢; omega)]
    simp only [tokOK, hc, beq_self_eq_true, Bool.true_and]
  cases hd : digitsP tx with
  | true =>
    rw [← hd]
    have h := hd
    unfold digitsP at h
    rw [Bool.and_eq_true, decide_eq_true_iff] at h
    cases htx : tx with
    | nil => rw [htx] at h; simp at h
    | cons c r =>
      rw [← htx]
      exact key c r htx (htx ▸ h.1) (htx ▸ h.2.2)
  | false =>
    cases ht : tokenP tx 2 with
    | false => rfl
    | true =>
      exfalso
      by_cases hl : tx.length ≤ 4096
      rotate_left
      · rw [tokenP_large hl] at ht; cases ht
      cases hs : splitT tx with
      | none => rw [tokenP_none hs] at ht; cases ht
      | some es =>
        by_cases hn : es.length = 2
        rotate_left
        · rw [tokenP_other hs hn] at ht; cases ht
        obtain ⟨a, b, rfl⟩ : ∃ a b, es = [a, b] := by
          rcases es with _ | ⟨a, _ | ⟨b, _ | ⟨c, r⟩⟩⟩ <;> simp at hn
          exact ⟨a, b, rfl⟩
        have h := ht
        rw [tokenP_two hl hs, tokOK] at h
        simp only [Bool.and_eq_true, beq_iff_eq] at h
        obtain ⟨c, r, g1, g2, g3⟩ := (word_tok _ _ _ _ _ hs a (by simp)).2 h.1
        rw [h.2.1] at g1
        have := key c r g1 g2 g3
        rw [ht, hd] at this
        cases this

/-! ### The walks -/
set_option maxRecDepth 20000 in
theorem rprint_any (s : ByteArray) (w : World) (hs : s.size ≤ 100000) :
    Calls Tryd.prog 60 #[.string s] w fun e w' => e = .returned (.bool (s.data.toList.all okB)) ∧ Below w.heap.size w w' := by
  have HC := Lib.hid (rquote_any s w hs)
  cases hok : s.data.toList.all okB with
  | false =>
    have HV := Lib.hid (show rquoV s.data.toList = .tuple #[.string ⟨#[]⟩, .bool false] by rw [rquoV, hok]; rfl)
    clear hok
    go_enter Tryd.func60, Tryd.ntmps60
    go_wp2_with (first | (go_at_call 76; refine HC.out.mono ?_; rintro e w1 ⟨he, hb1⟩; rw [HV.out] at he; subst he; have HB1 := Lib.hid hb1; clear hb1))
    go_ret
    exact ⟨rfl, HB1.out⟩
  | true =>
    obtain ⟨q, hq⟩ : ∃ q, (⟨(quoL s.data.toList).toArray⟩ : ByteArray) = q := ⟨_, rfl⟩
    have HV := Lib.hid (show rquoV s.data.toList = .tuple #[.string q, .bool true] by rw [rquoV, hok, ← hq]; rfl)
    clear hok hq
    go_enter Tryd.func60, Tryd.ntmps60
    go_wp2_with (first | (go_at_call 76; refine HC.out.mono ?_; rintro e w1 ⟨he, hb1⟩; rw [HV.out] at he; subst he; have HB1 := Lib.hid hb1; clear hb1))
    go_ret
    exact ⟨rfl, HB1.out⟩
theorem rsplit_none (s : ByteArray) (w : World) (hs : s.size ≤ 4096) (hn : splitT s.data.toList = none) :
    Calls Tryd.prog 91 #[.string s] w fun e w' => e = .returned (.tuple #[.slice none 0 0, .int .i64 2]) ∧ Below w.heap.size w w' := by
  have h := rsplit_any s w hs
  rw [hn] at h
  exact h
theorem rsplit_some (s : ByteArray) (w : World) {es : List Tok} (hs : s.size ≤ 4096) (hn : splitT s.data.toList = some es) :
    Calls Tryd.prog 91 #[.string s] w fun e w' => (∃ v, e = .returned (.tuple #[v, .int .i64 0]) ∧ OwnK 109 w' w.heap.size v es) ∧ Below w.heap.size w w' := by
  have h := rsplit_any s w hs
  rw [hn] at h
  exact h
theorem OwnK.slice' {T : TypeId} {w : World} {base : Nat} {v : Value} {es : List Tok} (h : OwnK T w base v es) : ∃ a c, v = .slice a es.length c := by
  rcases OwnK.isK h with ⟨rfl, a, c, hv⟩ | ⟨_, g, c, hv, _⟩
  · exact ⟨a, c, hv⟩
  · exact ⟨_, c, hv⟩
theorem OwnK.both {T : TypeId} {w : World} {base : Nat} {v : Value} {a b : Tok} (h : OwnK T w base v [a, b]) : ∃ g c, v = .slice (some ⟨g, 0, none⟩) 2 c ∧ w.cell? ⟨g, 0, none⟩ = some (.int .i64 a.kind) ∧ w.cell? ⟨g, 1, none⟩ = some (.string ⟨a.text.toArray⟩) ∧ w.cell? ⟨g, 3, none⟩ = some (.int .i64 a.col) ∧ w.cell? ⟨g, 6, none⟩ = some (.int .i64 b.line) ∧ w.cell? ⟨g, 7, none⟩ = some (.int .i64 b.col) := by
  rcases OwnK.isK h with ⟨h0, _⟩ | ⟨_, g, c, hv, hc⟩
  · cases h0
  · have h0 := hc 0 a rfl
    have h1 := hc 1 b rfl
    exact ⟨g, c, hv, by simpa using h0.1, by simpa using h0.2.1, by simpa using h0.2.2.2, by simpa using h1.2.2.1, by simpa using h1.2.2.2⟩
set_option maxRecDepth 20000 in
set_option maxHeartbeats 1000000 in
theorem rtoken_any (tx : List UInt8) (k : Int) (w : World) :
    Calls Tryd.prog 79 #[.string ⟨tx.toArray⟩, .int .i64 k] w fun e w' => e = .returned (.bool (tokenP tx k)) ∧ Below w.heap.size w w' := by
  have hsz : (⟨tx.toArray⟩ : ByteArray).size = tx.length := by show tx.toArray.size = _; simp
  have hdl : (⟨tx.toArray⟩ : ByteArray).data.toList = tx := by simp
  obtain ⟨R, hR⟩ : ∃ R, tokenP tx k = R := ⟨_, rfl⟩
  rw [hR]
  have HR := Lib.hid hR
  clear hR
  by_cases hl : tx.length ≤ 4096
  rotate_left
  · have HQ := Lib.hid (show false = R by rw [← HR.out, tokenP_large (by omega)])
    have HS := Lib.hid (rsplit_large ⟨tx.toArray⟩ w (by omega))
    clear hl hsz hdl
    go_enter Tryd.func79, Tryd.ntmps79
    go_wp2_with (go_at_call 91; refine HS.out.mono ?_; rintro e w1 ⟨rfl, hb1⟩; have HB1 := Lib.hid hb1; clear hb1)
    go_ret
    exact ⟨by rw [← HQ.out]; rfl, HB1.out⟩
  cases hn : splitT tx with
  | none =>
    have HQ := Lib.hid (show false = R by rw [← HR.out, tokenP_none hn])
    have HS := Lib.hid (rsplit_none ⟨tx.toArray⟩ w (by omega) (by rw [hdl]; exact hn))
    clear hl hsz hn hdl
    go_enter Tryd.func79, Tryd.ntmps79
    go_wp2_with (go_at_call 91; refine HS.out.mono ?_; rintro e w1 ⟨rfl, hb1⟩; have HB1 := Lib.hid hb1; clear hb1)
    go_ret
    exact ⟨by rw [← HQ.out]; rfl, HB1.out⟩
  | some es =>
    have HS := Lib.hid (rsplit_some ⟨tx.toArray⟩ w (es := es) (by omega) (by rw [hdl]; exact hn))
    by_cases h2 : es.length = 2
    rotate_left
    · have HQ := Lib.hid (show false = R by rw [← HR.out, tokenP_other hn h2])
      have h2i : ¬ ((es.length : Nat) : Int) = 2 := by omega
      have h2b : (((es.length : Nat) : Int) == 2) = false := beq_eq_false_iff_ne.2 h2i
      clear hl hsz hn h2 hdl
      go_enter Tryd.func79, Tryd.ntmps79
      go_wp2_with (go_at_call 91; refine HS.out.mono ?_; rintro e w1 ⟨⟨v, rfl, hv⟩, hb1⟩; obtain ⟨a, c, rfl⟩ := OwnK.slice' hv; have HB1 := Lib.hid hb1; clear hb1 hv)
      go_ret
      exact ⟨by rw [← HQ.out]; rfl, HB1.out⟩
    · obtain ⟨a, b, rfl⟩ : ∃ a b, es = [a, b] := by
        rcases es with _ | ⟨a, _ | ⟨b, _ | ⟨c, r⟩⟩⟩ <;> simp at h2
        exact ⟨a, b, rfl⟩
      obtain ⟨ak, at', al, ac⟩ := a
      obtain ⟨bk, bt, bl, bc⟩ := b
      have HQ := Lib.hid (show (ak == k && (at' == tx && (ac == 1 && (bc == (tx.length : Int) + 1 && bl == 1)))) = R by rw [← HR.out, tokenP_two (by omega) hn]; rfl)
      clear hn h2 HR hdl
      by_cases hk : ak = k
      rotate_left
      · have hkb : (ak == k) = false := beq_eq_false_iff_ne.2 hk
        have HQ2 := Lib.hid (show false = R by rw [← HQ.out, hkb]; rfl)
        clear hsz hl HQ
        go_enter Tryd.func79, Tryd.ntmps79
        go_wp2_with (go_at_call 91; refine HS.out.mono ?_; rintro e w1 ⟨⟨v, rfl, hv⟩, hb1⟩; obtain ⟨g, c, rfl, x0, x1, x3, x6, x7⟩ := OwnK.both hv; have HB1 := Lib.hid hb1; clear hb1 hv)
        go_ret
        exact ⟨by rw [← HQ2.out]; rfl, HB1.out⟩
      subst hk
      by_cases ht : at' = tx
      rotate_left
      · have htb : (at' == tx) = false := beq_eq_false_iff_ne.2 ht
        have HQ2 := Lib.hid (show false = R by rw [← HQ.out, htb]; simp)
        clear hsz hl HQ
        go_enter Tryd.func79, Tryd.ntmps79
        go_wp2_with (go_at_call 91; refine HS.out.mono ?_; rintro e w1 ⟨⟨v, rfl, hv⟩, hb1⟩; obtain ⟨g, c, rfl, x0, x1, x3, x6, x7⟩ := OwnK.both hv; have HB1 := Lib.hid hb1; clear hb1 hv)
        go_ret
        exact ⟨by rw [← HQ2.out]; rfl, HB1.out⟩
      subst ht
      by_cases hc1 : ac = 1
      rotate_left
      · have hcb : (ac == 1) = false := beq_eq_false_iff_ne.2 hc1
        have HQ2 := Lib.hid (show false = R by rw [← HQ.out, hcb]; simp)
        clear hsz hl HQ
        go_enter Tryd.func79, Tryd.ntmps79
        go_wp2_with (go_at_call 91; refine HS.out.mono ?_; rintro e w1 ⟨⟨v, rfl, hv⟩, hb1⟩; obtain ⟨g, c, rfl, x0, x1, x3, x6, x7⟩ := OwnK.both hv; have HB1 := Lib.hid hb1; clear hb1 hv)
        go_ret
        exact ⟨by rw [← HQ2.out]; rfl, HB1.out⟩
      subst hc1
      by_cases hc2 : bc = (at'.length : Int) + 1
      rotate_left
      · have hcb : (bc == (at'.length : Int) + 1) = false := beq_eq_false_iff_ne.2 hc2
        have HQ2 := Lib.hid (show false = R by rw [← HQ.out, hcb]; simp)
        have hcb2 : (bc == ((⟨at'.toArray⟩ : ByteArray).size : Int) + 1) = false := by rw [hsz]; exact hcb
        have hne2 : ¬ bc = ((⟨at'.toArray⟩ : ByteArray).size : Int) + 1 := by rw [hsz]; exact hc2
        have hl2 : (⟨at'.toArray⟩ : ByteArray).size ≤ 4096 := by omega
        have hst : (at' == (⟨at'.toArray⟩ : ByteArray).toList) = true := by rw [ByteArray.toList_eq]; simp
        generalize (⟨at'.toArray⟩ : ByteArray) = S at *
        clear hsz hl HQ hcb hc2
        go_enter Tryd.func79, Tryd.ntmps79
        go_wp2_with (go_at_call 91; refine HS.out.mono ?_; rintro e w1 ⟨⟨v, rfl, hv⟩, hb1⟩; obtain ⟨g, c, rfl, x0, x1, x3, x6, x7⟩ := OwnK.both hv; have HB1 := Lib.hid hb1; clear hb1 hv)
        go_ret
        exact ⟨by rw [← HQ2.out]; rfl, HB1.out⟩
      have hl2 : (⟨at'.toArray⟩ : ByteArray).size ≤ 4096 := by omega
      have hst : (at' == (⟨at'.toArray⟩ : ByteArray).toList) = true := by rw [ByteArray.toList_eq]; simp
      have hbc : bc = ((⟨at'.toArray⟩ : ByteArray).size : Int) + 1 := by rw [hsz]; exact hc2
      have hcb : (bc == (at'.length : Int) + 1) = true := beq_iff_eq.2 hc2
      have HQ3 := Lib.hid (show (bl == 1) = R by rw [← HQ.out, hcb]; simp)
      generalize (⟨at'.toArray⟩ : ByteArray) = S at *
      clear hsz hl HQ hcb hc2
      subst hbc
      by_cases hb1 : bl = 1
      rotate_left
      · have hbb : (bl == 1) = false := beq_eq_false_iff_ne.2 hb1
        have HQ2 := Lib.hid (show false = R by rw [← HQ3.out, hbb])
        go_enter Tryd.func79, Tryd.ntmps79
        go_wp2_with (go_at_call 91; refine HS.out.mono ?_; rintro e w1 ⟨⟨v, rfl, hv⟩, hb1⟩; obtain ⟨g, c, rfl, x0, x1, x3, x6, x7⟩ := OwnK.both hv; have HB1 := Lib.hid hb1; clear hb1 hv)
        go_ret
        exact ⟨by rw [← HQ2.out]; rfl, HB1.out⟩
      · subst hb1
        have HQ2 := Lib.hid (show true = R by rw [← HQ3.out]; rfl)
        go_enter Tryd.func79, Tryd.ntmps79
        go_wp2_with (go_at_call 91; refine HS.out.mono ?_; rintro e w1 ⟨⟨v, rfl, hv⟩, hb1⟩; obtain ⟨g, c, rfl, x0, x1, x3, x6, x7⟩ := OwnK.both hv; have HB1 := Lib.hid hb1; clear hb1 hv)
        go_ret
        exact ⟨by rw [← HQ2.out]; rfl, HB1.out⟩
set_option maxRecDepth 20000 in
theorem rnamed_any (tx : List UInt8) (w : World) :
    Calls Tryd.prog 58 #[.string ⟨tx.toArray⟩] w fun e w' => e = .returned (.bool (namedP tx)) ∧ Below w.heap.size w w' := by
  have hdl : (⟨tx.toArray⟩ : ByteArray).data.toList = tx := by simp
  have HT := Lib.hid (fun W => rtoken_any tx 1 W)
  have HKY := Lib.hid (fun W => rkeyword_any ⟨tx.toArray⟩ W)
  rw [hdl] at HKY
  have HQ := Lib.hid (tokenP_word (tx := tx))
  clear hdl
  generalize decide (tx ∈ kws) = D at *
  generalize namedP tx = R at *
  generalize tokenP tx 1 = P at *
  cases P with
  | false =>
    go_enter Tryd.func58, Tryd.ntmps58
    go_wp2_with (first | (go_at_call 79; (with_reducible refine (HT.out _).mono ?_); rintro e w1 ⟨rfl, hb1⟩; have HB1 := Lib.hid hb1; clear hb1))
    go_ret
    exact ⟨by rw [← HQ.out]; rfl, HB1.out⟩
  | true =>
    go_enter Tryd.func58, Tryd.ntmps58
    go_wp2_with (first | (go_at_call 79; (with_reducible refine (HT.out _).mono ?_); rintro e w1 ⟨rfl, hb1⟩; have HB1 := Lib.hid hb1; clear hb1) | (go_at_call 80; (with_reducible refine (HKY.out _).mono ?_); rintro e w2 ⟨rfl, hb2⟩; have HB2 := Lib.hid (HB1.out.trans (hb2.mono HB1.out.size)); clear hb2))
    go_ret
    exact ⟨by rw [← HQ.out]; rfl, HB2.out⟩
def cmpsR : List (List UInt8) := [[61, 61], [33, 61], [60], [60, 61], [115, 116, 97, 114, 116, 115], [101, 110, 100, 115], [99, 111, 110, 116, 97, 105, 110, 115]]
theorem cmpsR_cmpW (tx : List UInt8) : decide (tx ∈ cmpsR) = (cmpW 4 tx || cmpW 1 tx) := by
  rw [Bool.eq_iff_iff, decide_eq_true_iff]
  unfold cmpsR cmpW
  simp only [List.mem_cons, List.not_mem_nil, or_false]
  by_cases h4 : tx = [61, 61] ∨ tx = [33, 61] ∨ tx = [60] ∨ tx = [60, 61]
  · simp only [h4, if_true]
    constructor
    · intro _; rfl
    · intro _; rcases h4 with h | h | h | h <;> simp [h]
  · by_cases h1 : tx = [115, 116, 97, 114, 116, 115] ∨ tx = [101, 110, 100, 115] ∨ tx = [99, 111, 110, 116, 97, 105, 110, 115]
    · simp only [h4, h1, if_true, if_false]
      constructor
      · intro _; rfl
      · intro _; rcases h1 with h | h | h <;> simp [h]
    · rw [if_neg h4, if_neg h1, if_neg h4, if_neg h1]
      constructor
      · intro h
        exfalso
        rcases h with h | h | h | h | h | h | h
        · exact h4 (by simp [h])
        · exact h4 (by simp [h])
        · exact h4 (by simp [h])
        · exact h4 (by simp [h])
        · exact h1 (by simp [h])
        · exact h1 (by simp [h])
        · exact h1 (by simp [h])
      · intro h; cases h
def cmCells : Array Value := (cmpsR.map fun g => Value.string ⟨g.toArray⟩).toArray
theorem cm_cell (w : World) : TextsAt (w.alloc (.cells cmCells 9)) w.heap.size 0 cmpsR := by
  intro j g h
  rw [cell_of_row _ _ _ _ _ _ (heap_alloc_new w _)]
  simp [cmCells, h]
set_option maxRecDepth 20000 in
set_option maxHeartbeats 1000000 in
theorem rcompares_any (s : List UInt8) (w : World) :
    Calls Tryd.prog 78 #[.string ⟨s.toArray⟩] w fun e w' => e = .returned (.bool (cmpW 4 s || cmpW 1 s)) ∧ Below w.heap.size w w' := by
  obtain ⟨R, hR⟩ : ∃ R, (cmpW 4 s || cmpW 1 s) = R := ⟨_, rfl⟩
  rw [hR]
  rw [← cmpsR_cmpW] at hR
  have HR := Lib.hid hR
  clear hR
  have HT0 := Lib.hid (cm_cell w)
  go_enter Tryd.func78, Tryd.ntmps78
  go_wp2_with fail
  go_loopw [7] (fun i wr => wr = w.alloc (.cells cmCells 9) ∧ ∃ k : Nat, i = .int .i64 k ∧ k ≤ 7 ∧ s ∉ cmpsR.take k) (fun i _ => 7 - (intOf i).toNat)
  case atStart => exact ⟨rfl, 0, rfl, by omega, by simp⟩
  case round =>
    obtain ⟨hwr, k, rfl, hk, hno⟩ := hrel
    have HNO := Lib.hid hno
    have HT := Lib.hid (show TextsAt wr w.heap.size 0 cmpsR by rw [hwr]; exact HT0.out)
    have HB := Lib.hid (show Below w.heap.size w wr by rw [hwr]; exact bel_new _ _)
    have HWR := Lib.hid hwr
    clear hno hwr
    by_cases hlt : k < 7
    · have hg : cmpsR[k]? = some (cmpsR[k]'hlt) := List.getElem?_eq_getElem hlt
      have htk : cmpsR.take (k + 1) = cmpsR.take k ++ [cmpsR[k]'hlt] := List.take_succ_eq_append_getElem hlt
      generalize cmpsR[k]'hlt = g at hg htk
      have hcell := HT.out k g hg
      have HG := Lib.hid hg
      have HTK := Lib.hid htk
      have hk0 : (0 : Int) ≤ (k : Int) := by omega
      have hki : (k : Int) < 7 := by omega
      rw [Nat.zero_add] at hcell
      clear hg htk
      by_cases heq : s = g
      · have hcmp : (s == g) = true := by rw [heq]; simp
        have HM := Lib.hid (show true = R by rw [← HR.out]; symm; rw [decide_eq_true_iff, heq]; exact List.mem_of_getElem? HG.out)
        clear heq
        go_wp2_with fail
        go_ret
        exact ⟨ret_bool HM.out, HB.out⟩
      · have hcmp : (s == g) = false := beq_eq_false_iff_ne.2 heq
        have HM := Lib.hid (show s ∉ cmpsR.take (k + 1) by rw [HTK.out]; simp [HNO.out, heq])
        clear heq
        go_wp2_with fail
        go_roundw
        case rel => exact ⟨HWR.out, k + 1, by go_num, by omega, HM.out⟩
        case measure => simp [intOf]; omega
    · obtain rfl : k = 7 := by omega
      have HM := Lib.hid (show false = R by
        rw [← HR.out]; symm
        rw [decide_eq_false_iff_not]
        have := HNO.out
        rwa [show cmpsR.take 7 = cmpsR from rfl] at this)
      go_wp2_with fail
      go_ret
      exact ⟨ret_bool HM.out, HB.out⟩
end Go.Proofs.YtogkiifljdnjgaaDoor

namespace Go.Proofs.YtogkiifljdnjgaaDoor
open Go.RowKit
set_option linter.unusedVariables false
set_option linter.unusedSimpArgs false

def RxC (n : Nat) : Prop := ∀ (t : Tree) (F : Nat → Prop) (w : World) (v : Value), IsT w F t v → depthT t ≤ n → sizeT t ≤ 1000000000 → shortT t →
  Calls Tryd.prog 56 #[v] w fun e w' => e = .returned (.bool (exprOK t)) ∧ Below w.heap.size w w'
def RxsC (n : Nat) : Prop := ∀ (ks : List Tree) (F : Nat → Prop) (w : World) (v : Value) (m : Int), IsKids w F ks v → depthL ks ≤ n → sizeL ks ≤ 1000000000 → shortL ks →
  Calls Tryd.prog 59 #[v, .int .i64 m] w fun e w' => e = .returned (.bool (exprsOK ks && ((ks.length : Int) == m))) ∧ Below w.heap.size w w'
set_option maxRecDepth 20000 in
set_option maxHeartbeats 1000000 in
theorem exprs_ok (n : Nat) (HC : RxC n) : RxsC n := by
  have HCall := Lib.hid HC
  intro ks F w v m hks hd hs hsh
  have HK := Lib.hid hks
  have HD := Lib.hid hd
  have HSH := Lib.hid hsh
  have HSZ := Lib.hid hs
  obtain ⟨R, hR⟩ : ∃ R, (exprsOK ks && ((ks.length : Int) == m)) = R := ⟨_, rfl⟩
  rw [hR]
  have HR := Lib.hid hR
  have hl : ks.length ≤ 1000000000 := by have := len_le_size ks; omega
  obtain ⟨a, c, rfl⟩ : ∃ a c, v = .slice a ks.length c := by
    obtain ⟨a, c, hv, _⟩ := hks
    exact ⟨a, c, hv⟩
  have hl0 : (0 : Int) ≤ (ks.length : Int) := by omega
  clear hks hd hs hsh hR HC
  go_enter Tryd.func59, Tryd.ntmps59
  go_wp2_with fail
  go_loopw [8] (fun i wr => ∃ q : Nat, i = .int .i64 q ∧ q ≤ ks.length ∧ exprsOK (ks.take q) = true ∧ Below w.heap.size w wr) (fun i _ => ks.length - (intOf i).toNat)
  case atStart => exact ⟨0, rfl, Nat.zero_le _, by simp [exprsOK_nil], Below.refl _ _⟩
  case round =>
    obtain ⟨q, rfl, hq, hall, hb⟩ := hrel
    have HB := Lib.hid hb
    have HALL := Lib.hid hall
    clear hb hall
    by_cases hlt : q < ks.length
    · obtain ⟨t', ht'⟩ : ∃ t', ks[q]? = some t' := ⟨_, List.getElem?_eq_getElem hlt⟩
      obtain ⟨b, off, cap, k0, x0, a0, m0, n0, l0, hv, c0, c1, c2, c3, hT⟩ := IsKids.at (HK.out.step HB.out) ht'
      simp only [Value.slice.injEq] at hv
      obtain ⟨rfl, -, rfl⟩ := hv
      have HT := Lib.hid hT
      have HZ := Lib.hid (exprsOK_take ht')
      have HZN := Lib.hid (fun h => exprsOK_bad ht' h)
      have h3 := depthT_at ht'
      have h4 := sizeT_at ht'
      have h5 := shortT_at HSH.out ht'
      have HCC := Lib.hid (fun W (hW : IsT W F t' (.agg #[.int .i64 k0, .string ⟨x0.toArray⟩, .slice a0 m0 n0, .int .i64 l0])) => HCall.out t' F W _ hW (by have := HD.out; omega) (by have := HSZ.out; omega) h5)
      have hlti : (q : Int) < (ks.length : Int) := by omega
      clear h3 h4 h5 hT ht'
      cases hone : exprOK t' with
      | false =>
        have HQ := Lib.hid (HZN.out hone)
        have HC2 := Lib.hid (fun W hW => show Calls Tryd.prog 56 _ W fun e w' => e = .returned (.bool false) ∧ Below W.heap.size W w' by rw [← hone]; exact HCC.out W hW)
        clear hone
        go_wp2_with (first | (go_at_call 56; (with_reducible refine (HC2.out _ HT.out).mono ?_); rintro e w1 ⟨rfl, hb1⟩; have HB1 := Lib.hid hb1; clear hb1))
        go_ret
        exact ⟨by rw [← HR.out, HQ.out] <;> rfl, HB.out.trans (HB1.out.mono HB.out.size)⟩
      | true =>
        have HZ2 := Lib.hid (HZ.out.trans (by rw [HALL.out, hone] <;> rfl))
        have HC2 := Lib.hid (fun W hW => show Calls Tryd.prog 56 _ W fun e w' => e = .returned (.bool true) ∧ Below W.heap.size W w' by rw [← hone]; exact HCC.out W hW)
        clear hone
        go_wp2_with (first | (go_at_call 56; (with_reducible refine (HC2.out _ HT.out).mono ?_); rintro e w1 ⟨rfl, hb1⟩; have HB1 := Lib.hid hb1; clear hb1))
        go_roundw
        case rel => exact ⟨q + 1, by go_num, by omega, HZ2.out, HB.out.trans (HB1.out.mono HB.out.size)⟩
        case measure => simp [intOf]; omega
    · have hq2 : q = ks.length := by omega
      subst hq2
      have HQ := Lib.hid (by have := HALL.out; rwa [List.take_length] at this : exprsOK ks = true)
      go_wp2_with fail
      go_ret
      exact ⟨by rw [← HR.out, HQ.out] <;> rfl, HB.out⟩
theorem ar_eq (m : Int) (n : Nat) (h : 0 ≤ m) : arOK m n = ((n : Int) == m) := by
  have h1 : ¬ m < 0 := by omega
  have h2 : m ≠ -2 := by omega
  unfold arOK
  rw [decide_eq_true h2, decide_eq_false h1, Bool.true_and, Bool.false_or]
  rw [Bool.eq_iff_iff]
  simp
theorem ar_neg (n : Nat) : arOK (-1) n = true := by simp [arOK]
theorem ar_no (n : Nat) : arOK (-2) n = false := by simp [arOK]
set_option maxRecDepth 20000 in
set_option maxHeartbeats 4000000 in
theorem rexpr_ok (n : Nat) (HC : RxsC n) : RxC (n + 1) := by
  intro t F w v ht hd hs hsh
  obtain ⟨k, tx, ks, l⟩ := t
  obtain ⟨kv, rfl, hks⟩ := isT_node.1 ht
  rw [depthT_node] at hd
  rw [sizeT_node] at hs
  rw [shortT_node] at hsh
  obtain ⟨htx, hshl⟩ := hsh
  obtain ⟨R, hR⟩ : ∃ R, exprOK (.node k tx ks l) = R := ⟨_, rfl⟩
  rw [hR]
  have HR := Lib.hid hR
  have HK := Lib.hid hks
  have HTX := Lib.hid htx
  obtain ⟨a, c, rfl⟩ : ∃ a c, kv = .slice a ks.length c := by
    obtain ⟨a, c, hv, _⟩ := hks
    exact ⟨a, c, hv⟩
  obtain ⟨N, hN⟩ : ∃ N, ks.length = N := ⟨_, rfl⟩
  have hl : N ≤ 1000000000 := by have := len_le_size ks; omega
  have hl0 : (0 : Int) ≤ (N : Int) := by omega
  have HCS := Lib.hid (fun W (m : Int) (hW : Below w.heap.size w W) => HC ks F W (.slice a ks.length c) m (hks.step hW) (by omega) (by omega) hshl)
  rw [hN] at HCS HK ⊢
  have HN := Lib.hid hN
  have HB0 := Lib.hid (bel_new w (.cells #[.int .i64 k, .string ⟨tx.toArray⟩, .slice a N c, .int .i64 l] 26))
  have HX0 := Lib.hid (heap_alloc_new w (.cells #[.int .i64 k, .string ⟨tx.toArray⟩, .slice a N c, .int .i64 l] 26))
  obtain ⟨r0, r1, r2, r3, q0, q1, q2, q3⟩ := box4 HX0.out
  have HB1 := HB0
  have HTX78 := Lib.hid (fun W => rcompares_any tx W)
  have HTX79 := Lib.hid (fun W => rtoken_any tx 2 W)
  have HTX60 := Lib.hid (fun W => rprint_any ⟨tx.toArray⟩ W (by show tx.toArray.size ≤ 100000; simpa using htx))
  have HTX58 := Lib.hid (fun W => rnamed_any tx W)
  rw [show (⟨tx.toArray⟩ : ByteArray).data.toList = tx by simp] at HTX60
  rw [tokenP_num] at HTX79
  rw [exprOK_node] at HR
  rw [hN] at HR
  clear hR HC ht hd hs hks htx hshl hN
  have HE : Hid (ks = [] → exprsOK ks = true) := Lib.hid (fun h => by rw [h, exprsOK_nil])
  generalize exprsOK ks = E at *
  by_cases h13 : k = 13
  · subst h13
    rcases tx with _ | ⟨y, r⟩
    · have HQ := Lib.hid (show (E && ((N : Int) == 2)) = R by rw [← HR.out, show operandsP 13 [] = 2 by decide, ar_eq _ _ (by decide), Bool.and_comm])
      go_enter Tryd.func56, Tryd.ntmps56
      go_wp2_with (first | (go_at_call 59; (with_reducible refine (HCS.out _ 2 HB1.out).mono ?_); rintro e w2 ⟨rfl, hb⟩; have HB2 := Lib.hid (HB1.out.trans (hb.mono HB1.out.size)); clear hb))
      go_ret
      exact ⟨by rw [← HQ.out] <;> rfl, HB2.out⟩
    · have HQ := Lib.hid (show false = R by rw [← HR.out, show operandsP 13 (y :: r) = -2 by simp [operandsP], ar_no]; rfl)
      go_enter Tryd.func56, Tryd.ntmps56
      go_wp2_with fail
      go_ret
      exact ⟨by rw [← HQ.out] <;> rfl, HB0.out⟩
  by_cases h14 : k = 14
  · subst h14
    rcases tx with _ | ⟨y, r⟩
    · have HQ := Lib.hid (show (E && ((N : Int) == 2)) = R by rw [← HR.out, show operandsP 14 [] = 2 by decide, ar_eq _ _ (by decide), Bool.and_comm])
      go_enter Tryd.func56, Tryd.ntmps56
      go_wp2_with (first | (go_at_call 59; (with_reducible refine (HCS.out _ 2 HB1.out).mono ?_); rintro e w2 ⟨rfl, hb⟩; have HB2 := Lib.hid (HB1.out.trans (hb.mono HB1.out.size)); clear hb))
      go_ret
      exact ⟨by rw [← HQ.out] <;> rfl, HB2.out⟩
    · have HQ := Lib.hid (show false = R by rw [← HR.out, show operandsP 14 (y :: r) = -2 by simp [operandsP], ar_no]; rfl)
      go_enter Tryd.func56, Tryd.ntmps56
      go_wp2_with fail
      go_ret
      exact ⟨by rw [← HQ.out] <;> rfl, HB0.out⟩
  by_cases h17 : k = 17
  · subst h17
    rcases tx with _ | ⟨y, r⟩
    · have HQ := Lib.hid (show (E && ((N : Int) == 2)) = R by rw [← HR.out, show operandsP 17 [] = 2 by decide, ar_eq _ _ (by decide), Bool.and_comm])
      go_enter Tryd.func56, Tryd.ntmps56
      go_wp2_with (first | (go_at_call 59; (with_reducible refine (HCS.out _ 2 HB1.out).mono ?_); rintro e w2 ⟨rfl, hb⟩; have HB2 := Lib.hid (HB1.out.trans (hb.mono HB1.out.size)); clear hb))
      go_ret
      exact ⟨by rw [← HQ.out] <;> rfl, HB2.out⟩
    · have HQ := Lib.hid (show false = R by rw [← HR.out, show operandsP 17 (y :: r) = -2 by simp [operandsP], ar_no]; rfl)
      go_enter Tryd.func56, Tryd.ntmps56
      go_wp2_with fail
      go_ret
      exact ⟨by rw [← HQ.out] <;> rfl, HB0.out⟩
  by_cases h18 : k = 18
  · subst h18
    rcases tx with _ | ⟨y, r⟩
    · have HQ := Lib.hid (show (E && ((N : Int) == 2)) = R by rw [← HR.out, show operandsP 18 [] = 2 by decide, ar_eq _ _ (by decide), Bool.and_comm])
      go_enter Tryd.func56, Tryd.ntmps56
      go_wp2_with (first | (go_at_call 59; (with_reducible refine (HCS.out _ 2 HB1.out).mono ?_); rintro e w2 ⟨rfl, hb⟩; have HB2 := Lib.hid (HB1.out.trans (hb.mono HB1.out.size)); clear hb))
      go_ret
      exact ⟨by rw [← HQ.out] <;> rfl, HB2.out⟩
    · have HQ := Lib.hid (show false = R by rw [← HR.out, show operandsP 18 (y :: r) = -2 by simp [operandsP], ar_no]; rfl)
      go_enter Tryd.func56, Tryd.ntmps56
      go_wp2_with fail
      go_ret
      exact ⟨by rw [← HQ.out] <;> rfl, HB0.out⟩
  by_cases h19 : k = 19
  · subst h19
    rcases tx with _ | ⟨y, r⟩
    · have HQ := Lib.hid (show (E && ((N : Int) == 2)) = R by rw [← HR.out, show operandsP 19 [] = 2 by decide, ar_eq _ _ (by decide), Bool.and_comm])
      go_enter Tryd.func56, Tryd.ntmps56
      go_wp2_with (first | (go_at_call 59; (with_reducible refine (HCS.out _ 2 HB1.out).mono ?_); rintro e w2 ⟨rfl, hb⟩; have HB2 := Lib.hid (HB1.out.trans (hb.mono HB1.out.size)); clear hb))
      go_ret
      exact ⟨by rw [← HQ.out] <;> rfl, HB2.out⟩
    · have HQ := Lib.hid (show false = R by rw [← HR.out, show operandsP 19 (y :: r) = -2 by simp [operandsP], ar_no]; rfl)
      go_enter Tryd.func56, Tryd.ntmps56
      go_wp2_with fail
      go_ret
      exact ⟨by rw [← HQ.out] <;> rfl, HB0.out⟩
  by_cases h15 : k = 15
  · subst h15
    rcases tx with _ | ⟨y, r⟩
    · have HQ := Lib.hid (show (E && ((N : Int) == 1)) = R by rw [← HR.out, show operandsP 15 [] = 1 by decide, ar_eq _ _ (by decide), Bool.and_comm])
      go_enter Tryd.func56, Tryd.ntmps56
      go_wp2_with (first | (go_at_call 59; (with_reducible refine (HCS.out _ 1 HB1.out).mono ?_); rintro e w2 ⟨rfl, hb⟩; have HB2 := Lib.hid (HB1.out.trans (hb.mono HB1.out.size)); clear hb))
      go_ret
      exact ⟨by rw [← HQ.out] <;> rfl, HB2.out⟩
    · have HQ := Lib.hid (show false = R by rw [← HR.out, show operandsP 15 (y :: r) = -2 by simp [operandsP], ar_no]; rfl)
      go_enter Tryd.func56, Tryd.ntmps56
      go_wp2_with fail
      go_ret
      exact ⟨by rw [← HQ.out] <;> rfl, HB0.out⟩
  by_cases h16 : k = 16
  · subst h16
    have HQ0 := Lib.hid (show ((cmpW 4 tx || cmpW 1 tx) && (E && ((N : Int) == 2))) = R by rw [← HR.out]; cases hc : (cmpW 4 tx || cmpW 1 tx); rw [show operandsP 16 tx = -2 by simp [operandsP, hc], ar_no]; rfl; rw [show operandsP 16 tx = 2 by simp [operandsP, hc], ar_eq _ _ (by decide)]; simp [Bool.and_comm])
    generalize (cmpW 4 tx || cmpW 1 tx) = B at *
    cases B with
    | false =>
      have HQ := Lib.hid (show false = R by rw [← HQ0.out]; rfl)
      go_enter Tryd.func56, Tryd.ntmps56
      go_wp2_with (first | (go_at_call 78; (with_reducible refine (HTX78.out _).mono ?_); rintro e w1 ⟨rfl, hb⟩; have HB1 := Lib.hid (HB0.out.trans (hb.mono HB0.out.size)); have HX1 := Lib.hid (keep_blk hb HX0.out); obtain ⟨s0, s1, s2, s3, z0, z1, z2, z3⟩ := box4 HX1.out; clear hb))
      go_ret
      exact ⟨by rw [← HQ.out] <;> rfl, HB1.out⟩
    | true =>
      have HQ := Lib.hid (show (E && ((N : Int) == 2)) = R by rw [← HQ0.out]; rfl)
      go_enter Tryd.func56, Tryd.ntmps56
      go_wp2_with (first | (go_at_call 78; (with_reducible refine (HTX78.out _).mono ?_); rintro e w1 ⟨rfl, hb⟩; have HB1 := Lib.hid (HB0.out.trans (hb.mono HB0.out.size)); have HX1 := Lib.hid (keep_blk hb HX0.out); obtain ⟨s0, s1, s2, s3, z0, z1, z2, z3⟩ := box4 HX1.out; clear hb) | (go_at_call 59; (with_reducible refine (HCS.out _ 2 HB1.out).mono ?_); rintro e w2 ⟨rfl, hb⟩; have HB2 := Lib.hid (HB1.out.trans (hb.mono HB1.out.size)); clear hb))
      go_ret
      exact ⟨by rw [← HQ.out] <;> rfl, HB2.out⟩
  by_cases h20 : k = 20
  · subst h20
    have HQ0 := Lib.hid (show (digitsP tx && ((N : Int) == 0)) = R by
      rw [← HR.out]
      cases hc : digitsP tx
      · rw [show operandsP 20 tx = -2 by unfold operandsP; rw [hc]; rfl, ar_no]; rfl
      · rw [show operandsP 20 tx = 0 by unfold operandsP; rw [hc]; rfl, ar_eq _ _ (by decide)]
        by_cases h0 : (N : Int) = 0
        · have hks : ks = [] := List.eq_nil_of_length_eq_zero (by have := HN.out; omega)
          rw [show E = true from (HE.out hks)]; simp
        · rw [beq_eq_false_iff_ne.2 h0]; rfl)
    generalize digitsP tx = B at *
    cases B with
    | false =>
      have HQ := Lib.hid (show false = R by rw [← HQ0.out]; rfl)
      go_enter Tryd.func56, Tryd.ntmps56
      go_wp2_with (first | (go_at_call 79; (with_reducible refine (HTX79.out _).mono ?_); rintro e w1 ⟨rfl, hb⟩; have HB1 := Lib.hid (HB0.out.trans (hb.mono HB0.out.size)); have HX1 := Lib.hid (keep_blk hb HX0.out); obtain ⟨s0, s1, s2, s3, z0, z1, z2, z3⟩ := box4 HX1.out; clear hb))
      go_ret
      exact ⟨by rw [← HQ.out] <;> rfl, HB1.out⟩
    | true =>
      have HQ := Lib.hid (show ((N : Int) == 0) = R by rw [← HQ0.out]; simp)
      go_enter Tryd.func56, Tryd.ntmps56
      go_wp2_with (first | (go_at_call 79; (with_reducible refine (HTX79.out _).mono ?_); rintro e w1 ⟨rfl, hb⟩; have HB1 := Lib.hid (HB0.out.trans (hb.mono HB0.out.size)); have HX1 := Lib.hid (keep_blk hb HX0.out); obtain ⟨s0, s1, s2, s3, z0, z1, z2, z3⟩ := box4 HX1.out; clear hb))
      go_ret
      exact ⟨by rw [← HQ.out] <;> rfl, HB1.out⟩
  by_cases h21 : k = 21
  · subst h21
    have HQ0 := Lib.hid (show (tx.all okB && ((N : Int) == 0)) = R by
      rw [← HR.out]
      cases hc : tx.all okB
      · rw [show operandsP 21 tx = -2 by unfold operandsP; rw [hc]; rfl, ar_no]; rfl
      · rw [show operandsP 21 tx = 0 by unfold operandsP; rw [hc]; rfl, ar_eq _ _ (by decide)]
        by_cases h0 : (N : Int) = 0
        · have hks : ks = [] := List.eq_nil_of_length_eq_zero (by have := HN.out; omega)
          rw [show E = true from (HE.out hks)]; simp
        · rw [beq_eq_false_iff_ne.2 h0]; rfl)
    generalize tx.all okB = B at *
    cases B with
    | false =>
      have HQ := Lib.hid (show false = R by rw [← HQ0.out]; rfl)
      go_enter Tryd.func56, Tryd.ntmps56
      go_wp2_with (first | (go_at_call 60; (with_reducible refine (HTX60.out _).mono ?_); rintro e w1 ⟨rfl, hb⟩; have HB1 := Lib.hid (HB0.out.trans (hb.mono HB0.out.size)); have HX1 := Lib.hid (keep_blk hb HX0.out); obtain ⟨s0, s1, s2, s3, z0, z1, z2, z3⟩ := box4 HX1.out; clear hb))
      go_ret
      exact ⟨by rw [← HQ.out] <;> rfl, HB1.out⟩
    | true =>
      have HQ := Lib.hid (show ((N : Int) == 0) = R by rw [← HQ0.out]; simp)
      go_enter Tryd.func56, Tryd.ntmps56
      go_wp2_with (first | (go_at_call 60; (with_reducible refine (HTX60.out _).mono ?_); rintro e w1 ⟨rfl, hb⟩; have HB1 := Lib.hid (HB0.out.trans (hb.mono HB0.out.size)); have HX1 := Lib.hid (keep_blk hb HX0.out); obtain ⟨s0, s1, s2, s3, z0, z1, z2, z3⟩ := box4 HX1.out; clear hb))
      go_ret
      exact ⟨by rw [← HQ.out] <;> rfl, HB1.out⟩
  by_cases h23 : k = 23
  · subst h23
    have HQ0 := Lib.hid (show (namedP tx && ((N : Int) == 0)) = R by
      rw [← HR.out]
      cases hc : namedP tx
      · rw [show operandsP 23 tx = -2 by unfold operandsP; rw [hc]; rfl, ar_no]; rfl
      · rw [show operandsP 23 tx = 0 by unfold operandsP; rw [hc]; rfl, ar_eq _ _ (by decide)]
        by_cases h0 : (N : Int) = 0
        · have hks : ks = [] := List.eq_nil_of_length_eq_zero (by have := HN.out; omega)
          rw [show E = true from (HE.out hks)]; simp
        · rw [beq_eq_false_iff_ne.2 h0]; rfl)
    generalize namedP tx = B at *
    cases B with
    | false =>
      have HQ := Lib.hid (show false = R by rw [← HQ0.out]; rfl)
      go_enter Tryd.func56, Tryd.ntmps56
      go_wp2_with (first | (go_at_call 58; (with_reducible refine (HTX58.out _).mono ?_); rintro e w1 ⟨rfl, hb⟩; have HB1 := Lib.hid (HB0.out.trans (hb.mono HB0.out.size)); have HX1 := Lib.hid (keep_blk hb HX0.out); obtain ⟨s0, s1, s2, s3, z0, z1, z2, z3⟩ := box4 HX1.out; clear hb))
      go_ret
      exact ⟨by rw [← HQ.out] <;> rfl, HB1.out⟩
    | true =>
      have HQ := Lib.hid (show ((N : Int) == 0) = R by rw [← HQ0.out]; simp)
      go_enter Tryd.func56, Tryd.ntmps56
      go_wp2_with (first | (go_at_call 58; (with_reducible refine (HTX58.out _).mono ?_); rintro e w1 ⟨rfl, hb⟩; have HB1 := Lib.hid (HB0.out.trans (hb.mono HB0.out.size)); have HX1 := Lib.hid (keep_blk hb HX0.out); obtain ⟨s0, s1, s2, s3, z0, z1, z2, z3⟩ := box4 HX1.out; clear hb))
      go_ret
      exact ⟨by rw [← HQ.out] <;> rfl, HB1.out⟩
  by_cases h24 : k = 24
  · subst h24
    have HQ0 := Lib.hid (show (namedP tx && (E && ((N : Int) == (N : Int)))) = R by rw [← HR.out]; cases hc : namedP tx; rw [show operandsP 24 tx = -2 by unfold operandsP; rw [hc]; rfl, ar_no]; rfl; rw [show operandsP 24 tx = -1 by unfold operandsP; rw [hc]; rfl, ar_neg]; simp)
    generalize namedP tx = B at *
    cases B with
    | false =>
      have HQ := Lib.hid (show false = R by rw [← HQ0.out]; rfl)
      go_enter Tryd.func56, Tryd.ntmps56
      go_wp2_with (first | (go_at_call 58; (with_reducible refine (HTX58.out _).mono ?_); rintro e w1 ⟨rfl, hb⟩; have HB1 := Lib.hid (HB0.out.trans (hb.mono HB0.out.size)); have HX1 := Lib.hid (keep_blk hb HX0.out); obtain ⟨s0, s1, s2, s3, z0, z1, z2, z3⟩ := box4 HX1.out; clear hb))
      go_ret
      exact ⟨by rw [← HQ.out] <;> rfl, HB1.out⟩
    | true =>
      have HQ := Lib.hid (show E = R by rw [← HQ0.out]; simp)
      go_enter Tryd.func56, Tryd.ntmps56
      go_wp2_with (first | (go_at_call 58; (with_reducible refine (HTX58.out _).mono ?_); rintro e w1 ⟨rfl, hb⟩; have HB1 := Lib.hid (HB0.out.trans (hb.mono HB0.out.size)); have HX1 := Lib.hid (keep_blk hb HX0.out); obtain ⟨s0, s1, s2, s3, z0, z1, z2, z3⟩ := box4 HX1.out; clear hb) | (go_at_call 59; (with_reducible refine (HCS.out _ (N : Int) HB1.out).mono ?_); rintro e w2 ⟨rfl, hb⟩; have HB2 := Lib.hid (HB1.out.trans (hb.mono HB1.out.size)); clear hb))
      go_ret
      exact ⟨by rw [← HQ.out] <;> rfl, HB2.out⟩
  by_cases h22 : k = 22
  · subst h22
    have HQ0 := Lib.hid (show (boolP tx && ((N : Int) == 0)) = R by
      rw [← HR.out]
      cases hc : boolP tx
      · rw [show operandsP 22 tx = -2 by unfold operandsP; rw [hc]; rfl, ar_no]; rfl
      · rw [show operandsP 22 tx = 0 by unfold operandsP; rw [hc]; rfl, ar_eq _ _ (by decide)]
        by_cases h0 : (N : Int) = 0
        · have hks : ks = [] := List.eq_nil_of_length_eq_zero (by have := HN.out; omega)
          rw [show E = true from (HE.out hks)]; simp
        · rw [beq_eq_false_iff_ne.2 h0]; rfl)
    by_cases ht1 : tx = [116, 114, 117, 101]
    · subst ht1
      have HQ := Lib.hid (show ((N : Int) == 0) = R by rw [← HQ0.out]; rfl)
      go_enter Tryd.func56, Tryd.ntmps56
      go_wp2_with fail
      go_ret
      exact ⟨by rw [← HQ.out] <;> rfl, HB0.out⟩
    by_cases ht2 : tx = [102, 97, 108, 115, 101]
    · subst ht2
      have HQ := Lib.hid (show ((N : Int) == 0) = R by rw [← HQ0.out]; rfl)
      go_enter Tryd.func56, Tryd.ntmps56
      go_wp2_with fail
      go_ret
      exact ⟨by rw [← HQ.out] <;> rfl, HB0.out⟩
    · have hb1 : (tx == [116, 114, 117, 101]) = false := beq_eq_false_iff_ne.2 ht1
      have hb2 : (tx == [102, 97, 108, 115, 101]) = false := beq_eq_false_iff_ne.2 ht2
      have HQ := Lib.hid (show false = R by rw [← HQ0.out]; simp [boolP, ht1, ht2])
      go_enter Tryd.func56, Tryd.ntmps56
      go_wp2_with fail
      go_ret
      exact ⟨by rw [← HQ.out] <;> rfl, HB0.out⟩
  have HQ := Lib.hid (show false = R by rw [← HR.out, show operandsP k tx = -2 by simp [operandsP, h13, h14, h15, h16, h17, h18, h19, h20, h21, h22, h23, h24], ar_no]; rfl)
  have hb13 : (k == 13) = false := beq_eq_false_iff_ne.2 h13
  have hb14 : (k == 14) = false := beq_eq_false_iff_ne.2 h14
  have hb17 : (k == 17) = false := beq_eq_false_iff_ne.2 h17
  have hb18 : (k == 18) = false := beq_eq_false_iff_ne.2 h18
  have hb19 : (k == 19) = false := beq_eq_false_iff_ne.2 h19
  have hb15 : (k == 15) = false := beq_eq_false_iff_ne.2 h15
  have hb16 : (k == 16) = false := beq_eq_false_iff_ne.2 h16
  have hb20 : (k == 20) = false := beq_eq_false_iff_ne.2 h20
  have hb21 : (k == 21) = false := beq_eq_false_iff_ne.2 h21
  have hb23 : (k == 23) = false := beq_eq_false_iff_ne.2 h23
  have hb24 : (k == 24) = false := beq_eq_false_iff_ne.2 h24
  have hb22 : (k == 22) = false := beq_eq_false_iff_ne.2 h22
  go_enter Tryd.func56, Tryd.ntmps56
  go_wp2_with fail
  go_ret
  exact ⟨by rw [← HQ.out] <;> rfl, HB0.out⟩
theorem rexpr_all : ∀ n, RxC n
  | 0 => fun t F w v ht hd hs => by have := depth_pos t; omega
  | n + 1 => rexpr_ok n (exprs_ok n (rexpr_all n))
end Go.Proofs.YtogkiifljdnjgaaDoor

namespace Go.Proofs.YtogkiifljdnjgaaDoor
open Go.RowKit
set_option linter.unusedVariables false
set_option linter.unusedSimpArgs false

theorem rexpr_okc (n : Nat) : OkC 56 exprOK n := fun t F w v ht hw hd hs hsh => rexpr_all n t F w v ht hd hs hsh
theorem st_one_eq {k : Int} {tx : List UInt8} {ks : List Tree} {l : Int} (P : Bool) (h2 : k ≠ 2) (h0 : head0 k tx = false) (h1 : head1 k tx = P) : stOK (.node k tx ks l) = (P && (exprsOK ks && ((ks.length : Int) == 1))) := by
  rw [stOK_not2 h2]
  rcases ks with _ | ⟨e, _ | ⟨b, r⟩⟩
  · simp [h0]
  · simp [h1, exprsOK_cons, exprsOK_nil]
  · have : (((e :: b :: r).length : Int) == 1) = false := beq_eq_false_iff_ne.2 (by simp only [List.length_cons]; omega)
    rw [this]; simp
theorem st_zero_eq {k : Int} {tx : List UInt8} {ks : List Tree} {l : Int} (P : Bool) (h2 : k ≠ 2) (h0 : head0 k tx = P) (h1 : head1 k tx = false) : stOK (.node k tx ks l) = (P && ((ks.length : Int) == 0)) := by
  rw [stOK_not2 h2]
  rcases ks with _ | ⟨e, _ | ⟨b, r⟩⟩
  · simp [h0]
  · simp [h1]
  · have : (((e :: b :: r).length : Int) == 0) = false := beq_eq_false_iff_ne.2 (by simp only [List.length_cons]; omega)
    rw [this]; simp
set_option maxRecDepth 20000 in
set_option maxHeartbeats 4000000 in
theorem rstand_ok (n : Nat) (HC : OkC 41 stOK n) (HCB : OkC 57 blOK n) (HXS : RxsC n) : OkC 41 stOK (n + 1) := by
  have HCS := Lib.hid HC
  have HCBl := Lib.hid HCB
  have HCE := Lib.hid (rexpr_okc n)
  clear HC HCB
  intro t F w v ht hw hd hs hsh
  obtain ⟨k, tx, ks, l⟩ := t
  obtain ⟨kv, rfl, hks⟩ := isT_node.1 ht
  rw [depthT_node] at hd
  rw [sizeT_node] at hs
  rw [shortT_node] at hsh
  obtain ⟨htx, hshl⟩ := hsh
  obtain ⟨R, hR⟩ : ∃ R, stOK (.node k tx ks l) = R := ⟨_, rfl⟩
  rw [hR]
  have HR := Lib.hid hR
  have HW := Lib.hid hw
  have HK := Lib.hid hks
  have HD := Lib.hid hd
  have HTX := Lib.hid htx
  have HSH := Lib.hid hshl
  have HSZ := Lib.hid hs
  obtain ⟨a, c, rfl⟩ : ∃ a c, kv = .slice a ks.length c := by
    obtain ⟨a, c, hv, _⟩ := hks
    exact ⟨a, c, hv⟩
  have hl : ks.length ≤ 1000000000 := by have := len_le_size ks; omega
  have hl0 : (0 : Int) ≤ (ks.length : Int) := by omega
  have HB0 := Lib.hid (bel_new w (.cells #[.int .i64 k, .string ⟨tx.toArray⟩, .slice a ks.length c, .int .i64 l] 26))
  have HX0 := Lib.hid (heap_alloc_new w (.cells #[.int .i64 k, .string ⟨tx.toArray⟩, .slice a ks.length c, .int .i64 l] 26))
  have HCX := Lib.hid (fun W (m : Int) (hW : Below w.heap.size w W) => HXS ks F W (.slice a ks.length c) m (hks.step hW) (by omega) (by omega) hshl)
  clear ht hd hs hks hR hw htx hshl HXS
  obtain ⟨N, hN⟩ : ∃ N, ks.length = N := ⟨_, rfl⟩
  rw [hN] at HB0 HX0 HK HCX hl hl0 ⊢
  have HSL := Lib.hid (show (⟨tx.toArray⟩ : ByteArray).size ≤ 100000 from by show tx.toArray.size ≤ 100000; simpa using HTX.out)
  obtain ⟨r0, r1, r2, r3, q0, q1, q2, q3⟩ := box4 HX0.out
  by_cases h2 : k = 2
  · subst h2
    rcases tx with _ | ⟨y, r⟩
    rotate_left
    · have HQ := Lib.hid (show false = R by rw [← HR.out]; rcases ks with _ | ⟨e, _ | ⟨b, _ | ⟨x, _ | ⟨z, t⟩⟩⟩⟩; rw [stOK_0]; simp [head0]; rw [stOK_1]; simp [head1]; rw [stOK_2]; simp [headI]; rw [stOK_3]; simp [headI]; rw [stOK_4 (by simp)])
      go_enter Tryd.func41, Tryd.ntmps41
      go_wp2_with fail
      go_ret
      exact ⟨by rw [← HQ.out] <;> rfl, HB0.out⟩
    by_cases hlt : N < 2
    · have hlti : (N : Int) < 2 := by omega
      have HQ := Lib.hid (show false = R by rw [← HR.out]; rcases ks with _ | ⟨e, _ | ⟨b, r⟩⟩; rw [stOK_0]; simp [head0]; rw [stOK_1]; simp [head1]; (simp at hN; omega))
      go_enter Tryd.func41, Tryd.ntmps41
      go_wp2_with fail
      go_ret
      exact ⟨by rw [← HQ.out] <;> rfl, HB0.out⟩
    by_cases hgt : 3 < N
    · have hlti : ¬ (N : Int) < 2 := by omega
      have hgti : 3 < (N : Int) := by omega
      have HQ := Lib.hid (show false = R by rw [← HR.out, stOK_4 (by omega)])
      go_enter Tryd.func41, Tryd.ntmps41
      go_wp2_with fail
      go_ret
      exact ⟨by rw [← HQ.out] <;> rfl, HB0.out⟩
    by_cases h22 : N = 2
    · subst h22
      obtain ⟨e, b, rfl⟩ : ∃ e b, ks = [e, b] := by
        rcases ks with _ | ⟨e, _ | ⟨b, _ | ⟨x, _ | ⟨y, r⟩⟩⟩⟩ <;> first | exact ⟨e, b, rfl⟩ | (simp at hN)
      have hks0 : ∃ ks0, [e, b] = ks0 := ⟨_, rfl⟩
      obtain ⟨ks0, hks0⟩ := hks0
      have HD' := HD
      have HSZ' := HSZ
      rw [hks0] at HD HSZ
      symm at hks0
      have hd0 : depthT e ≤ n := by have := HD.out; have := depthT_mem (ks := ks0) (t := e) (by rw [hks0]; simp); omega
      have hs0 : sizeT e ≤ 1000000000 := by have := HSZ.out; have := sizeT_mem (ks := ks0) (t := e) (by rw [hks0]; simp); omega
      have hh0 : shortT e := shortT_at (q := 0) HSH.out rfl
      have hd1 : depthT b ≤ n := by have := HD.out; have := depthT_mem (ks := ks0) (t := b) (by rw [hks0]; simp); omega
      have hs1 : sizeT b ≤ 1000000000 := by have := HSZ.out; have := sizeT_mem (ks := ks0) (t := b) (by rw [hks0]; simp); omega
      have hh1 : shortT b := shortT_at (q := 1) HSH.out rfl
      rw [hks0] at HD HSZ
      clear HD HSZ HD' HSZ' hks0
      obtain ⟨bk0, off0, cap0, k00, x00, a00, m00, n00, l00, hv0, c00, c01, c02, c03, hT0⟩ := IsKids.at HK.out (k := 0) (t := e) rfl
      simp only [Value.slice.injEq] at hv0
      obtain ⟨rfl, -, rfl⟩ := hv0
      simp only [Nat.zero_mul, Nat.add_zero, Nat.one_mul, Nat.reduceMul, Nat.add_assoc, Nat.reduceAdd] at c00 c01 c02 c03
      have HT0 := Lib.hid hT0
      clear hT0
      obtain ⟨bk1, off1, cap1, k10, x10, a10, m10, n10, l10, hv1, c10, c11, c12, c13, hT1⟩ := IsKids.at HK.out (k := 1) (t := b) rfl
      simp only [Value.slice.injEq, Option.some.injEq, Addr.mk.injEq, and_true] at hv1
      obtain ⟨⟨rfl, rfl⟩, -, -⟩ := hv1
      simp only [Nat.zero_mul, Nat.add_zero, Nat.one_mul, Nat.reduceMul, Nat.add_assoc, Nat.reduceAdd] at c10 c11 c12 c13
      have HT1 := Lib.hid hT1
      clear hT1
      have d00 := keep_at HB0.out c00
      have d01 := keep_at HB0.out c01
      have d02 := keep_at HB0.out c02
      have d03 := keep_at HB0.out c03
      have d10 := keep_at HB0.out c10
      have d11 := keep_at HB0.out c11
      have d12 := keep_at HB0.out c12
      have d13 := keep_at HB0.out c13
      have HR1 := Lib.hid (show (exprOK e && blOK b) = R by rw [← HR.out, stOK_2]; simp [headI])
      cases gHE : exprOK e with
      | false =>
        have HE := Lib.hid (fun W (hW : IsT W F e (.agg #[.int .i64 k00, .string ⟨x00.toArray⟩, .slice a00 m00 n00, .int .i64 l00])) (hK : KW W) => show Calls Tryd.prog 56 _ W fun e w' => e = .returned (.bool false) ∧ Below W.heap.size W w' by rw [← gHE]; exact HCE.out e F W _ hW hK hd0 hs0 hh0)
        have HQ := Lib.hid (show false = R by rw [← HR1.out, gHE]; rfl)
        clear gHE
        go_enter Tryd.func41, Tryd.ntmps41
        go_wp2_with (first | (go_at_call 56; (with_reducible refine (HE.out _ (HT0.out.step HB0.out) (HW.out.step HB0.out)).mono ?_); rintro e w1 ⟨rfl, hb⟩; have HB1 := Lib.hid (HB0.out.trans (hb.mono HB0.out.size)); have HX1 := Lib.hid (keep_blk hb HX0.out); obtain ⟨s10, s11, s12, s13, s14, s15, s16, s17⟩ := box4 HX1.out; have d00_1 := keep_at HB1.out c00; have d01_1 := keep_at HB1.out c01; have d02_1 := keep_at HB1.out c02; have d03_1 := keep_at HB1.out c03; have d10_1 := keep_at HB1.out c10; have d11_1 := keep_at HB1.out c11; have d12_1 := keep_at HB1.out c12; have d13_1 := keep_at HB1.out c13; clear hb))
        go_ret
        exact ⟨by rw [← HQ.out] <;> rfl, HB1.out⟩
      | true =>
        have HE := Lib.hid (fun W (hW : IsT W F e (.agg #[.int .i64 k00, .string ⟨x00.toArray⟩, .slice a00 m00 n00, .int .i64 l00])) (hK : KW W) => show Calls Tryd.prog 56 _ W fun e w' => e = .returned (.bool true) ∧ Below W.heap.size W w' by rw [← gHE]; exact HCE.out e F W _ hW hK hd0 hs0 hh0)
        cases gHBb : blOK b with
        | false =>
          have HBb := Lib.hid (fun W (hW : IsT W F b (.agg #[.int .i64 k10, .string ⟨x10.toArray⟩, .slice a10 m10 n10, .int .i64 l10])) (hK : KW W) => show Calls Tryd.prog 57 _ W fun e w' => e = .returned (.bool false) ∧ Below W.heap.size W w' by rw [← gHBb]; exact HCBl.out b F W _ hW hK hd1 hs1 hh1)
          have HQ := Lib.hid (show false = R by rw [← HR1.out, gHE, gHBb]; rfl)
          clear gHE gHBb
          go_enter Tryd.func41, Tryd.ntmps41
          go_wp2_with (first | (go_at_call 56; (with_reducible refine (HE.out _ (HT0.out.step HB0.out) (HW.out.step HB0.out)).mono ?_); rintro e w1 ⟨rfl, hb⟩; have HB1 := Lib.hid (HB0.out.trans (hb.mono HB0.out.size)); have HX1 := Lib.hid (keep_blk hb HX0.out); obtain ⟨s10, s11, s12, s13, s14, s15, s16, s17⟩ := box4 HX1.out; have d00_1 := keep_at HB1.out c00; have d01_1 := keep_at HB1.out c01; have d02_1 := keep_at HB1.out c02; have d03_1 := keep_at HB1.out c03; have d10_1 := keep_at HB1.out c10; have d11_1 := keep_at HB1.out c11; have d12_1 := keep_at HB1.out c12; have d13_1 := keep_at HB1.out c13; clear hb) | (go_at_call 57; (with_reducible refine (HBb.out _ (HT1.out.step HB1.out) (HW.out.step HB1.out)).mono ?_); rintro e w2 ⟨rfl, hb⟩; have HB2 := Lib.hid (HB1.out.trans (hb.mono HB1.out.size)); have HX2 := Lib.hid (keep_blk hb HX1.out); obtain ⟨s20, s21, s22, s23, s24, s25, s26, s27⟩ := box4 HX2.out; have d00_2 := keep_at HB2.out c00; have d01_2 := keep_at HB2.out c01; have d02_2 := keep_at HB2.out c02; have d03_2 := keep_at HB2.out c03; have d10_2 := keep_at HB2.out c10; have d11_2 := keep_at HB2.out c11; have d12_2 := keep_at HB2.out c12; have d13_2 := keep_at HB2.out c13; clear hb))
          go_ret
          exact ⟨by rw [← HQ.out] <;> rfl, HB2.out⟩
        | true =>
          have HBb := Lib.hid (fun W (hW : IsT W F b (.agg #[.int .i64 k10, .string ⟨x10.toArray⟩, .slice a10 m10 n10, .int .i64 l10])) (hK : KW W) => show Calls Tryd.prog 57 _ W fun e w' => e = .returned (.bool true) ∧ Below W.heap.size W w' by rw [← gHBb]; exact HCBl.out b F W _ hW hK hd1 hs1 hh1)
          have HQ := Lib.hid (show true = R by rw [← HR1.out, gHE, gHBb]; rfl)
          clear gHE gHBb
          go_enter Tryd.func41, Tryd.ntmps41
          go_wp2_with (first | (go_at_call 56; (with_reducible refine (HE.out _ (HT0.out.step HB0.out) (HW.out.step HB0.out)).mono ?_); rintro e w1 ⟨rfl, hb⟩; have HB1 := Lib.hid (HB0.out.trans (hb.mono HB0.out.size)); have HX1 := Lib.hid (keep_blk hb HX0.out); obtain ⟨s10, s11, s12, s13, s14, s15, s16, s17⟩ := box4 HX1.out; have d00_1 := keep_at HB1.out c00; have d01_1 := keep_at HB1.out c01; have d02_1 := keep_at HB1.out c02; have d03_1 := keep_at HB1.out c03; have d10_1 := keep_at HB1.out c10; have d11_1 := keep_at HB1.out c11; have d12_1 := keep_at HB1.out c12; have d13_1 := keep_at HB1.out c13; clear hb) | (go_at_call 57; (with_reducible refine (HBb.out _ (HT1.out.step HB1.out) (HW.out.step HB1.out)).mono ?_); rintro e w2 ⟨rfl, hb⟩; have HB2 := Lib.hid (HB1.out.trans (hb.mono HB1.out.size)); have HX2 := Lib.hid (keep_blk hb HX1.out); obtain ⟨s20, s21, s22, s23, s24, s25, s26, s27⟩ := box4 HX2.out; have d00_2 := keep_at HB2.out c00; have d01_2 := keep_at HB2.out c01; have d02_2 := keep_at HB2.out c02; have d03_2 := keep_at HB2.out c03; have d10_2 := keep_at HB2.out c10; have d11_2 := keep_at HB2.out c11; have d12_2 := keep_at HB2.out c12; have d13_2 := keep_at HB2.out c13; clear hb))
          go_ret
          exact ⟨by rw [← HQ.out] <;> rfl, HB2.out⟩
    · obtain rfl : N = 3 := by omega
      obtain ⟨e, b, x, rfl⟩ : ∃ e b x, ks = [e, b, x] := by
        rcases ks with _ | ⟨e, _ | ⟨b, _ | ⟨x, _ | ⟨y, r⟩⟩⟩⟩ <;> first | exact ⟨e, b, x, rfl⟩ | (simp at hN)
      have hks0 : ∃ ks0, [e, b, x] = ks0 := ⟨_, rfl⟩
      obtain ⟨ks0, hks0⟩ := hks0
      have HD' := HD
      have HSZ' := HSZ
      rw [hks0] at HD HSZ
      symm at hks0
      have hd0 : depthT e ≤ n := by have := HD.out; have := depthT_mem (ks := ks0) (t := e) (by rw [hks0]; simp); omega
      have hs0 : sizeT e ≤ 1000000000 := by have := HSZ.out; have := sizeT_mem (ks := ks0) (t := e) (by rw [hks0]; simp); omega
      have hh0 : shortT e := shortT_at (q := 0) HSH.out rfl
      have hd1 : depthT b ≤ n := by have := HD.out; have := depthT_mem (ks := ks0) (t := b) (by rw [hks0]; simp); omega
      have hs1 : sizeT b ≤ 1000000000 := by have := HSZ.out; have := sizeT_mem (ks := ks0) (t := b) (by rw [hks0]; simp); omega
      have hh1 : shortT b := shortT_at (q := 1) HSH.out rfl
      have hd2 : depthT x ≤ n := by have := HD.out; have := depthT_mem (ks := ks0) (t := x) (by rw [hks0]; simp); omega
      have hs2 : sizeT x ≤ 1000000000 := by have := HSZ.out; have := sizeT_mem (ks := ks0) (t := x) (by rw [hks0]; simp); omega
      have hh2 : shortT x := shortT_at (q := 2) HSH.out rfl
      rw [hks0] at HD HSZ
      clear HD HSZ HD' HSZ' hks0
      obtain ⟨bk0, off0, cap0, k00, x00, a00, m00, n00, l00, hv0, c00, c01, c02, c03, hT0⟩ := IsKids.at HK.out (k := 0) (t := e) rfl
      simp only [Value.slice.injEq] at hv0
      obtain ⟨rfl, -, rfl⟩ := hv0
      simp only [Nat.zero_mul, Nat.add_zero, Nat.one_mul, Nat.reduceMul, Nat.add_assoc, Nat.reduceAdd] at c00 c01 c02 c03
      have HT0 := Lib.hid hT0
      clear hT0
      obtain ⟨bk1, off1, cap1, k10, x10, a10, m10, n10, l10, hv1, c10, c11, c12, c13, hT1⟩ := IsKids.at HK.out (k := 1) (t := b) rfl
      simp only [Value.slice.injEq, Option.some.injEq, Addr.mk.injEq, and_true] at hv1
      obtain ⟨⟨rfl, rfl⟩, -, -⟩ := hv1
      simp only [Nat.zero_mul, Nat.add_zero, Nat.one_mul, Nat.reduceMul, Nat.add_assoc, Nat.reduceAdd] at c10 c11 c12 c13
      have HT1 := Lib.hid hT1
      clear hT1
      obtain ⟨bk2, off2, cap2, k20, x20, a20, m20, n20, l20, hv2, c20, c21, c22, c23, hT2⟩ := IsKids.at HK.out (k := 2) (t := x) rfl
      simp only [Value.slice.injEq, Option.some.injEq, Addr.mk.injEq, and_true] at hv2
      obtain ⟨⟨rfl, rfl⟩, -, -⟩ := hv2
      simp only [Nat.zero_mul, Nat.add_zero, Nat.one_mul, Nat.reduceMul, Nat.add_assoc, Nat.reduceAdd] at c20 c21 c22 c23
      have HT2 := Lib.hid hT2
      clear hT2
      have d00 := keep_at HB0.out c00
      have d01 := keep_at HB0.out c01
      have d02 := keep_at HB0.out c02
      have d03 := keep_at HB0.out c03
      have d10 := keep_at HB0.out c10
      have d11 := keep_at HB0.out c11
      have d12 := keep_at HB0.out c12
      have d13 := keep_at HB0.out c13
      have d20 := keep_at HB0.out c20
      have d21 := keep_at HB0.out c21
      have d22 := keep_at HB0.out c22
      have d23 := keep_at HB0.out c23
      have HR1 := Lib.hid (show (exprOK e && (blOK b && (blOK x || (decide (x.kind = 2) && stOK x)))) = R by rw [← HR.out, stOK_3]; simp [headI])
      cases gHE : exprOK e with
      | false =>
        have HE := Lib.hid (fun W (hW : IsT W F e (.agg #[.int .i64 k00, .string ⟨x00.toArray⟩, .slice a00 m00 n00, .int .i64 l00])) (hK : KW W) => show Calls Tryd.prog 56 _ W fun e w' => e = .returned (.bool false) ∧ Below W.heap.size W w' by rw [← gHE]; exact HCE.out e F W _ hW hK hd0 hs0 hh0)
        have HQ := Lib.hid (show false = R by rw [← HR1.out, gHE]; rfl)
        clear gHE
        go_enter Tryd.func41, Tryd.ntmps41
        go_wp2_with (first | (go_at_call 56; (with_reducible refine (HE.out _ (HT0.out.step HB0.out) (HW.out.step HB0.out)).mono ?_); rintro e w1 ⟨rfl, hb⟩; have HB1 := Lib.hid (HB0.out.trans (hb.mono HB0.out.size)); have HX1 := Lib.hid (keep_blk hb HX0.out); obtain ⟨s10, s11, s12, s13, s14, s15, s16, s17⟩ := box4 HX1.out; have d00_1 := keep_at HB1.out c00; have d01_1 := keep_at HB1.out c01; have d02_1 := keep_at HB1.out c02; have d03_1 := keep_at HB1.out c03; have d10_1 := keep_at HB1.out c10; have d11_1 := keep_at HB1.out c11; have d12_1 := keep_at HB1.out c12; have d13_1 := keep_at HB1.out c13; have d20_1 := keep_at HB1.out c20; have d21_1 := keep_at HB1.out c21; have d22_1 := keep_at HB1.out c22; have d23_1 := keep_at HB1.out c23; clear hb))
        go_ret
        exact ⟨by rw [← HQ.out] <;> rfl, HB1.out⟩
      | true =>
        have HE := Lib.hid (fun W (hW : IsT W F e (.agg #[.int .i64 k00, .string ⟨x00.toArray⟩, .slice a00 m00 n00, .int .i64 l00])) (hK : KW W) => show Calls Tryd.prog 56 _ W fun e w' => e = .returned (.bool true) ∧ Below W.heap.size W w' by rw [← gHE]; exact HCE.out e F W _ hW hK hd0 hs0 hh0)
        cases gHBb : blOK b with
        | false =>
          have HBb := Lib.hid (fun W (hW : IsT W F b (.agg #[.int .i64 k10, .string ⟨x10.toArray⟩, .slice a10 m10 n10, .int .i64 l10])) (hK : KW W) => show Calls Tryd.prog 57 _ W fun e w' => e = .returned (.bool false) ∧ Below W.heap.size W w' by rw [← gHBb]; exact HCBl.out b F W _ hW hK hd1 hs1 hh1)
          have HQ := Lib.hid (show false = R by rw [← HR1.out, gHE, gHBb]; rfl)
          clear gHE gHBb
          go_enter Tryd.func41, Tryd.ntmps41
          go_wp2_with (first | (go_at_call 56; (with_reducible refine (HE.out _ (HT0.out.step HB0.out) (HW.out.step HB0.out)).mono ?_); rintro e w1 ⟨rfl, hb⟩; have HB1 := Lib.hid (HB0.out.trans (hb.mono HB0.out.size)); have HX1 := Lib.hid (keep_blk hb HX0.out); obtain ⟨s10, s11, s12, s13, s14, s15, s16, s17⟩ := box4 HX1.out; have d00_1 := keep_at HB1.out c00; have d01_1 := keep_at HB1.out c01; have d02_1 := keep_at HB1.out c02; have d03_1 := keep_at HB1.out c03; have d10_1 := keep_at HB1.out c10; have d11_1 := keep_at HB1.out c11; have d12_1 := keep_at HB1.out c12; have d13_1 := keep_at HB1.out c13; have d20_1 := keep_at HB1.out c20; have d21_1 := keep_at HB1.out c21; have d22_1 := keep_at HB1.out c22; have d23_1 := keep_at HB1.out c23; clear hb) | (go_at_call 57; (with_reducible refine (HBb.out _ (HT1.out.step HB1.out) (HW.out.step HB1.out)).mono ?_); rintro e w2 ⟨rfl, hb⟩; have HB2 := Lib.hid (HB1.out.trans (hb.mono HB1.out.size)); have HX2 := Lib.hid (keep_blk hb HX1.out); obtain ⟨s20, s21, s22, s23, s24, s25, s26, s27⟩ := box4 HX2.out; have d00_2 := keep_at HB2.out c00; have d01_2 := keep_at HB2.out c01; have d02_2 := keep_at HB2.out c02; have d03_2 := keep_at HB2.out c03; have d10_2 := keep_at HB2.out c10; have d11_2 := keep_at HB2.out c11; have d12_2 := keep_at HB2.out c12; have d13_2 := keep_at HB2.out c13; have d20_2 := keep_at HB2.out c20; have d21_2 := keep_at HB2.out c21; have d22_2 := keep_at HB2.out c22; have d23_2 := keep_at HB2.out c23; clear hb))
          go_ret
          exact ⟨by rw [← HQ.out] <;> rfl, HB2.out⟩
        | true =>
          have HBb := Lib.hid (fun W (hW : IsT W F b (.agg #[.int .i64 k10, .string ⟨x10.toArray⟩, .slice a10 m10 n10, .int .i64 l10])) (hK : KW W) => show Calls Tryd.prog 57 _ W fun e w' => e = .returned (.bool true) ∧ Below W.heap.size W w' by rw [← gHBb]; exact HCBl.out b F W _ hW hK hd1 hs1 hh1)
          cases gHBx : blOK x with
          | true =>
            have HBx := Lib.hid (fun W (hW : IsT W F x (.agg #[.int .i64 k20, .string ⟨x20.toArray⟩, .slice a20 m20 n20, .int .i64 l20])) (hK : KW W) => show Calls Tryd.prog 57 _ W fun e w' => e = .returned (.bool true) ∧ Below W.heap.size W w' by rw [← gHBx]; exact HCBl.out x F W _ hW hK hd2 hs2 hh2)
            have HQ := Lib.hid (show true = R by rw [← HR1.out, gHE, gHBb, gHBx]; rfl)
            clear gHE gHBb gHBx
            go_enter Tryd.func41, Tryd.ntmps41
            go_wp2_with (first | (go_at_call 56; (with_reducible refine (HE.out _ (HT0.out.step HB0.out) (HW.out.step HB0.out)).mono ?_); rintro e w1 ⟨rfl, hb⟩; have HB1 := Lib.hid (HB0.out.trans (hb.mono HB0.out.size)); have HX1 := Lib.hid (keep_blk hb HX0.out); obtain ⟨s10, s11, s12, s13, s14, s15, s16, s17⟩ := box4 HX1.out; have d00_1 := keep_at HB1.out c00; have d01_1 := keep_at HB1.out c01; have d02_1 := keep_at HB1.out c02; have d03_1 := keep_at HB1.out c03; have d10_1 := keep_at HB1.out c10; have d11_1 := keep_at HB1.out c11; have d12_1 := keep_at HB1.out c12; have d13_1 := keep_at HB1.out c13; have d20_1 := keep_at HB1.out c20; have d21_1 := keep_at HB1.out c21; have d22_1 := keep_at HB1.out c22; have d23_1 := keep_at HB1.out c23; clear hb) | (go_at_call 57; (with_reducible refine (HBb.out _ (HT1.out.step HB1.out) (HW.out.step HB1.out)).mono ?_); rintro e w2 ⟨rfl, hb⟩; have HB2 := Lib.hid (HB1.out.trans (hb.mono HB1.out.size)); have HX2 := Lib.hid (keep_blk hb HX1.out); obtain ⟨s20, s21, s22, s23, s24, s25, s26, s27⟩ := box4 HX2.out; have d00_2 := keep_at HB2.out c00; have d01_2 := keep_at HB2.out c01; have d02_2 := keep_at HB2.out c02; have d03_2 := keep_at HB2.out c03; have d10_2 := keep_at HB2.out c10; have d11_2 := keep_at HB2.out c11; have d12_2 := keep_at HB2.out c12; have d13_2 := keep_at HB2.out c13; have d20_2 := keep_at HB2.out c20; have d21_2 := keep_at HB2.out c21; have d22_2 := keep_at HB2.out c22; have d23_2 := keep_at HB2.out c23; clear hb) | (go_at_call 57; (with_reducible refine (HBx.out _ (HT2.out.step HB2.out) (HW.out.step HB2.out)).mono ?_); rintro e w3 ⟨rfl, hb⟩; have HB3 := Lib.hid (HB2.out.trans (hb.mono HB2.out.size)); have HX3 := Lib.hid (keep_blk hb HX2.out); obtain ⟨s30, s31, s32, s33, s34, s35, s36, s37⟩ := box4 HX3.out; have d00_3 := keep_at HB3.out c00; have d01_3 := keep_at HB3.out c01; have d02_3 := keep_at HB3.out c02; have d03_3 := keep_at HB3.out c03; have d10_3 := keep_at HB3.out c10; have d11_3 := keep_at HB3.out c11; have d12_3 := keep_at HB3.out c12; have d13_3 := keep_at HB3.out c13; have d20_3 := keep_at HB3.out c20; have d21_3 := keep_at HB3.out c21; have d22_3 := keep_at HB3.out c22; have d23_3 := keep_at HB3.out c23; clear hb))
            go_ret
            exact ⟨by rw [← HQ.out] <;> rfl, HB3.out⟩
          | false =>
            have HBx := Lib.hid (fun W (hW : IsT W F x (.agg #[.int .i64 k20, .string ⟨x20.toArray⟩, .slice a20 m20 n20, .int .i64 l20])) (hK : KW W) => show Calls Tryd.prog 57 _ W fun e w' => e = .returned (.bool false) ∧ Below W.heap.size W w' by rw [← gHBx]; exact HCBl.out x F W _ hW hK hd2 hs2 hh2)
            have hkx := isT_kindOf HT2.out
            by_cases hk2 : k20 = 2
            rotate_left
            · have hk2b : (k20 == 2) = false := beq_eq_false_iff_ne.2 hk2
              have HQ := Lib.hid (show false = R by rw [← HR1.out, gHE, gHBb, gHBx, ← hkx]; simp [hk2])
              clear gHE gHBb gHBx hkx
              go_enter Tryd.func41, Tryd.ntmps41
              go_wp2_with (first | (go_at_call 56; (with_reducible refine (HE.out _ (HT0.out.step HB0.out) (HW.out.step HB0.out)).mono ?_); rintro e w1 ⟨rfl, hb⟩; have HB1 := Lib.hid (HB0.out.trans (hb.mono HB0.out.size)); have HX1 := Lib.hid (keep_blk hb HX0.out); obtain ⟨s10, s11, s12, s13, s14, s15, s16, s17⟩ := box4 HX1.out; have d00_1 := keep_at HB1.out c00; have d01_1 := keep_at HB1.out c01; have d02_1 := keep_at HB1.out c02; have d03_1 := keep_at HB1.out c03; have d10_1 := keep_at HB1.out c10; have d11_1 := keep_at HB1.out c11; have d12_1 := keep_at HB1.out c12; have d13_1 := keep_at HB1.out c13; have d20_1 := keep_at HB1.out c20; have d21_1 := keep_at HB1.out c21; have d22_1 := keep_at HB1.out c22; have d23_1 := keep_at HB1.out c23; clear hb) | (go_at_call 57; (with_reducible refine (HBb.out _ (HT1.out.step HB1.out) (HW.out.step HB1.out)).mono ?_); rintro e w2 ⟨rfl, hb⟩; have HB2 := Lib.hid (HB1.out.trans (hb.mono HB1.out.size)); have HX2 := Lib.hid (keep_blk hb HX1.out); obtain ⟨s20, s21, s22, s23, s24, s25, s26, s27⟩ := box4 HX2.out; have d00_2 := keep_at HB2.out c00; have d01_2 := keep_at HB2.out c01; have d02_2 := keep_at HB2.out c02; have d03_2 := keep_at HB2.out c03; have d10_2 := keep_at HB2.out c10; have d11_2 := keep_at HB2.out c11; have d12_2 := keep_at HB2.out c12; have d13_2 := keep_at HB2.out c13; have d20_2 := keep_at HB2.out c20; have d21_2 := keep_at HB2.out c21; have d22_2 := keep_at HB2.out c22; have d23_2 := keep_at HB2.out c23; clear hb) | (go_at_call 57; (with_reducible refine (HBx.out _ (HT2.out.step HB2.out) (HW.out.step HB2.out)).mono ?_); rintro e w3 ⟨rfl, hb⟩; have HB3 := Lib.hid (HB2.out.trans (hb.mono HB2.out.size)); have HX3 := Lib.hid (keep_blk hb HX2.out); obtain ⟨s30, s31, s32, s33, s34, s35, s36, s37⟩ := box4 HX3.out; have d00_3 := keep_at HB3.out c00; have d01_3 := keep_at HB3.out c01; have d02_3 := keep_at HB3.out c02; have d03_3 := keep_at HB3.out c03; have d10_3 := keep_at HB3.out c10; have d11_3 := keep_at HB3.out c11; have d12_3 := keep_at HB3.out c12; have d13_3 := keep_at HB3.out c13; have d20_3 := keep_at HB3.out c20; have d21_3 := keep_at HB3.out c21; have d22_3 := keep_at HB3.out c22; have d23_3 := keep_at HB3.out c23; clear hb))
              go_ret
              exact ⟨by rw [← HQ.out] <;> rfl, HB3.out⟩
            · subst hk2
              cases gHSx : stOK x with
              | false =>
                have HSx := Lib.hid (fun W (hW : IsT W F x (.agg #[.int .i64 2, .string ⟨x20.toArray⟩, .slice a20 m20 n20, .int .i64 l20])) (hK : KW W) => show Calls Tryd.prog 41 _ W fun e w' => e = .returned (.bool false) ∧ Below W.heap.size W w' by rw [← gHSx]; exact HCS.out x F W _ hW hK hd2 hs2 hh2)
                have HQ := Lib.hid (show false = R by rw [← HR1.out, gHE, gHBb, gHBx, ← hkx, gHSx]; rfl)
                clear gHE gHBb gHBx hkx gHSx
                go_enter Tryd.func41, Tryd.ntmps41
                go_wp2_with (first | (go_at_call 56; (with_reducible refine (HE.out _ (HT0.out.step HB0.out) (HW.out.step HB0.out)).mono ?_); rintro e w1 ⟨rfl, hb⟩; have HB1 := Lib.hid (HB0.out.trans (hb.mono HB0.out.size)); have HX1 := Lib.hid (keep_blk hb HX0.out); obtain ⟨s10, s11, s12, s13, s14, s15, s16, s17⟩ := box4 HX1.out; have d00_1 := keep_at HB1.out c00; have d01_1 := keep_at HB1.out c01; have d02_1 := keep_at HB1.out c02; have d03_1 := keep_at HB1.out c03; have d10_1 := keep_at HB1.out c10; have d11_1 := keep_at HB1.out c11; have d12_1 := keep_at HB1.out c12; have d13_1 := keep_at HB1.out c13; have d20_1 := keep_at HB1.out c20; have d21_1 := keep_at HB1.out c21; have d22_1 := keep_at HB1.out c22; have d23_1 := keep_at HB1.out c23; clear hb) | (go_at_call 57; (with_reducible refine (HBb.out _ (HT1.out.step HB1.out) (HW.out.step HB1.out)).mono ?_); rintro e w2 ⟨rfl, hb⟩; have HB2 := Lib.hid (HB1.out.trans (hb.mono HB1.out.size)); have HX2 := Lib.hid (keep_blk hb HX1.out); obtain ⟨s20, s21, s22, s23, s24, s25, s26, s27⟩ := box4 HX2.out; have d00_2 := keep_at HB2.out c00; have d01_2 := keep_at HB2.out c01; have d02_2 := keep_at HB2.out c02; have d03_2 := keep_at HB2.out c03; have d10_2 := keep_at HB2.out c10; have d11_2 := keep_at HB2.out c11; have d12_2 := keep_at HB2.out c12; have d13_2 := keep_at HB2.out c13; have d20_2 := keep_at HB2.out c20; have d21_2 := keep_at HB2.out c21; have d22_2 := keep_at HB2.out c22; have d23_2 := keep_at HB2.out c23; clear hb) | (go_at_call 57; (with_reducible refine (HBx.out _ (HT2.out.step HB2.out) (HW.out.step HB2.out)).mono ?_); rintro e w3 ⟨rfl, hb⟩; have HB3 := Lib.hid (HB2.out.trans (hb.mono HB2.out.size)); have HX3 := Lib.hid (keep_blk hb HX2.out); obtain ⟨s30, s31, s32, s33, s34, s35, s36, s37⟩ := box4 HX3.out; have d00_3 := keep_at HB3.out c00; have d01_3 := keep_at HB3.out c01; have d02_3 := keep_at HB3.out c02; have d03_3 := keep_at HB3.out c03; have d10_3 := keep_at HB3.out c10; have d11_3 := keep_at HB3.out c11; have d12_3 := keep_at HB3.out c12; have d13_3 := keep_at HB3.out c13; have d20_3 := keep_at HB3.out c20; have d21_3 := keep_at HB3.out c21; have d22_3 := keep_at HB3.out c22; have d23_3 := keep_at HB3.out c23; clear hb) | (go_at_call 41; (with_reducible refine (HSx.out _ (HT2.out.step HB3.out) (HW.out.step HB3.out)).mono ?_); rintro e w4 ⟨rfl, hb⟩; have HB4 := Lib.hid (HB3.out.trans (hb.mono HB3.out.size)); have HX4 := Lib.hid (keep_blk hb HX3.out); obtain ⟨s40, s41, s42, s43, s44, s45, s46, s47⟩ := box4 HX4.out; have d00_4 := keep_at HB4.out c00; have d01_4 := keep_at HB4.out c01; have d02_4 := keep_at HB4.out c02; have d03_4 := keep_at HB4.out c03; have d10_4 := keep_at HB4.out c10; have d11_4 := keep_at HB4.out c11; have d12_4 := keep_at HB4.out c12; have d13_4 := keep_at HB4.out c13; have d20_4 := keep_at HB4.out c20; have d21_4 := keep_at HB4.out c21; have d22_4 := keep_at HB4.out c22; have d23_4 := keep_at HB4.out c23; clear hb))
                go_ret
                exact ⟨by rw [← HQ.out] <;> rfl, HB4.out⟩
              | true =>
                have HSx := Lib.hid (fun W (hW : IsT W F x (.agg #[.int .i64 2, .string ⟨x20.toArray⟩, .slice a20 m20 n20, .int .i64 l20])) (hK : KW W) => show Calls Tryd.prog 41 _ W fun e w' => e = .returned (.bool true) ∧ Below W.heap.size W w' by rw [← gHSx]; exact HCS.out x F W _ hW hK hd2 hs2 hh2)
                have HQ := Lib.hid (show true = R by rw [← HR1.out, gHE, gHBb, gHBx, ← hkx, gHSx]; rfl)
                clear gHE gHBb gHBx hkx gHSx
                go_enter Tryd.func41, Tryd.ntmps41
                go_wp2_with (first | (go_at_call 56; (with_reducible refine (HE.out _ (HT0.out.step HB0.out) (HW.out.step HB0.out)).mono ?_); rintro e w1 ⟨rfl, hb⟩; have HB1 := Lib.hid (HB0.out.trans (hb.mono HB0.out.size)); have HX1 := Lib.hid (keep_blk hb HX0.out); obtain ⟨s10, s11, s12, s13, s14, s15, s16, s17⟩ := box4 HX1.out; have d00_1 := keep_at HB1.out c00; have d01_1 := keep_at HB1.out c01; have d02_1 := keep_at HB1.out c02; have d03_1 := keep_at HB1.out c03; have d10_1 := keep_at HB1.out c10; have d11_1 := keep_at HB1.out c11; have d12_1 := keep_at HB1.out c12; have d13_1 := keep_at HB1.out c13; have d20_1 := keep_at HB1.out c20; have d21_1 := keep_at HB1.out c21; have d22_1 := keep_at HB1.out c22; have d23_1 := keep_at HB1.out c23; clear hb) | (go_at_call 57; (with_reducible refine (HBb.out _ (HT1.out.step HB1.out) (HW.out.step HB1.out)).mono ?_); rintro e w2 ⟨rfl, hb⟩; have HB2 := Lib.hid (HB1.out.trans (hb.mono HB1.out.size)); have HX2 := Lib.hid (keep_blk hb HX1.out); obtain ⟨s20, s21, s22, s23, s24, s25, s26, s27⟩ := box4 HX2.out; have d00_2 := keep_at HB2.out c00; have d01_2 := keep_at HB2.out c01; have d02_2 := keep_at HB2.out c02; have d03_2 := keep_at HB2.out c03; have d10_2 := keep_at HB2.out c10; have d11_2 := keep_at HB2.out c11; have d12_2 := keep_at HB2.out c12; have d13_2 := keep_at HB2.out c13; have d20_2 := keep_at HB2.out c20; have d21_2 := keep_at HB2.out c21; have d22_2 := keep_at HB2.out c22; have d23_2 := keep_at HB2.out c23; clear hb) | (go_at_call 57; (with_reducible refine (HBx.out _ (HT2.out.step HB2.out) (HW.out.step HB2.out)).mono ?_); rintro e w3 ⟨rfl, hb⟩; have HB3 := Lib.hid (HB2.out.trans (hb.mono HB2.out.size)); have HX3 := Lib.hid (keep_blk hb HX2.out); obtain ⟨s30, s31, s32, s33, s34, s35, s36, s37⟩ := box4 HX3.out; have d00_3 := keep_at HB3.out c00; have d01_3 := keep_at HB3.out c01; have d02_3 := keep_at HB3.out c02; have d03_3 := keep_at HB3.out c03; have d10_3 := keep_at HB3.out c10; have d11_3 := keep_at HB3.out c11; have d12_3 := keep_at HB3.out c12; have d13_3 := keep_at HB3.out c13; have d20_3 := keep_at HB3.out c20; have d21_3 := keep_at HB3.out c21; have d22_3 := keep_at HB3.out c22; have d23_3 := keep_at HB3.out c23; clear hb) | (go_at_call 41; (with_reducible refine (HSx.out _ (HT2.out.step HB3.out) (HW.out.step HB3.out)).mono ?_); rintro e w4 ⟨rfl, hb⟩; have HB4 := Lib.hid (HB3.out.trans (hb.mono HB3.out.size)); have HX4 := Lib.hid (keep_blk hb HX3.out); obtain ⟨s40, s41, s42, s43, s44, s45, s46, s47⟩ := box4 HX4.out; have d00_4 := keep_at HB4.out c00; have d01_4 := keep_at HB4.out c01; have d02_4 := keep_at HB4.out c02; have d03_4 := keep_at HB4.out c03; have d10_4 := keep_at HB4.out c10; have d11_4 := keep_at HB4.out c11; have d12_4 := keep_at HB4.out c12; have d13_4 := keep_at HB4.out c13; have d20_4 := keep_at HB4.out c20; have d21_4 := keep_at HB4.out c21; have d22_4 := keep_at HB4.out c22; have d23_4 := keep_at HB4.out c23; clear hb))
                go_ret
                exact ⟨by rw [← HQ.out] <;> rfl, HB4.out⟩
  have HTX60 := Lib.hid (fun W => rprint_any ⟨tx.toArray⟩ W HSL.out)
  have HTX58 := Lib.hid (fun W => rnamed_any tx W)
  rw [show (⟨tx.toArray⟩ : ByteArray).data.toList = tx by simp] at HTX60
  have HB1 := HB0
  have HN := Lib.hid hN
  by_cases h3 : k = 3
  · subst h3
    have HQ0 := Lib.hid (show (namedP tx && (exprsOK ks && ((N : Int) == 1))) = R by rw [← HR.out, st_one_eq (namedP tx) (by decide) (by simp [head0]) (by simp [head1]), hN])
    clear HR HSH HSZ HD HK hN
    generalize exprsOK ks = E at *
    generalize namedP tx = B at *
    cases B with
    | false =>
      have HQ := Lib.hid (show false = R by rw [← HQ0.out]; rfl)
      go_enter Tryd.func41, Tryd.ntmps41
      go_wp2_with (first | (go_at_call 58; (with_reducible refine (HTX58.out _).mono ?_); rintro e w1 ⟨rfl, hb⟩; have HB1 := Lib.hid (HB0.out.trans (hb.mono HB0.out.size)); have HX1 := Lib.hid (keep_blk hb HX0.out); obtain ⟨s0, s1, s2, s3, z0, z1, z2, z3⟩ := box4 HX1.out; clear hb))
      go_ret
      exact ⟨by rw [← HQ.out] <;> rfl, HB1.out⟩
    | true =>
      have HQ := Lib.hid (show (E && ((N : Int) == 1)) = R by rw [← HQ0.out]; rfl)
      go_enter Tryd.func41, Tryd.ntmps41
      go_wp2_with (first | (go_at_call 58; (with_reducible refine (HTX58.out _).mono ?_); rintro e w1 ⟨rfl, hb⟩; have HB1 := Lib.hid (HB0.out.trans (hb.mono HB0.out.size)); have HX1 := Lib.hid (keep_blk hb HX0.out); obtain ⟨s0, s1, s2, s3, z0, z1, z2, z3⟩ := box4 HX1.out; clear hb) | (go_at_call 59; (with_reducible refine (HCX.out _ 1 HB1.out).mono ?_); rintro e w2 ⟨rfl, hb⟩; have HB2 := Lib.hid (HB1.out.trans (hb.mono HB1.out.size)); clear hb))
      go_ret
      exact ⟨by rw [← HQ.out] <;> rfl, HB2.out⟩
  by_cases h5 : k = 5
  · subst h5
    have HQ0 := Lib.hid (show (tx.all okB && (exprsOK ks && ((N : Int) == 1))) = R by rw [← HR.out, st_one_eq (tx.all okB) (by decide) (by simp [head0]) (by simp [head1]), hN])
    clear HR HSH HSZ HD HK hN
    generalize exprsOK ks = E at *
    generalize tx.all okB = B at *
    cases B with
    | false =>
      have HQ := Lib.hid (show false = R by rw [← HQ0.out]; rfl)
      go_enter Tryd.func41, Tryd.ntmps41
      go_wp2_with (first | (go_at_call 60; (with_reducible refine (HTX60.out _).mono ?_); rintro e w1 ⟨rfl, hb⟩; have HB1 := Lib.hid (HB0.out.trans (hb.mono HB0.out.size)); have HX1 := Lib.hid (keep_blk hb HX0.out); obtain ⟨s0, s1, s2, s3, z0, z1, z2, z3⟩ := box4 HX1.out; clear hb))
      go_ret
      exact ⟨by rw [← HQ.out] <;> rfl, HB1.out⟩
    | true =>
      have HQ := Lib.hid (show (E && ((N : Int) == 1)) = R by rw [← HQ0.out]; rfl)
      go_enter Tryd.func41, Tryd.ntmps41
      go_wp2_with (first | (go_at_call 60; (with_reducible refine (HTX60.out _).mono ?_); rintro e w1 ⟨rfl, hb⟩; have HB1 := Lib.hid (HB0.out.trans (hb.mono HB0.out.size)); have HX1 := Lib.hid (keep_blk hb HX0.out); obtain ⟨s0, s1, s2, s3, z0, z1, z2, z3⟩ := box4 HX1.out; clear hb) | (go_at_call 59; (with_reducible refine (HCX.out _ 1 HB1.out).mono ?_); rintro e w2 ⟨rfl, hb⟩; have HB2 := Lib.hid (HB1.out.trans (hb.mono HB1.out.size)); clear hb))
      go_ret
      exact ⟨by rw [← HQ.out] <;> rfl, HB2.out⟩
  by_cases h6 : k = 6
  · subst h6
    have HQ0 := Lib.hid (show (tx.all okB && ((N : Int) == 0)) = R by rw [← HR.out, st_zero_eq (tx.all okB) (by decide) (by simp [head0]) (by simp [head1]), hN])
    clear HR HSH HSZ HD HK hN
    generalize exprsOK ks = E at *
    generalize tx.all okB = B at *
    cases B with
    | false =>
      have HQ := Lib.hid (show false = R by rw [← HQ0.out]; rfl)
      go_enter Tryd.func41, Tryd.ntmps41
      go_wp2_with (first | (go_at_call 60; (with_reducible refine (HTX60.out _).mono ?_); rintro e w1 ⟨rfl, hb⟩; have HB1 := Lib.hid (HB0.out.trans (hb.mono HB0.out.size)); have HX1 := Lib.hid (keep_blk hb HX0.out); obtain ⟨s0, s1, s2, s3, z0, z1, z2, z3⟩ := box4 HX1.out; clear hb))
      go_ret
      exact ⟨by rw [← HQ.out] <;> rfl, HB1.out⟩
    | true =>
      have HQ := Lib.hid (show ((N : Int) == 0) = R by rw [← HQ0.out]; rfl)
      go_enter Tryd.func41, Tryd.ntmps41
      go_wp2_with (first | (go_at_call 60; (with_reducible refine (HTX60.out _).mono ?_); rintro e w1 ⟨rfl, hb⟩; have HB1 := Lib.hid (HB0.out.trans (hb.mono HB0.out.size)); have HX1 := Lib.hid (keep_blk hb HX0.out); obtain ⟨s0, s1, s2, s3, z0, z1, z2, z3⟩ := box4 HX1.out; clear hb))
      go_ret
      exact ⟨by rw [← HQ.out] <;> rfl, HB1.out⟩
  by_cases h7 : k = 7
  · subst h7
    rcases tx with _ | ⟨y, r⟩
    · have HQ0 := Lib.hid (show (true && (exprsOK ks && ((N : Int) == 1))) = R by rw [← HR.out, st_one_eq true (by decide) (by simp [head0]) (by simp [head1]), hN])
      clear HR HSH HSZ HD HK hN
      generalize exprsOK ks = E at *
      have HQ := Lib.hid (show (E && ((N : Int) == 1)) = R by rw [← HQ0.out]; rfl)
      go_enter Tryd.func41, Tryd.ntmps41
      go_wp2_with (first | (go_at_call 59; (with_reducible refine (HCX.out _ 1 HB1.out).mono ?_); rintro e w2 ⟨rfl, hb⟩; have HB2 := Lib.hid (HB1.out.trans (hb.mono HB1.out.size)); clear hb))
      go_ret
      exact ⟨by rw [← HQ.out] <;> rfl, HB2.out⟩
    · have HQ := Lib.hid (show false = R by rw [← HR.out, st_one_eq false (by decide) (by simp [head0]) (by simp [head1])]; rfl)
      clear HR HSH HSZ HD HK hN
      go_enter Tryd.func41, Tryd.ntmps41
      go_wp2_with fail
      go_ret
      exact ⟨by rw [← HQ.out] <;> rfl, HB0.out⟩
  by_cases h8 : k = 8
  · subst h8
    rcases tx with _ | ⟨y, r⟩
    · have HQ0 := Lib.hid (show (true && (exprsOK ks && ((N : Int) == 1))) = R by rw [← HR.out, st_one_eq true (by decide) (by simp [head0]) (by simp [head1]), hN])
      clear HR HSH HSZ HD HK hN
      generalize exprsOK ks = E at *
      have HQ := Lib.hid (show (E && ((N : Int) == 1)) = R by rw [← HQ0.out]; rfl)
      go_enter Tryd.func41, Tryd.ntmps41
      go_wp2_with (first | (go_at_call 59; (with_reducible refine (HCX.out _ 1 HB1.out).mono ?_); rintro e w2 ⟨rfl, hb⟩; have HB2 := Lib.hid (HB1.out.trans (hb.mono HB1.out.size)); clear hb))
      go_ret
      exact ⟨by rw [← HQ.out] <;> rfl, HB2.out⟩
    · have HQ := Lib.hid (show false = R by rw [← HR.out, st_one_eq false (by decide) (by simp [head0]) (by simp [head1])]; rfl)
      clear HR HSH HSZ HD HK hN
      go_enter Tryd.func41, Tryd.ntmps41
      go_wp2_with fail
      go_ret
      exact ⟨by rw [← HQ.out] <;> rfl, HB0.out⟩
  by_cases h9 : k = 9
  · subst h9
    rcases tx with _ | ⟨y, r⟩
    · have HQ0 := Lib.hid (show (true && (exprsOK ks && ((N : Int) == 1))) = R by rw [← HR.out, st_one_eq true (by decide) (by simp [head0]) (by simp [head1]), hN])
      clear HR HSH HSZ HD HK hN
      generalize exprsOK ks = E at *
      have HQ := Lib.hid (show (E && ((N : Int) == 1)) = R by rw [← HQ0.out]; rfl)
      go_enter Tryd.func41, Tryd.ntmps41
      go_wp2_with (first | (go_at_call 59; (with_reducible refine (HCX.out _ 1 HB1.out).mono ?_); rintro e w2 ⟨rfl, hb⟩; have HB2 := Lib.hid (HB1.out.trans (hb.mono HB1.out.size)); clear hb))
      go_ret
      exact ⟨by rw [← HQ.out] <;> rfl, HB2.out⟩
    · have HQ := Lib.hid (show false = R by rw [← HR.out, st_one_eq false (by decide) (by simp [head0]) (by simp [head1])]; rfl)
      clear HR HSH HSZ HD HK hN
      go_enter Tryd.func41, Tryd.ntmps41
      go_wp2_with fail
      go_ret
      exact ⟨by rw [← HQ.out] <;> rfl, HB0.out⟩
  by_cases h10 : k = 10
  · subst h10
    rcases tx with _ | ⟨y, r⟩
    · have HQ0 := Lib.hid (show (true && ((N : Int) == 0)) = R by rw [← HR.out, st_zero_eq true (by decide) (by simp [head0]) (by simp [head1]), hN])
      clear HR HSH HSZ HD HK hN
      generalize exprsOK ks = E at *
      have HQ := Lib.hid (show ((N : Int) == 0) = R by rw [← HQ0.out]; rfl)
      go_enter Tryd.func41, Tryd.ntmps41
      go_wp2_with fail
      go_ret
      exact ⟨by rw [← HQ.out] <;> rfl, HB0.out⟩
    · have HQ := Lib.hid (show false = R by rw [← HR.out, st_zero_eq false (by decide) (by simp [head0]) (by simp [head1])]; rfl)
      clear HR HSH HSZ HD HK hN
      go_enter Tryd.func41, Tryd.ntmps41
      go_wp2_with fail
      go_ret
      exact ⟨by rw [← HQ.out] <;> rfl, HB0.out⟩
  by_cases h11 : k = 11
  · subst h11
    rcases tx with _ | ⟨y, r⟩
    · have HQ0 := Lib.hid (show (true && ((N : Int) == 0)) = R by rw [← HR.out, st_zero_eq true (by decide) (by simp [head0]) (by simp [head1]), hN])
      clear HR HSH HSZ HD HK hN
      generalize exprsOK ks = E at *
      have HQ := Lib.hid (show ((N : Int) == 0) = R by rw [← HQ0.out]; rfl)
      go_enter Tryd.func41, Tryd.ntmps41
      go_wp2_with fail
      go_ret
      exact ⟨by rw [← HQ.out] <;> rfl, HB0.out⟩
    · have HQ := Lib.hid (show false = R by rw [← HR.out, st_zero_eq false (by decide) (by simp [head0]) (by simp [head1])]; rfl)
      clear HR HSH HSZ HD HK hN
      go_enter Tryd.func41, Tryd.ntmps41
      go_wp2_with fail
      go_ret
      exact ⟨by rw [← HQ.out] <;> rfl, HB0.out⟩
  by_cases h4 : k = 4
  · subst h4
    by_cases ht1 : tx = [112, 97, 116, 104]
    · subst ht1
      have HQ0 := Lib.hid (show (true && (exprsOK ks && ((N : Int) == 1))) = R by rw [← HR.out, st_one_eq true (by decide) (by simp [head0]) (by simp [head1]), hN])
      clear HR HSH HSZ HD HK hN
      generalize exprsOK ks = E at *
      have HQ := Lib.hid (show (E && ((N : Int) == 1)) = R by rw [← HQ0.out]; rfl)
      go_enter Tryd.func41, Tryd.ntmps41
      go_wp2_with (first | (go_at_call 59; (with_reducible refine (HCX.out _ 1 HB1.out).mono ?_); rintro e w2 ⟨rfl, hb⟩; have HB2 := Lib.hid (HB1.out.trans (hb.mono HB1.out.size)); clear hb))
      go_ret
      exact ⟨by rw [← HQ.out] <;> rfl, HB2.out⟩
    by_cases ht2 : tx = [113, 117, 101, 114, 121]
    · subst ht2
      have HQ0 := Lib.hid (show (true && (exprsOK ks && ((N : Int) == 1))) = R by rw [← HR.out, st_one_eq true (by decide) (by simp [head0]) (by simp [head1]), hN])
      clear HR HSH HSZ HD HK hN
      generalize exprsOK ks = E at *
      have HQ := Lib.hid (show (E && ((N : Int) == 1)) = R by rw [← HQ0.out]; rfl)
      go_enter Tryd.func41, Tryd.ntmps41
      go_wp2_with (first | (go_at_call 59; (with_reducible refine (HCX.out _ 1 HB1.out).mono ?_); rintro e w2 ⟨rfl, hb⟩; have HB2 := Lib.hid (HB1.out.trans (hb.mono HB1.out.size)); clear hb))
      go_ret
      exact ⟨by rw [← HQ.out] <;> rfl, HB2.out⟩
    · have hb1 : (tx == [112, 97, 116, 104]) = false := beq_eq_false_iff_ne.2 ht1
      have hb2 : (tx == [113, 117, 101, 114, 121]) = false := beq_eq_false_iff_ne.2 ht2
      have HQ := Lib.hid (show false = R by rw [← HR.out, st_one_eq false (by decide) (by simp [head0]) (by simp [head1, ht1, ht2])]; rfl)
      clear HR HSH HSZ HD HK hN
      go_enter Tryd.func41, Tryd.ntmps41
      go_wp2_with fail
      go_ret
      exact ⟨by rw [← HQ.out] <;> rfl, HB0.out⟩
  have HQ := Lib.hid (show false = R by rw [← HR.out, st_zero_eq false h2 (by simp [head0, h6, h10, h11]) (by simp [head1, h3, h4, h5, h7, h8, h9])]; rfl)
  have hb2 : (k == 2) = false := beq_eq_false_iff_ne.2 h2
  have hb3 : (k == 3) = false := beq_eq_false_iff_ne.2 h3
  have hb4 : (k == 4) = false := beq_eq_false_iff_ne.2 h4
  have hb5 : (k == 5) = false := beq_eq_false_iff_ne.2 h5
  have hb6 : (k == 6) = false := beq_eq_false_iff_ne.2 h6
  have hb7 : (k == 7) = false := beq_eq_false_iff_ne.2 h7
  have hb8 : (k == 8) = false := beq_eq_false_iff_ne.2 h8
  have hb9 : (k == 9) = false := beq_eq_false_iff_ne.2 h9
  have hb10 : (k == 10) = false := beq_eq_false_iff_ne.2 h10
  have hb11 : (k == 11) = false := beq_eq_false_iff_ne.2 h11
  go_enter Tryd.func41, Tryd.ntmps41
  go_wp2_with fail
  go_ret
  exact ⟨by rw [← HQ.out] <;> rfl, HB0.out⟩
def RsC (n : Nat) : Prop := ∀ (t : Tree) (F : Nat → Prop) (w : World) (v : Value), IsT w F t v → depthT t ≤ n → sizeT t ≤ 1000000000 → shortT t →
  Calls Tryd.prog 41 #[v] w fun e w' => e = .returned (.bool (stOK t)) ∧ Below w.heap.size w w'
def RallC (n : Nat) : Prop := ∀ (ks : List Tree) (F : Nat → Prop) (w : World) (v : Value), IsKids w F ks v → KW w → depthL ks ≤ n → sizeL ks ≤ 1000000000 → shortL ks →
  Calls Tryd.prog 26 #[v] w fun e w' => e = .returned (.bool (stsOK ks)) ∧ Below w.heap.size w w'
set_option maxRecDepth 20000 in
set_option maxHeartbeats 1000000 in
theorem all_ok (n : Nat) (HCk : OkC 41 stOK n) : RallC n := by
  have HCall := Lib.hid HCk
  intro ks F w v hks hw hd hs hsh
  have HK := Lib.hid hks
  have HW := Lib.hid hw
  have HD := Lib.hid hd
  have HSH := Lib.hid hsh
  have HSZ := Lib.hid hs
  obtain ⟨R, hR⟩ : ∃ R, (stsOK ks) = R := ⟨_, rfl⟩
  rw [hR]
  have HR := Lib.hid hR
  have hl : ks.length ≤ 1000000000 := by have := len_le_size ks; omega
  obtain ⟨a, c, rfl⟩ : ∃ a c, v = .slice a ks.length c := by
    obtain ⟨a, c, hv, _⟩ := hks
    exact ⟨a, c, hv⟩
  have hl0 : (0 : Int) ≤ (ks.length : Int) := by omega
  clear hks hw hd hs hsh hR HCk
  go_enter Tryd.func26, Tryd.ntmps26
  go_wp2_with fail
  go_loopw [6] (fun i wr => ∃ q : Nat, i = .int .i64 q ∧ q ≤ ks.length ∧ stsOK (ks.take q) = true ∧ Below w.heap.size w wr) (fun i _ => ks.length - (intOf i).toNat)
  case atStart => exact ⟨0, rfl, Nat.zero_le _, by simp [stsOK_nil], Below.refl _ _⟩
  case round =>
    obtain ⟨q, rfl, hq, hall, hb⟩ := hrel
    have HB := Lib.hid hb
    have HALL := Lib.hid hall
    clear hb hall
    by_cases hlt : q < ks.length
    · obtain ⟨t', ht'⟩ : ∃ t', ks[q]? = some t' := ⟨_, List.getElem?_eq_getElem hlt⟩
      obtain ⟨b, off, cap, k0, x0, a0, m0, n0, l0, hv, c0, c1, c2, c3, hT⟩ := IsKids.at (HK.out.step HB.out) ht'
      simp only [Value.slice.injEq] at hv
      obtain ⟨rfl, -, rfl⟩ := hv
      have HT := Lib.hid hT
      have HZ := Lib.hid (stsOK_take ht')
      have HZN := Lib.hid (fun h => stsOK_bad ht' h)
      have h3 := depthT_at ht'
      have h4 := sizeT_at ht'
      have h5 := shortT_at HSH.out ht'
      have HCC := Lib.hid (fun W (hW : IsT W F t' (.agg #[.int .i64 k0, .string ⟨x0.toArray⟩, .slice a0 m0 n0, .int .i64 l0])) (hK : KW W) => HCall.out t' F W _ hW hK (by have := HD.out; omega) (by have := HSZ.out; omega) h5)
      have hlti : (q : Int) < (ks.length : Int) := by omega
      clear h3 h4 h5 hT ht'
      cases hone : stOK t' with
      | false =>
        have HQ := Lib.hid (HZN.out hone)
        have HC2 := Lib.hid (fun W hW hK => show Calls Tryd.prog 41 _ W fun e w' => e = .returned (.bool false) ∧ Below W.heap.size W w' by rw [← hone]; exact HCC.out W hW hK)
        clear hone
        go_wp2_with (first | (go_at_call 41; (with_reducible refine (HC2.out _ HT.out (HW.out.step HB.out)).mono ?_); rintro e w1 ⟨rfl, hb1⟩; have HB1 := Lib.hid hb1; clear hb1))
        go_ret
        exact ⟨by rw [← HR.out, HQ.out] <;> rfl, HB.out.trans (HB1.out.mono HB.out.size)⟩
      | true =>
        have HZ2 := Lib.hid (HZ.out.trans (by rw [HALL.out, hone] <;> rfl))
        have HC2 := Lib.hid (fun W hW hK => show Calls Tryd.prog 41 _ W fun e w' => e = .returned (.bool true) ∧ Below W.heap.size W w' by rw [← hone]; exact HCC.out W hW hK)
        clear hone
        go_wp2_with (first | (go_at_call 41; (with_reducible refine (HC2.out _ HT.out (HW.out.step HB.out)).mono ?_); rintro e w1 ⟨rfl, hb1⟩; have HB1 := Lib.hid hb1; clear hb1))
        go_roundw
        case rel => exact ⟨q + 1, by go_num, by omega, HZ2.out, HB.out.trans (HB1.out.mono HB.out.size)⟩
        case measure => simp [intOf]; omega
    · have hq2 : q = ks.length := by omega
      subst hq2
      have HQ := Lib.hid (by have := HALL.out; rwa [List.take_length] at this : stsOK ks = true)
      go_wp2_with fail
      go_ret
      exact ⟨by rw [← HR.out, HQ.out] <;> rfl, HB.out⟩
set_option maxRecDepth 20000 in
set_option maxHeartbeats 1000000 in
theorem rblock_ok (n : Nat) (HA : RallC n) : OkC 57 blOK (n + 1) := by
  intro t F w v ht hw hd hs hsh
  obtain ⟨k, tx, ks, l⟩ := t
  obtain ⟨kv, rfl, hks⟩ := isT_node.1 ht
  rw [depthT_node] at hd
  rw [sizeT_node] at hs
  rw [shortT_node] at hsh
  obtain ⟨htx, hshl⟩ := hsh
  obtain ⟨R, hR⟩ : ∃ R, blOK (.node k tx ks l) = R := ⟨_, rfl⟩
  rw [hR]
  rw [blOK_node] at hR
  have HR := Lib.hid hR
  have HAA := Lib.hid (fun W (hW : Below w.heap.size w W) => HA ks F W kv (hks.step hW) (hw.step hW) (by omega) (by omega) hshl)
  obtain ⟨a, c, rfl⟩ : ∃ a c, kv = .slice a ks.length c := by
    obtain ⟨a, c, hv, _⟩ := hks
    exact ⟨a, c, hv⟩
  generalize ks.length = N at *
  have HB0 := Lib.hid (bel_new w (.cells #[.int .i64 k, .string ⟨tx.toArray⟩, .slice a N c, .int .i64 l] 26))
  have HX0 := Lib.hid (heap_alloc_new w (.cells #[.int .i64 k, .string ⟨tx.toArray⟩, .slice a N c, .int .i64 l] 26))
  obtain ⟨r0, r1, r2, r3, q0, q1, q2, q3⟩ := box4 HX0.out
  clear ht hd hs hks hR htx hshl HA hw
  by_cases h12 : k = 12
  rotate_left
  · have hb : (k == 12) = false := beq_eq_false_iff_ne.2 h12
    have HQ := Lib.hid (show false = R by rw [← HR.out]; simp [h12])
    go_enter Tryd.func57, Tryd.ntmps57
    go_wp2_with fail
    go_ret
    exact ⟨by rw [← HQ.out] <;> rfl, HB0.out⟩
  subst h12
  rcases tx with _ | ⟨y, r⟩
  rotate_left
  · have HQ := Lib.hid (show false = R by rw [← HR.out]; simp)
    go_enter Tryd.func57, Tryd.ntmps57
    go_wp2_with fail
    go_ret
    exact ⟨by rw [← HQ.out] <;> rfl, HB0.out⟩
  have HQ := Lib.hid (show stsOK ks = R by rw [← HR.out]; simp)
  generalize stsOK ks = E at *
  go_enter Tryd.func57, Tryd.ntmps57
  go_wp2_with (first | (go_at_call 26; (with_reducible refine (HAA.out _ HB0.out).mono ?_); rintro e w9 ⟨rfl, hb⟩; have HBZ := HB0; have HB9 := Lib.hid (HBZ.out.trans (hb.mono HBZ.out.size)); clear hb))
  go_ret
  exact ⟨by rw [← HQ.out] <;> rfl, HB9.out⟩
theorem rvalid_all : ∀ n, OkC 41 stOK n ∧ OkC 57 blOK n
  | 0 => ⟨fun t F w v ht hw hd hs hsh => by have := depth_pos t; omega, fun t F w v ht hw hd hs hsh => by have := depth_pos t; omega⟩
  | n + 1 => ⟨rstand_ok n (rvalid_all n).1 (rvalid_all n).2 (exprs_ok n (rexpr_all n)), rblock_ok n (all_ok n (rvalid_all n).1)⟩
set_option maxRecDepth 20000 in
set_option maxHeartbeats 2000000 in
theorem rvalid_any (t : Tree) (F : Nat → Prop) (w : World) (v : Value) (ht : IsT w F t v) (hw : KW w) (hs : sizeT t ≤ 1000000000) (hsh : shortT t) :
    Calls Tryd.prog 15 #[v] w fun e w' => e = .returned (.bool (validP t)) ∧ Below w.heap.size w w' := by
  have HSI := Lib.hid (fun W G x (hx : IsT W G t x) => (size_all (depthT t)).2.1 t G W x hx (Nat.le_refl _) hs)
  have HDE := Lib.hid (fun W G x (hx : IsT W G t x) => (size_all (depthT t)).2.2.2 t G W x hx (Nat.le_refl _) hs)
  have hds := depth_le_size t
  have HT0 := Lib.hid ht
  obtain ⟨k, tx, ks, l⟩ := t
  obtain ⟨kv, rfl, hks⟩ := isT_node.1 ht
  obtain ⟨R, hR⟩ : ∃ R, validP (.node k tx ks l) = R := ⟨_, rfl⟩
  rw [hR]
  rw [validP_node] at hR
  have HR := Lib.hid hR
  have hs2 := hs
  rw [sizeT_node] at hs2
  rw [shortT_node] at hsh
  have HAA := Lib.hid (fun W (hW : Below w.heap.size w W) => all_ok (depthL ks) (rvalid_all (depthL ks)).1 ks F W kv (hks.step hW) (hw.step hW) (Nat.le_refl _) (by omega) hsh.2)
  generalize hSZ : sizeT (.node k tx ks l) = S at *
  generalize hDP : depthT (.node k tx ks l) = Dp at *
  have hSi : (S : Int) ≤ 1000000000 := by omega
  have hDi : (Dp : Int) ≤ 1000000000 := by omega
  obtain ⟨a, c, rfl⟩ : ∃ a c, kv = .slice a ks.length c := by
    obtain ⟨a, c, hv, _⟩ := hks
    exact ⟨a, c, hv⟩
  generalize ks.length = N at *
  have HB0 := Lib.hid (bel_new w (.cells #[.int .i64 k, .string ⟨tx.toArray⟩, .slice a N c, .int .i64 l] 26))
  have HX0 := Lib.hid (heap_alloc_new w (.cells #[.int .i64 k, .string ⟨tx.toArray⟩, .slice a N c, .int .i64 l] 26))
  obtain ⟨r0, r1, r2, r3, q0, q1, q2, q3⟩ := box4 HX0.out
  have HT1 := Lib.hid (HT0.out.step HB0.out)
  clear ht hks hR hs hs2 hsh hds hw HT0
  by_cases h1 : k = 1
  rotate_left
  · have hb : (k == 1) = false := beq_eq_false_iff_ne.2 h1
    have HQ := Lib.hid (show false = R by rw [← HR.out]; simp [h1])
    clear HR hSZ hDP
    go_enter Tryd.func15, Tryd.ntmps15
    go_wp2_with fail
    go_ret
    exact ⟨by rw [← HQ.out] <;> rfl, HB0.out⟩
  subst h1
  rcases tx with _ | ⟨y, r⟩
  rotate_left
  · have HQ := Lib.hid (show false = R by rw [← HR.out]; simp)
    clear HR hSZ hDP
    go_enter Tryd.func15, Tryd.ntmps15
    go_wp2_with fail
    go_ret
    exact ⟨by rw [← HQ.out] <;> rfl, HB0.out⟩
  clear hSZ hDP
  by_cases hS : S ≤ 512
  rotate_left
  · have hS1 : ¬ (S : Int) ≤ 512 := by omega
    have HQ := Lib.hid (show false = R by rw [← HR.out, decide_eq_false (show ¬ (S ≤ 512 ∧ Dp ≤ 32) from fun h => hS h.1)]; simp)
    clear HR hS
    go_enter Tryd.func15, Tryd.ntmps15
    go_wp2_with (first | (go_at_call 14; (with_reducible refine (HSI.out _ _ _ HT1.out).mono ?_); rintro e w1 ⟨rfl, hb⟩; have HB1 := Lib.hid (HB0.out.trans (hb.mono HB0.out.size)); have HX1 := Lib.hid (keep_blk hb HX0.out); have HT2 := Lib.hid (HT1.out.step hb); obtain ⟨s0, s1, s2, s3, z0, z1, z2, z3⟩ := box4 HX1.out; clear hb))
    go_ret
    exact ⟨by rw [← HQ.out] <;> rfl, HB1.out⟩
  have hS1 : (S : Int) ≤ 512 := by omega
  by_cases hD : Dp ≤ 32
  rotate_left
  · have hD1 : ¬ (Dp : Int) ≤ 32 := by omega
    have HQ := Lib.hid (show false = R by rw [← HR.out, decide_eq_false (show ¬ (S ≤ 512 ∧ Dp ≤ 32) from fun h => hD h.2)]; simp)
    clear HR hS hD
    go_enter Tryd.func15, Tryd.ntmps15
    go_wp2_with (first | (go_at_call 14; (with_reducible refine (HSI.out _ _ _ HT1.out).mono ?_); rintro e w1 ⟨rfl, hb⟩; have HB1 := Lib.hid (HB0.out.trans (hb.mono HB0.out.size)); have HX1 := Lib.hid (keep_blk hb HX0.out); have HT2 := Lib.hid (HT1.out.step hb); obtain ⟨s0, s1, s2, s3, z0, z1, z2, z3⟩ := box4 HX1.out; clear hb) | (go_at_call 25; (with_reducible refine (HDE.out _ _ _ HT2.out).mono ?_); rintro e w2 ⟨rfl, hb⟩; have HB2 := Lib.hid (HB1.out.trans (hb.mono HB1.out.size)); have HX2 := Lib.hid (keep_blk hb HX1.out); obtain ⟨t0, t1, t2, t3, y0, y1, y2, y3⟩ := box4 HX2.out; clear hb))
    go_ret
    exact ⟨by rw [← HQ.out] <;> rfl, HB2.out⟩
  have hD1 : (Dp : Int) ≤ 32 := by omega
  have HQ := Lib.hid (show stsOK ks = R by rw [← HR.out, decide_eq_true (show S ≤ 512 ∧ Dp ≤ 32 from ⟨hS, hD⟩)]; simp)
  clear HR hS hD
  generalize stsOK ks = E at *
  go_enter Tryd.func15, Tryd.ntmps15
  go_wp2_with (first | (go_at_call 14; (with_reducible refine (HSI.out _ _ _ HT1.out).mono ?_); rintro e w1 ⟨rfl, hb⟩; have HB1 := Lib.hid (HB0.out.trans (hb.mono HB0.out.size)); have HX1 := Lib.hid (keep_blk hb HX0.out); have HT2 := Lib.hid (HT1.out.step hb); obtain ⟨s0, s1, s2, s3, z0, z1, z2, z3⟩ := box4 HX1.out; clear hb) | (go_at_call 25; (with_reducible refine (HDE.out _ _ _ HT2.out).mono ?_); rintro e w2 ⟨rfl, hb⟩; have HB2 := Lib.hid (HB1.out.trans (hb.mono HB1.out.size)); have HX2 := Lib.hid (keep_blk hb HX1.out); obtain ⟨t0, t1, t2, t3, y0, y1, y2, y3⟩ := box4 HX2.out; clear hb) | (go_at_call 26; (with_reducible refine (HAA.out _ HB2.out).mono ?_); rintro e w9 ⟨rfl, hb⟩; have HBZ := HB2; have HB9 := Lib.hid (HBZ.out.trans (hb.mono HBZ.out.size)); clear hb))
  go_ret
  exact ⟨by rw [← HQ.out] <;> rfl, HB9.out⟩
end Go.Proofs.YtogkiifljdnjgaaDoor
