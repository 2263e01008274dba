/- The cursor's method Texts. No condition beyond what a cursor in memory is. -/
import Derived.Test.YtbfpjldincnihaaVals
namespace Go.Proofs.Ytbfpjldincnihaa
open Go.RowKit
set_option linter.unusedVariables false
set_option linter.unusedSimpArgs false

def tcell (s : List UInt8) : Value := .string ⟨s.toArray⟩
/-- The call owns the list of texts ts, from block 'base' on. -/
def OwnT (w : World) (base : Nat) (v : Value) (ts : List (List UInt8)) : Prop := w.ownsRow base 9 1 v ts.length (ts.map tcell)
theorem OwnT.isT {w : World} {base : Nat} {v : Value} {ts : List (List UInt8)} (h : OwnT w base v ts) : IsT w v ts := by
  obtain ⟨h0, h1⟩ := h
  rcases h1 with ⟨rfl, hn⟩ | ⟨g, cap, cur, rfl, hb, hg, hn, hm, hs, ht⟩
  · obtain rfl := List.eq_nil_of_length_eq_zero hn
    exact .inl ⟨rfl, none, 0, rfl, Nat.zero_le _, fun _ => rfl⟩
  · by_cases hl : ts = []
    · subst hl
      exact .inl ⟨rfl, _, cap, rfl, hm, fun h => by cases h⟩
    · refine .inr ⟨hl, g, 0, cap, rfl, hn, hm, fun i c hi => ?_⟩
      have hh : (ts.map tcell)[i]? = some (tcell c) := by rw [List.getElem?_map, hi]; rfl
      rw [← ht] at hh
      have hi' : i < ts.length := (List.getElem?_eq_some_iff.1 hi).1
      rw [List.getElem?_take, if_pos (by omega)] at hh
      have : w.cell? ⟨g, i, none⟩ = some (tcell c) := by
        simp only [World.cell?, hg]
        simpa using hh
      simpa [tcell] using this
theorem OwnT.nil (w : World) (base : Nat) : OwnT w base (.slice none 0 0) [] := World.ownsRow_nil _ _ _ _
theorem OwnT.only {w w' : World} {base b : Nat} {v : Value} {ts : List (List UInt8)} (h : OwnT w base v ts) (ho : Only b w w') (hb : b < base) : OwnT w' base v ts :=
  World.ownsRow.kept (row := some b) h ho (by
    rcases h.2 with ⟨rfl, _⟩ | ⟨g, cap, cur, rfl, hg, _⟩
    · exact .inl rfl
    · right
      simp only [Value.ownBlock, ne_eq, Option.some.injEq]
      omega)
theorem OwnT.step {w w' : World} {base : Nat} {v : Value} {ts : List (List UInt8)} (h : OwnT w base v ts) (hb : Below w.heap.size w w') : OwnT w' base v ts :=
  World.ownsRow.kept (row := none) h ⟨hb.os, hb.tape, hb.output, hb.size, fun k hk _ => hb.block k hk⟩ (by
    cases v.ownBlock with
    | none => exact .inl rfl
    | some k => exact .inr (by simp))
theorem OwnT.mono {w : World} {base B : Nat} {v : Value} {ts : List (List UInt8)} (h : OwnT w base v ts) (hB : B ≤ base) : OwnT w B v ts := by
  obtain ⟨h0, h1⟩ := h
  refine ⟨h0, ?_⟩
  rcases h1 with h1 | ⟨g, cap, cur, h2, h3, h4⟩
  · exact .inl h1
  · exact .inr ⟨g, cap, cur, h2, Nat.le_trans hB h3, h4⟩
theorem OwnT.shape {w : World} {base : Nat} {v : Value} {ts : List (List UInt8)} (h : OwnT w base v ts) : ∃ a c, v = .slice a ts.length c := by
  obtain ⟨a, c, hv, _, _⟩ := h.isT.shape
  exact ⟨a, c, hv⟩
theorem info9 : (Try.prog.info? 9).map (fun i => (i.zero, i.size, i.bytes)) = some (some (.string ⟨#[]⟩), 1, 16) := by kernel_rfl
/-- append of one text to texts of the call's own. -/
theorem wpList_appT {ops : Array Oper} {rest : List Oper} {o : Oper} {a : Act} {Q : Exit → Act → World → Prop} {w : World} (hgd : o.guard = none) (s x : Operand)
    (ho : o.op = .call { callee := .builtin .append, args := #[s, x], argTypes := #[22, 22] })
    (base : Nat) (v : Value) (ts : List (List UInt8)) (hs : a.eval s = v) (hown : OwnT w base v ts) (g : Nat) (t : List UInt8) (hx : a.eval x = .slice (some ⟨g, 0, none⟩) 1 1)
    (h0 : w.cell? ⟨g, 0, none⟩ = some (.string ⟨t.toArray⟩))
    (hb : ts.length ≤ 3000000) (hbase : base ≤ w.heap.size)
    (h : ∀ v' w', OwnT w' base v' (ts ++ [t]) → Below base w w' → w.heap.size ≤ w'.heap.size → wpList Try.prog ops Q rest (a.put o.dst v') w') : wpList Try.prog ops Q (o :: rest) a w := by
  obtain ⟨i0, hi, hz0, hz1, hz2⟩ := info_parts info9
  refine wpList_append_own _ hgd s x 22 ho base 9 i0 _ 1 16 Try.underlying22 hi hz0 hz1 hz2 rfl (by decide) v ts.length (ts.map tcell) hs hown ⟨g, 0, none⟩ 1 1 [tcell t] hx rfl ?_ ?_ (by unfold maxLen; omega) (by omega) hbase ?_
  · intro j u hj
    match j, hj with
    | 0, hj => simp at hj; subst hj; exact h0
    | j + 1, hj => simp at hj
  · intro u hu
    simp only [List.mem_singleton] at hu
    subst hu
    rfl
  · intro v' w' hown' hgrow hnil
    refine h v' w' ?_ ((Below.refl base w).grown hgrow hbase fun k hk => (World.ownsRow.lt hown k hk).1) hgrow.size
    unfold OwnT
    rw [List.length_append, List.map_append]
    exact hown'
/-- A list of texts taken: it and what is left, or nothing. -/
def wordsF : Nat → List UInt8 → Option (List (List UInt8) × List UInt8)
  | 0, l => some ([], l)
  | n + 1, l => match wordR l with
    | none => none
    | some (s, r) => (wordsF n r).map fun x => (s :: x.1, x.2)
def wordsR (l : List UInt8) : Option (List (List UInt8) × List UInt8) :=
  match numR l with
  | none => none
  | some (n, r) => if n ≤ r.length then wordsF n r else none
theorem wordR_bd {l s r : List UInt8} (h : wordR l = some (s, r)) : r.length < l.length ∧ s.length ≤ l.length := by
  unfold wordR at h
  split at h
  · cases h
  · rename_i n r' hn
    have := numR_bd hn
    split at h
    · simp only [Option.some.injEq, Prod.mk.injEq] at h
      obtain ⟨rfl, rfl⟩ := h
      simp only [List.length_drop, List.length_take]
      omega
    · cases h
theorem wordsF_more {n k : Nat} {ll s r' : List UInt8} {ts : List (List UInt8)} {W : Option (List (List UInt8) × List UInt8)} (hk : k < n) (hw : wordR ll = some (s, r'))
    (h : (wordsF (n - k) ll).map (fun x => (ts ++ x.1, x.2)) = W) : (wordsF (n - (k + 1)) r').map (fun x => ((ts ++ [s]) ++ x.1, x.2)) = W := by
  rw [← h, show n - k = (n - (k + 1)) + 1 by omega]
  simp only [wordsF, hw, Option.map_map]
  congr 1
  funext x
  simp
theorem wordsF_done {n k : Nat} {ll : List UInt8} {ts : List (List UInt8)} {W : Option (List (List UInt8) × List UInt8)} (hk : n ≤ k) (h : (wordsF (n - k) ll).map (fun x => (ts ++ x.1, x.2)) = W) : W = some (ts, ll) := by
  rw [← h, show n - k = 0 by omega]
  simp [wordsF]
theorem wordsF_fail {n k : Nat} {ll : List UInt8} {ts : List (List UInt8)} {W : Option (List (List UInt8) × List UInt8)} (hk : k < n) (hw : wordR ll = none)
    (h : (wordsF (n - k) ll).map (fun x => (ts ++ x.1, x.2)) = W) : W = none := by
  rw [← h, show n - k = (n - (k + 1)) + 1 by omega]
  simp only [wordsF, hw, Option.map_none]
theorem Only.bel {b B : Nat} {w w5 w7 : World} (h : Only b w w5) (hb : Below B w5 w7) (hB : w.heap.size ≤ B) : Only b w w7 :=
  ⟨hb.os.trans h.os, hb.tape.trans h.tape, hb.output.trans h.output, Nat.le_trans h.size hb.size, fun k hk hn => (hb.block k (by omega)).trans (h.block k hk hn)⟩
def TextsPost (B : Nat) (w : World) (b : Nat) (o : Option (List (List UInt8) × List UInt8)) (e : Ending) (w' : World) : Prop :=
  ∃ u, e = .returned u ∧ OwnT w' w.heap.size u (match o with | some (s, _) => s | none => []) ∧ (∃ a c n, u = .slice a n c) ∧ CurO B w' b (o.map (·.2)) ∧ Only b w w'
def TextsR (n q : Nat) (ts : List (List UInt8)) (o : Option (List UInt8)) (W : Option (List (List UInt8) × List UInt8)) : Prop :=
  match o with
  | some ll => (wordsF (n - q) ll).map (fun x => (ts ++ x.1, x.2)) = W
  | none => W = none
theorem TextsR.next {n q : Nat} {ts : List (List UInt8)} {o : Option (List UInt8)} {W : Option (List (List UInt8) × List UInt8)} (h : TextsR n q ts o W) (hq : q < n) : TextsR n (q + 1) (ts ++ [wordV o]) (wordO o) W := by
  cases o with
  | none => exact h
  | some ll =>
    cases hw : wordR ll with
    | none =>
      simp only [wordV, wordO, Option.bind_some, hw, Option.map_none]
      exact wordsF_fail hq hw h
    | some x =>
      obtain ⟨s, r⟩ := x
      simp only [wordV, wordO, Option.bind_some, hw, Option.map_some]
      exact wordsF_more hq hw h
theorem shortO.next {o : Option (List UInt8)} (h : shortO o) : shortO (wordO o) := by
  cases o with
  | none => exact fun l h => by cases h
  | some ll =>
    have h9 := h ll rfl
    cases hw : wordR ll with
    | none => simp only [wordO, Option.bind_some, hw, Option.map_none]; exact fun l h => by cases h
    | some x =>
      obtain ⟨s, r⟩ := x
      have hb := wordR_bd hw
      simp only [wordO, Option.bind_some, hw, Option.map_some]
      intro l hl
      simp only [Option.some.injEq] at hl
      subst hl
      omega

set_option maxHeartbeats 1000000 in
/-- Texts where the number is bad. -/
theorem textsc_num (B b : Nat) (w : World) (hN : Calls Try.prog 39 #[.pointer (some ⟨b, 0, none⟩)] w fun e w' => e = .returned (.int .i64 0) ∧ CurO B w' b none ∧ Only b w w') :
    Calls Try.prog 41 #[.pointer (some ⟨b, 0, none⟩)] w (TextsPost B w b none) := by
  have HN := Lib.hid hN
  clear hN
  go_enter Try.func41, Try.ntmps41
  go_wp2_with (go_at_call 39; refine (HN.out).mono ?_; rintro e w1 ⟨rfl, hc, ho⟩; have HC := Lib.hid hc; obtain ⟨c0, c1, f0, f1⟩ := Box2.facts hc; clear hc)
  go_ret
  exact ⟨_, rfl, OwnT.nil _ _, ⟨_, _, _, rfl⟩, HC.out, ho⟩
set_option maxHeartbeats 1000000 in
/-- A list that is longer than what is left. -/
theorem textsc_long (B b n : Nat) (r : List UInt8) (w : World) (hn : r.length < n) (hr : r.length ≤ 1000000) (hN : Calls Try.prog 39 #[.pointer (some ⟨b, 0, none⟩)] w fun e w' => e = .returned (.int .i64 n) ∧ CurO B w' b (some r) ∧ Only b w w') :
    Calls Try.prog 41 #[.pointer (some ⟨b, 0, none⟩)] w (TextsPost B w b none) := by
  have HN := Lib.hid hN
  have hni : (r.length : Int) < (n : Int) := by omega
  clear hN
  go_enter Try.func41, Try.ntmps41
  go_wp2_with (first | (go_at_call 39; refine (HN.out).mono ?_; rintro e w1 ⟨rfl, hc, ho⟩; obtain ⟨a, c, hx, hI, hL⟩ := hc; have HX := Lib.hid hx; obtain ⟨c0, c1, f0, f1⟩ := Box2.facts hx; clear hx hI hL) | (go_at_call 51; refine (fail_any b _ _ _ HX.out).mono ?_; rintro e w2 ⟨rfl, hc2, ho2⟩; have HC2 := Lib.hid hc2; clear hc2))
  go_ret
  exact ⟨_, rfl, OwnT.nil _ _, ⟨_, _, _, rfl⟩, HC2.out, ho.trans ho2⟩
set_option maxRecDepth 20000 in
set_option maxHeartbeats 2000000 in
/-- A list that may be there. -/
theorem textsc_ok (B b n : Nat) (r : List UInt8) (w : World) (hbw : b < w.heap.size) (hBw : B ≤ w.heap.size) (hn : n ≤ r.length) (hr : r.length ≤ 1000000) (hN : Calls Try.prog 39 #[.pointer (some ⟨b, 0, none⟩)] w fun e w' => e = .returned (.int .i64 n) ∧ CurO B w' b (some r) ∧ Only b w w') :
    Calls Try.prog 41 #[.pointer (some ⟨b, 0, none⟩)] w (TextsPost B w b (wordsF n r)) := by
  have HN := Lib.hid hN
  have hni : (n : Int) ≤ (r.length : Int) := by omega
  have hn0 : (0 : Int) ≤ (n : Int) := by omega
  have hn9 : (n : Int) ≤ 1000000 := by omega
  have hdb : decide (r.length < n) = false := by simp; omega
  clear hN
  go_enter Try.func41, Try.ntmps41
  go_upto_region 8 with (go_at_call 39; refine (HN.out).mono ?_; rintro e w1 ⟨rfl, hc, ho⟩; have HC := Lib.hid hc; obtain ⟨a, c, hx, hI, hL⟩ := hc; obtain ⟨c0, c1, f0, f1⟩ := Box2.facts hx; clear hx hI hL)
  go_wp2_with fail
  go_loopw [4, 26] (fun v i wr => ∃ (q : Nat) (ts : List (List UInt8)) (o : Option (List UInt8)), i = .int .i64 q ∧ q ≤ n ∧ CurO B wr b o ∧ OwnT wr w.heap.size v ts ∧ ts.length = q ∧ shortO o ∧ TextsR n q ts o (wordsF n r) ∧ Only b w wr) (fun _ i _ => n - (intOf i).toNat)
  case atStart => exact ⟨0, [], some r, rfl, Nat.zero_le _, HC.out, OwnT.nil _ _, rfl, (fun l h => by cases h; exact hr), by simp [TextsR], ho⟩
  case round =>
    obtain ⟨q, ts, o, rfl, hq, hC, hO, hts, hs, hW, hOn⟩ := hrel
    clear HC HN
    have HC := Lib.hid hC
    have HO := Lib.hid hO
    have HTS := Lib.hid hts
    have HS := Lib.hid hs
    have HW := Lib.hid hW
    have HON := Lib.hid hOn
    have hwz : w.heap.size ≤ wr.heap.size := hOn.size
    clear hC hO hts hs hW hOn ho
    by_cases hlt : q < n
    · have hN := HW.out.next hlt
      have HNX := Lib.hid hN
      clear hN
      go_wp2_with (first | (go_at_call 40; refine (textc_any B b o _ HC.out HS.out).mono ?_; rintro e w5 ⟨rfl, hc5, ho5⟩; have HC5 := Lib.hid hc5; have HO5 := Lib.hid ho5; have hz5 : w.heap.size ≤ w5.heap.size := Nat.le_trans hwz ho5.size; clear hc5 ho5; have hn1 := bel_new w5 (.cells #[.string ⟨(wordV o).toArray⟩] 9)) | (at_builtin; refine wpList_appT rfl (.tmp 28) (.tmp 31) rfl w.heap.size _ ts rfl ((HO.out.only HO5.out hbw).step hn1) w5.heap.size (wordV o) rfl (by simp [go_sem]) (by have := HTS.out; omega) (by simp [go_sem]; omega) ?_; intro v7 w7 ho7 hb7 hz7))
      go_roundw
      case rel => exact ⟨q + 1, ts ++ [wordV o], wordO o, by go_num, by omega, (HC5.out.step hn1).bel hb7 hBw hbw, ho7, by have := HTS.out; simp; omega, HS.out.next, HNX.out, ((HON.out.trans HO5.out).bel hn1 hz5).bel hb7 (Nat.le_refl _)⟩
      case measure => simp [intOf]; omega
    · obtain ⟨a9, c9, hsh⟩ := HO.out.shape
      cases o with
      | none =>
        have hE : wordsF n r = none := HW.out
        have HE := Lib.hid hE
        obtain ⟨c0, c1, f0, f1⟩ := Box2.facts HC.out
        clear hE
        go_wp2_with fail
        go_ret
        rw [HE.out]
        exact ⟨_, rfl, OwnT.nil _ _, ⟨_, _, _, rfl⟩, HC.out, HON.out⟩
      | some ll =>
        have hE : wordsF n r = some (ts, ll) := wordsF_done (by omega) HW.out
        have HE := Lib.hid hE
        obtain ⟨a, c, hx, hI, hL⟩ := HC.out
        obtain ⟨c0, c1, f0, f1⟩ := Box2.facts hx
        have HSH := Lib.hid hsh
        clear hE hx hI hL hsh
        go_wp2_with fail
        go_ret
        rw [HE.out]
        exact ⟨_, rfl, HO.out, ⟨_, _, _, HSH.out⟩, HC.out, HON.out⟩
theorem textsc_any (B b : Nat) (o : Option (List UInt8)) (w : World) (h : CurO B w b o) (hs : shortO o) (hBw : B ≤ w.heap.size) :
    Calls Try.prog 41 #[.pointer (some ⟨b, 0, none⟩)] w (TextsPost B w b (o.bind wordsR)) := by
  have hU := uintc_any B b o w h
  cases o with
  | none => exact textsc_num B b w hU
  | some l =>
    have hl := hs l rfl
    rw [Option.bind_some]
    cases hR : numR l with
    | none =>
      have hW : wordsR l = none := by simp only [wordsR, hR]
      simp only [numV, numO, Option.bind_some, hR, Option.map_none] at hU
      rw [hW]
      exact textsc_num B b w hU
    | some x =>
      obtain ⟨n, r⟩ := x
      have hbd := numR_bd hR
      simp only [numV, numO, Option.bind_some, hR, Option.map_some] at hU
      by_cases hle : n ≤ r.length
      · have hW : wordsR l = wordsF n r := by simp only [wordsR, hR]; rw [if_pos hle]
        rw [hW]
        exact textsc_ok B b n r w h.lt hBw hle (by omega) hU
      · have hW : wordsR l = none := by simp only [wordsR, hR]; rw [if_neg hle]
        rw [hW]
        exact textsc_long B b n r w (by omega) (by omega) hU
end Go.Proofs.Ytbfpjldincnihaa
