/- A region that draws its order, all of whose operations but the last are quiet in a class of worlds, and whose last one waits for all the others: one walk of the text's order serves. Shown by way of the region in which the last operation does nothing. No condition but the Booleans. -/
import Derived.Test.YthhooocckfljaaaBill
import Derived.Lib.QuietBelow
import Derived.Deep.Quiet
namespace Go.Proofs.Ythhooocckfljaaa
open Go Go.Sort Go.RowKit
set_option linter.unusedVariables false
set_option linter.unusedSimpArgs false
section
variable {P : Program} {C : World → Prop}

/-- The operation o, doing nothing. -/
def idle (o : Oper) : Oper := { o with op := .move (.const (.bool true)) }
/-- Each operation waits only for earlier ones. -/
def backB (l : List Oper) : Bool := (List.range l.length).all fun j => match l[j]? with | some o => o.after.all fun e => decide (e.on < j) | none => true
/-- Each operation but the last is waited for by a later one. -/
def sinkB (l : List Oper) : Bool := (List.range (l.length - 1)).all fun i => (List.range l.length).any fun j => decide (i < j) && (match l[j]? with | some o => o.after.any fun e => Region.binds .any e && e.on == i | none => false)

variable {l : List Oper} {o : Oper}
theorem at_head {i : Nat} (h : i < l.length) (x : Oper) : (l ++ [x]).toArray[i]? = l[i]? := by
  rw [List.getElem?_toArray, List.getElem?_append_left h]
theorem at_last (x : Oper) : (l ++ [x]).toArray[l.length]? = some x := by simp
theorem at_over {i : Nat} (h : l.length < i) (x : Oper) : (l ++ [x]).toArray[i]? = none := by
  rw [List.getElem?_toArray, List.getElem?_eq_none (by simp; omega)]
theorem after_same (j : Nat) : ((l ++ [idle o]).toArray[j]?).map (·.after) = ((l ++ [o]).toArray[j]?).map (·.after) := by
  rcases Nat.lt_trichotomy j l.length with h | h | h
  · rw [at_head h, at_head h]
  · subst h; rw [at_last, at_last]; rfl
  · rw [at_over h, at_over h]
theorem ready_same (listed : Array Bool) : Region.ready .any (l ++ [idle o]).toArray listed = Region.ready .any (l ++ [o]).toArray listed := by
  unfold Region.ready
  have hs : (l ++ [idle o]).toArray.size = (l ++ [o]).toArray.size := by simp
  rw [hs]
  congr 1
  funext i
  have h := after_same (l := l) (o := o) i
  have e1 : ((l ++ [idle o]).toArray[i]?).map (fun x => x.after.all fun e => !Region.binds .any e || listed.getD e.on false) = (((l ++ [idle o]).toArray[i]?).map (·.after)).map (fun x => x.all fun e => !Region.binds .any e || listed.getD e.on false) := by rw [Option.map_map]; rfl
  have e2 : ((l ++ [o]).toArray[i]?).map (fun x => x.after.all fun e => !Region.binds .any e || listed.getD e.on false) = (((l ++ [o]).toArray[i]?).map (·.after)).map (fun x => x.all fun e => !Region.binds .any e || listed.getD e.on false) := by rw [Option.map_map]; rfl
  rw [e1, e2, h]
theorem yielded_same (tmps : Array Value) : yielded (l ++ [idle o]).toArray tmps = yielded (l ++ [o]).toArray tmps := by
  funext j
  unfold yielded
  have : ((l ++ [idle o]).toArray[j]?).bind (·.dst) = ((l ++ [o]).toArray[j]?).bind (·.dst) := by
    rcases Nat.lt_trichotomy j l.length with h | h | h
    · rw [at_head h, at_head h]
    · subst h; rw [at_last, at_last]; rfl
    · rw [at_over h, at_over h]
  rw [this]
theorem qOp_same {i : Nat} (h : i < l.length) (K : Act → Prop) (a : Act) : qOp P (l ++ [idle o]).toArray C i K a = qOp P (l ++ [o]).toArray C i K a := by
  unfold qOp
  rw [at_head h, at_head h, yielded_same]

/-- What is listed is closed under waiting, and the last operation is not yet listed. -/
structure Going (l : List Oper) (o : Oper) (listed : Array Bool) : Prop where
  size : listed.size = l.length + 1
  closed : ∀ j oj, (l ++ [o]).toArray[j]? = some oj → listed.getD j false = true → ∀ e ∈ oj.after, Region.binds .any e = true → listed.getD e.on false = true
  last : listed.getD l.length true = false
theorem flip_false {listed : Array Bool} {i : Nat} (hi : i < listed.size) : listed.getD i true = listed.getD i false := by simp [hi]
theorem some_ready (hb : backB (l ++ [o]) = true) {listed : Array Bool} (hs : listed.size = l.length + 1) : ∀ i, i < l.length + 1 → listed.getD i true = false → Region.ready .any (l ++ [o]).toArray listed ≠ [] := by
  intro i
  induction i using Nat.strongRecOn with
  | _ i ih =>
    intro hi hun hnil
    have hio : ∃ oi, (l ++ [o]).toArray[i]? = some oi := ⟨_, Array.getElem?_eq_getElem (by simpa using hi)⟩
    obtain ⟨oi, hoi⟩ := hio
    have hnot : ¬ i ∈ Region.ready .any (l ++ [o]).toArray listed := by rw [hnil]; exact List.not_mem_nil
    apply hnot
    rw [mem_ready]
    refine ⟨hun, oi, hoi, fun e he hbi => ?_⟩
    have hback : e.on < i := by
      have h1 := List.all_eq_true.1 hb i (List.mem_range.2 (by simpa using hi))
      rw [List.getElem?_toArray] at hoi
      rw [hoi] at h1
      have h2 := Array.all_eq_true_iff_forall_mem.1 h1 e he
      simpa using h2
    cases hl : listed.getD e.on false with
    | true => rfl
    | false => exact absurd hnil (ih e.on hback (by omega) (by rw [flip_false (by omega)]; exact hl))
/-- Where the last operation may come up, all the others have. -/
theorem all_listed (hs : sinkB (l ++ [o]) = true) {listed : Array Bool} (g : Going l o listed) (hr : l.length ∈ Region.ready .any (l ++ [o]).toArray listed) : ∀ d i, l.length - i = d → i < l.length → listed.getD i false = true := by
  intro d
  induction d using Nat.strongRecOn with
  | _ d ih =>
    intro i hd hi
    have h1 := List.all_eq_true.1 hs i (List.mem_range.2 (by simpa using hi))
    obtain ⟨j, hj, hj2⟩ := List.any_eq_true.1 h1
    rw [List.mem_range, List.length_append, List.length_singleton] at hj
    rw [Bool.and_eq_true, decide_eq_true_iff] at hj2
    obtain ⟨hij, hw⟩ := hj2
    cases hoj : (l ++ [o])[j]? with
    | none => rw [hoj] at hw; cases hw
    | some oj =>
      rw [hoj] at hw
      obtain ⟨e, he, hbe⟩ := Array.any_eq_true'.1 hw
      rw [Bool.and_eq_true, beq_iff_eq] at hbe
      have hoj' : (l ++ [o]).toArray[j]? = some oj := by rw [List.getElem?_toArray]; exact hoj
      rw [← hbe.2]
      by_cases hjl : j = l.length
      · subst hjl
        obtain ⟨_, o', ho', hall⟩ := mem_ready.1 hr
        rw [hoj'] at ho'
        cases ho'
        exact hall e he hbe.1
      · exact g.closed j oj hoj' (ih (l.length - j) (by omega) j rfl (by omega)) e he hbe.1

theorem go_last (hd : o.dst = none) (hg : o.guard = none) (hb : backB (l ++ [o]) = true) (hs : sinkB (l ++ [o]) = true) {Q : Exit → Act → World → Prop} :
    ∀ (f : Nat) (listed : Array Bool) (a : Act) (w : World), C w → Going l o listed →
      wpAnyQ P .any (l ++ [idle o]).toArray C (fun a' => ∀ w', C w' → wpList P (l ++ [o]).toArray Q [o] a' w') f listed a → wpAny P .any (l ++ [o]).toArray Q f listed a w := by
  intro f
  induction f with
  | zero =>
    intro listed a w hw g h
    have h1 := h.1
    rw [ready_same] at h1
    exact absurd h1 (some_ready hb g.size l.length (by omega) g.last)
  | succ f ih =>
    intro listed a w hw g h
    refine ⟨fun h0 => absurd h0 (some_ready hb g.size l.length (by omega) g.last), fun i hi => ?_⟩
    have hi' : i ∈ Region.ready .any (l ++ [idle o]).toArray listed := by rw [ready_same]; exact hi
    have hq := h.2 i hi'
    obtain ⟨hun, oi, hoi, hall⟩ := mem_ready.1 hi
    have hil : i < l.length + 1 := by
      have := (Array.getElem?_eq_some_iff.1 hoi).1
      simpa using this
    by_cases hin : i < l.length
    · rw [qOp_same hin] at hq
      refine wpOp_of_qOp hw (fun a' w' hw' h' => ih _ a' w' hw' ?_ h') hq
      refine ⟨by simpa using g.size, fun j oj hj hl e he hbi => ?_, by rw [getD_set_ne true (by omega)]; exact g.last⟩
      by_cases hij : i = j
      · subst hij
        rw [hoi] at hj
        cases hj
        exact getD_set_true (hall e he hbi)
      · rw [getD_set_ne false hij] at hl
        exact getD_set_true (g.closed j oj hj hl e he hbi)
    · obtain rfl : i = l.length := by omega
      have hnil : Region.ready .any (l ++ [o]).toArray (listed.setIfInBounds l.length true) = [] := by
        rw [List.eq_nil_iff_forall_not_mem]
        intro j hj
        obtain ⟨hj1, oj, hoj, _⟩ := mem_ready.1 hj
        have hjl : j < l.length + 1 := by
          have := (Array.getElem?_eq_some_iff.1 hoj).1
          simpa using this
        by_cases hjn : j = l.length
        · subst hjn
          simp [g.size] at hj1
        · rw [getD_set_ne true (fun e => hjn e.symm)] at hj1
          have := all_listed hs g hi _ j rfl (by omega)
          rw [flip_false (by rw [g.size]; omega), this] at hj1
          cases hj1
      have hL : ∀ w', C w' → wpList P (l ++ [o]).toArray Q [o] a w' := by
        unfold qOp at hq
        rw [at_last] at hq
        have hwn : Region.wanted (idle o) (yielded (l ++ [idle o]).toArray a.tmps) = true := by simp [Region.wanted, idle, hg]
        simp only [hwn, if_true] at hq
        obtain ⟨v, _, hK⟩ := hq
        have hp : a.put (idle o).dst v = a := by show a.put o.dst v = a; rw [hd]; rfl
        rw [hp] at hK
        cases f with
        | zero => exact hK.2
        | succ f => exact hK.1 (by rw [ready_same]; exact hnil)
      have h2 : wpOp P (l ++ [o]).toArray Q l.length (wpList P (l ++ [o]).toArray Q []) a w := by
        unfold wpOp
        rw [at_last]
        exact hL w hw
      refine wpOp_mono (fun a' w' h' => ?_) h2
      cases f with
      | zero => exact ⟨hnil, h'⟩
      | succ f => exact ⟨fun _ => h', fun j hj => by rw [hnil] at hj; cases hj⟩

theorem rep_false (n j : Nat) : (Array.replicate n false).getD j false = false := by
  by_cases h : j < n
  · simp [h]
  · simp [h]

/-- THE LAW. -/
theorem wp_region_last {id : Nat} {Q : Exit → Act → World → Prop} {a : Act} {w : World} (hd : o.dst = none) (hg : o.guard = none) (hb : backB (l ++ [o]) = true) (hs : sinkB (l ++ [o]) = true) (hm : P.follows .mixedOrders = true)
    (hB : Region.lexB .any (l ++ [idle o]).toArray = true) (hC : C { w with drawn := w.drawn + 1 })
    (h : wpQuiet P (l ++ [idle o]).toArray C (fun a' => ∀ w', C w' → wpList P (l ++ [o]).toArray Q [o] a' w') (l ++ [idle o]) a) : (Code.region id (l ++ [o]).toArray true).wp P Q a w := by
  simp only [Region.lexB, Bool.and_eq_true] at hB
  have hsz : (l ++ [idle o]).toArray.size = (l ++ [o]).toArray.size := by simp
  have H := wpAnyQ_lex (P := P) (C := C) (md := .any) hB.1 (l ++ [idle o]) 0 (Array.replicate (l ++ [idle o]).toArray.size false) a (by simp) (by simpa using hB.2) h
  refine wp_region_any hm ?_
  rw [hsz] at H
  have H2 := go_last (P := P) (C := C) hd hg hb hs (Q := Q) _ _ a _ hC ⟨by simp, fun j oj _ hl => ?_, by simp⟩ H
  · simpa using H2
  · rw [rep_false] at hl
    cases hl
/-- The same, as the tactic below asks for it. -/
theorem wp_region_last_lit {id : Nat} {Q : Exit → Act → World → Prop} {a : Act} {w : World} {l l' L : List Oper} {o : Oper} (hL : L = l ++ [o]) (hl : l' = l ++ [idle o]) (hd : o.dst = none) (hg : o.guard = none) (hb : backB L = true) (hs : sinkB L = true) (hm : P.follows .mixedOrders = true)
    (hB : Region.lexB .any l'.toArray = true) (hC : C { w with drawn := w.drawn + 1 })
    (h : wpQuiet P l'.toArray C (fun a' => ∀ w', C w' → wpList P L.toArray Q [o] a' w') l' a) : (Code.region id L.toArray true).wp P Q a w := by
  subst hL hl
  exact wp_region_last hd hg hb hs hm hB hC h
/-- The last operation, idle; and the last operation. -/
def idleLast : List Oper → List Oper
  | [] => []
  | [o] => [idle o]
  | x :: y :: r => x :: idleLast (y :: r)
def initOf : List Oper → List Oper
  | [] => []
  | [_] => []
  | x :: y :: r => x :: initOf (y :: r)
def lastOf (d : Oper) : List Oper → Oper
  | [] => d
  | [o] => o
  | _ :: y :: r => lastOf d (y :: r)
theorem init_last (d : Oper) : ∀ (l : List Oper), l ≠ [] → l = initOf l ++ [lastOf d l]
  | [], h => absurd rfl h
  | [_], _ => rfl
  | x :: y :: r, _ => by
    have := init_last d (y :: r) (by simp)
    rw [initOf, lastOf, List.cons_append, ← this]
theorem init_idle (d : Oper) : ∀ (l : List Oper), l ≠ [] → idleLast l = initOf l ++ [idle (lastOf d l)]
  | [], h => absurd rfl h
  | [_], _ => rfl
  | x :: y :: r, _ => by
    have := init_idle d (y :: r) (by simp)
    rw [idleLast, initOf, lastOf, List.cons_append, ← this]
theorem wp_region_last_of (C : World → Prop) {id : Nat} {Q : Exit → Act → World → Prop} {a : Act} {w : World} {x : Oper} {L : List Oper} (hd : (lastOf x (x :: L)).dst = none) (hg : (lastOf x (x :: L)).guard = none) (hb : backB (x :: L) = true) (hs : sinkB (x :: L) = true) (hm : P.follows .mixedOrders = true)
    (hB : Region.lexB .any (idleLast (x :: L)).toArray = true) (hC : C { w with drawn := w.drawn + 1 })
    (h : wpQuiet P (idleLast (x :: L)).toArray C (fun a' => ∀ w', C w' → wpList P (x :: L).toArray Q [lastOf x (x :: L)] a' w') (idleLast (x :: L)) a) : (Code.region id (x :: L).toArray true).wp P Q a w :=
  wp_region_last_lit (init_last x (x :: L) (by simp)) (init_idle x (x :: L) (by simp)) hd hg hb hs hm hB hC h
theorem wp_region_last_below {id : Nat} {Q : Exit → Act → World → Prop} {a : Act} {w : World} {x : Oper} {L : List Oper} (hd : (lastOf x (x :: L)).dst = none) (hg : (lastOf x (x :: L)).guard = none) (hb : backB (x :: L) = true) (hs : sinkB (x :: L) = true) (hm : P.follows .mixedOrders = true)
    (hB : Region.lexB .any (idleLast (x :: L)).toArray = true)
    (h : wpQuiet P (idleLast (x :: L)).toArray (fun w' => ∃ p : Regrown, w' = grow (redrawn w p.d) p.os) (fun a' => ∀ w', (∃ p : Regrown, w' = grow (redrawn w p.d) p.os) → wpList P (x :: L).toArray Q [lastOf x (x :: L)] a' w') (idleLast (x :: L)) a) : (Code.region id (x :: L).toArray true).wp P Q a w :=
  wp_region_last_of (fun w' => ∃ p : Regrown, w' = grow (redrawn w p.d) p.os) hd hg hb hs hm hB ⟨⟨w.drawn + 1, #[]⟩, by rw [grow_empty]; rfl⟩ h
theorem wp_region_last_drew {id : Nat} {Q : Exit → Act → World → Prop} {a : Act} {w : World} {x : Oper} {L : List Oper} (hd : (lastOf x (x :: L)).dst = none) (hg : (lastOf x (x :: L)).guard = none) (hb : backB (x :: L) = true) (hs : sinkB (x :: L) = true) (hm : P.follows .mixedOrders = true)
    (hB : Region.lexB .any (idleLast (x :: L)).toArray = true)
    (h : wpQuiet P (idleLast (x :: L)).toArray (fun w' => ∃ n, w' = World.drewN w n) (fun a' => ∀ w', (∃ n, w' = World.drewN w n) → wpList P (x :: L).toArray Q [lastOf x (x :: L)] a' w') (idleLast (x :: L)) a) : (Code.region id (x :: L).toArray true).wp P Q a w :=
  wp_region_last_of (fun w' => ∃ n, w' = World.drewN w n) hd hg hb hs hm hB ⟨1, rfl⟩ h
end
end Go.Proofs.Ythhooocckfljaaa
