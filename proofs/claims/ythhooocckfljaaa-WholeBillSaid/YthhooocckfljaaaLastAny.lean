/- A region that draws its order, whose last operation waits for all the others: it is the region in which that operation does nothing, and the operation behind it. No condition but the Booleans. -/
import Derived.Test.YthhooocckfljaaaLastOp
import Derived.Deep.RegionHeld3
namespace Go.Proofs.Ythhooocckfljaaa
open Go Go.Sort Go.RowKit
set_option linter.unusedVariables false
set_option linter.unusedSimpArgs false
section
variable {P : Program}
/-- The post of the region without its last operation o. -/
def lastQ (P : Program) (L : List Oper) (o : Oper) (Q : Exit → Act → World → Prop) : Exit → Act → World → Prop
  | .normal, a, w => wpList P L.toArray Q [o] a w
  | .exit i, a, w => Q (.exit i) a w
  | .goto l, a, w => Q (.goto l) a w
  | .ret, a, w => Q .ret a w
  | .panic c, a, w => Q (.panic c) a w
  | .outgrown, a, w => Q .outgrown a w
theorem upon_imp {Q Q' : Exit → Act → World → Prop} (hp : ∀ c a w, Q' (.panic c) a w → Q (.panic c) a w) (ho : ∀ a w, Q' .outgrown a w → Q .outgrown a w) {o : Oper} {a : Act} {K : Act → World → Prop} {r : Result Next} (h : o.upon P a K Q' r) : o.upon P a K Q r := by
  have hl : LetsOut Q' → LetsOut Q := fun ⟨a, w, h⟩ => ⟨a, w, ho a w h⟩
  cases r with
  | ok n w' =>
    cases n <;> simp only [Oper.upon] at h ⊢
    case value u => exact h
    case skip => exact h
    case defer d => exact h
    case enter f args =>
      refine Calls.mono h fun e w'' he => ?_
      cases e with
      | returned u => exact he
      | panicked c => exact hp _ _ _ he
      | outgrown => exact hl he
    case row row args => exact h
  | halt x w' =>
    cases x <;> simp only [Oper.upon] at h ⊢
    case panic u => exact hp _ _ _ h
theorem wpOp_last {l : List Oper} {o : Oper} {Q : Exit → Act → World → Prop} {i : Nat} (h : i < l.length) {K : Act → World → Prop} {a : Act} {w : World}
    (hh : wpOp P (l ++ [idle o]).toArray (lastQ P (l ++ [o]) o Q) i K a w) : wpOp P (l ++ [o]).toArray Q i K a w := by
  unfold wpOp at hh ⊢
  rw [at_head h, List.getElem?_eq_getElem h] at hh ⊢
  rw [yielded_same] at hh
  dsimp only at hh ⊢
  split
  · rename_i hw
    rw [if_pos hw] at hh
    rcases hh with hh | ⟨h1, a', w', h2⟩
    · exact .inl (upon_imp (fun _ _ _ h => h) (fun _ _ h => h) hh)
    · exact .inr ⟨h1, a', w', h2⟩
  · rename_i hw
    rw [if_neg hw] at hh
    exact hh
theorem go_last_any {l : List Oper} {o : Oper} (hd : o.dst = none) (hg : o.guard = none) (hb : backB (l ++ [o]) = true) (hs : sinkB (l ++ [o]) = true) {Q : Exit → Act → World → Prop} :
    ∀ (f : Nat) (listed : Array Bool) (a : Act) (w : World), Going l o listed →
      wpAny P .any (l ++ [idle o]).toArray (lastQ P (l ++ [o]) o Q) f listed a w → wpAny P .any (l ++ [o]).toArray Q f listed a w := by
  intro f
  induction f with
  | zero =>
    intro listed a w g h
    have h1 := h.1
    rw [ready_same] at h1
    exact absurd h1 (some_ready hb g.size l.length (by omega) g.last)
  | succ f ih =>
    intro listed a w g h
    refine ⟨fun h0 => absurd h0 (some_ready hb g.size l.length (by omega) g.last), fun i hi => ?_⟩
    have hi' : i ∈ Region.ready .any (l ++ [idle o]).toArray listed := by rw [ready_same]; exact hi
    have hq := h.2 i hi'
    obtain ⟨hun, oi, hoi, hall⟩ := mem_ready.1 hi
    have hil : i < l.length + 1 := by
      have := (Array.getElem?_eq_some_iff.1 hoi).1
      simpa using this
    by_cases hin : i < l.length
    · refine wpOp_mono (fun a' w' h' => ih _ a' w' ?_ h') (wpOp_last hin hq)
      refine ⟨by simpa using g.size, fun j oj hj hl e he hbi => ?_, by rw [getD_set_ne true (by omega)]; exact g.last⟩
      by_cases hij : i = j
      · subst hij
        rw [hoi] at hj
        cases hj
        exact getD_set_true (hall e he hbi)
      · rw [getD_set_ne false hij] at hl
        exact getD_set_true (g.closed j oj hj hl e he hbi)
    · obtain rfl : i = l.length := by omega
      have hnil : Region.ready .any (l ++ [o]).toArray (listed.setIfInBounds l.length true) = [] := by
        rw [List.eq_nil_iff_forall_not_mem]
        intro j hj
        obtain ⟨hj1, oj, hoj, _⟩ := mem_ready.1 hj
        have hjl : j < l.length + 1 := by
          have := (Array.getElem?_eq_some_iff.1 hoj).1
          simpa using this
        by_cases hjn : j = l.length
        · subst hjn
          simp [g.size] at hj1
        · rw [getD_set_ne true (fun e => hjn e.symm)] at hj1
          have := all_listed hs g hi _ j rfl (by omega)
          rw [flip_false (by rw [g.size]; omega), this] at hj1
          cases hj1
      have hL : wpList P (l ++ [o]).toArray Q [o] a w := by
        unfold wpOp at hq
        rw [at_last] at hq
        have hwn : Region.wanted (idle o) (yielded (l ++ [idle o]).toArray a.tmps) = true := by simp [Region.wanted, idle, hg]
        simp only [hwn, if_true] at hq
        have hp : a.put (idle o).dst (.bool true) = a := by show a.put o.dst (.bool true) = a; rw [hd]; rfl
        rcases hq with hq | ⟨h1, _⟩
        · unfold Oper.wp at hq
          have hex : (execOp a.eval (idle o)).run P w = .ok (.value (.bool true)) w := rfl
          rw [hex] at hq
          simp only [Oper.upon, hp] at hq
          cases f with
          | zero => exact hq.2
          | succ f => exact hq.1 (by rw [ready_same]; exact hnil)
        · unfold Oper.asks at h1
          exact absurd (show noRoomEvent ∈ (#[] : Array Event) from h1.1) (by simp)
      have h2 : wpOp P (l ++ [o]).toArray Q l.length (wpList P (l ++ [o]).toArray Q []) a w := by
        unfold wpOp
        rw [at_last]
        exact hL
      refine wpOp_mono (fun a' w' h' => ?_) h2
      cases f with
      | zero => exact ⟨hnil, h'⟩
      | succ f => exact ⟨fun _ => h', fun j hj => by rw [hnil] at hj; cases hj⟩
theorem wp_region_last_any_lit {id : Nat} {Q : Exit → Act → World → Prop} {a : Act} {w : World} {l l' L : List Oper} {o : Oper} (hL : L = l ++ [o]) (hl : l' = l ++ [idle o]) (hd : o.dst = none) (hg : o.guard = none) (hb : backB L = true) (hs : sinkB L = true) (hm : P.follows .mixedOrders = true)
    (h : wpAny P .any l'.toArray (lastQ P L o Q) l'.toArray.size (Array.replicate l'.toArray.size false) a { w with drawn := w.drawn + 1 }) : (Code.region id L.toArray true).wp P Q a w := by
  subst hL hl
  refine wp_region_any hm ?_
  have hsz : (l ++ [idle o]).toArray.size = (l ++ [o]).toArray.size := by simp
  rw [hsz] at h
  have H2 := go_last_any hd hg hb hs (Q := Q) _ _ a _ ⟨by simp, fun j oj _ hl => ?_, by simp⟩ h
  · exact H2
  · rw [rep_false] at hl
    cases hl
/-- THE BEGINNING of a walk with a condition S on the world: the last operation is left to the end. -/
theorem wp_region_last_held (S : World → Prop) {id : Nat} {Q : Exit → Act → World → Prop} {a : Act} {w : World} {x : Oper} {L : List Oper} (hd : (lastOf x (x :: L)).dst = none) (hg : (lastOf x (x :: L)).guard = none) (hb : backB (x :: L) = true) (hs : sinkB (x :: L) = true) (hm : P.follows .mixedOrders = true)
    (hS : S w.drew)
    (h : S w.drew → wpAnyH P .any (idleLast (x :: L)).toArray (lastQ P (x :: L) (lastOf x (x :: L)) Q) S (idleLast (x :: L)).toArray.size (Array.replicate (idleLast (x :: L)).toArray.size false) a w.drew) : (Code.region id (x :: L).toArray true).wp P Q a w :=
  wp_region_last_any_lit (init_last x (x :: L) (by simp)) (init_idle x (x :: L) (by simp)) hd hg hb hs hm (wpAny_of_held _ _ _ _ (h hS))
end
end Go.Proofs.Ythhooocckfljaaa
