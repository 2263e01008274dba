/- maps.Values of the set's map, and its iterator, against whatever loop body. No condition. -/
import Derived.Test.YthhooocckfljaaaMaps
import Derived.Shelf.AbstractIn
import Derived.RangeFuncSeq
import Derived.RangeFuncMany
import Derived.RangeFuncGives
import Derived.Sort.MapsRangeIn
import Derived.WalkKit
import Derived.OwnWalkIn
import Derived.TacticsInMore
import Derived.RegionIn
import Derived.LoopNIn
import Derived.LoopIn
namespace Go.Proofs.Ythhooocckfljaaa
open Go.RowKit Go.Maps Go.Shelf
set_option linter.unusedVariables false
set_option linter.unusedSimpArgs false

/-- What has come of the set. -/
structure Came (S : List Ent) (left : Lit → Bool) (es : List Ent) : Prop where
  nodup : es.Nodup
  sub : ∀ e ∈ es, e ∈ S
  left : ∀ e ∈ S, e ∈ es ↔ left (klE e) = false
theorem Came.start {D : DataW Value} {S : List Ent} (h : Cov D S) : Came S (Maps.has D) [] :=
  ⟨List.nodup_nil, by simp, fun e he => by have := (h.has (klE e)).2 ⟨e, he, rfl⟩; rw [this]; simp⟩
set_option maxRecDepth 100000 in
theorem Came.step {D : DataW Value} {S : List Ent} {left : Lit → Bool} {es : List Ent} (hc : Cov D S) (h : Came S left es) {kl : Lit} {c : Ent} (hl : left kl = true) (hat : ∀ zd, D.atKey kl zd = .held c.val) :
    c ∈ S ∧ Came S (fun z => left z && !z.sameKey kl) (es ++ [c]) := by
  obtain ⟨f, hf, hk⟩ := (hc.has kl).1 (has_true_of_atKey hat)
  have h1 := hat .nil
  rw [← hk, hc.at_ f hf] at h1
  have hfc : f = c := val_inj (by simpa using h1)
  subst hfc
  subst hk
  have hnew : f ∉ es := fun hx => by have := (h.left f hf).1 hx; rw [hl] at this; cases this
  refine ⟨hf, List.nodup_append.2 ⟨h.nodup, by simp, fun a ha b hb => by simp at hb; subst hb; exact fun e => hnew (e ▸ ha)⟩, fun e he => ?_, fun e he => ?_⟩
  · rcases List.mem_append.1 he with he | he
    · exact h.sub e he
    · simp at he; rw [he]; exact hf
  · by_cases hef : e = f
    · subst hef
      have := WideAt.sameKey_self (keyed97.key (klE_key (hc.code e he)))
      simp [this]
    · have hne : klE e ≠ klE f := fun hh => hef (hc.apart e he f hf ((klE_same (hc.code e he) (hc.code f hf)).1 hh))
      simp [hef, h.left e he, sameKey_ne hne]
theorem Came.done {S : List Ent} {left : Lit → Bool} {es : List Ent} (h : Came S left es) (hl : ∀ kl, left kl = false) : ∀ e, e ∈ es ↔ e ∈ S :=
  fun e => ⟨h.sub e, fun he => (h.left e he).2 (hl _)⟩
/-- All of S, each once. -/
def AllOf (S es : List Ent) : Prop := es.Nodup ∧ ∀ e, e ∈ es ↔ e ∈ S

set_option maxRecDepth 100000 in
set_option maxHeartbeats 1000000 in
theorem vals_in (m : Nat) (hn : 1 ≤ m) (l Bm b : Nat) (S : List Ent) (J : List Ent → World → Prop)
    (hY : ∀ pre x W, J pre W → pre.length < S.length → YieldAt Fence.wide (m - 1) Try.prog l #[x.val] W fun e W' => e = .returned (.bool true) ∧ J (pre ++ [x]) W' ∧ KeepsWalks W W')
    (W : World) (hJ : AbidesFrom W.heap.size J) (hm : W.cell? ⟨Bm, 0, none⟩ = some (.map (some b))) (hown : IsM W b S) (h0 : J [] W) :
    CallsIn Fence.wide m Try.prog 52 #[.func (.yield l) #[] #[], .pointer (some ⟨Bm, 0, none⟩)] W fun e W' => (∃ v, e = .returned v) ∧ ∃ es, AllOf S es ∧ J es W' := by
  obtain ⟨D0, nn, hown, hcov⟩ := hown
  obtain ⟨hsz, hown⟩ := hcov.size hown
  refine callsIn_of_wp Try.func52 rfl trivial ?_ rfl
  simp only [Try.ntmps52, List.size_toArray, List.length_cons, List.length_nil, Nat.reduceAdd, Nat.reduceSub, Array.replicate_succ, Array.replicate_zero, List.push_toArray, List.append_toArray, List.nil_append, List.cons_append]
  gi_wp2_with (first
    | (gi_at_range; refine wpListIn_range_own _ rfl _ 78 rfl 97 46 keyed97 Try.underlying78 _ b _ _ rfl hown ?_; intro w0 hrg0 hg0 hs0)
    | gi_in)
  go_frame
  gi_loopw [4] (fun _ wr => ∃ (left : Lit → Bool) (cnt : Nat) (es : List Ent), wr.ranges Try.prog 97 RE b W.heap.size (Maps.size D0) D0 left cnt ∧ es.length + cnt ≤ Maps.size D0 ∧ Came S left es ∧ J es wr)
    (fun _ wr => wr.rangeLeft b W.heap.size)
  case atStart =>
    exact ⟨_, _, [], hrg0, by simp, Came.start hcov, hJ [] W w0 none h0 hg0 (fun r e => by cases e)⟩
  case round =>
    obtain ⟨left, cnt, es, hrg, hcs, hC, hJs⟩ := hrel
    gi_wp2_with (first
      | (gi_at_next; refine wpListIn_next_ranges _ rfl _ rfl 97 keyed97 RE (id : Value → Value) Ent.val (fun key kl hk => ⟨key, rfl⟩) (fun v y hv => by obtain ⟨c, rfl, _⟩ := RE_inv hv; exact ⟨c, rfl⟩) b W.heap.size (Maps.size D0) _ _ _ rfl hrg ?_ ?_)
      | gi_in)
    · intro hc0 hl0
      gi_wp2
      go_end0
      exact ⟨⟨_, rfl⟩, es, ⟨hC.nodup, hC.done hl0⟩, hJs⟩
    · intro x c kl yd yp w2 cnt2 hkey hlk hv hat hrg2 hlt hg2 hs2 hen
      obtain ⟨c', ec, ez⟩ := RE_inv hv
      obtain rfl : yd = .held c.val := (Prod.mk.inj ez).1
      have hst := hC.step hcov hlk hat
      have hJ2 : J es w2 := hJ es wr w2 (some W.heap.size) hJs hg2 (fun r e => by cases e; exact ⟨Nat.le_refl _, hrg.iter_walk⟩)
      have hJ3 : J es (w2.alloc (ebox c)) := hJ es w2 _ none hJ2 (World.grownBy_alloc _ _ _) (fun r e => by cases e)
      have hrg3 := hrg2.alloc (ebox c)
      obtain ⟨fn, tmps, assign, body, hy, hR⟩ := hY es c (w2.alloc (ebox c)) hJ3 (by omega)
      unfold ebox at hJ3 hrg3 hy hR
      unfold Ent.val at hy hen ⊢
      clear hs2 hJ2 hv hat ec ez
      gi_wp2
      refine hR.mono ?_
      rintro e W3 ⟨rfl, hJ4, hk4⟩
      gi_wp2
      have hrg4 := hrg3.of_walks hk4
      go_roundw
      case rel => exact ⟨_, cnt2, es ++ [c], hrg4, by simp; omega, hst.2, hJ4⟩
      case measure => rw [hrg4.left_eq, hrg.left_eq]; exact hlt

/-- maps.Values(m): the map is boxed. -/
theorem values_run (mb : Option Nat) (w : World) : Calls Try.prog 40 #[.map mb] w fun e w' => e = .returned (.func (.func 52) #[] #[.pointer (some ⟨w.heap.size, 0, none⟩)]) ∧ w' = w.alloc (.cells #[.map mb] 78) := by
  go_enter Try.func40, Try.ntmps40
  go_wp2_with fail
  go_ret
  exact ⟨rfl, rfl⟩
/-- maps.Values(m) gives the set's entries. -/
theorem vals_gives (m : Nat) (hn : 1 ≤ m) (Bm b : Nat) (S : List Ent) (w : World) (hBm : Bm < w.heap.size) (hm : w.cell? ⟨Bm, 0, none⟩ = some (.map (some b))) (hown : IsM w b S) :
    SeqGives Fence.wide m Try.prog 52 #[.pointer (some ⟨Bm, 0, none⟩)] Ent.val (AllOf S) S.length w := fun l J W hW hJ hY h0 =>
  vals_in m hn l Bm b S J hY W hJ ((hW.cell (p := ⟨Bm, 0, none⟩) hBm).trans hm) (hown.step hW hown.lt) h0
end Go.Proofs.Ythhooocckfljaaa
