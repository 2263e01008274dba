/- What WholeBill has in memory, and what its stores turn of it. No condition. -/
import Derived.Test.YthhooocckfljaaaMem
namespace Go.Proofs.Ythhooocckfljaaa
open Go.RowKit Go.Maps Go.Shelf
set_option linter.unusedVariables false
set_option linter.unusedSimpArgs false

/-- The blocks of the call. -/
structure Adr where
  nm : Nat
  ms : Nat
  bo : Nat
  lg : Nat
  pe : Nat
  se : Nat
  wr : Nat
  ar : Nat
  su : Nat
  le : Nat
  p : Nat
  b : Nat
def Adr.all (A : Adr) : List Nat := [A.nm, A.ms, A.bo, A.lg, A.pe, A.se, A.wr, A.ar, A.su, A.le, A.p, A.b]
/-- What lies in them. -/
structure Vals where
  m : Nat → Mtr
  bo : Nat → Value
  pe : Nat → Value
  se : Nat → Value
  wr : Nat → Value
  ar : Nat → Value
  su : Nat → Value
  S : List Ent
  logs : Nat → List Ent
  mb : Nat → Nat
  lv : Nat → Value
def updN {α : Type} (f : Nat → α) (i : Nat) (x : α) : Nat → α := fun j => if j = i then x else f j
structure Pl (N : Nat) (A : Adr) (W : World) (v : Vals) : Prop where
  names : Row W A.nm 9 3 (fun i => .string ⟨(nodeN i).toArray⟩)
  mtrs : Row W A.ms 27 3 (fun i => .pointer (some ⟨v.mb i, 0, none⟩))
  boots : Row W A.bo 28 3 v.bo
  logs : Row W A.lg 34 3 v.lv
  pend : Row W A.pe 37 18 v.pe
  serv : Row W A.se 36 6 v.se
  writ : Row W A.wr 36 6 v.wr
  arr : Row W A.ar 36 6 v.ar
  sure : Row W A.su 28 3 v.su
  led : W.cell? ⟨A.le, 0, none⟩ = some (.pointer (some ⟨A.p, 0, none⟩))
  set : IsSet W A.p A.b v.S
  met : ∀ i, i < 3 → MBlk W (v.mb i) (v.m i)
  own : ∀ i, i < 3 → OwnE W N (v.lv i) (v.logs i)
/-- No two of them are one. -/
structure Apart (N : Nat) (A : Adr) (mb : Nat → Nat) (lv : Nat → Value) : Prop where
  nodup : A.all.Nodup
  low : ∀ k ∈ A.all, N ≤ k
  mlow : ∀ i, i < 3 → N ≤ mb i
  mall : ∀ i, i < 3 → mb i ∉ A.all
  minj : ∀ i j, i < 3 → j < 3 → i ≠ j → mb i ≠ mb j
  lall : ∀ i, i < 3 → ∀ g, (lv i).ownBlock = some g → g ∉ A.all
  lmb : ∀ i j, i < 3 → j < 3 → (lv i).ownBlock ≠ some (mb j)
  linj : ∀ i j, i < 3 → j < 3 → i ≠ j → ∀ g, (lv i).ownBlock = some g → (lv j).ownBlock ≠ some g
theorem Apart.ne {N : Nat} {A : Adr} {mb : Nat → Nat} {lv : Nat → Value} (h : Apart N A mb lv) (i j : Nat) (hi : i < 12) (hj : j < 12) (hne : i ≠ j) : A.all.getD i 0 ≠ A.all.getD j 0 := by
  have hl : A.all.length = 12 := rfl
  have hi' : i < A.all.length := by rw [hl]; exact hi
  have hj' : j < A.all.length := by rw [hl]; exact hj
  rw [List.getD_eq_getElem?_getD, List.getD_eq_getElem?_getD, List.getElem?_eq_getElem hi', List.getElem?_eq_getElem hj']
  have hp := List.pairwise_iff_getElem.1 h.nodup
  intro e
  simp only [Option.getD_some] at e
  rcases Nat.lt_or_gt_of_ne hne with g | g
  · exact hp i j hi' hj' g e
  · exact hp j i hj' hi' g e.symm
theorem Pl.keep {bs : List Nat} {N : Nat} {A : Adr} {W W' : World} {v : Vals} (h : Pl N A W v) (hk : Kept bs W W') (hb : ∀ c ∈ A.all, c ∉ bs) (hm : ∀ i, i < 3 → v.mb i ∉ bs) (hl : ∀ i, i < 3 → ∀ g, (v.lv i).ownBlock = some g → g ∉ bs) : Pl N A W' v where
  names := h.names.keep hk (hb _ (by simp [Adr.all]))
  mtrs := h.mtrs.keep hk (hb _ (by simp [Adr.all]))
  boots := h.boots.keep hk (hb _ (by simp [Adr.all]))
  logs := h.logs.keep hk (hb _ (by simp [Adr.all]))
  pend := h.pend.keep hk (hb _ (by simp [Adr.all]))
  serv := h.serv.keep hk (hb _ (by simp [Adr.all]))
  writ := h.writ.keep hk (hb _ (by simp [Adr.all]))
  arr := h.arr.keep hk (hb _ (by simp [Adr.all]))
  sure := h.sure.keep hk (hb _ (by simp [Adr.all]))
  led := hk.cell h.led (hb _ (by simp [Adr.all]))
  set := hk.set_ h.set (hb _ (by simp [Adr.all])) (hb _ (by simp [Adr.all]))
  met := fun i hi => hk.mblk (h.met i hi) (hm i hi)
  own := fun i hi => hk.own (h.own i hi) (hl i hi)
theorem Pl.step {N : Nat} {A : Adr} {W W' : World} {v : Vals} (h : Pl N A W v) (hb : Below W.heap.size W W') : Pl N A W' v :=
  h.keep (bs := []) (Kept.of_below hb) (fun c _ => by simp) (fun i _ => by simp) (fun i _ g _ => by simp)
theorem Pl.drew {N : Nat} {A : Adr} {W : World} {v : Vals} (h : Pl N A W v) : Pl N A W.drew v := h.step ((Below.refl _ _).drew)
theorem Pl.drewN {N : Nat} {A : Adr} {W : World} {v : Vals} (h : Pl N A W v) (n : Nat) : Pl N A (W.drewN n) v :=
  h.keep (bs := []) ((Kept.refl _ _).drewN n) (fun c _ => by simp) (fun i _ => by simp) (fun i _ g _ => by simp)
theorem Pl.congr {N : Nat} {A : Adr} {W : World} {v v' : Vals} (h : Pl N A W v) (h1 : ∀ k, k < 3 → v.bo k = v'.bo k) (h2 : ∀ k, k < 18 → v.pe k = v'.pe k) (h3 : ∀ k, k < 6 → v.se k = v'.se k) (h4 : ∀ k, k < 6 → v.wr k = v'.wr k)
    (h5 : ∀ k, k < 6 → v.ar k = v'.ar k) (h6 : ∀ k, k < 3 → v.su k = v'.su k) (hS : ∀ e, e ∈ v'.S ↔ e ∈ v.S) (hm : ∀ i, i < 3 → v.m i = v'.m i) (hl : ∀ i, i < 3 → v.logs i = v'.logs i) (hb : ∀ i, i < 3 → v.mb i = v'.mb i) (hv : ∀ i, i < 3 → v.lv i = v'.lv i) : Pl N A W v' where
  names := h.names
  mtrs := h.mtrs.congr fun k hk => by rw [hb k hk]
  boots := h.boots.congr h1
  logs := h.logs.congr hv
  pend := h.pend.congr h2
  serv := h.serv.congr h3
  writ := h.writ.congr h4
  arr := h.arr.congr h5
  sure := h.sure.congr h6
  led := h.led
  set := ⟨h.set.1, h.set.2.congr hS⟩
  met := fun i hi => by rw [← hb i hi, ← hm i hi]; exact h.met i hi
  own := fun i hi => by rw [← hv i hi, ← hl i hi]; exact h.own i hi
section
variable {N : Nat} {A : Adr} {W : World} {v : Vals} (h : Pl N A W v) (ap : Apart N A v.mb v.lv)
include h ap
theorem Pl.set_bo (k : Nat) (u : Value) : Pl N A (W.setCell ⟨A.bo, k, none⟩ u) { v with bo := updV v.bo k u } :=
  have hk : Kept [A.bo] W (W.setCell ⟨A.bo, k, none⟩ u) := Kept.set (by simp)
  have hA : A.bo ∈ A.all := by simp [Adr.all]
{
  names := h.names.keep hk (fun hm => ap.ne 0 2 (by decide) (by decide) (by decide) (List.mem_singleton.1 hm))
  mtrs := h.mtrs.keep hk (fun hm => ap.ne 1 2 (by decide) (by decide) (by decide) (List.mem_singleton.1 hm))
  boots := h.boots.set k u
  logs := h.logs.keep hk (fun hm => ap.ne 3 2 (by decide) (by decide) (by decide) (List.mem_singleton.1 hm))
  pend := h.pend.keep hk (fun hm => ap.ne 4 2 (by decide) (by decide) (by decide) (List.mem_singleton.1 hm))
  serv := h.serv.keep hk (fun hm => ap.ne 5 2 (by decide) (by decide) (by decide) (List.mem_singleton.1 hm))
  writ := h.writ.keep hk (fun hm => ap.ne 6 2 (by decide) (by decide) (by decide) (List.mem_singleton.1 hm))
  arr := h.arr.keep hk (fun hm => ap.ne 7 2 (by decide) (by decide) (by decide) (List.mem_singleton.1 hm))
  sure := h.sure.keep hk (fun hm => ap.ne 8 2 (by decide) (by decide) (by decide) (List.mem_singleton.1 hm))
  led := hk.cell h.led (fun hm => ap.ne 9 2 (by decide) (by decide) (by decide) (List.mem_singleton.1 hm))
  set := hk.set_ h.set (fun hm => ap.ne 10 2 (by decide) (by decide) (by decide) (List.mem_singleton.1 hm)) (fun hm => ap.ne 11 2 (by decide) (by decide) (by decide) (List.mem_singleton.1 hm))
  met := fun i hi => hk.mblk (h.met i hi) (fun hm => ap.mall i hi (by rw [List.mem_singleton.1 hm]; exact hA))
  own := fun i hi => hk.own (h.own i hi) (fun g hg hm => ap.lall i hi g hg (by rw [List.mem_singleton.1 hm]; exact hA)) }
theorem Pl.set_pe (k : Nat) (u : Value) : Pl N A (W.setCell ⟨A.pe, k, none⟩ u) { v with pe := updV v.pe k u } :=
  have hk : Kept [A.pe] W (W.setCell ⟨A.pe, k, none⟩ u) := Kept.set (by simp)
  have hA : A.pe ∈ A.all := by simp [Adr.all]
{
  names := h.names.keep hk (fun hm => ap.ne 0 4 (by decide) (by decide) (by decide) (List.mem_singleton.1 hm))
  mtrs := h.mtrs.keep hk (fun hm => ap.ne 1 4 (by decide) (by decide) (by decide) (List.mem_singleton.1 hm))
  boots := h.boots.keep hk (fun hm => ap.ne 2 4 (by decide) (by decide) (by decide) (List.mem_singleton.1 hm))
  logs := h.logs.keep hk (fun hm => ap.ne 3 4 (by decide) (by decide) (by decide) (List.mem_singleton.1 hm))
  pend := h.pend.set k u
  serv := h.serv.keep hk (fun hm => ap.ne 5 4 (by decide) (by decide) (by decide) (List.mem_singleton.1 hm))
  writ := h.writ.keep hk (fun hm => ap.ne 6 4 (by decide) (by decide) (by decide) (List.mem_singleton.1 hm))
  arr := h.arr.keep hk (fun hm => ap.ne 7 4 (by decide) (by decide) (by decide) (List.mem_singleton.1 hm))
  sure := h.sure.keep hk (fun hm => ap.ne 8 4 (by decide) (by decide) (by decide) (List.mem_singleton.1 hm))
  led := hk.cell h.led (fun hm => ap.ne 9 4 (by decide) (by decide) (by decide) (List.mem_singleton.1 hm))
  set := hk.set_ h.set (fun hm => ap.ne 10 4 (by decide) (by decide) (by decide) (List.mem_singleton.1 hm)) (fun hm => ap.ne 11 4 (by decide) (by decide) (by decide) (List.mem_singleton.1 hm))
  met := fun i hi => hk.mblk (h.met i hi) (fun hm => ap.mall i hi (by rw [List.mem_singleton.1 hm]; exact hA))
  own := fun i hi => hk.own (h.own i hi) (fun g hg hm => ap.lall i hi g hg (by rw [List.mem_singleton.1 hm]; exact hA)) }
theorem Pl.set_se (k : Nat) (u : Value) : Pl N A (W.setCell ⟨A.se, k, none⟩ u) { v with se := updV v.se k u } :=
  have hk : Kept [A.se] W (W.setCell ⟨A.se, k, none⟩ u) := Kept.set (by simp)
  have hA : A.se ∈ A.all := by simp [Adr.all]
{
  names := h.names.keep hk (fun hm => ap.ne 0 5 (by decide) (by decide) (by decide) (List.mem_singleton.1 hm))
  mtrs := h.mtrs.keep hk (fun hm => ap.ne 1 5 (by decide) (by decide) (by decide) (List.mem_singleton.1 hm))
  boots := h.boots.keep hk (fun hm => ap.ne 2 5 (by decide) (by decide) (by decide) (List.mem_singleton.1 hm))
  logs := h.logs.keep hk (fun hm => ap.ne 3 5 (by decide) (by decide) (by decide) (List.mem_singleton.1 hm))
  pend := h.pend.keep hk (fun hm => ap.ne 4 5 (by decide) (by decide) (by decide) (List.mem_singleton.1 hm))
  serv := h.serv.set k u
  writ := h.writ.keep hk (fun hm => ap.ne 6 5 (by decide) (by decide) (by decide) (List.mem_singleton.1 hm))
  arr := h.arr.keep hk (fun hm => ap.ne 7 5 (by decide) (by decide) (by decide) (List.mem_singleton.1 hm))
  sure := h.sure.keep hk (fun hm => ap.ne 8 5 (by decide) (by decide) (by decide) (List.mem_singleton.1 hm))
  led := hk.cell h.led (fun hm => ap.ne 9 5 (by decide) (by decide) (by decide) (List.mem_singleton.1 hm))
  set := hk.set_ h.set (fun hm => ap.ne 10 5 (by decide) (by decide) (by decide) (List.mem_singleton.1 hm)) (fun hm => ap.ne 11 5 (by decide) (by decide) (by decide) (List.mem_singleton.1 hm))
  met := fun i hi => hk.mblk (h.met i hi) (fun hm => ap.mall i hi (by rw [List.mem_singleton.1 hm]; exact hA))
  own := fun i hi => hk.own (h.own i hi) (fun g hg hm => ap.lall i hi g hg (by rw [List.mem_singleton.1 hm]; exact hA)) }
theorem Pl.set_wr (k : Nat) (u : Value) : Pl N A (W.setCell ⟨A.wr, k, none⟩ u) { v with wr := updV v.wr k u } :=
  have hk : Kept [A.wr] W (W.setCell ⟨A.wr, k, none⟩ u) := Kept.set (by simp)
  have hA : A.wr ∈ A.all := by simp [Adr.all]
{
  names := h.names.keep hk (fun hm => ap.ne 0 6 (by decide) (by decide) (by decide) (List.mem_singleton.1 hm))
  mtrs := h.mtrs.keep hk (fun hm => ap.ne 1 6 (by decide) (by decide) (by decide) (List.mem_singleton.1 hm))
  boots := h.boots.keep hk (fun hm => ap.ne 2 6 (by decide) (by decide) (by decide) (List.mem_singleton.1 hm))
  logs := h.logs.keep hk (fun hm => ap.ne 3 6 (by decide) (by decide) (by decide) (List.mem_singleton.1 hm))
  pend := h.pend.keep hk (fun hm => ap.ne 4 6 (by decide) (by decide) (by decide) (List.mem_singleton.1 hm))
  serv := h.serv.keep hk (fun hm => ap.ne 5 6 (by decide) (by decide) (by decide) (List.mem_singleton.1 hm))
  writ := h.writ.set k u
  arr := h.arr.keep hk (fun hm => ap.ne 7 6 (by decide) (by decide) (by decide) (List.mem_singleton.1 hm))
  sure := h.sure.keep hk (fun hm => ap.ne 8 6 (by decide) (by decide) (by decide) (List.mem_singleton.1 hm))
  led := hk.cell h.led (fun hm => ap.ne 9 6 (by decide) (by decide) (by decide) (List.mem_singleton.1 hm))
  set := hk.set_ h.set (fun hm => ap.ne 10 6 (by decide) (by decide) (by decide) (List.mem_singleton.1 hm)) (fun hm => ap.ne 11 6 (by decide) (by decide) (by decide) (List.mem_singleton.1 hm))
  met := fun i hi => hk.mblk (h.met i hi) (fun hm => ap.mall i hi (by rw [List.mem_singleton.1 hm]; exact hA))
  own := fun i hi => hk.own (h.own i hi) (fun g hg hm => ap.lall i hi g hg (by rw [List.mem_singleton.1 hm]; exact hA)) }
theorem Pl.set_ar (k : Nat) (u : Value) : Pl N A (W.setCell ⟨A.ar, k, none⟩ u) { v with ar := updV v.ar k u } :=
  have hk : Kept [A.ar] W (W.setCell ⟨A.ar, k, none⟩ u) := Kept.set (by simp)
  have hA : A.ar ∈ A.all := by simp [Adr.all]
{
  names := h.names.keep hk (fun hm => ap.ne 0 7 (by decide) (by decide) (by decide) (List.mem_singleton.1 hm))
  mtrs := h.mtrs.keep hk (fun hm => ap.ne 1 7 (by decide) (by decide) (by decide) (List.mem_singleton.1 hm))
  boots := h.boots.keep hk (fun hm => ap.ne 2 7 (by decide) (by decide) (by decide) (List.mem_singleton.1 hm))
  logs := h.logs.keep hk (fun hm => ap.ne 3 7 (by decide) (by decide) (by decide) (List.mem_singleton.1 hm))
  pend := h.pend.keep hk (fun hm => ap.ne 4 7 (by decide) (by decide) (by decide) (List.mem_singleton.1 hm))
  serv := h.serv.keep hk (fun hm => ap.ne 5 7 (by decide) (by decide) (by decide) (List.mem_singleton.1 hm))
  writ := h.writ.keep hk (fun hm => ap.ne 6 7 (by decide) (by decide) (by decide) (List.mem_singleton.1 hm))
  arr := h.arr.set k u
  sure := h.sure.keep hk (fun hm => ap.ne 8 7 (by decide) (by decide) (by decide) (List.mem_singleton.1 hm))
  led := hk.cell h.led (fun hm => ap.ne 9 7 (by decide) (by decide) (by decide) (List.mem_singleton.1 hm))
  set := hk.set_ h.set (fun hm => ap.ne 10 7 (by decide) (by decide) (by decide) (List.mem_singleton.1 hm)) (fun hm => ap.ne 11 7 (by decide) (by decide) (by decide) (List.mem_singleton.1 hm))
  met := fun i hi => hk.mblk (h.met i hi) (fun hm => ap.mall i hi (by rw [List.mem_singleton.1 hm]; exact hA))
  own := fun i hi => hk.own (h.own i hi) (fun g hg hm => ap.lall i hi g hg (by rw [List.mem_singleton.1 hm]; exact hA)) }
theorem Pl.set_su (k : Nat) (u : Value) : Pl N A (W.setCell ⟨A.su, k, none⟩ u) { v with su := updV v.su k u } :=
  have hk : Kept [A.su] W (W.setCell ⟨A.su, k, none⟩ u) := Kept.set (by simp)
  have hA : A.su ∈ A.all := by simp [Adr.all]
{
  names := h.names.keep hk (fun hm => ap.ne 0 8 (by decide) (by decide) (by decide) (List.mem_singleton.1 hm))
  mtrs := h.mtrs.keep hk (fun hm => ap.ne 1 8 (by decide) (by decide) (by decide) (List.mem_singleton.1 hm))
  boots := h.boots.keep hk (fun hm => ap.ne 2 8 (by decide) (by decide) (by decide) (List.mem_singleton.1 hm))
  logs := h.logs.keep hk (fun hm => ap.ne 3 8 (by decide) (by decide) (by decide) (List.mem_singleton.1 hm))
  pend := h.pend.keep hk (fun hm => ap.ne 4 8 (by decide) (by decide) (by decide) (List.mem_singleton.1 hm))
  serv := h.serv.keep hk (fun hm => ap.ne 5 8 (by decide) (by decide) (by decide) (List.mem_singleton.1 hm))
  writ := h.writ.keep hk (fun hm => ap.ne 6 8 (by decide) (by decide) (by decide) (List.mem_singleton.1 hm))
  arr := h.arr.keep hk (fun hm => ap.ne 7 8 (by decide) (by decide) (by decide) (List.mem_singleton.1 hm))
  sure := h.sure.set k u
  led := hk.cell h.led (fun hm => ap.ne 9 8 (by decide) (by decide) (by decide) (List.mem_singleton.1 hm))
  set := hk.set_ h.set (fun hm => ap.ne 10 8 (by decide) (by decide) (by decide) (List.mem_singleton.1 hm)) (fun hm => ap.ne 11 8 (by decide) (by decide) (by decide) (List.mem_singleton.1 hm))
  met := fun i hi => hk.mblk (h.met i hi) (fun hm => ap.mall i hi (by rw [List.mem_singleton.1 hm]; exact hA))
  own := fun i hi => hk.own (h.own i hi) (fun g hg hm => ap.lall i hi g hg (by rw [List.mem_singleton.1 hm]; exact hA)) }
/-- Another meter is laid at a node's place. -/
theorem Pl.set_mb (i b' : Nat) (m' : Mtr) (hi : i < 3) (hm' : MBlk W b' m') (hb' : b' ∉ A.all) : Pl N A (W.setCell ⟨A.ms, i, none⟩ (.pointer (some ⟨b', 0, none⟩))) { v with mb := updN v.mb i b', m := updN v.m i m' } :=
  have hk : Kept [A.ms] W (W.setCell ⟨A.ms, i, none⟩ (.pointer (some ⟨b', 0, none⟩))) := Kept.set (by simp)
  have hA : A.ms ∈ A.all := by simp [Adr.all]
{
  names := h.names.keep hk (fun hm => ap.ne 0 1 (by decide) (by decide) (by decide) (List.mem_singleton.1 hm))
  mtrs := (h.mtrs.set i (.pointer (some ⟨b', 0, none⟩))).congr fun k hk => by unfold updV updN; by_cases e : k = i <;> simp [e]
  boots := h.boots.keep hk (fun hm => ap.ne 2 1 (by decide) (by decide) (by decide) (List.mem_singleton.1 hm))
  logs := h.logs.keep hk (fun hm => ap.ne 3 1 (by decide) (by decide) (by decide) (List.mem_singleton.1 hm))
  pend := h.pend.keep hk (fun hm => ap.ne 4 1 (by decide) (by decide) (by decide) (List.mem_singleton.1 hm))
  serv := h.serv.keep hk (fun hm => ap.ne 5 1 (by decide) (by decide) (by decide) (List.mem_singleton.1 hm))
  writ := h.writ.keep hk (fun hm => ap.ne 6 1 (by decide) (by decide) (by decide) (List.mem_singleton.1 hm))
  arr := h.arr.keep hk (fun hm => ap.ne 7 1 (by decide) (by decide) (by decide) (List.mem_singleton.1 hm))
  sure := h.sure.keep hk (fun hm => ap.ne 8 1 (by decide) (by decide) (by decide) (List.mem_singleton.1 hm))
  led := hk.cell h.led (fun hm => ap.ne 9 1 (by decide) (by decide) (by decide) (List.mem_singleton.1 hm))
  set := hk.set_ h.set (fun hm => ap.ne 10 1 (by decide) (by decide) (by decide) (List.mem_singleton.1 hm)) (fun hm => ap.ne 11 1 (by decide) (by decide) (by decide) (List.mem_singleton.1 hm))
  met := fun j hj => by
    by_cases e : j = i
    · subst e
      dsimp only
      rw [show updN v.mb j b' j = b' by simp [updN], show updN v.m j m' j = m' by simp [updN]]
      exact hk.mblk hm' (fun hm => hb' (by rw [List.mem_singleton.1 hm]; exact hA))
    · simp only [updN, if_neg e]
      exact hk.mblk (h.met j hj) (fun hm => ap.mall j hj (by rw [List.mem_singleton.1 hm]; exact hA))
  own := fun i hi => hk.own (h.own i hi) (fun g hg hm => ap.lall i hi g hg (by rw [List.mem_singleton.1 hm]; exact hA)) }
/-- A meter is turned by a call of its own. -/
theorem Pl.turn {W' : World} (i : Nat) (m' : Mtr) (hi : i < 3) (ho : Only (v.mb i) W W') (hm' : MBlk W' (v.mb i) m') : Pl N A W' { v with m := updN v.m i m' } :=
  have hk : Kept [v.mb i] W W' := Kept.of_grown ho (by simp)
  have hx : ∀ c ∈ A.all, c ∉ [v.mb i] := fun c hc hm => ap.mall i hi (by rw [← List.mem_singleton.1 hm]; exact hc)
{
  names := h.names.keep hk (hx _ (by simp [Adr.all]))
  mtrs := h.mtrs.keep hk (hx _ (by simp [Adr.all]))
  boots := h.boots.keep hk (hx _ (by simp [Adr.all]))
  logs := h.logs.keep hk (hx _ (by simp [Adr.all]))
  pend := h.pend.keep hk (hx _ (by simp [Adr.all]))
  serv := h.serv.keep hk (hx _ (by simp [Adr.all]))
  writ := h.writ.keep hk (hx _ (by simp [Adr.all]))
  arr := h.arr.keep hk (hx _ (by simp [Adr.all]))
  sure := h.sure.keep hk (hx _ (by simp [Adr.all]))
  led := hk.cell h.led (hx _ (by simp [Adr.all]))
  set := hk.set_ h.set (hx _ (by simp [Adr.all])) (hx _ (by simp [Adr.all]))
  met := fun j hj => by
    by_cases e : j = i
    · subst e
      simp only [updN, if_pos rfl]
      exact hm'
    · simp only [updN, if_neg e]
      exact hk.mblk (h.met j hj) (fun hm => ap.minj j i hj hi e (List.mem_singleton.1 hm))
  own := fun j hj => hk.own (h.own j hj) (fun g hg hm => ap.lmb j i hj hi (by rw [hg, List.mem_singleton.1 hm])) }
/-- A log is lengthened: its row, then the slice. -/
theorem Pl.append {W' : World} (i : Nat) (v' : Value) (L' : List Ent) (hi : i < 3) (hg : W.grownBy W' (v.lv i).ownBlock) (hO : OwnE W' N v' L') (hn : ∀ g, v'.ownBlock = some g → g ∉ A.all) :
    Pl N A (W'.setCell ⟨A.lg, i, none⟩ v') { v with lv := updN v.lv i v', logs := updN v.logs i L' } := by
  obtain ⟨bs, hk1, hbs⟩ : ∃ bs : List Nat, Kept bs W W' ∧ ∀ c ∈ bs, (v.lv i).ownBlock = some c := by
    cases hob : (v.lv i).ownBlock with
    | none => exact ⟨[], Kept.of_own hg (fun g e => by rw [hob] at e; cases e), fun c hc => by cases hc⟩
    | some g => exact ⟨[g], Kept.of_own hg (fun g' e => by rw [hob] at e; cases e; simp), fun c hc => by rw [List.mem_singleton.1 hc]⟩
  have hA : A.lg ∈ A.all := by simp [Adr.all]
  have hk2 : Kept [A.lg] W' (W'.setCell ⟨A.lg, i, none⟩ v') := Kept.set (by simp)
  have hk : Kept (A.lg :: bs) W (W'.setCell ⟨A.lg, i, none⟩ v') := (hk1.mono (fun k hk => List.mem_cons_of_mem _ hk)).trans (hk2.mono (by simp))
  have hx : ∀ c ∈ A.all, c ≠ A.lg → c ∉ A.lg :: bs := fun c hc hne hm => by
    rcases List.mem_cons.1 hm with e | e
    · exact hne e
    · exact ap.lall i hi c (hbs c e) hc
  have hlg : Row W' A.lg 34 3 v.lv := h.logs.keep hk1 (fun hm => ap.lall i hi _ (hbs _ hm) hA)
  exact {
    names := h.names.keep hk (hx _ (by simp [Adr.all]) (ap.ne 0 3 (by decide) (by decide) (by decide)))
    mtrs := h.mtrs.keep hk (hx _ (by simp [Adr.all]) (ap.ne 1 3 (by decide) (by decide) (by decide)))
    boots := h.boots.keep hk (hx _ (by simp [Adr.all]) (ap.ne 2 3 (by decide) (by decide) (by decide)))
    logs := (hlg.set i v').congr fun k hk => by unfold updV updN; rfl
    pend := h.pend.keep hk (hx _ (by simp [Adr.all]) (ap.ne 4 3 (by decide) (by decide) (by decide)))
    serv := h.serv.keep hk (hx _ (by simp [Adr.all]) (ap.ne 5 3 (by decide) (by decide) (by decide)))
    writ := h.writ.keep hk (hx _ (by simp [Adr.all]) (ap.ne 6 3 (by decide) (by decide) (by decide)))
    arr := h.arr.keep hk (hx _ (by simp [Adr.all]) (ap.ne 7 3 (by decide) (by decide) (by decide)))
    sure := h.sure.keep hk (hx _ (by simp [Adr.all]) (ap.ne 8 3 (by decide) (by decide) (by decide)))
    led := hk.cell h.led (hx _ (by simp [Adr.all]) (ap.ne 9 3 (by decide) (by decide) (by decide)))
    set := hk.set_ h.set (hx _ (by simp [Adr.all]) (ap.ne 10 3 (by decide) (by decide) (by decide))) (hx _ (by simp [Adr.all]) (ap.ne 11 3 (by decide) (by decide) (by decide)))
    met := fun j hj => hk.mblk (h.met j hj) (fun hm => by
      rcases List.mem_cons.1 hm with e | e
      · exact ap.mall j hj (by rw [e]; exact hA)
      · exact ap.lmb i j hi hj (hbs _ e))
    own := fun j hj => by
      by_cases e : j = i
      · subst e
        simp only [updN, if_pos rfl]
        exact hk2.own hO (fun g hg hm => hn g hg (by rw [List.mem_singleton.1 hm]; exact hA))
      · simp only [updN, if_neg e]
        refine hk.own (h.own j hj) (fun g hg hm => ?_)
        rcases List.mem_cons.1 hm with e2 | e2
        · exact ap.lall j hj g hg (by rw [e2]; exact hA)
        · exact ap.linj i j hi hj (fun e3 => e e3.symm) g (hbs g e2) hg }
/-- A sending: the set, the arrived and the sure are turned. -/
theorem Pl.sent {W' : World} {S' : List Ent} {fa fs : Nat → Value} (hk : Kept [A.b, A.ar, A.su] W W') (hs : IsSet W' A.p A.b S') (ha : Row W' A.ar 36 6 fa) (hu : Row W' A.su 28 3 fs) : Pl N A W' { v with S := S', ar := fa, su := fs } where
  names := h.names.keep hk (by simp only [List.mem_cons, List.not_mem_nil, or_false, not_or]; exact ⟨ap.ne 0 11 (by decide) (by decide) (by decide), ap.ne 0 7 (by decide) (by decide) (by decide), ap.ne 0 8 (by decide) (by decide) (by decide)⟩)
  mtrs := h.mtrs.keep hk (by simp only [List.mem_cons, List.not_mem_nil, or_false, not_or]; exact ⟨ap.ne 1 11 (by decide) (by decide) (by decide), ap.ne 1 7 (by decide) (by decide) (by decide), ap.ne 1 8 (by decide) (by decide) (by decide)⟩)
  boots := h.boots.keep hk (by simp only [List.mem_cons, List.not_mem_nil, or_false, not_or]; exact ⟨ap.ne 2 11 (by decide) (by decide) (by decide), ap.ne 2 7 (by decide) (by decide) (by decide), ap.ne 2 8 (by decide) (by decide) (by decide)⟩)
  logs := h.logs.keep hk (by simp only [List.mem_cons, List.not_mem_nil, or_false, not_or]; exact ⟨ap.ne 3 11 (by decide) (by decide) (by decide), ap.ne 3 7 (by decide) (by decide) (by decide), ap.ne 3 8 (by decide) (by decide) (by decide)⟩)
  pend := h.pend.keep hk (by simp only [List.mem_cons, List.not_mem_nil, or_false, not_or]; exact ⟨ap.ne 4 11 (by decide) (by decide) (by decide), ap.ne 4 7 (by decide) (by decide) (by decide), ap.ne 4 8 (by decide) (by decide) (by decide)⟩)
  serv := h.serv.keep hk (by simp only [List.mem_cons, List.not_mem_nil, or_false, not_or]; exact ⟨ap.ne 5 11 (by decide) (by decide) (by decide), ap.ne 5 7 (by decide) (by decide) (by decide), ap.ne 5 8 (by decide) (by decide) (by decide)⟩)
  writ := h.writ.keep hk (by simp only [List.mem_cons, List.not_mem_nil, or_false, not_or]; exact ⟨ap.ne 6 11 (by decide) (by decide) (by decide), ap.ne 6 7 (by decide) (by decide) (by decide), ap.ne 6 8 (by decide) (by decide) (by decide)⟩)
  arr := ha
  sure := hu
  led := hk.cell h.led (by simp only [List.mem_cons, List.not_mem_nil, or_false, not_or]; exact ⟨ap.ne 9 11 (by decide) (by decide) (by decide), ap.ne 9 7 (by decide) (by decide) (by decide), ap.ne 9 8 (by decide) (by decide) (by decide)⟩)
  set := hs
  met := fun i hi => hk.mblk (h.met i hi) (fun hm => ap.mall i hi (by simp at hm; rcases hm with e | e | e <;> simp [Adr.all, e]))
  own := fun i hi => hk.own (h.own i hi) (fun g hg hm => ap.lall i hi g hg (by simp at hm; rcases hm with e | e | e <;> simp [Adr.all, e]))
end
/-- append of entries to entries of the call's own. -/
theorem step_appEs {ops : Array Oper} {o : Oper} {a : Act} {K : Act → World → Prop} {Q : Exit → Act → World → Prop} {E : Prop} {w : World} (hgd : o.guard = none) (s x : Operand)
    (ho : o.op = .call { callee := .builtin .append, args := #[s, x], argTypes := #[33, 33] })
    (base : Nat) (v : Value) (es : List Ent) (hs : a.eval s = v) (hown : OwnE w base v es) (u : Value) (fs : List Ent) (b2 : Nat) (hx : a.eval x = u) (hu : OwnE w b2 u fs)
    (hb : es.length + fs.length ≤ 1000000) (hbase : base ≤ w.heap.size)
    (h : ∀ v' w', OwnE w' base v' (es ++ fs) → w.grownBy w' v.ownBlock → (v'.ownBlock = v.ownBlock ∨ v'.ownBlock = some w.heap.size) → K (a.put o.dst v') w') :
    if Region.wanted o (yielded ops a.tmps) = true then Oper.wp Try.prog o a w K Q else E := by
  have hw : Region.wanted o (yielded ops a.tmps) = true := by simp [Region.wanted, hgd]
  rw [if_pos hw]
  obtain ⟨i0, hi, hz0, hz1, hz2⟩ := info_parts info23
  have hu2 := hu
  obtain ⟨hl, hd⟩ := hu
  rcases hd with ⟨rfl, hn⟩ | ⟨g, cap, cur, rfl, hg, hcur, hcap, hmax, hsz, htk⟩
  · obtain rfl := List.eq_nil_of_length_eq_zero hn
    have hrun := run_append_owned_none (P := Try.prog) (w := w) base 33 o.type 46 i0 7 Try.underlying33 hi v es.length (es.flatMap ecells) hown
    unfold Oper.wp
    simp [execOp, ho, resolve, invoke, builtin, hs, hx, hrun, Result.andThen]
    exact h v w (by simpa using hown) (World.grownBy.refl _ _) (.inl rfl)
  · obtain ⟨v', w', hr, h2, h3, h4, h5⟩ := run_append_own_at (P := Try.prog) (w := w) base 33 o.type 46 i0 _ 7 64 Try.underlying33 hi hz0 hz1 hz2 rfl (by decide) v es.length (es.flatMap ecells) hown ⟨g, 0, none⟩ fs.length cap (fs.flatMap ecells) hl
      (fun j u hj => by
        have hlt : j < fs.length * 7 := by rw [← hl]; exact (List.getElem?_eq_some_iff.1 hj).1
        have hc := World.ownsRow.cellAt hu2 j hlt
        rw [← hj, ← hc]
        by_cases h0 : j = 0
        · subst h0; simp [Addr.add]
        · simp [Addr.add, h0])
      (fun u hu => by
        obtain ⟨e, he, hm⟩ := List.mem_flatMap.1 hu
        exact ecells_one e u hm)
      (by unfold maxLen; omega) (by omega) hbase
    unfold Oper.wp execOp
    simp only [ho, resolve, invoke, builtin, Sem.run_bind, Sem.run_pure, Result.andThen_ok, List.map_toArray, List.map_cons, List.map_nil, hs, hx, hr]
    refine h v' w' ?_ h3 h5
    unfold OwnE
    rw [List.length_append, List.flatMap_append]
    exact h2
end Go.Proofs.Ythhooocckfljaaa
