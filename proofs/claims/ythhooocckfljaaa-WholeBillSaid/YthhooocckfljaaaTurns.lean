/- Plain: what a count turns of the nodes' and the ledger's state. No condition. -/
import Derived.Test.YthhooocckfljaaaState
namespace Go.Proofs.Ythhooocckfljaaa
open Go.RowKit Go.Maps Go.Shelf
set_option linter.unusedVariables false
set_option linter.unusedSimpArgs false

def pendF (H Y : Nat → Nat → Int) : Nat → Value := fun j => .int .i64 (if j % 6 % 2 = 0 then H (j / 6) (j % 6 / 2) else Y (j / 6) (j % 6 / 2))
def Sts.vals (s : Sts) (mb : Nat → Nat) (lv : Nat → Value) : Vals :=
  ⟨s.m, fun i => .int .i64 (s.m i).boot, pendF (fun i => (s.m i).H) (fun i => (s.m i).Y), pairF s.sH s.sY, pairF (fun t => totP (ofT t) Ent.hits s.all) (fun t => totP (ofT t) Ent.bytes s.all),
   pairF (fun t => totP (ofT t) Ent.hits s.firm) (fun t => totP (ofT t) Ent.bytes s.firm), fun i => .int .i64 (s.sure i : Nat), s.S, s.logs, mb, lv⟩
def Sts.add (s : Sts) (i t : Nat) (y : Int) : Sts := { s with m := updN s.m i (addM (s.m i) t y), sH := upd s.sH t (s.sH t + 1), sY := upd s.sY t (s.sY t + y) }
def Sts.flush (s : Sts) (i : Nat) (a : Int) : Sts := { s with m := updN s.m i (flushM (s.m i) a 16), logs := updN s.logs i (s.logs i ++ (flushEs (s.m i) a 16).2) }
def Sts.boot (s : Sts) (i : Nat) : Sts := { s with m := updN s.m i (newM (nodeN i) ((s.m i).boot + 1)) }
def Sts.send (s : Sts) (i k : Nat) (full : Bool) : Sts := { s with S := (s.logs i).take k ++ s.S, sure := if full = true then updN s.sure i (s.logs i).length else s.sure }
theorem three {i : Nat} (hi : i < 3) : i = 0 ∨ i = 1 ∨ i = 2 := by omega
theorem updN_same {α : Type} (f : Nat → α) (i : Nat) (x : α) : updN f i x i = x := by simp [updN]
theorem updN_ne {α : Type} (f : Nat → α) (i : Nat) (x : α) {j : Nat} (h : j ≠ i) : updN f i x j = f j := by simp [updN, h]
theorem Sts.flush_tot (s : Sts) (i : Nat) (hi : i < 3) (a : Int) (f : Ent → Bool) (g : Ent → Int) : totP f g (s.flush i a).all = totP f g s.all + totP f g (flushEs (s.m i) a 16).2 := by
  unfold Sts.flush Sts.all
  rcases three hi with rfl | rfl | rfl
  all_goals
    simp only [updN, totP_app, if_true, show ¬ (1 : Nat) = 0 by omega, show ¬ (2 : Nat) = 0 by omega, show ¬ (0 : Nat) = 1 by omega, show ¬ (2 : Nat) = 1 by omega, show ¬ (0 : Nat) = 2 by omega, show ¬ (1 : Nat) = 2 by omega, if_false]
    omega
theorem Sts.flush_firm (s : Sts) (i : Nat) (hi : i < 3) (a : Int) (hs : s.sure i ≤ (s.logs i).length) : (s.flush i a).firm = s.firm := by
  have h : ∀ j, ((s.flush i a).logs j).take ((s.flush i a).sure j) = (s.logs j).take (s.sure j) := by
    intro j
    unfold Sts.flush
    dsimp only
    by_cases e : j = i
    · subst e
      rw [updN_same, List.take_append_of_le_length hs]
    · rw [updN_ne _ _ _ e]
  unfold Sts.firm
  rw [h, h, h]
theorem Sts.pH_upd (s : Sts) (i : Nat) (hi : i < 3) (m' : Mtr) (s' : Sts) (hs : s'.m = updN s.m i m') (t : Nat) : s'.pH t = s.pH t - (s.m i).H t + m'.H t ∧ s'.pY t = s.pY t - (s.m i).Y t + m'.Y t := by
  unfold Sts.pH Sts.pY
  rw [hs]
  rcases three hi with rfl | rfl | rfl
  all_goals
    simp only [updN, if_true, show ¬ (1 : Nat) = 0 by omega, show ¬ (2 : Nat) = 0 by omega, show ¬ (0 : Nat) = 1 by omega, show ¬ (2 : Nat) = 1 by omega, show ¬ (0 : Nat) = 2 by omega, show ¬ (1 : Nat) = 2 by omega, if_false]
    constructor <;> omega
namespace Inv
variable {s : Sts} {now ns : Nat}
theorem mono (h : Inv s now ns) {now' ns' : Nat} (h1 : now ≤ now') (h2 : ns ≤ ns') : Inv s now' ns' where
  log := h.log
  node := h.node
  boot := fun i hi => by have := h.boot i hi; omega
  seq := fun i hi => by have := h.seq i hi; omega
  len := fun i hi => by have := h.len i hi; omega
  pend := fun i hi t => by have := h.pend i hi t; omega
  sub := h.sub
  has := h.has
  slen := by have := h.slen; omega
  sure := h.sure
  srvH := fun t ht => by have := h.srvH t ht; omega
  srvY := fun t ht => by have := h.srvY t ht; omega
theorem add (h : Inv s now ns) {i t : Nat} (hi : i < 3) (ht : t < 3) {y : Int} (hy : 0 ≤ y ∧ y ≤ 65535) : Inv (s.add i t y) (now + 1) ns where
  log := fun j hj => by
    have := h.log j hj
    unfold Sts.add
    dsimp only
    by_cases e : j = i
    · subst e; rw [updN_same]; exact this
    · rw [updN_ne _ _ _ e]; exact this
  node := fun j hj => by
    have := h.node j hj
    unfold Sts.add
    dsimp only
    by_cases e : j = i
    · subst e; rw [updN_same]; exact this
    · rw [updN_ne _ _ _ e]; exact this
  boot := fun j hj => by
    have := h.boot j hj
    unfold Sts.add
    dsimp only
    by_cases e : j = i
    · subst e; rw [updN_same]; simp only [addM]; omega
    · rw [updN_ne _ _ _ e]; omega
  seq := fun j hj => by
    have := h.seq j hj
    unfold Sts.add
    dsimp only
    by_cases e : j = i
    · subst e; rw [updN_same]; simp only [addM]; omega
    · rw [updN_ne _ _ _ e]; omega
  len := fun j hj => by have := h.len j hj; unfold Sts.add; dsimp only; omega
  pend := fun j hj t' => by
    have hp := h.pend j hj t'
    unfold Sts.add
    dsimp only
    by_cases e : j = i
    · subst e
      rw [updN_same]
      simp only [addM, upd]
      by_cases e2 : t' = t
      · subst e2
        simp only [if_true]
        omega
      · simp only [if_neg e2]
        omega
    · rw [updN_ne _ _ _ e]; omega
  sub := h.sub
  has := h.has
  slen := h.slen
  sure := h.sure
  srvH := fun t' ht' => by
    have h1 := h.srvH t' ht'
    have h2 := (Sts.pH_upd s i hi (addM (s.m i) t y) (s.add i t y) rfl t').1
    have h3 : (s.add i t y).all = s.all := rfl
    rw [h3, h2]
    simp only [Sts.add, addM, upd]
    by_cases e : t' = t
    · subst e
      simp only [if_true]
      omega
    · simp only [if_neg e]
      omega
  srvY := fun t' ht' => by
    have h1 := h.srvY t' ht'
    have h2 := (Sts.pH_upd s i hi (addM (s.m i) t y) (s.add i t y) rfl t').2
    have h3 : (s.add i t y).all = s.all := rfl
    rw [h3, h2]
    simp only [Sts.add, addM, upd]
    by_cases e : t' = t
    · subst e
      simp only [if_true]
      omega
    · simp only [if_neg e]
      omega
theorem restart (h : Inv s now ns) {i : Nat} (hi : i < 3) : Inv (s.boot i) (now + 1) ns where
  log := fun j hj => by
    have := h.log j hj
    unfold Sts.boot
    dsimp only
    by_cases e : j = i
    · subst e; rw [updN_same]; exact this.boot
    · rw [updN_ne _ _ _ e]; exact this
  node := fun j hj => by
    have := h.node j hj
    unfold Sts.boot
    dsimp only
    by_cases e : j = i
    · subst e; rw [updN_same]; rfl
    · rw [updN_ne _ _ _ e]; exact this
  boot := fun j hj => by
    have := h.boot j hj
    unfold Sts.boot
    dsimp only
    by_cases e : j = i
    · subst e; rw [updN_same]; simp only [newM]; omega
    · rw [updN_ne _ _ _ e]; omega
  seq := fun j hj => by
    have := h.seq j hj
    unfold Sts.boot
    dsimp only
    by_cases e : j = i
    · subst e; rw [updN_same]; simp only [newM]; omega
    · rw [updN_ne _ _ _ e]; omega
  len := fun j hj => by have := h.len j hj; unfold Sts.boot; dsimp only; omega
  pend := fun j hj t' => by
    have hp := h.pend j hj t'
    unfold Sts.boot
    dsimp only
    by_cases e : j = i
    · subst e
      rw [updN_same]
      simp only [newM]
      exact ⟨by omega, by omega, by omega, by omega, fun _ => trivial, fun _ => trivial⟩
    · rw [updN_ne _ _ _ e]; omega
  sub := h.sub
  has := h.has
  slen := h.slen
  sure := h.sure
  srvH := fun t' ht' => by
    have h1 := h.srvH t' ht'
    have h2 := (Sts.pH_upd s i hi (newM (nodeN i) ((s.m i).boot + 1)) (s.boot i) rfl t').1
    have h3 : (s.boot i).all = s.all := rfl
    have h4 := h.pend i hi t'
    rw [h3, h2]
    simp only [Sts.boot, newM]
    omega
  srvY := fun t' ht' => by
    have h1 := h.srvY t' ht'
    have h2 := (Sts.pH_upd s i hi (newM (nodeN i) ((s.m i).boot + 1)) (s.boot i) rfl t').2
    have h3 : (s.boot i).all = s.all := rfl
    have h4 := h.pend i hi t'
    rw [h3, h2]
    simp only [Sts.boot, newM]
    omega
theorem flush (h : Inv s now ns) {i : Nat} (hi : i < 3) {a : Int} (ha : 0 ≤ a ∧ a < 1000) (hn : now ≤ 60) : Inv (s.flush i a) (now + 1) ns where
  log := fun j hj => by
    have hl := h.log j hj
    unfold Sts.flush
    dsimp only
    by_cases e : j = i
    · subst e
      rw [updN_same, updN_same]
      have hb := h.boot j hj
      have hs := h.seq j hj
      exact LogOk.flush hl (node_named hj) (h.node j hj) (by omega) (by omega) (fun t => by have := h.pend j hj t; omega) a ha 16 (Nat.le_refl _)
    · rw [updN_ne _ _ _ e, updN_ne _ _ _ e]; exact hl
  node := fun j hj => by
    have := h.node j hj
    unfold Sts.flush
    dsimp only
    by_cases e : j = i
    · subst e; rw [updN_same]; exact this
    · rw [updN_ne _ _ _ e]; exact this
  boot := fun j hj => by
    have := h.boot j hj
    unfold Sts.flush
    dsimp only
    by_cases e : j = i
    · subst e; rw [updN_same]; simp only [flushM]; omega
    · rw [updN_ne _ _ _ e]; omega
  seq := fun j hj => by
    have := h.seq j hj
    unfold Sts.flush
    dsimp only
    by_cases e : j = i
    · subst e
      rw [updN_same]
      have hb := flushEs_bd (s.m j) a 16
      simp only [flushM]
      omega
    · rw [updN_ne _ _ _ e]; omega
  len := fun j hj => by
    have := h.len j hj
    unfold Sts.flush
    dsimp only
    by_cases e : j = i
    · subst e
      rw [updN_same, List.length_append]
      have hb := flushEs_bd (s.m j) a 16
      omega
    · rw [updN_ne _ _ _ e]; omega
  pend := fun j hj t' => by
    have hp := h.pend j hj t'
    unfold Sts.flush
    dsimp only
    by_cases e : j = i
    · subst e
      rw [updN_same]
      simp only [flushM]
      by_cases e2 : t' < 16
      · simp only [if_pos e2]
        exact ⟨by omega, by omega, by omega, by omega, fun _ => trivial, fun _ => trivial⟩
      · simp only [if_neg e2]
        exact ⟨by omega, by omega, by omega, by omega, hp.2.2.2.2.1, hp.2.2.2.2.2⟩
    · rw [updN_ne _ _ _ e]; omega
  sub := fun e he => by
    obtain ⟨j, hj, hm⟩ := Sts.mem_all.1 (h.sub e he)
    refine Sts.mem_all.2 ⟨j, hj, ?_⟩
    unfold Sts.flush
    dsimp only
    by_cases e : j = i
    · subst e; rw [updN_same]; exact List.mem_append_left _ hm
    · rw [updN_ne _ _ _ e]; exact hm
  has := by rw [Sts.flush_firm s i hi a (h.sure i hi)]; exact h.has
  slen := h.slen
  sure := fun j hj => by
    have := h.sure j hj
    unfold Sts.flush
    dsimp only
    by_cases e : j = i
    · subst e; rw [updN_same, List.length_append]; omega
    · rw [updN_ne _ _ _ e]; exact this
  srvH := fun t ht => by
    have h1 := h.srvH t ht
    have h2 := (Sts.pH_upd s i hi (flushM (s.m i) a 16) (s.flush i a) rfl t).1
    have h3 := flush_tot (s.m i) a t Ent.hits (s.m i).H (fun k q => rfl) (fun h => h) 16
    rw [Sts.flush_tot s i hi, h2, h3, if_pos (by omega)]
    simp only [Sts.flush, flushM, if_pos (show t < 16 by omega)]
    omega
  srvY := fun t ht => by
    have h1 := h.srvY t ht
    have h2 := (Sts.pH_upd s i hi (flushM (s.m i) a 16) (s.flush i a) rfl t).2
    have hp := h.pend i hi t
    have h3 := flush_tot (s.m i) a t Ent.bytes (s.m i).Y (fun k q => rfl) (fun h0 => hp.2.2.2.2.1 h0) 16
    rw [Sts.flush_tot s i hi, h2, h3, if_pos (by omega)]
    simp only [Sts.flush, flushM, if_pos (show t < 16 by omega)]
    omega
theorem send (h : Inv s now ns) {i : Nat} (hi : i < 3) {k : Nat} {full : Bool} (hk : k ≤ (s.logs i).length) (hf : full = true → k = (s.logs i).length) (hn : now ≤ 60) : Inv (s.send i k full) now (ns + 1) where
  log := h.log
  node := h.node
  boot := h.boot
  seq := h.seq
  len := h.len
  pend := h.pend
  sub := fun e he => by
    unfold Sts.send at he
    dsimp only at he
    rcases List.mem_append.1 he with he | he
    · exact Sts.mem_all.2 ⟨i, hi, List.mem_of_mem_take he⟩
    · exact h.sub e he
  has := fun e he => by
    obtain ⟨j, hj, hm⟩ := Sts.mem_firm.1 he
    unfold Sts.send at hm ⊢
    dsimp only at hm ⊢
    by_cases hfu : full = true
    · rw [if_pos hfu] at hm
      by_cases e2 : j = i
      · subst e2
        rw [hf hfu]
        rw [updN_same] at hm
        exact List.mem_append_left _ hm
      · rw [updN_ne _ _ _ e2] at hm
        exact List.mem_append_right _ (h.has e (Sts.mem_firm.2 ⟨j, hj, hm⟩))
    · rw [if_neg hfu] at hm
      exact List.mem_append_right _ (h.has e (Sts.mem_firm.2 ⟨j, hj, hm⟩))
  slen := by
    have h1 := h.slen
    have h2 := h.len i hi
    unfold Sts.send
    dsimp only
    rw [List.length_append, List.length_take]
    omega
  sure := fun j hj => by
    have := h.sure j hj
    unfold Sts.send
    dsimp only
    by_cases hfu : full = true
    · rw [if_pos hfu]
      by_cases e2 : j = i
      · subst e2; rw [updN_same]; exact Nat.le_refl _
      · rw [updN_ne _ _ _ e2]; exact this
    · rw [if_neg hfu]; exact this
  srvH := h.srvH
  srvY := h.srvY
end Inv
theorem Sts.send_firm (s : Sts) (i k : Nat) (hi : i < 3) (hs : s.sure i ≤ (s.logs i).length) (f : Ent → Bool) (g : Ent → Int) : totP f g (s.send i k true).firm = totP f g s.firm + totP f g ((s.logs i).drop (s.sure i)) := by
  have h : totP f g (s.logs i) = totP f g ((s.logs i).take (s.sure i)) + totP f g ((s.logs i).drop (s.sure i)) := by
    rw [← totP_app, List.take_append_drop]
  unfold Sts.firm Sts.send
  dsimp only
  rw [if_pos rfl]
  rcases three hi with rfl | rfl | rfl
  all_goals
    simp only [updN, totP_app, if_true, show ¬ (1 : Nat) = 0 by omega, show ¬ (2 : Nat) = 0 by omega, show ¬ (0 : Nat) = 1 by omega, show ¬ (2 : Nat) = 1 by omega, show ¬ (0 : Nat) = 2 by omega, show ¬ (1 : Nat) = 2 by omega, if_false, List.take_length]
    omega
/-- The beginning. -/
def stsZ : Sts := ⟨fun i => newM (nodeN i) 0, fun _ => [], fun _ => 0, [], fun _ => 0, fun _ => 0⟩
theorem inv_zero : Inv stsZ 0 0 where
  log := fun i _ => LogOk.nil _ _
  node := fun i _ => rfl
  boot := fun i _ => by simp [stsZ, newM]
  seq := fun i _ => by simp [stsZ, newM]
  len := fun i _ => by simp [stsZ]
  pend := fun i _ t => by simp [stsZ, newM]
  sub := fun e he => by simp [stsZ] at he
  has := fun e he => by simp [stsZ, Sts.firm] at he
  slen := by simp [stsZ]
  sure := fun i _ => by simp [stsZ]
  srvH := fun t _ => by simp [stsZ, Sts.all, Sts.pH, newM, totP]
  srvY := fun t _ => by simp [stsZ, Sts.all, Sts.pY, newM, totP]
end Go.Proofs.Ythhooocckfljaaa
