/- The plain law of a meter's entries: they add up to what was counted. No program in sight. -/
import Derived.Test.YtdkaapkehmjepaaSpoil
namespace Go.Proofs.Ytdkaapkehmjepaa
set_option linter.unusedVariables false
set_option linter.unusedSimpArgs false

def sumH : List Ent → Nat → Int
  | [], _ => 0
  | e :: es, t => (if e.ten = (t : Int) then e.hits else 0) + sumH es t
def sumY : List Ent → Nat → Int
  | [], _ => 0
  | e :: es, t => (if e.ten = (t : Int) then e.bytes else 0) + sumY es t
theorem sumH_app (a b : List Ent) (t : Nat) : sumH (a ++ b) t = sumH a t + sumH b t := by
  induction a with
  | nil => simp [sumH]
  | cons e es ih => simp only [List.cons_append, sumH, ih]; omega
theorem sumY_app (a b : List Ent) (t : Nat) : sumY (a ++ b) t = sumY a t + sumY b t := by
  induction a with
  | nil => simp [sumY]
  | cons e es ih => simp only [List.cons_append, sumY, ih]; omega
theorem flushEs_seq (m : Mtr) (a : Int) : ∀ k : Nat, (flushEs m a k).1 = m.seq + (flushEs m a k).2.length
  | 0 => by simp [flushEs]
  | k + 1 => by
    have ih := flushEs_seq m a k
    simp only [flushEs]
    split
    · exact ih
    · simp only [List.length_append, List.length_cons, List.length_nil]; omega
theorem flushEs_at (m : Mtr) (a : Int) : ∀ (k i : Nat) (e : Ent), (flushEs m a k).2[i]? = some e → e.node = m.node ∧ e.boot = m.boot ∧ e.seq = m.seq + i + 1 ∧ e.att = a ∧ ∃ t : Nat, t < k ∧ e.ten = (t : Int) ∧ e.hits = m.H t ∧ e.bytes = m.Y t ∧ m.H t ≠ 0
  | 0, i, e, h => by simp [flushEs] at h
  | k + 1, i, e, h => by
    have ih := flushEs_at m a k i e
    have hs := flushEs_seq m a k
    simp only [flushEs] at h
    split at h
    · obtain ⟨h1, h2, h3, h4, t, h5, h6⟩ := ih h
      exact ⟨h1, h2, h3, h4, t, by omega, h6⟩
    · rename_i h0
      simp only at h
      rcases Nat.lt_or_ge i (flushEs m a k).2.length with hlt | hge
      · rw [List.getElem?_append_left hlt] at h
        obtain ⟨h1, h2, h3, h4, t, h5, h6⟩ := ih h
        exact ⟨h1, h2, h3, h4, t, by omega, h6⟩
      · rw [List.getElem?_append_right hge] at h
        have hi : i = (flushEs m a k).2.length := by
          have := (List.getElem?_eq_some_iff.1 h).1
          simp at this
          omega
        rw [hi, Nat.sub_self] at h
        simp at h
        subst h
        exact ⟨rfl, rfl, by simp only []; rw [hs]; omega, rfl, k, by omega, rfl, rfl, rfl, h0⟩
theorem flushEs_sum (m : Mtr) (a : Int) (hz : ∀ t, t < 16 → m.H t = 0 → m.Y t = 0) : ∀ (k : Nat) (t : Nat), k ≤ 16 → sumH (flushEs m a k).2 t = (if t < k then m.H t else 0) ∧ sumY (flushEs m a k).2 t = (if t < k then m.Y t else 0)
  | 0, t, _ => by simp [flushEs, sumH, sumY]
  | k + 1, t, hk => by
    obtain ⟨i1, i2⟩ := flushEs_sum m a hz k t (by omega)
    simp only [flushEs]
    by_cases h0 : m.H k = 0
    · rw [if_pos h0, i1, i2]
      by_cases e : t = k
      · subst e
        simp [h0, hz t (by omega) h0]
      · by_cases h : t < k
        · rw [if_pos h, if_pos h, if_pos (by omega), if_pos (by omega)]; exact ⟨rfl, rfl⟩
        · rw [if_neg h, if_neg h, if_neg (by omega), if_neg (by omega)]; exact ⟨rfl, rfl⟩
    · rw [if_neg h0]
      simp only [sumH_app, sumY_app, i1, i2, sumH, sumY]
      by_cases e : t = k
      · subst e
        simp
      · have e' : ¬ ((k : Int) = (t : Int)) := by omega
        rw [if_neg e', if_neg e']
        by_cases h : t < k
        · rw [if_pos h, if_pos h, if_pos (by omega), if_pos (by omega)]; omega
        · rw [if_neg h, if_neg h, if_neg (by omega), if_neg (by omega)]; omega

def nodeN : List UInt8 := [110, 111, 100, 101, 45, 49]
def GoodE (i : Nat) (e : Ent) : Prop := codeE e = 0 ∧ e.seq = (i : Int) + 1 ∧ e.node = nodeN ∧ e.boot = 0 ∧ 1 ≤ e.hits ∧ 0 ≤ e.bytes ∧ ∃ t : Nat, t < 16 ∧ e.ten = (t : Int)
structure Inv (m : Mtr) (all : List Ent) (h y : Nat → Int) (k : Nat) : Prop where
  node : m.node = nodeN
  boot : m.boot = 0
  seq : m.seq = all.length
  ents : ∀ i e, all[i]? = some e → GoodE i e
  hs : ∀ t, t < 16 → h t = m.H t + sumH all t
  ys : ∀ t, t < 16 → y t = m.Y t + sumY all t
  mb : ∀ t, t < 16 → 0 ≤ m.H t ∧ m.H t ≤ k ∧ 0 ≤ m.Y t ∧ m.Y t ≤ (k : Int) * 1073741824
  mz : ∀ t, t < 16 → m.H t = 0 → m.Y t = 0
  hb : ∀ t, t < 16 → 0 ≤ h t ∧ h t ≤ k ∧ 0 ≤ y t ∧ y t ≤ (k : Int) * 1073741824
theorem Inv.zero : Inv (newM nodeN 0) [] (fun _ => 0) (fun _ => 0) 0 :=
  ⟨rfl, rfl, rfl, fun i e h => by simp at h, fun t _ => by simp [newM, sumH], fun t _ => by simp [newM, sumY], fun t _ => by simp [newM], fun t _ _ => rfl, fun t _ => by simp⟩
theorem Inv.more {m : Mtr} {all : List Ent} {h y : Nat → Int} {k : Nat} (I : Inv m all h y k) : Inv m all h y (k + 1) :=
  ⟨I.node, I.boot, I.seq, I.ents, I.hs, I.ys, fun t ht => by have := I.mb t ht; push_cast; omega, I.mz, fun t ht => by have := I.hb t ht; push_cast; omega⟩
theorem Inv.fit {m : Mtr} {all : List Ent} {h y : Nat → Int} {k : Nat} (I : Inv m all h y k) (hk : k ≤ 100) : Fit m := fun t ht => by
  have := I.mb t ht
  omega
theorem Inv.add {m : Mtr} {all : List Ent} {h y : Nat → Int} {k : Nat} (I : Inv m all h y k) (t : Nat) (x : Int) (ho : addOk m t x) : Inv (addM m t x) all (upd h t (h t + 1)) (upd y t (y t + x)) (k + 1) := by
  obtain ⟨h1, h2, h3, h4, _, _⟩ := ho
  have ht : t < 16 := by omega
  have hpm := I.mb t ht
  have hph := I.hb t ht
  refine ⟨I.node, I.boot, I.seq, I.ents, fun j hj => ?_, fun j hj => ?_, fun j hj => ?_, fun j hj h0 => ?_, fun j hj => ?_⟩
  · have := I.hs j hj
    simp only [addM, upd]
    split
    · subst_vars; omega
    · exact this
  · have := I.ys j hj
    simp only [addM, upd]
    split
    · subst_vars; omega
    · exact this
  · have := I.mb j hj
    simp only [addM, upd]
    push_cast
    split
    · subst_vars; omega
    · omega
  · have := I.mb j hj
    simp only [addM, upd] at h0 ⊢
    split at h0
    · subst_vars; omega
    · rename_i hne; rw [if_neg hne]; exact I.mz j hj h0
  · have := I.hb j hj
    simp only [upd]
    push_cast
    split
    · subst_vars; omega
    · omega
theorem clampT_in (n : Int) : inR (clampT n) := by unfold inR clampT; omega
theorem Inv.flush {m : Mtr} {all : List Ent} {h y : Nat → Int} {k : Nat} (I : Inv m all h y k) (hk : k ≤ 100) (hl : all.length ≤ 1600) (n : Int) :
    Inv (flushM m (clampT n) 16) (all ++ (flushEs m (clampT n) 16).2) h y k := by
  have hseq := flushEs_seq m (clampT n) 16
  have hbd := (flushEs_bd m (clampT n) 16).2.2
  have hsum := fun t => flushEs_sum m (clampT n) I.mz 16 t (Nat.le_refl _)
  refine ⟨I.node, I.boot, ?_, fun i e hi => ?_, fun t ht => ?_, fun t ht => ?_, fun t ht => ?_, fun t ht _ => ?_, I.hb⟩
  · simp only [flushM, hseq, I.seq, List.length_append]; push_cast; rfl
  · rcases Nat.lt_or_ge i all.length with hlt | hge
    · rw [List.getElem?_append_left hlt] at hi
      exact I.ents i e hi
    · rw [List.getElem?_append_right hge] at hi
      obtain ⟨h1, h2, h3, h4, t, ht, h5, h6, h7, h8⟩ := flushEs_at m _ 16 _ e hi
      have hlt2 := (List.getElem?_eq_some_iff.1 hi).1
      have hm := I.mb t ht
      have hq := I.seq
      have hr := clampT_in n
      have hrange : rangeE e := by
        refine ⟨?_, ?_, ?_, ?_, ?_, ?_, ?_, ?_⟩
        · rw [h2, I.boot]; unfold inR; omega
        · unfold inR; rw [h3]; omega
        · unfold inR; rw [h5]; omega
        · unfold inR; rw [h6]; omega
        · unfold inR; rw [h7]; omega
        · rw [h4]; exact hr
        · rw [h3]; omega
        · rw [h5]; omega
      have hnm : namedB e.node = true := by rw [h1, I.node]; decide
      refine ⟨?_, by rw [h3]; omega, by rw [h1, I.node], by rw [h2, I.boot], by rw [h6]; omega, by rw [h7]; omega, t, ht, h5⟩
      unfold codeE
      rw [if_pos hnm, if_pos hrange]
  · have := I.hs t ht
    have hs := (hsum t).1
    rw [if_pos ht] at hs
    rw [sumH_app, hs]
    simp only [flushM]
    rw [if_pos ht]
    omega
  · have := I.ys t ht
    have hs := (hsum t).2
    rw [if_pos ht] at hs
    rw [sumY_app, hs]
    simp only [flushM]
    rw [if_pos ht]
    omega
  · simp only [flushM]
    rw [if_pos ht, if_pos ht]
    omega
  · simp only [flushM]
    rw [if_pos ht]
theorem sum_good : ∀ (es : List Ent) (t : Nat), (∀ e ∈ es, 0 ≤ e.hits ∧ 0 ≤ e.bytes) → 0 ≤ sumH es t ∧ 0 ≤ sumY es t
  | [], _, _ => by simp [sumH, sumY]
  | e :: es, t, h => by
    have ih := sum_good es t fun x hx => h x (by simp [hx])
    have he := h e (by simp)
    simp only [sumH, sumY]
    split <;> omega
theorem drop_more {es : List Ent} {i : Nat} {e : Ent} (h : es[i]? = some e) : es.drop i = e :: es.drop (i + 1) := by
  have hlt := (List.getElem?_eq_some_iff.1 h).1
  rw [List.drop_eq_getElem_cons hlt, (List.getElem?_eq_some_iff.1 h).2]
end Go.Proofs.Ytdkaapkehmjepaa
