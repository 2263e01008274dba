/- WholeBill: what a flush turns of what lies in memory. No condition. -/
import Derived.Test.YthhooocckfljaaaWholeA
namespace Go.Proofs.Ythhooocckfljaaa
open Go.RowKit Go.Maps Go.Shelf
set_option linter.unusedVariables false
set_option linter.unusedSimpArgs false

def wtH (s : Sts) (i j : Nat) : Nat → Int := fun t => if t < j then totP (ofT t) Ent.hits s.all + (s.m i).H t else totP (ofT t) Ent.hits s.all
def wtY (s : Sts) (i j : Nat) : Nat → Int := fun t => if t < j then totP (ofT t) Ent.bytes s.all + (s.m i).Y t else totP (ofT t) Ent.bytes s.all
theorem wt_next (s : Sts) (i j : Nat) (t : Nat) : upd (wtH s i j) j (totP (ofT j) Ent.hits s.all + (s.m i).H j) t = wtH s i (j + 1) t ∧ upd (wtY s i j) j (totP (ofT j) Ent.bytes s.all + (s.m i).Y j) t = wtY s i (j + 1) t := by
  unfold upd wtH wtY
  by_cases e : t = j
  · subst e; simp
  · rw [if_neg e, if_neg e]
    by_cases h : t < j
    · rw [if_pos h, if_pos (by omega), if_pos h, if_pos (by omega)]; exact ⟨rfl, rfl⟩
    · rw [if_neg h, if_neg (by omega), if_neg h, if_neg (by omega)]; exact ⟨rfl, rfl⟩
theorem wt_row (s : Sts) (i j k : Nat) : updV (updV (pairF (wtH s i j) (wtY s i j)) (j * 2) (.int .i64 (totP (ofT j) Ent.hits s.all + (s.m i).H j))) (j * 2 + 1) (.int .i64 (totP (ofT j) Ent.bytes s.all + (s.m i).Y j)) k = pairF (wtH s i (j + 1)) (wtY s i (j + 1)) k := by
  rw [← pairF_congr (fun t => (wt_next s i j t).1) (fun t => (wt_next s i j t).2), ← pairF_set1]
  unfold updV
  split
  · rfl
  · exact pairF_set0 _ _ _ _ _
theorem wt_zero (s : Sts) (i k : Nat) : pairF (fun t => totP (ofT t) Ent.hits s.all) (fun t => totP (ofT t) Ent.bytes s.all) k = pairF (wtH s i 0) (wtY s i 0) k :=
  congrFun (pairF_congr (fun t => by simp [wtH]) (fun t => by simp [wtY])) k
theorem wt_at (s : Sts) (i j : Nat) : wtH s i j j = totP (ofT j) Ent.hits s.all ∧ wtY s i j j = totP (ofT j) Ent.bytes s.all := by
  unfold wtH wtY
  rw [if_neg (Nat.lt_irrefl _), if_neg (Nat.lt_irrefl _)]
  exact ⟨rfl, rfl⟩
def flushV (s : Sts) (mb : Nat → Nat) (lv : Nat → Value) (i : Nat) (v4 : Value) (a : Int) (j : Nat) : Vals :=
  { s.vals mb lv with m := updN s.m i (flushM (s.m i) a 16), lv := updN lv i v4, logs := updN s.logs i (s.logs i ++ (flushEs (s.m i) a 16).2), wr := pairF (wtH s i j) (wtY s i j) }
def flushZ (s : Sts) (mb : Nat → Nat) (lv : Nat → Value) (i : Nat) (v4 : Value) (a : Int) : Vals :=
  { flushV s mb lv i v4 a 3 with pe := updV (updV (updV (updV (updV (updV (s.vals mb lv).pe (i * 6) (.int .i64 0)) (i * 6 + 1) (.int .i64 0)) (i * 6 + 2) (.int .i64 0)) (i * 6 + 3) (.int .i64 0)) (i * 6 + 4) (.int .i64 0)) (i * 6 + 5) (.int .i64 0) }
theorem flush_fin {N : Nat} {A : Adr} {W : World} {s : Sts} {mb : Nat → Nat} {lv : Nat → Value} {i : Nat} {v4 : Value} {a : Int} {now ns : Nat} (hi : i < 3) (hinv : Inv s now ns) (h : Pl N A W (flushZ s mb lv i v4 a)) : Pl N A W ((s.flush i a).vals mb (updN lv i v4)) := by
  have hp := hinv.pend i hi
  refine h.congr (fun k hk => ?_) (fun k hk => ?_) (fun k hk => rfl) (fun k hk => ?_) (fun k hk => ?_) (fun k hk => rfl) (fun e => Iff.rfl) (fun j hj => rfl) (fun j hj => rfl) (fun j hj => rfl) (fun j hj => rfl)
  · show Value.int .i64 (s.m k).boot = .int .i64 ((updN s.m i (flushM (s.m i) a 16)) k).boot
    by_cases e : k = i
    · subst e; rw [updN_same]; rfl
    · rw [updN_ne _ _ _ e]
  · refine (pendF_zeroed (fun i => (s.m i).H) (fun i => (s.m i).Y) i k).trans (congrFun ?_ k)
    show _ = pendF (fun j => ((updN s.m i (flushM (s.m i) a 16)) j).H) (fun j => ((updN s.m i (flushM (s.m i) a 16)) j).Y)
    congr 1
    · funext j t
      by_cases e : j = i
      · subst e
        rw [updN_same, if_pos rfl]
        simp only [flushM]
        by_cases ht : t < 16
        · rw [if_pos ht]
        · rw [if_neg ht, (hp t).2.2.2.2.2 (by omega)]
      · rw [updN_ne _ _ _ e, if_neg e]
    · funext j t
      by_cases e : j = i
      · subst e
        rw [updN_same, if_pos rfl]
        simp only [flushM]
        by_cases ht : t < 16
        · rw [if_pos ht]
        · rw [if_neg ht, (hp t).2.2.2.2.1 ((hp t).2.2.2.2.2 (by omega))]
      · rw [updN_ne _ _ _ e, if_neg e]
  · show pairF (wtH s i 3) (wtY s i 3) k = pairF (fun t => totP (ofT t) Ent.hits (s.flush i a).all) (fun t => totP (ofT t) Ent.bytes (s.flush i a).all) k
    unfold pairF
    dsimp only
    have ht : k / 2 < 3 := by omega
    have h1 := flush_tot (s.m i) a (k / 2) Ent.hits (s.m i).H (fun k q => rfl) (fun h => h) 16
    have h2 := flush_tot (s.m i) a (k / 2) Ent.bytes (s.m i).Y (fun k q => rfl) (fun h0 => (hp (k / 2)).2.2.2.2.1 h0) 16
    rw [Sts.flush_tot s i hi, Sts.flush_tot s i hi, h1, h2]
    simp only [wtH, wtY, if_pos ht, if_pos (show k / 2 < 16 by omega)]
  · show pairF (fun t => totP (ofT t) Ent.hits s.firm) (fun t => totP (ofT t) Ent.bytes s.firm) k = pairF (fun t => totP (ofT t) Ent.hits (s.flush i a).firm) (fun t => totP (ofT t) Ent.bytes (s.flush i a).firm) k
    rw [Sts.flush_firm s i hi a (hinv.sure i hi)]
/-- A log's new row is apart from all. -/
theorem Apart.grown {N : Nat} {A : Adr} {W : World} {v : Vals} (h : Pl N A W v) (ap : Apart N A v.mb v.lv) {i : Nat} {v4 : Value} (hi : i < 3) (hv : v4.ownBlock = (v.lv i).ownBlock ∨ v4.ownBlock = some W.heap.size) : Apart N A v.mb (updN v.lv i v4) where
  nodup := ap.nodup
  low := ap.low
  mlow := ap.mlow
  mall := ap.mall
  minj := ap.minj
  lall := fun j hj g hg => by
    by_cases e : j = i
    · subst e
      rw [updN_same] at hg
      rcases hv with hv | hv
      · exact ap.lall j hj g (by rw [← hv]; exact hg)
      · intro hm
        have := h.lt.1 g hm
        rw [hv] at hg
        cases hg
        omega
    · rw [updN_ne _ _ _ e] at hg; exact ap.lall j hj g hg
  lmb := fun j k hj hk hg => by
    by_cases e : j = i
    · subst e
      rw [updN_same] at hg
      rcases hv with hv | hv
      · exact ap.lmb j k hj hk (by rw [← hv]; exact hg)
      · have := h.lt.2 k hk
        rw [hv] at hg
        have := Option.some.inj hg
        omega
    · rw [updN_ne _ _ _ e] at hg; exact ap.lmb j k hj hk hg
  linj := fun j k hj hk hne g hg hg2 => by
    by_cases e : j = i
    · subst e
      rw [updN_same] at hg
      rw [updN_ne _ _ _ (fun e => hne e.symm)] at hg2
      rcases hv with hv | hv
      · exact ap.linj j k hj hk hne g (by rw [← hv]; exact hg) hg2
      · rw [hv] at hg
        have e1 := Option.some.inj hg
        have := (World.ownsRow.lt (h.own k hk) _ hg2).2
        omega
    · by_cases e2 : k = i
      · subst e2
        rw [updN_same] at hg2
        rw [updN_ne _ _ _ e] at hg
        rcases hv with hv | hv
        · exact ap.linj j k hj hk hne g hg (by rw [← hv]; exact hg2)
        · rw [hv] at hg2
          have e1 := Option.some.inj hg2
          have := (World.ownsRow.lt (h.own j hj) _ hg).2
          omega
      · rw [updN_ne _ _ _ e] at hg
        rw [updN_ne _ _ _ e2] at hg2
        exact ap.linj j k hj hk hne g hg hg2
end Go.Proofs.Ythhooocckfljaaa
