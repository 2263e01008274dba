/- WholeBill (f3): what its walk needs: the counts, the meters' making, a count's turns of what lies in memory. No condition. -/
import Derived.Test.YthhooocckfljaaaLastAny
import Derived.Test.YthhooocckfljaaaAwake
import Derived.Test.YthhooocckfljaaaSendSt
import Derived.Test.YthhooocckfljaaaTurns
import Derived.Deep.CutBlock
namespace Go.Proofs.Ythhooocckfljaaa
open Go.RowKit Go.Maps Go.Shelf
set_option linter.unusedVariables false
set_option linter.unusedSimpArgs false

/-- A count. -/
structure Cnt where
  kind : Nat
  node : Nat
  ten : Nat
  byt : Nat
def Cnt.ok (c : Cnt) : Prop := c.kind < 256 ∧ c.node < 256 ∧ c.ten < 256 ∧ c.byt < 65536
def CntAt (w : World) (g o : Nat) (c : Cnt) : Prop :=
  w.cell? ⟨g, o, none⟩ = some (.int .u8 c.kind) ∧ w.cell? ⟨g, o + 1, none⟩ = some (.int .u8 c.node) ∧ w.cell? ⟨g, o + 2, none⟩ = some (.int .u8 c.ten) ∧ w.cell? ⟨g, o + 3, none⟩ = some (.int .u16 c.byt)
/-- The counts that came in. -/
def IsC (w : World) (v : Value) (cs : List Cnt) : Prop :=
  ∃ a cap, v = .slice a cs.length cap ∧ ∀ k c, cs[k]? = some c → ∃ g o, a = some ⟨g, o, none⟩ ∧ CntAt w g (o + k * 4) c
theorem CntAt.bel {B : Nat} {w w' : World} {g o : Nat} {c : Cnt} (h : CntAt w g o c) (hb : Below B w w') (hB : B = w.heap.size) : CntAt w' g o c := by
  subst hB
  obtain ⟨h0, h1, h2, h3⟩ := h
  exact ⟨keep_at hb h0, keep_at hb h1, keep_at hb h2, keep_at hb h3⟩
/-- The meters, made one by one. -/
def Made (ms k : Nat) (W2 W : World) : Prop := ∃ mb : Nat → Nat, Row W ms 27 3 (fun i => if i < k then .pointer (some ⟨mb i, 0, none⟩) else .pointer none) ∧
  (∀ i, i < k → MBlk W (mb i) (newM (nodeN i) 0) ∧ W2.heap.size ≤ mb i) ∧ (∀ i j, i < k → j < k → i ≠ j → mb i ≠ mb j) ∧ Kept [ms] W2 W
/-- What holds ahead of each count. -/
def Turn (w : World) (A : Adr) (now : Nat) (W : World) : Prop := ∃ s ns mb lv, Inv s now ns ∧ ns ≤ now ∧ Pl w.heap.size A W (s.vals mb lv) ∧ Apart w.heap.size A mb lv ∧ Below w.heap.size w W
theorem pairF_zero : pairF (fun _ => 0) (fun _ => 0) = fun _ => .int .i64 0 := by
  funext j; unfold pairF; simp
theorem pendF_zero : pendF (fun _ _ => 0) (fun _ _ => 0) = fun _ => .int .i64 0 := by
  funext j; unfold pendF; simp
theorem Made.next {ms k b : Nat} {W2 W W' : World} (h : Made ms k W2 W) (hk : k < 3) (hb : W.heap.size ≤ b) (hM : MBlk W' b (newM (nodeN k) 0)) (hB : Below W.heap.size W W') (hms : ms < W2.heap.size) :
    Made ms (k + 1) W2 (W'.setCell ⟨ms, k, none⟩ (.pointer (some ⟨b, 0, none⟩))) := by
  obtain ⟨mb, hr, hm, hi, hkp⟩ := h
  have hsz : W2.heap.size ≤ W.heap.size := hkp.size
  refine ⟨updN mb k b, ?_, ?_, ?_, ?_⟩
  · refine ((hr.keep (Kept.of_below (bs := []) hB) (by simp)).set k (.pointer (some ⟨b, 0, none⟩))).congr fun j hj => ?_
    unfold updV updN
    by_cases e : j = k
    · subst e; simp
    · by_cases e2 : j < k
      · simp [e, e2, show j < k + 1 by omega]
      · simp [e, e2, show ¬ j < k + 1 by omega]
  · intro i hi'
    have hset : Kept [ms] W' (W'.setCell ⟨ms, k, none⟩ (.pointer (some ⟨b, 0, none⟩))) := Kept.set (by simp)
    by_cases e : i = k
    · subst e
      rw [updN_same]
      exact ⟨hset.mblk hM (by simp; omega), by omega⟩
    · rw [updN_ne _ _ _ e]
      have := hm i (by omega)
      exact ⟨hset.mblk (this.1.bel hB this.1.lt) (by simp; omega), this.2⟩
  · intro i j hi' hj' hne
    by_cases e : i = k
    · subst e
      rw [updN_same, updN_ne _ _ _ (fun h => hne h.symm)]
      have := (hm j (by omega)).1.lt
      omega
    · by_cases e2 : j = k
      · subst e2
        rw [updN_same, updN_ne _ _ _ e]
        have := (hm i (by omega)).1.lt
        omega
      · rw [updN_ne _ _ _ e, updN_ne _ _ _ e2]
        exact hi i j (by omega) (by omega) hne
  · exact (hkp.trans (Kept.of_below hB)).trans (Kept.set (by simp))
theorem node_code {i : Nat} (hi : i < 3) (bt : Int) (hb : 0 ≤ bt ∧ bt ≤ 1000) : codeE ⟨nodeN i, bt, 1, 0, 0, 0, 0⟩ = 0 :=
  code_mk _ _ _ _ _ _ _ (node_named hi) (by omega) (by omega) (by omega) (by omega) (by omega) (by omega)
theorem Pl.lt {N : Nat} {A : Adr} {W : World} {v : Vals} (h : Pl N A W v) : (∀ c ∈ A.all, c < W.heap.size) ∧ ∀ i, i < 3 → v.mb i < W.heap.size := by
  refine ⟨fun c hc => ?_, fun i hi => (h.met i hi).lt⟩
  have h1 := h.names.lt
  have h2 := h.mtrs.lt
  have h3 := h.boots.lt
  have h4 := h.logs.lt
  have h5 := h.pend.lt
  have h6 := h.serv.lt
  have h7 := h.writ.lt
  have h8 := h.arr.lt
  have h9 := h.sure.lt
  have ha := block_lt_of_cell h.led
  have hb := block_lt_of_cell h.set.1
  have hd := h.set.2.lt
  simp only [Adr.all, List.mem_cons, List.not_mem_nil, or_false] at hc
  rcases hc with rfl | rfl | rfl | rfl | rfl | rfl | rfl | rfl | rfl | rfl | rfl | rfl <;> assumption
theorem pendF_at (H Y : Nat → Nat → Int) (i t : Nat) (ht : t < 3) : pendF H Y (i * 6 + t * 2) = .int .i64 (H i t) ∧ pendF H Y (i * 6 + t * 2 + 1) = .int .i64 (Y i t) := by
  constructor
  · unfold pendF
    rw [if_pos (by omega), show (i * 6 + t * 2) / 6 = i by omega, show (i * 6 + t * 2) % 6 / 2 = t by omega]
  · unfold pendF
    rw [if_neg (by omega), show (i * 6 + t * 2 + 1) / 6 = i by omega, show (i * 6 + t * 2 + 1) % 6 / 2 = t by omega]
theorem pendF_add (H Y : Nat → Nat → Int) (i t : Nat) (ht : t < 3) (x y : Int) (k : Nat) : updV (updV (pendF H Y) (i * 6 + t * 2) (.int .i64 x)) (i * 6 + t * 2 + 1) (.int .i64 y) k =
    pendF (fun j => if j = i then upd (H i) t x else H j) (fun j => if j = i then upd (Y i) t y else Y j) k := by
  by_cases e1 : k = i * 6 + t * 2 + 1
  · subst e1
    rw [(pendF_at _ _ i t ht).2]
    simp [updV, upd]
  · by_cases e0 : k = i * 6 + t * 2
    · subst e0
      rw [(pendF_at _ _ i t ht).1]
      simp [updV, upd]
    · unfold updV
      rw [if_neg e1, if_neg e0]
      unfold pendF
      dsimp only
      by_cases hp : k % 6 % 2 = 0
      · rw [if_pos hp, if_pos hp]
        by_cases hi : k / 6 = i
        · rw [if_pos hi, hi]
          unfold upd
          rw [if_neg (by omega)]
        · rw [if_neg hi]
      · rw [if_neg hp, if_neg hp]
        by_cases hi : k / 6 = i
        · rw [if_pos hi, hi]
          unfold upd
          rw [if_neg (by omega)]
        · rw [if_neg hi]
theorem Inv.fit {s : Sts} {now ns : Nat} (h : Inv s now ns) (hn : now ≤ 60) {i : Nat} (hi : i < 3) : Fit (s.m i) := fun t _ => by have := h.pend i hi t; omega
theorem Inv.addOk {s : Sts} {now ns : Nat} (h : Inv s now ns) (hn : now ≤ 60) {i t : Nat} (hi : i < 3) (ht : t < 3) {y : Nat} (hy : y < 65536) : Go.Proofs.Ythhooocckfljaaa.addOk (s.m i) (t : Int) (y : Int) := by
  have := h.pend i hi t
  unfold Go.Proofs.Ythhooocckfljaaa.addOk
  rw [Int.toNat_natCast]
  omega
def addV0 (s : Sts) (mb : Nat → Nat) (lv : Nat → Value) (i t : Nat) (y : Int) : Vals := { s.vals mb lv with m := updN s.m i (addM (s.m i) t y) }
def addV1 (s : Sts) (mb : Nat → Nat) (lv : Nat → Value) (i t : Nat) (y : Int) : Vals := { addV0 s mb lv i t y with pe := updV (updV (s.vals mb lv).pe (i * 6 + t * 2) (.int .i64 ((s.m i).H t + 1))) (i * 6 + t * 2 + 1) (.int .i64 ((s.m i).Y t + y)) }
def addV2 (s : Sts) (mb : Nat → Nat) (lv : Nat → Value) (i t : Nat) (y : Int) : Vals := { addV1 s mb lv i t y with se := updV (updV (pairF s.sH s.sY) (t * 2) (.int .i64 (s.sH t + 1))) (t * 2 + 1) (.int .i64 (s.sY t + y)) }
/-- The loop over the two pairs that a count turns. -/
def AddI (w : World) (A : Adr) (s : Sts) (mb : Nat → Nat) (lv : Nat → Value) (i t : Nat) (y : Nat) (sl bx : Nat) (j : Nat) (W : World) : Prop :=
  (W.cell? ⟨sl, 0, none⟩ = some (.pointer (some ⟨A.pe, i * 6 + t * 2, none⟩)) ∧ W.cell? ⟨sl, 1, none⟩ = some (.pointer (some ⟨A.se, t * 2, none⟩)) ∧ W.cell? ⟨bx, 3, none⟩ = some (.int .u16 y)) ∧ Below w.heap.size w W ∧
  ((j = 0 ∧ Pl w.heap.size A W (addV0 s mb lv i t y)) ∨ (j = 1 ∧ Pl w.heap.size A W (addV1 s mb lv i t y)) ∨ (j = 2 ∧ Pl w.heap.size A W (addV2 s mb lv i t y)))
theorem bel_setOwn {N : Nat} {w W : World} {b k : Nat} {u : Value} (h : Below N w W) (hb : N ≤ b) (hN : N ≤ W.heap.size) : Below N w (W.setCell ⟨b, k, none⟩ u) :=
  h.trans (Only.set.below hb hN)
theorem add_fin {N : Nat} {A : Adr} {W : World} {s : Sts} {mb : Nat → Nat} {lv : Nat → Value} {i t : Nat} {y : Int} (hi : i < 3) (ht : t < 3) (h : Pl N A W (addV2 s mb lv i t y)) : Pl N A W ((s.add i t y).vals mb lv) := by
  refine h.congr (fun k hk => ?_) (fun k hk => ?_) (fun k hk => ?_) (fun k hk => rfl) (fun k hk => rfl) (fun k hk => rfl) (fun e => Iff.rfl) (fun j hj => rfl) (fun j hj => rfl) (fun j hj => rfl) (fun j hj => rfl)
  · show Value.int .i64 (s.m k).boot = Value.int .i64 ((updN s.m i (addM (s.m i) t y)) k).boot
    by_cases e : k = i
    · subst e; rw [updN_same]; rfl
    · rw [updN_ne _ _ _ e]
  · refine (pendF_add (fun i => (s.m i).H) (fun i => (s.m i).Y) i t ht _ _ k).trans (congrFun ?_ k)
    show _ = pendF (fun j => ((updN s.m i (addM (s.m i) t y)) j).H) (fun j => ((updN s.m i (addM (s.m i) t y)) j).Y)
    congr 1
    · funext j
      by_cases e : j = i
      · subst e; rw [updN_same]; simp [addM]
      · rw [updN_ne _ _ _ e]; simp [e]
    · funext j
      by_cases e : j = i
      · subst e; rw [updN_same]; simp [addM]
      · rw [updN_ne _ _ _ e]; simp [e]
  · show updV (updV (pairF s.sH s.sY) (t * 2) (.int .i64 (s.sH t + 1))) (t * 2 + 1) (.int .i64 (s.sY t + y)) k = pairF (upd s.sH t (s.sH t + 1)) (upd s.sY t (s.sY t + y)) k
    rw [← pairF_set1]
    unfold updV
    split
    · rfl
    · exact pairF_set0 _ _ _ _ _
theorem pendF_zeroed (H Y : Nat → Nat → Int) (i : Nat) (k : Nat) : updV (updV (updV (updV (updV (updV (pendF H Y) (i * 6) (.int .i64 0)) (i * 6 + 1) (.int .i64 0)) (i * 6 + 2) (.int .i64 0)) (i * 6 + 3) (.int .i64 0)) (i * 6 + 4) (.int .i64 0)) (i * 6 + 5) (.int .i64 0) k =
    pendF (fun j t => if j = i then 0 else H j t) (fun j t => if j = i then 0 else Y j t) k := by
  unfold updV
  by_cases hi : k / 6 = i
  · have h6 : k = i * 6 ∨ k = i * 6 + 1 ∨ k = i * 6 + 2 ∨ k = i * 6 + 3 ∨ k = i * 6 + 4 ∨ k = i * 6 + 5 := by omega
    unfold pendF
    dsimp only
    rw [if_pos hi, if_pos hi]
    rcases h6 with h | h | h | h | h | h <;> simp [h]
  · rw [if_neg (by omega), if_neg (by omega), if_neg (by omega), if_neg (by omega), if_neg (by omega), if_neg (by omega)]
    unfold pendF
    dsimp only
    rw [if_neg hi, if_neg hi]
/-- A restart's values. -/
def bootV (s : Sts) (mb : Nat → Nat) (lv : Nat → Value) (i b' : Nat) : Vals :=
  { s.vals mb lv with bo := updV (s.vals mb lv).bo i (.int .i64 ((s.m i).boot + 1)), mb := updN mb i b', m := updN s.m i (newM (nodeN i) ((s.m i).boot + 1)), pe := updV (updV (updV (updV (updV (updV (s.vals mb lv).pe (i * 6) (.int .i64 0)) (i * 6 + 1) (.int .i64 0)) (i * 6 + 2) (.int .i64 0)) (i * 6 + 3) (.int .i64 0)) (i * 6 + 4) (.int .i64 0)) (i * 6 + 5) (.int .i64 0) }
theorem boot_fin {N : Nat} {A : Adr} {W : World} {s : Sts} {mb : Nat → Nat} {lv : Nat → Value} {i b' : Nat} (h : Pl N A W (bootV s mb lv i b')) : Pl N A W ((s.boot i).vals (updN mb i b') lv) := by
  refine h.congr (fun k hk => ?_) (fun k hk => ?_) (fun k hk => rfl) (fun k hk => rfl) (fun k hk => rfl) (fun k hk => rfl) (fun e => Iff.rfl) (fun j hj => rfl) (fun j hj => rfl) (fun j hj => rfl) (fun j hj => rfl)
  · show updV (fun i => .int .i64 (s.m i).boot) i (.int .i64 ((s.m i).boot + 1)) k = .int .i64 ((updN s.m i (newM (nodeN i) ((s.m i).boot + 1))) k).boot
    unfold updV
    by_cases e : k = i
    · subst e; rw [updN_same, if_pos rfl]; rfl
    · rw [updN_ne _ _ _ e, if_neg e]
  · refine (pendF_zeroed (fun i => (s.m i).H) (fun i => (s.m i).Y) i k).trans (congrFun ?_ k)
    show _ = pendF (fun j => ((updN s.m i (newM (nodeN i) ((s.m i).boot + 1))) j).H) (fun j => ((updN s.m i (newM (nodeN i) ((s.m i).boot + 1))) j).Y)
    congr 1
    · funext j t
      by_cases e : j = i
      · subst e; rw [updN_same]; simp [newM]
      · rw [updN_ne _ _ _ e]; simp [e]
    · funext j t
      by_cases e : j = i
      · subst e; rw [updN_same]; simp [newM]
      · rw [updN_ne _ _ _ e]; simp [e]
/-- A fresh meter's block is apart from all. -/
theorem Apart.fresh {N : Nat} {A : Adr} {W : World} {v : Vals} (h : Pl N A W v) (ap : Apart N A v.mb v.lv) {i b' : Nat} (hi : i < 3) (hb : W.heap.size ≤ b') (hN : N ≤ W.heap.size) : Apart N A (updN v.mb i b') v.lv where
  nodup := ap.nodup
  low := ap.low
  mlow := fun j hj => by
    by_cases e : j = i
    · subst e; rw [updN_same]; omega
    · rw [updN_ne _ _ _ e]; exact ap.mlow j hj
  mall := fun j hj => by
    by_cases e : j = i
    · subst e; rw [updN_same]; intro hm; have := h.lt.1 _ hm; omega
    · rw [updN_ne _ _ _ e]; exact ap.mall j hj
  minj := fun j k hj hk hne => by
    by_cases e : j = i
    · subst e
      rw [updN_same, updN_ne _ _ _ (fun e => hne e.symm)]
      have := h.lt.2 k hk
      omega
    · by_cases e2 : k = i
      · subst e2
        rw [updN_same, updN_ne _ _ _ e]
        have := h.lt.2 j hj
        omega
      · rw [updN_ne _ _ _ e, updN_ne _ _ _ e2]
        exact ap.minj j k hj hk hne
  lall := ap.lall
  lmb := fun j k hj hk hg => by
    by_cases e : k = i
    · subst e
      rw [updN_same] at hg
      have := (World.ownsRow.lt (h.own j hj) _ hg).2
      omega
    · rw [updN_ne _ _ _ e] at hg
      exact ap.lmb j k hj hk hg
  linj := ap.linj
theorem bel_own {w W : World} {b k : Nat} {u : Value} (h : Below w.heap.size w W) (hb : w.heap.size ≤ b) : Below w.heap.size w (W.setCell ⟨b, k, none⟩ u) := bel_setOwn h hb h.size
/-! ### The end -/
def tH (s : Sts) (t : Nat) : Nat := (totP (ofT t) Ent.hits s.all).toNat
def tY (s : Sts) (t : Nat) : Nat := (totP (ofT t) Ent.bytes s.all).toNat
theorem Inv.tot_bd {s : Sts} {now ns : Nat} (h : Inv s now ns) (hn : now ≤ 60) (t : Nat) :
    totP (ofT t) Ent.hits s.all = (tH s t : Int) ∧ totP (ofT t) Ent.bytes s.all = (tY s t : Int) ∧ tH s t ≤ 60 ∧ tY s t ≤ 4000000 ∧ (tH s t = 0 → tY s t = 0) ∧ (3 ≤ t → tH s t = 0) := by
  have hz := (h.tot_nonneg t).1
  have e1 : totP (ofT t) Ent.hits s.all = (tH s t : Int) := by unfold tH; omega
  have e2 : totP (ofT t) Ent.bytes s.all = (tY s t : Int) := by unfold tY; omega
  have h0 : totP (ofT t) Ent.hits s.all = 0 → totP (ofT t) Ent.bytes s.all = 0 := totP_zero _ _ fun e he => (h.good he).2.1
  refine ⟨e1, e2, ?_⟩
  by_cases ht : t < 3
  · have h1 := h.srvH t ht
    have h2 := h.srvY t ht
    have h3 := h.pend_nonneg t
    refine ⟨by omega, by omega, fun hh => ?_, by omega⟩
    have := h0 (by omega)
    omega
  · have hf : ∀ e ∈ s.all, ofT t e = false := fun e he => by
      have := (h.good he).2.2.2.1
      simp [ofT]
      omega
    have h4 := totP_none (ofT t) Ent.hits _ hf
    have h5 := totP_none (ofT t) Ent.bytes _ hf
    exact ⟨by omega, by omega, fun _ => by omega, fun _ => by omega⟩
theorem Inv.bill_tot {s : Sts} {now ns : Nat} (h : Inv s now ns) (hn : now ≤ 60) (hs : ∀ i, i < 3 → s.sure i = (s.logs i).length) (es : List Ent) (hA : AllOf s.S es) (t : Nat) :
    totP (inT t 0 1000) Ent.hits es = tH s t ∧ totP (inT t 0 1000) Ent.bytes es = tY s t := by
  have hp := h.full hs hA
  have hb := h.tot_bd hn t
  have hc : ∀ e ∈ s.all, inT t 0 1000 e = ofT t e := fun e he => by
    have := (h.good he).2.2.2.2
    unfold inT ofT
    rw [decide_eq_decide]
    constructor
    · exact fun h => h.1
    · exact fun h => ⟨h, this.1, this.2⟩
  rw [totP_perm _ _ hp, totP_perm _ _ hp, totP_congr _ _ _ _ hc, totP_congr _ _ _ _ hc]
  exact ⟨hb.1, hb.2.1⟩
theorem Inv.tot_es {s : Sts} {now ns : Nat} (h : Inv s now ns) (hn : now ≤ 60) (hs : ∀ i, i < 3 → s.sure i = (s.logs i).length) (es : List Ent) (hA : AllOf s.S es) (t : Nat) :
    totP (ofT t) Ent.hits es = tH s t ∧ totP (ofT t) Ent.bytes es = tY s t := by
  have hp := h.full hs hA
  have hb := h.tot_bd hn t
  rw [totP_perm _ _ hp, totP_perm _ _ hp]
  exact ⟨hb.1, hb.2.1⟩
/-- The last sendings. -/
def SentI (w : World) (A : Adr) (n j : Nat) (W : World) : Prop := ∃ s ns mb lv, Inv s n ns ∧ ns ≤ n + j ∧ Pl w.heap.size A W (s.vals mb lv) ∧ Apart w.heap.size A mb lv ∧ Below w.heap.size w W ∧ ∀ i, i < j → s.sure i = (s.logs i).length
theorem lines16 (H Y : Nat → Nat) (pr hit : Nat) (h : ∀ t, 3 ≤ t → H t = 0) : ∀ k, linesP H Y pr hit (3 + k) = linesP H Y pr hit 3
  | 0 => rfl
  | k + 1 => by
    show linesP H Y pr hit ((3 + k) + 1) = _
    rw [linesP, if_pos (h _ (by omega)), List.append_nil, lines16 H Y pr hit h k]
theorem linesP_pre (H Y : Nat → Nat) (pr hit : Nat) : ∀ (d k : Nat), ∃ r, linesP H Y pr hit (k + d) = linesP H Y pr hit k ++ r
  | 0, k => ⟨[], by simp⟩
  | d + 1, k => by
    obtain ⟨r, hr⟩ := linesP_pre H Y pr hit d k
    refine ⟨r ++ (if H (k + d) = 0 then [] else [⟨k + d, H (k + d), Y (k + d), upP (hit * H (k + d) + pr * Y (k + d)) 1000000⟩]), ?_⟩
    show linesP H Y pr hit ((k + d) + 1) = _
    rw [linesP, hr, List.append_assoc]
theorem line_at (H Y : Nat → Nat) (pr hit : Nat) {t : Nat} (ht : t < 3) (h0 : H t ≠ 0) (h3 : ∀ t, 3 ≤ t → H t = 0) :
    (linesP H Y pr hit 16)[(linesP H Y pr hit t).length]? = some ⟨t, H t, Y t, upP (hit * H t + pr * Y t) 1000000⟩ ∧ linesP H Y pr hit (t + 1) = linesP H Y pr hit t ++ [⟨t, H t, Y t, upP (hit * H t + pr * Y t) 1000000⟩] := by
  have e1 : linesP H Y pr hit (t + 1) = linesP H Y pr hit t ++ [⟨t, H t, Y t, upP (hit * H t + pr * Y t) 1000000⟩] := by rw [linesP, if_neg h0]
  refine ⟨?_, e1⟩
  obtain ⟨r, hr⟩ := linesP_pre H Y pr hit (15 - t) (t + 1)
  rw [show t + 1 + (15 - t) = 16 by omega] at hr
  rw [hr, e1, List.append_assoc, List.getElem?_append_right (Nat.le_refl _), Nat.sub_self]
  rfl
end Go.Proofs.Ythhooocckfljaaa
