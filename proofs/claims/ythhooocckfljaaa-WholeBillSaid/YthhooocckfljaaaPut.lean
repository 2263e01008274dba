/- merge's New, of, Put, plus. No condition. -/
import Derived.Test.YthhooocckfljaaaList
namespace Go.Proofs.Ythhooocckfljaaa
open Go.RowKit Go.Maps Go.Shelf
set_option linter.unusedVariables false
set_option linter.unusedSimpArgs false

theorem new_set (w : World) : Calls Try.prog 6 #[] w fun e w' => ∃ p b, e = .returned (.pointer (some ⟨p, 0, none⟩)) ∧ w.heap.size ≤ p ∧ w.heap.size ≤ b ∧ p < w'.heap.size ∧ p ≠ b ∧ IsSet w' p b [] ∧ Below w.heap.size w w' := by
  have hm := IsM.made w
  have hn := bel_new w (.map #[] 0)
  have HM := Lib.hid (hm.step (bel_new (w.alloc (.map #[] 0)) (.cells #[.map (some w.heap.size)] 80)) hm.lt)
  have HB := Lib.hid (bel_step hn (bel_new (w.alloc (.map #[] 0)) (.cells #[.map (some w.heap.size)] 80)))
  clear hm hn
  have hmm := @run_makeMap Try.prog
  go_enter Try.func6, Try.ntmps6
  go_wp2_with fail
  go_ret
  exact ⟨_, _, rfl, by simp, Nat.le_refl _, by simp, by simp, ⟨by simp [go_sem], HM.out⟩, HB.out⟩
theorem of_run (e : Ent) (w : World) : Calls Try.prog 27 #[e.val] w fun r w' => r = .returned (idV e) ∧ Below w.heap.size w w' := by
  unfold idV Ent.val
  have hn1 := bel_new w (ebox e)
  have hn2 := bel_step hn1 (bel_new (w.alloc (ebox e)) (.cells #[.string ⟨e.node.toArray⟩, .int .i64 e.boot, .int .i64 e.seq] 97))
  have hg := heap_alloc_new (w.alloc (ebox e)) (.cells #[.string ⟨e.node.toArray⟩, .int .i64 e.boot, .int .i64 e.seq] 97)
  rw [World.size_alloc] at hg
  have HN := Lib.hid hn2
  have HG := Lib.hid hg
  clear hn1 hn2 hg
  unfold ebox at HN HG
  go_enter Try.func27, Try.ntmps27
  go_wp2_with fail
  refine bodyPost_ret (results_cell_row rfl _ _ (w.heap.size + 1) 97 #[.string ⟨e.node.toArray⟩, .int .i64 e.boot, .int .i64 e.seq] (0, 0) _ rfl HG.out Try.underlying97 rfl (by kernel_rfl)) rfl ?_
  exact ⟨rfl, HN.out⟩
theorem plus_run (a b : Int) (ha : 0 ≤ a) (hb : 0 ≤ b) (h : a + b ≤ 4611686018427387904) (w : World) : Calls Try.prog 29 #[.int .i64 a, .int .i64 b] w fun e w' => e = .returned (.int .i64 (a + b)) ∧ w = w' := by
  have h1 : a ≤ 4611686018427387904 - b := by omega
  go_enter Try.func29, Try.ntmps29
  go_wp2_with fail
  go_ret
  exact ⟨by rw [show min a (4611686018427387904 - b) = a by omega]; rfl, rfl⟩

/-- v, ok := m[k], at a step of a region that draws its order. -/
theorem step_look {ops : Array Oper} {o : Oper} {a : Act} {K : Act → World → Prop} {Q : Exit → Act → World → Prop} {E : Prop} {w : World} (hgd : o.guard = none) (m x : Operand)
    (ho : o.op = Op.lookup 78 m x true) (v key r : Value) (hm : a.eval m = v) (hx : a.eval x = key) (hrun : (Instr.lookup 78 v key true).run Try.prog w = .ok r w) (h : K (a.put o.dst r) w) :
    if Region.wanted o (yielded ops a.tmps) = true then Oper.wp Try.prog o a w K Q else E := by
  have hw : Region.wanted o (yielded ops a.tmps) = true := by simp [Region.wanted, hgd]
  rw [if_pos hw]
  unfold Oper.wp
  simp [execOp, ho, hm, hx, hrun, Result.andThen]
  exact h
/-- m[k] = v, at such a step. -/
theorem step_store {ops : Array Oper} {o : Oper} {a : Act} {K : Act → World → Prop} {Q : Exit → Act → World → Prop} {E : Prop} {w : World} (hgd : o.guard = none) (m x u : Operand)
    (ho : o.op = Op.mapUpdate 78 m x u) (b : Nat) (S : List Ent) (e : Ent) (hm : a.eval m = .map (some b)) (hx : a.eval x = idV e) (hu : a.eval u = e.val) (he : codeE e = 0) (hS : ∀ f ∈ S, sameK f e → f = e) (hl : S.length ≤ 1000000)
    (hown : IsM w b S ∨ IsM w b (e :: S)) (h : ∀ w', IsM w' b (e :: S) → w.grownBy w' (some b) → K (a.put o.dst undef) w') :
    if Region.wanted o (yielded ops a.tmps) = true then Oper.wp Try.prog o a w K Q else E := by
  have hw : Region.wanted o (yielded ops a.tmps) = true := by simp [Region.wanted, hgd]
  rw [if_pos hw]
  have hex : ∃ w', (Instr.mapUpdate 78 (.map (some b)) (idV e) e.val).run Try.prog w = .ok () w' ∧ IsM w' b (e :: S) ∧ w.grownBy w' (some b) := by
    rcases hown with hown | hown
    · exact hown.store he (by unfold maxLen; omega) hS
    · obtain ⟨w', h1, h2, h3⟩ := hown.store he (by unfold maxLen; simp; omega) fun f hf hs => by
        rcases List.mem_cons.1 hf with rfl | hf
        · rfl
        · exact hS f hf hs
      exact ⟨w', h1, h2.congr fun f => by simp, h3⟩
  obtain ⟨w', hrun, h1, h2⟩ := hex
  unfold Oper.wp
  simp [execOp, ho, hm, hx, hu, hrun, Result.andThen]
  exact h w' h1 h2
theorem look_any {w : World} {b : Nat} {S : List Ent} {e : Ent} (h : IsM w b S) (he : codeE e = 0) (hS : ∀ f ∈ S, sameK f e → f = e) :
    ∃ (x : Ent) (t : Bool), ((t = true ∧ x = e ∧ e ∈ S) ∨ (t = false ∧ x = ⟨[], 0, 0, 0, 0, 0, 0⟩ ∧ ∀ f ∈ S, ¬ sameK f e)) ∧ ∀ W, IsM W b S → (Instr.lookup 78 (.map (some b)) (idV e) true).run Try.prog W = .ok (.tuple #[x.val, .bool t]) W := by
  by_cases hx : ∃ f ∈ S, sameK f e
  · obtain ⟨f, hf, hs⟩ := hx
    obtain rfl := hS f hf hs
    refine ⟨f, true, .inl ⟨rfl, rfl, hf⟩, fun W hW => ?_⟩
    rcases hW.look he with ⟨g, hg, hgs, hr⟩ | ⟨hn, _⟩
    · rw [hr, hS g hg hgs]
    · exact absurd hs (hn f hf)
  · refine ⟨⟨[], 0, 0, 0, 0, 0, 0⟩, false, .inr ⟨rfl, rfl, fun f hf hs => hx ⟨f, hf, hs⟩⟩, fun W hW => ?_⟩
    rcases hW.look he with ⟨g, hg, hgs, hr⟩ | ⟨_, hr⟩
    · exact absurd ⟨g, hg, hgs⟩ hx
    · exact hr
theorem IsM.set {w : World} {b g k : Nat} {u : Value} {S : List Ent} (h : IsM w b S) (hn : b ≠ g) : IsM (w.setCell ⟨g, k, none⟩ u) b S := by
  obtain ⟨D, n, ⟨es, clock, hm, F, hs, hD⟩, hc⟩ := h
  exact ⟨D, n, ⟨es, clock, (Below.heap_setCell w ⟨g, k, none⟩ u b hn).trans hm, F, hs, hD⟩, hc⟩
/-- A new zero entry's cells, on. -/
theorem zbox_on {W W' : World} (n : Nat) (hn : n = W.heap.size) (hb : Below (W.alloc (.cells #[.string ⟨#[]⟩, .int .i64 0, .int .i64 0, .int .i64 0, .int .i64 0, .int .i64 0, .int .i64 0] 46)).drew.heap.size (W.alloc (.cells #[.string ⟨#[]⟩, .int .i64 0, .int .i64 0, .int .i64 0, .int .i64 0, .int .i64 0, .int .i64 0] 46)).drew W') :
    (W'.cell? ⟨n, 0, none⟩ = some (.string ⟨#[]⟩) ∧ W'.cell? ⟨n, 1, none⟩ = some (.int .i64 0) ∧ W'.cell? ⟨n, 2, none⟩ = some (.int .i64 0) ∧ W'.cell? ⟨n, 3, none⟩ = some (.int .i64 0) ∧ W'.cell? ⟨n, 4, none⟩ = some (.int .i64 0) ∧ W'.cell? ⟨n, 5, none⟩ = some (.int .i64 0) ∧ W'.cell? ⟨n, 6, none⟩ = some (.int .i64 0)) ∧
    (W'.frozen? ⟨n, 0, none⟩ = false ∧ W'.frozen? ⟨n, 1, none⟩ = false ∧ W'.frozen? ⟨n, 2, none⟩ = false ∧ W'.frozen? ⟨n, 3, none⟩ = false ∧ W'.frozen? ⟨n, 4, none⟩ = false ∧ W'.frozen? ⟨n, 5, none⟩ = false ∧ W'.frozen? ⟨n, 6, none⟩ = false) := by
  subst hn
  have h : W'.heap[W.heap.size]? = some (.cells #[.string ⟨#[]⟩, .int .i64 0, .int .i64 0, .int .i64 0, .int .i64 0, .int .i64 0, .int .i64 0] 46 (0, 0)) := (hb.block W.heap.size (by show W.heap.size < (W.alloc _).heap.size; simp)).trans (heap_alloc_new W _)
  simp [World.cell?, World.frozen?, h]
theorem grown_many (b : Nat) : ∀ (vs : List Value) (o : Nat) (w : World), w.grownBy (w.setCells b o vs) (some b)
  | [], _, w => World.grownBy.refl w _
  | v :: vs, o, w => (Only.set (b := b) (k := o) (u := v) : Only b w _).trans (grown_many b vs (o + 1) (w.setCell ⟨b, o, none⟩ v))
def zE : Obj := .cells #[.string ⟨#[]⟩, .int .i64 0, .int .i64 0, .int .i64 0, .int .i64 0, .int .i64 0, .int .i64 0] 46 (0, 0)
/-- A new zero entry's block takes an entry. -/
theorem stbox_world {w : World} {n : Nat} (e : Ent) (hb : w.heap[n]? = some zE) : w.grownBy (w.setCells n 0 (ecells e)) (some n) ∧ EntAt (w.setCells n 0 (ecells e)) n 0 e := by
  have ht : w.there n 0 7 := fun j hj => by
    unfold zE at hb
    refine ⟨?_, by simp [World.frozen?, hb]⟩
    match j, hj with
    | 0, _ | 1, _ | 2, _ | 3, _ | 4, _ | 5, _ | 6, _ => simp [World.cell?, hb]
  have hr := World.rangeAt_setCells_same w n 0 (ecells e) ht
  simp only [World.rangeAt] at hr
  exact ⟨grown_many n _ 0 w, hr 0 _ rfl, hr 1 _ rfl, hr 2 _ rfl, hr 3 _ rfl, hr 4 _ rfl, hr 5 _ rfl, hr 6 _ rfl⟩
set_option maxRecDepth 100000 in
set_option maxHeartbeats 4000000 in
theorem put_run (p b : Nat) (S : List Ent) (e : Ent) (w : World) (h : IsSet w p b S) (he : codeE e = 0) (hS : ∀ f ∈ S, sameK f e → f = e) (hl : S.length ≤ 1000000) :
    Calls Try.prog 10 #[.pointer (some ⟨p, 0, none⟩), e.val] w fun r w' => ∃ t : Bool, r = .returned (.tuple #[.bool t, .nilIface]) ∧ IsM w' b (e :: S) ∧ w.grownBy w' (some b) ∧ ((∀ f ∈ S, ¬ sameK f e) → t = true) := by
  obtain ⟨hp, hm⟩ := h
  have hfit := fit_ok he
  have HC := Lib.hid (fun W => check_any e W hfit.1 hfit.2)
  obtain ⟨x, t, hxt, hlk⟩ := look_any hm he hS
  rw [he] at HC
  simp only [errV, if_true] at HC
  have HO := Lib.hid (fun W => of_run e W)
  have HLK := Lib.hid hlk
  have HE := Lib.hid he
  have HS := Lib.hid hS
  have hn1 := bel_new w (ebox e)
  have hbx := EntAt.box w e
  have HM1 := Lib.hid (hm.at_ hn1)
  have HB1 := Lib.hid hn1
  have hp1 := keep_at hn1 hp
  have hz1 : w.heap.size < (w.alloc (ebox e)).heap.size := by simp
  have hpl : p < w.heap.size := block_lt_of_cell hp
  have hbl := hm.lt
  have hpb : p ≠ b := fun e1 => by
    obtain ⟨D, n, ⟨es, clock, hb, _⟩, _⟩ := hm
    subst e1
    simp [World.cell?, hb] at hp
  clear hfit hlk he hS hm hp hn1
  unfold ebox at *
  unfold Ent.val idV at *
  go_enter Try.func10, Try.ntmps10
  go_upto_region 3 with fail
  generalize w.alloc (.cells #[.string ⟨e.node.toArray⟩, .int .i64 e.boot, .int .i64 e.seq, .int .i64 e.ten, .int .i64 e.hits, .int .i64 e.bytes, .int .i64 e.att] 46) = W1 at *
  obtain ⟨c0, c1, c2, c3, c4, c5, c6⟩ := hbx
  simp only [Nat.zero_add] at c0 c1 c2 c3 c4 c5 c6
  go_upto_region 6 with (go_at_call 17; refine (HC.out _).mono ?_; rintro r W2 ⟨rfl, hb2⟩)
  have HM2 := Lib.hid (HM1.out.at_ hb2)
  have HB2 := Lib.hid (bel_step HB1.out hb2)
  have hp2 := keep_at hb2 hp1
  have d0 := keep_at hb2 c0
  have d1 := keep_at hb2 c1
  have d2 := keep_at hb2 c2
  have d3 := keep_at hb2 c3
  have d4 := keep_at hb2 c4
  have d5 := keep_at hb2 c5
  have d6 := keep_at hb2 c6
  have hz2 : w.heap.size < W2.heap.size := Nat.lt_of_lt_of_le hz1 hb2.size
  have hpz : p < W2.heap.size := Nat.lt_trans hpl hz2
  have hbz : b < W2.heap.size := Nat.lt_trans hbl hz2
  clear hp1 c0 c1 c2 c3 c4 c5 c6 HM1 HB1 hz1 hb2 HC
  go_region_held3 (fun w' => w'.cell? ⟨p, 0, none⟩ = some (.map (some b)) ∧ w'.cell? ⟨w.heap.size, 0, none⟩ = some (.string ⟨e.node.toArray⟩) ∧ w'.cell? ⟨w.heap.size, 1, none⟩ = some (.int .i64 e.boot) ∧ w'.cell? ⟨w.heap.size, 2, none⟩ = some (.int .i64 e.seq) ∧ w'.cell? ⟨w.heap.size, 3, none⟩ = some (.int .i64 e.ten) ∧ w'.cell? ⟨w.heap.size, 4, none⟩ = some (.int .i64 e.hits) ∧ w'.cell? ⟨w.heap.size, 5, none⟩ = some (.int .i64 e.bytes) ∧ w'.cell? ⟨w.heap.size, 6, none⟩ = some (.int .i64 e.att) ∧ IsM w' b S)
    ((go_split_ands; refine ⟨?_, ?_, ?_, ?_, ?_, ?_, ?_, ?_, ?_⟩ <;> (repeat (with_reducible (first | assumption | exact HM2.out | refine keep_set (Nat.ne_of_lt hz2) ?_ | refine keep_set (Nat.ne_of_lt hpz) ?_ | refine IsM.set ?_ (Nat.ne_of_lt hbz) | refine keep_drew ?_ | refine keep_alloc ?_ | refine keep_at hb3 ?_ | refine IsM.drew ?_ | refine IsM.at_ ?_ hb3 | refine IsM.at_ ?_ (bel_new _ _))))))
    (first
      | (go_at_call 27; refine (HO.out _).mono ?_; rintro r W3 ⟨rfl, hb3⟩; (with_reducible have zz := zbox_on W2.heap.size rfl hb3); have hm3 : IsM W3 b S := (IsM.drew (HM2.out.at_ (bel_new _ _))).at_ hb3; have hlk3 := HLK.out W3 hm3; obtain ⟨⟨z0, z1, z2, z3, z4, z5, z6⟩, f0, f1, f2, f3, f4, f5, f6⟩ := zz)
      | (go_at_call 27; refine (HO.out _).mono ?_; rintro r W3 ⟨rfl, hb3⟩; have hm3 : IsM W3 b S := (IsM.drew HM2.out).at_ hb3; have hlk3 := HLK.out W3 hm3; have hlk4 := HLK.out _ (hm3.at_ (bel_new W3 (.cells #[.string ⟨#[]⟩, .int .i64 0, .int .i64 0, .int .i64 0, .int .i64 0, .int .i64 0, .int .i64 0] 46))))
      | fail)
  · have HB4 := Lib.hid (show Below w.heap.size w (W3.alloc (.cells #[.string ⟨x.node.toArray⟩, .int .i64 x.boot, .int .i64 x.seq, .int .i64 x.ten, .int .i64 x.hits, .int .i64 x.bytes, .int .i64 x.att] 46)) from bel_alloc (bel_step (bel_drew HB2.out) hb3))
    have HM4 := Lib.hid (hm3.at_ (bel_new W3 (.cells #[.string ⟨x.node.toArray⟩, .int .i64 x.boot, .int .i64 x.seq, .int .i64 x.ten, .int .i64 x.hits, .int .i64 x.bytes, .int .i64 x.att] 46)))
    obtain ⟨q0, q1, q2, q3, q4, q5, q6⟩ := EntAt.box W3 x
    simp only [Nat.zero_add] at q0 q1 q2 q3 q4 q5 q6
    have k0 := keep_alloc (x := .cells #[.string ⟨x.node.toArray⟩, .int .i64 x.boot, .int .i64 x.seq, .int .i64 x.ten, .int .i64 x.hits, .int .i64 x.bytes, .int .i64 x.att] 46) (keep_at hb3 (keep_drew d0))
    have k1 := keep_alloc (x := .cells #[.string ⟨x.node.toArray⟩, .int .i64 x.boot, .int .i64 x.seq, .int .i64 x.ten, .int .i64 x.hits, .int .i64 x.bytes, .int .i64 x.att] 46) (keep_at hb3 (keep_drew d1))
    have k2 := keep_alloc (x := .cells #[.string ⟨x.node.toArray⟩, .int .i64 x.boot, .int .i64 x.seq, .int .i64 x.ten, .int .i64 x.hits, .int .i64 x.bytes, .int .i64 x.att] 46) (keep_at hb3 (keep_drew d2))
    have k3 := keep_alloc (x := .cells #[.string ⟨x.node.toArray⟩, .int .i64 x.boot, .int .i64 x.seq, .int .i64 x.ten, .int .i64 x.hits, .int .i64 x.bytes, .int .i64 x.att] 46) (keep_at hb3 (keep_drew d3))
    have k4 := keep_alloc (x := .cells #[.string ⟨x.node.toArray⟩, .int .i64 x.boot, .int .i64 x.seq, .int .i64 x.ten, .int .i64 x.hits, .int .i64 x.bytes, .int .i64 x.att] 46) (keep_at hb3 (keep_drew d4))
    have k5 := keep_alloc (x := .cells #[.string ⟨x.node.toArray⟩, .int .i64 x.boot, .int .i64 x.seq, .int .i64 x.ten, .int .i64 x.hits, .int .i64 x.bytes, .int .i64 x.att] 46) (keep_at hb3 (keep_drew d5))
    have k6 := keep_alloc (x := .cells #[.string ⟨x.node.toArray⟩, .int .i64 x.boot, .int .i64 x.seq, .int .i64 x.ten, .int .i64 x.hits, .int .i64 x.bytes, .int .i64 x.att] 46) (keep_at hb3 (keep_drew d6))
    have kp := keep_alloc (x := .cells #[.string ⟨x.node.toArray⟩, .int .i64 x.boot, .int .i64 x.seq, .int .i64 x.ten, .int .i64 x.hits, .int .i64 x.bytes, .int .i64 x.att] 46) (keep_at hb3 (keep_drew hp2))
    generalize W3.alloc (.cells #[.string ⟨x.node.toArray⟩, .int .i64 x.boot, .int .i64 x.seq, .int .i64 x.ten, .int .i64 x.hits, .int .i64 x.bytes, .int .i64 x.att] 46) = W4 at *
    clear d0 d1 d2 d3 d4 d5 d6 hp2 HM2 HB2 hb3 hm3 hlk3 hlk4 HLK
    have hpn : some p ≠ some b := by simpa using hpb
    have hwn : some w.heap.size ≠ some b := by simp; omega
    have hst := fun W (hW : IsM W b S) => hW.store HE.out (by unfold maxLen; omega) HS.out
    have HST := Lib.hid hst
    clear hst
    unfold idV Ent.val at HST
    rcases hxt with ⟨rfl, rfl, hmem⟩ | ⟨rfl, rfl, hno⟩
    · go_upto_region 9 with fail
      go_region_held3 (fun w' => w'.cell? ⟨p, 0, none⟩ = some (.map (some b)) ∧ w'.cell? ⟨w.heap.size, 0, none⟩ = some (.string ⟨x.node.toArray⟩) ∧ w'.cell? ⟨w.heap.size, 1, none⟩ = some (.int .i64 x.boot) ∧ w'.cell? ⟨w.heap.size, 2, none⟩ = some (.int .i64 x.seq) ∧ w'.cell? ⟨w.heap.size, 3, none⟩ = some (.int .i64 x.ten) ∧ w'.cell? ⟨w.heap.size, 4, none⟩ = some (.int .i64 x.hits) ∧ w'.cell? ⟨w.heap.size, 5, none⟩ = some (.int .i64 x.bytes) ∧ w'.cell? ⟨w.heap.size, 6, none⟩ = some (.int .i64 x.att))
        ((go_split_ands; refine ⟨?_, ?_, ?_, ?_, ?_, ?_, ?_, ?_⟩ <;> (repeat (with_reducible (first | assumption | refine keep_grown hg6 hpn ?_ | refine keep_grown hg6 hwn ?_ | refine keep_drew ?_ | refine keep_at hb5 ?_)))))
        (first
          | (go_at_call 27; refine (HO.out _).mono ?_; rintro r W5 ⟨rfl, hb5⟩; obtain ⟨W6, hrun6, hm6, hg6⟩ := HST.out W5 ((IsM.drew HM4.out).at_ hb5))
          | fail)
      have hgr : w.grownBy W6 (some b) := by
        have h5 : Below w.heap.size w W5 := bel_step (bel_drew HB4.out) hb5
        exact World.grownBy.andThen (row := some b) ⟨h5.os, h5.tape, h5.output, h5.size, fun k hk _ => h5.block k hk⟩ hg6 (fun j hj => .inr hj)
      have HGR := Lib.hid hgr
      have HM6 := Lib.hid hm6
      clear hgr hm6
      go_wp2_with fail
      go_ret2
      exact ⟨false, rfl, HM6.out, HGR.out, fun h => absurd ⟨rfl, rfl, rfl⟩ (h x hmem)⟩
    · go_upto_region 9 with fail
      go_region_held3 (fun w' => w'.cell? ⟨p, 0, none⟩ = some (.map (some b)) ∧ w'.cell? ⟨w.heap.size, 0, none⟩ = some (.string ⟨e.node.toArray⟩) ∧ w'.cell? ⟨w.heap.size, 1, none⟩ = some (.int .i64 e.boot) ∧ w'.cell? ⟨w.heap.size, 2, none⟩ = some (.int .i64 e.seq) ∧ w'.cell? ⟨w.heap.size, 3, none⟩ = some (.int .i64 e.ten) ∧ w'.cell? ⟨w.heap.size, 4, none⟩ = some (.int .i64 e.hits) ∧ w'.cell? ⟨w.heap.size, 5, none⟩ = some (.int .i64 e.bytes) ∧ w'.cell? ⟨w.heap.size, 6, none⟩ = some (.int .i64 e.att))
        ((go_split_ands; refine ⟨?_, ?_, ?_, ?_, ?_, ?_, ?_, ?_⟩ <;> (repeat (with_reducible (first | assumption | refine keep_grown hg6 hpn ?_ | refine keep_grown hg6 hwn ?_ | refine keep_drew ?_ | refine keep_at hb5 ?_)))))
        (first
          | (go_at_call 27; refine (HO.out _).mono ?_; rintro r W5 ⟨rfl, hb5⟩; obtain ⟨W6, hrun6, hm6, hg6⟩ := HST.out W5 ((IsM.drew HM4.out).at_ hb5))
          | fail)
      have hgr : w.grownBy W6 (some b) := by
        have h5 : Below w.heap.size w W5 := bel_step (bel_drew HB4.out) hb5
        exact World.grownBy.andThen (row := some b) ⟨h5.os, h5.tape, h5.output, h5.size, fun k hk _ => h5.block k hk⟩ hg6 (fun j hj => .inr hj)
      have HGR := Lib.hid hgr
      have HM6 := Lib.hid hm6
      clear hgr hm6
      go_wp2_with fail
      go_ret2
      exact ⟨true, rfl, HM6.out, HGR.out, fun _ => rfl⟩
  · have HB4 := Lib.hid (show Below w.heap.size w (W3.alloc (.cells #[.string ⟨x.node.toArray⟩, .int .i64 x.boot, .int .i64 x.seq, .int .i64 x.ten, .int .i64 x.hits, .int .i64 x.bytes, .int .i64 x.att] 46)) from bel_alloc (bel_step (bel_drew HB2.out) hb3))
    have HM4 := Lib.hid (hm3.at_ (bel_new W3 (.cells #[.string ⟨x.node.toArray⟩, .int .i64 x.boot, .int .i64 x.seq, .int .i64 x.ten, .int .i64 x.hits, .int .i64 x.bytes, .int .i64 x.att] 46)))
    obtain ⟨q0, q1, q2, q3, q4, q5, q6⟩ := EntAt.box W3 x
    simp only [Nat.zero_add] at q0 q1 q2 q3 q4 q5 q6
    have k0 := keep_alloc (x := .cells #[.string ⟨x.node.toArray⟩, .int .i64 x.boot, .int .i64 x.seq, .int .i64 x.ten, .int .i64 x.hits, .int .i64 x.bytes, .int .i64 x.att] 46) (keep_at hb3 (keep_drew d0))
    have k1 := keep_alloc (x := .cells #[.string ⟨x.node.toArray⟩, .int .i64 x.boot, .int .i64 x.seq, .int .i64 x.ten, .int .i64 x.hits, .int .i64 x.bytes, .int .i64 x.att] 46) (keep_at hb3 (keep_drew d1))
    have k2 := keep_alloc (x := .cells #[.string ⟨x.node.toArray⟩, .int .i64 x.boot, .int .i64 x.seq, .int .i64 x.ten, .int .i64 x.hits, .int .i64 x.bytes, .int .i64 x.att] 46) (keep_at hb3 (keep_drew d2))
    have k3 := keep_alloc (x := .cells #[.string ⟨x.node.toArray⟩, .int .i64 x.boot, .int .i64 x.seq, .int .i64 x.ten, .int .i64 x.hits, .int .i64 x.bytes, .int .i64 x.att] 46) (keep_at hb3 (keep_drew d3))
    have k4 := keep_alloc (x := .cells #[.string ⟨x.node.toArray⟩, .int .i64 x.boot, .int .i64 x.seq, .int .i64 x.ten, .int .i64 x.hits, .int .i64 x.bytes, .int .i64 x.att] 46) (keep_at hb3 (keep_drew d4))
    have k5 := keep_alloc (x := .cells #[.string ⟨x.node.toArray⟩, .int .i64 x.boot, .int .i64 x.seq, .int .i64 x.ten, .int .i64 x.hits, .int .i64 x.bytes, .int .i64 x.att] 46) (keep_at hb3 (keep_drew d5))
    have k6 := keep_alloc (x := .cells #[.string ⟨x.node.toArray⟩, .int .i64 x.boot, .int .i64 x.seq, .int .i64 x.ten, .int .i64 x.hits, .int .i64 x.bytes, .int .i64 x.att] 46) (keep_at hb3 (keep_drew d6))
    have kp := keep_alloc (x := .cells #[.string ⟨x.node.toArray⟩, .int .i64 x.boot, .int .i64 x.seq, .int .i64 x.ten, .int .i64 x.hits, .int .i64 x.bytes, .int .i64 x.att] 46) (keep_at hb3 (keep_drew hp2))
    generalize W3.alloc (.cells #[.string ⟨x.node.toArray⟩, .int .i64 x.boot, .int .i64 x.seq, .int .i64 x.ten, .int .i64 x.hits, .int .i64 x.bytes, .int .i64 x.att] 46) = W4 at *
    clear d0 d1 d2 d3 d4 d5 d6 hp2 HM2 HB2 hb3 hm3 hlk3 hlk4 HLK
    have hpn : some p ≠ some b := by simpa using hpb
    have hwn : some w.heap.size ≠ some b := by simp; omega
    have hst := fun W (hW : IsM W b S) => hW.store HE.out (by unfold maxLen; omega) HS.out
    have HST := Lib.hid hst
    clear hst
    unfold idV Ent.val at HST
    rcases hxt with ⟨rfl, rfl, hmem⟩ | ⟨rfl, rfl, hno⟩
    · go_upto_region 9 with fail
      go_region_held3 (fun w' => w'.cell? ⟨p, 0, none⟩ = some (.map (some b)) ∧ w'.cell? ⟨w.heap.size, 0, none⟩ = some (.string ⟨x.node.toArray⟩) ∧ w'.cell? ⟨w.heap.size, 1, none⟩ = some (.int .i64 x.boot) ∧ w'.cell? ⟨w.heap.size, 2, none⟩ = some (.int .i64 x.seq) ∧ w'.cell? ⟨w.heap.size, 3, none⟩ = some (.int .i64 x.ten) ∧ w'.cell? ⟨w.heap.size, 4, none⟩ = some (.int .i64 x.hits) ∧ w'.cell? ⟨w.heap.size, 5, none⟩ = some (.int .i64 x.bytes) ∧ w'.cell? ⟨w.heap.size, 6, none⟩ = some (.int .i64 x.att))
        ((go_split_ands; refine ⟨?_, ?_, ?_, ?_, ?_, ?_, ?_, ?_⟩ <;> (repeat (with_reducible (first | assumption | refine keep_grown hg6 hpn ?_ | refine keep_grown hg6 hwn ?_ | refine keep_drew ?_ | refine keep_at hb5 ?_)))))
        (first
          | (go_at_call 27; refine (HO.out _).mono ?_; rintro r W5 ⟨rfl, hb5⟩; obtain ⟨W6, hrun6, hm6, hg6⟩ := HST.out W5 ((IsM.drew HM4.out).at_ hb5))
          | fail)
      have hgr : w.grownBy W6 (some b) := by
        have h5 : Below w.heap.size w W5 := bel_step (bel_drew HB4.out) hb5
        exact World.grownBy.andThen (row := some b) ⟨h5.os, h5.tape, h5.output, h5.size, fun k hk _ => h5.block k hk⟩ hg6 (fun j hj => .inr hj)
      have HGR := Lib.hid hgr
      have HM6 := Lib.hid hm6
      clear hgr hm6
      go_wp2_with fail
      go_ret2
      exact ⟨false, rfl, HM6.out, HGR.out, fun h => absurd ⟨rfl, rfl, rfl⟩ (h x hmem)⟩
    · go_upto_region 9 with fail
      go_region_held3 (fun w' => w'.cell? ⟨p, 0, none⟩ = some (.map (some b)) ∧ w'.cell? ⟨w.heap.size, 0, none⟩ = some (.string ⟨e.node.toArray⟩) ∧ w'.cell? ⟨w.heap.size, 1, none⟩ = some (.int .i64 e.boot) ∧ w'.cell? ⟨w.heap.size, 2, none⟩ = some (.int .i64 e.seq) ∧ w'.cell? ⟨w.heap.size, 3, none⟩ = some (.int .i64 e.ten) ∧ w'.cell? ⟨w.heap.size, 4, none⟩ = some (.int .i64 e.hits) ∧ w'.cell? ⟨w.heap.size, 5, none⟩ = some (.int .i64 e.bytes) ∧ w'.cell? ⟨w.heap.size, 6, none⟩ = some (.int .i64 e.att))
        ((go_split_ands; refine ⟨?_, ?_, ?_, ?_, ?_, ?_, ?_, ?_⟩ <;> (repeat (with_reducible (first | assumption | refine keep_grown hg6 hpn ?_ | refine keep_grown hg6 hwn ?_ | refine keep_drew ?_ | refine keep_at hb5 ?_)))))
        (first
          | (go_at_call 27; refine (HO.out _).mono ?_; rintro r W5 ⟨rfl, hb5⟩; obtain ⟨W6, hrun6, hm6, hg6⟩ := HST.out W5 ((IsM.drew HM4.out).at_ hb5))
          | fail)
      have hgr : w.grownBy W6 (some b) := by
        have h5 : Below w.heap.size w W5 := bel_step (bel_drew HB4.out) hb5
        exact World.grownBy.andThen (row := some b) ⟨h5.os, h5.tape, h5.output, h5.size, fun k hk _ => h5.block k hk⟩ hg6 (fun j hj => .inr hj)
      have HGR := Lib.hid hgr
      have HM6 := Lib.hid hm6
      clear hgr hm6
      go_wp2_with fail
      go_ret2
      exact ⟨true, rfl, HM6.out, HGR.out, fun _ => rfl⟩
  · have hzb : W3.heap[W2.heap.size]? = some zE := (hb3.block W2.heap.size (by show W2.heap.size < (W2.alloc _).heap.size; simp)).trans (heap_alloc_new W2 _)
    obtain ⟨hg4, hq⟩ := stbox_world x hzb
    have hch : W3.setCells W2.heap.size 0 (ecells x) = (((((((W3.setCell ⟨W2.heap.size, 0, none⟩ (.string ⟨x.node.toArray⟩)).setCell ⟨W2.heap.size, 1, none⟩ (.int .i64 x.boot)).setCell ⟨W2.heap.size, 2, none⟩ (.int .i64 x.seq)).setCell ⟨W2.heap.size, 3, none⟩ (.int .i64 x.ten)).setCell ⟨W2.heap.size, 4, none⟩ (.int .i64 x.hits)).setCell ⟨W2.heap.size, 5, none⟩ (.int .i64 x.bytes)).setCell ⟨W2.heap.size, 6, none⟩ (.int .i64 x.att)) := rfl
    rw [hch] at hg4 hq
    have hb3' : Below w.heap.size w W3 := bel_step (bel_drew (bel_alloc HB2.out)) hb3
    have HB4 := Lib.hid (hb3'.grown hg4 hb3'.size (fun k hk => by cases hk; exact Nat.le_of_lt hz2))
    have HM4 := Lib.hid (hm3.kept hg4 (by simp; omega))
    obtain ⟨q0, q1, q2, q3, q4, q5, q6⟩ := hq
    simp only [Nat.zero_add] at q0 q1 q2 q3 q4 q5 q6
    have hwn4 : some w.heap.size ≠ some W2.heap.size := by simp; omega
    have k0 := keep_grown hg4 hwn4 (keep_at hb3 (keep_drew (keep_alloc d0)))
    have k1 := keep_grown hg4 hwn4 (keep_at hb3 (keep_drew (keep_alloc d1)))
    have k2 := keep_grown hg4 hwn4 (keep_at hb3 (keep_drew (keep_alloc d2)))
    have k3 := keep_grown hg4 hwn4 (keep_at hb3 (keep_drew (keep_alloc d3)))
    have k4 := keep_grown hg4 hwn4 (keep_at hb3 (keep_drew (keep_alloc d4)))
    have k5 := keep_grown hg4 hwn4 (keep_at hb3 (keep_drew (keep_alloc d5)))
    have k6 := keep_grown hg4 hwn4 (keep_at hb3 (keep_drew (keep_alloc d6)))
    have kp := keep_grown hg4 (show some p ≠ some W2.heap.size by simp; omega) (keep_at hb3 (keep_drew (keep_alloc hp2)))
    clear z0 z1 z2 z3 z4 z5 z6 f0 f1 f2 f3 f4 f5 f6 hch hzb hb3' hwn4
    generalize (((((((W3.setCell ⟨W2.heap.size, 0, none⟩ (.string ⟨x.node.toArray⟩)).setCell ⟨W2.heap.size, 1, none⟩ (.int .i64 x.boot)).setCell ⟨W2.heap.size, 2, none⟩ (.int .i64 x.seq)).setCell ⟨W2.heap.size, 3, none⟩ (.int .i64 x.ten)).setCell ⟨W2.heap.size, 4, none⟩ (.int .i64 x.hits)).setCell ⟨W2.heap.size, 5, none⟩ (.int .i64 x.bytes)).setCell ⟨W2.heap.size, 6, none⟩ (.int .i64 x.att)) = W4 at *
    clear hg4
    clear d0 d1 d2 d3 d4 d5 d6 hp2 HM2 HB2 hb3 hm3 hlk3 HLK
    have hpn : some p ≠ some b := by simpa using hpb
    have hwn : some w.heap.size ≠ some b := by simp; omega
    have hst := fun W (hW : IsM W b S) => hW.store HE.out (by unfold maxLen; omega) HS.out
    have HST := Lib.hid hst
    clear hst
    unfold idV Ent.val at HST
    rcases hxt with ⟨rfl, rfl, hmem⟩ | ⟨rfl, rfl, hno⟩
    · go_upto_region 9 with fail
      go_region_held3 (fun w' => w'.cell? ⟨p, 0, none⟩ = some (.map (some b)) ∧ w'.cell? ⟨w.heap.size, 0, none⟩ = some (.string ⟨x.node.toArray⟩) ∧ w'.cell? ⟨w.heap.size, 1, none⟩ = some (.int .i64 x.boot) ∧ w'.cell? ⟨w.heap.size, 2, none⟩ = some (.int .i64 x.seq) ∧ w'.cell? ⟨w.heap.size, 3, none⟩ = some (.int .i64 x.ten) ∧ w'.cell? ⟨w.heap.size, 4, none⟩ = some (.int .i64 x.hits) ∧ w'.cell? ⟨w.heap.size, 5, none⟩ = some (.int .i64 x.bytes) ∧ w'.cell? ⟨w.heap.size, 6, none⟩ = some (.int .i64 x.att))
        ((go_split_ands; refine ⟨?_, ?_, ?_, ?_, ?_, ?_, ?_, ?_⟩ <;> (repeat (with_reducible (first | assumption | refine keep_grown hg6 hpn ?_ | refine keep_grown hg6 hwn ?_ | refine keep_drew ?_ | refine keep_at hb5 ?_)))))
        (first
          | (go_at_call 27; refine (HO.out _).mono ?_; rintro r W5 ⟨rfl, hb5⟩; obtain ⟨W6, hrun6, hm6, hg6⟩ := HST.out W5 ((IsM.drew HM4.out).at_ hb5))
          | fail)
      have hgr : w.grownBy W6 (some b) := by
        have h5 : Below w.heap.size w W5 := bel_step (bel_drew HB4.out) hb5
        exact World.grownBy.andThen (row := some b) ⟨h5.os, h5.tape, h5.output, h5.size, fun k hk _ => h5.block k hk⟩ hg6 (fun j hj => .inr hj)
      have HGR := Lib.hid hgr
      have HM6 := Lib.hid hm6
      clear hgr hm6
      go_wp2_with fail
      go_ret2
      exact ⟨false, rfl, HM6.out, HGR.out, fun h => absurd ⟨rfl, rfl, rfl⟩ (h x hmem)⟩
    · go_upto_region 9 with fail
      go_region_held3 (fun w' => w'.cell? ⟨p, 0, none⟩ = some (.map (some b)) ∧ w'.cell? ⟨w.heap.size, 0, none⟩ = some (.string ⟨e.node.toArray⟩) ∧ w'.cell? ⟨w.heap.size, 1, none⟩ = some (.int .i64 e.boot) ∧ w'.cell? ⟨w.heap.size, 2, none⟩ = some (.int .i64 e.seq) ∧ w'.cell? ⟨w.heap.size, 3, none⟩ = some (.int .i64 e.ten) ∧ w'.cell? ⟨w.heap.size, 4, none⟩ = some (.int .i64 e.hits) ∧ w'.cell? ⟨w.heap.size, 5, none⟩ = some (.int .i64 e.bytes) ∧ w'.cell? ⟨w.heap.size, 6, none⟩ = some (.int .i64 e.att))
        ((go_split_ands; refine ⟨?_, ?_, ?_, ?_, ?_, ?_, ?_, ?_⟩ <;> (repeat (with_reducible (first | assumption | refine keep_grown hg6 hpn ?_ | refine keep_grown hg6 hwn ?_ | refine keep_drew ?_ | refine keep_at hb5 ?_)))))
        (first
          | (go_at_call 27; refine (HO.out _).mono ?_; rintro r W5 ⟨rfl, hb5⟩; obtain ⟨W6, hrun6, hm6, hg6⟩ := HST.out W5 ((IsM.drew HM4.out).at_ hb5))
          | fail)
      have hgr : w.grownBy W6 (some b) := by
        have h5 : Below w.heap.size w W5 := bel_step (bel_drew HB4.out) hb5
        exact World.grownBy.andThen (row := some b) ⟨h5.os, h5.tape, h5.output, h5.size, fun k hk _ => h5.block k hk⟩ hg6 (fun j hj => .inr hj)
      have HGR := Lib.hid hgr
      have HM6 := Lib.hid hm6
      clear hgr hm6
      go_wp2_with fail
      go_ret2
      exact ⟨true, rfl, HM6.out, HGR.out, fun _ => rfl⟩
end Go.Proofs.Ythhooocckfljaaa
