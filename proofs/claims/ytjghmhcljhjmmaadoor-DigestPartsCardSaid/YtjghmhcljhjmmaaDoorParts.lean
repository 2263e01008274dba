/- The walk of the law DigestParts: it returns true wherever the constants lie as the program's text lays them. -/
import Derived.Test.YtjghmhcljhjmmaaDoorEqualLaw
namespace Go.Proofs.YtjghmhcljhjmmaaDoor
open Go.RowKit
set_option linter.unusedVariables false
set_option linter.unusedSimpArgs false

/-- A slice of slices of bytes. -/
def IsBB (w : World) (v : Value) (ps : List (List UInt8)) : Prop :=
  ∃ a cap, v = .slice a ps.length cap ∧ ps.length ≤ cap ∧ cap ≤ maxLen ∧ ∀ i l, ps[i]? = some l → ∃ b off u, a = some ⟨b, off, none⟩ ∧ w.cell? ⟨b, off + i, none⟩ = some u ∧ IsB w u l
theorem IsBB.step {w w' : World} {v : Value} {ps : List (List UInt8)} (h : IsBB w v ps) (hb : Below w.heap.size w w') : IsBB w' v ps := by
  obtain ⟨a, cap, h1, h2, h3, h4⟩ := h
  refine ⟨a, cap, h1, h2, h3, fun i l hi => ?_⟩
  obtain ⟨b, off, u, e, hc, hu⟩ := h4 i l hi
  exact ⟨b, off, u, e, keep_at hb hc, hu.step hb⟩
/-- A slice of truths. -/
def IsQ (w : World) (v : Value) (qs : List Bool) : Prop :=
  ∃ a cap, v = .slice a qs.length cap ∧ qs.length ≤ cap ∧ cap ≤ maxLen ∧ ∀ i q, qs[i]? = some q → ∃ b off, a = some ⟨b, off, none⟩ ∧ w.cell? ⟨b, off + i, none⟩ = some (.bool q)
theorem IsQ.step {w w' : World} {v : Value} {qs : List Bool} (h : IsQ w v qs) (hb : Below w.heap.size w w') : IsQ w' v qs := by
  obtain ⟨a, cap, h1, h2, h3, h4⟩ := h
  refine ⟨a, cap, h1, h2, h3, fun i q hi => ?_⟩
  obtain ⟨b, off, e, hc⟩ := h4 i q hi
  exact ⟨b, off, e, keep_at hb hc⟩
theorem HashO.other {w w' : World} {base p : Nat} {ob : Option Nat} {all : List UInt8} (h : HashO w base p ob all) (hp : w'.heap[p]? = w.heap[p]?) (ho : ∀ k, ob = some k → w'.heap[k]? = w.heap[k]?) : HashO w' base p ob all := by
  obtain ⟨v, h1, h2, h3, h4, h5⟩ := h
  exact ⟨v, h1, hp.trans h2, h3.keep fun k hk => ho k (h4 ▸ hk), h4, h5⟩
theorem HashO.lt {w : World} {base p : Nat} {ob : Option Nat} {all : List UInt8} (h : HashO w base p ob all) : p < w.heap.size ∧ ∀ k, ob = some k → k < w.heap.size := by
  obtain ⟨v, h1, h2, h3, h4, h5⟩ := h
  exact ⟨h2.lt, fun k hk => (h3.lt (h4.trans hk)).1⟩
/-- A Hash and a slice of the call's own beside it. -/
structure HA (w : World) (base p : Nat) (ob : Option Nat) (A : List UInt8) (v : Value) : Prop where
  hash : HashO w base p ob A
  all : OwnO w base v A
  ap : ∀ k, v.ownBlock = some k → k ≠ p ∧ ob ≠ some k
theorem HA.step {w w' : World} {base p : Nat} {ob : Option Nat} {A : List UInt8} {v : Value} (h : HA w base p ob A v) (hb : Below w.heap.size w w') : HA w' base p ob A v :=
  ⟨h.hash.keep hb, h.all.step hb, h.ap⟩
/-- What Write leaves beside it. -/
theorem HA.wrote {w w' : World} {base p : Nat} {ob ob' : Option Nat} {A B : List UInt8} {v : Value} (h : HA w base p ob A v) (hh : HashO w' base p ob' B) (hf : FrO w w' p ob ob') :
    HashO w' base p ob' B ∧ OwnO w' base v A ∧ ∀ k, v.ownBlock = some k → k ≠ p ∧ ob' ≠ some k := by
  refine ⟨hh, h.all.keep fun k hk => hf.block k (h.all.lt hk).1 (h.ap k hk).1 (h.ap k hk).2, fun k hk => ⟨(h.ap k hk).1, ?_⟩⟩
  rcases hf.own with e | ⟨j, e, hj⟩
  · rw [e]; exact (h.ap k hk).2
  · rw [e]
    intro x
    injection x with x
    have := (h.all.lt hk).1
    omega
/-- The other block that the call writes: in. -/
theorem HA.aside {w w' : World} {base p g : Nat} {ob : Option Nat} {A B : List UInt8} {v : Value} (h1 : HashO w base p ob B) (h2 : OwnO w base v A) (h3 : ∀ k, v.ownBlock = some k → k ≠ p ∧ ob ≠ some k)
    (hg : g ≠ p ∧ ob ≠ some g ∧ v.ownBlock ≠ some g) (hk : ∀ j, j ≠ g → w'.heap[j]? = w.heap[j]?) : HashO w' base p ob B ∧ OwnO w' base v A :=
  ⟨h1.other (hk p hg.1.symm) fun k hk' => hk k fun e => hg.2.1 (e ▸ hk'), h2.keep fun k hk' => hk k fun e => hg.2.2 (e ▸ hk')⟩
/-- append to all. -/
theorem HA.grown {w w' : World} {base p : Nat} {ob : Option Nat} {A B : List UInt8} {v v' : Value} (h1 : HashO w base p ob B) (h2 : OwnO w base v A) (h3 : ∀ k, v.ownBlock = some k → k ≠ p ∧ ob ≠ some k)
    (ho : OwnO w' base v' B) (hk : ∀ k, k < w.heap.size → v.ownBlock ≠ some k → w'.heap[k]? = w.heap[k]?) (hn : v'.ownBlock = v.ownBlock ∨ ∃ k, v'.ownBlock = some k ∧ w.heap.size ≤ k) : HA w' base p ob B v' := by
  refine ⟨h1.other (hk p h1.lt.1 fun e => (h3 p e).1 rfl) fun k hk' => hk k (h1.lt.2 k hk') fun e => (h3 k e).2 hk', ho, fun k hv => ?_⟩
  rcases hn with e | ⟨j, e, hj⟩
  · exact h3 k (e ▸ hv)
  · rw [e] at hv
    injection hv with hv
    subst hv
    exact ⟨fun x => by have := h1.lt.1; omega, fun x => by have := h1.lt.2 j x; omega⟩
theorem xor255 (c : UInt8) : bits .xor .u8 (c.toNat : Int) 255 = ((c ^^^ 255).toNat : Int) := xor_byte c 255
theorem OwnO.cellAt {w : World} {base g n cap : Nat} {l : List UInt8} (h : OwnO w base (.slice (some ⟨g, 0, none⟩) n cap) l) {j : Nat} {c : UInt8} (hj : l[j]? = some c) : w.cell? ⟨g, j, none⟩ = some (.int .u8 (c.toNat : Int)) ∧ w.frozen? ⟨g, j, none⟩ = false := by
  rcases h with ⟨rfl, _⟩ | ⟨g', off', cap', cc, hv, hb, h3, h1, h2, h4, h5⟩
  · simp at hj
  · simp only [Value.slice.injEq, Option.some.injEq, Addr.mk.injEq] at hv
    obtain ⟨⟨rfl, rfl, _⟩, _, _⟩ := hv
    have := h5 j c hj
    rw [Nat.zero_add] at this
    exact ⟨by rw [h3.cell, this]; rfl, h3.frozen j⟩
/-- What the call knows of 'in'. -/
def InO (w : World) (B m gc p : Nat) (ga : Option Addr) (ob : Option Nat) (x : Value) : Prop :=
  0 < m → ∃ g l, ga = some ⟨g, 0, none⟩ ∧ OwnO w B (.slice ga m gc) l ∧ l.length = m ∧ B ≤ g ∧ g ≠ p ∧ ob ≠ some g ∧ x.ownBlock ≠ some g
set_option maxRecDepth 20000 in
set_option maxHeartbeats 8000000 in
theorem parts_walk (P Q : Value) (ps : List (List UInt8)) (qs : List Bool) (w : World) (hk : KW w) (hp : IsBB w P ps) (hq : IsQ w Q qs) : Calls Tryd.prog 5 #[P, Q] w fun e w' => e = .returned (.bool true) ∧ Below w.heap.size w w' := by
  have HK := Lib.hid hk
  have HP := Lib.hid hp
  have HQ := Lib.hid hq
  obtain ⟨pa, pc, rfl, hp1, hp2, _⟩ := hp
  obtain ⟨qa, qc, rfl, hq1, hq2, _⟩ := hq
  unfold maxLen at hp2 hq2
  obtain ⟨n, hn⟩ : ∃ n, n = ps.length := ⟨_, rfl⟩
  obtain ⟨qn, hqn⟩ : ∃ q, q = qs.length := ⟨_, rfl⟩
  rw [← hn] at hp1 HP ⊢
  rw [← hqn] at hq1 HQ ⊢
  have HN := Lib.hid hn
  have HQN := Lib.hid hqn
  have hni : (n : Int) ≤ 9223372036854775807 := by omega
  have hqi : (qn : Int) ≤ 9223372036854775807 := by omega
  clear hk hn hqn
  by_cases hlt : n ≤ 30
  · go_enter Tryd.func5, Tryd.ntmps5
    go_wp2_with (first | (go_at_call 11; refine (awake_any _ HK.out).mono ?_; rintro e w1 ⟨rfl, hb1⟩; have HB1 := Lib.hid hb1; clear hb1) | (go_at_call 16; refine (new_hash w1).mono ?_; rintro e w2 ⟨rfl, h2, hb2⟩; have H2 := Lib.hid h2; have HB2 := Lib.hid hb2; clear h2 hb2))
    obtain ⟨p, hpe⟩ : ∃ p, p = w1.heap.size := ⟨_, rfl⟩
    have hp0 : 0 < p := by rw [hpe]; exact (HK.out.step HB1.out).pos
    rw [← hpe] at H2 HB2 ⊢
    have HBP := Lib.hid (fun (W : World) (h : Below p w1 W) => bel_step HB1.out (hpe ▸ h))
    clear hpe
    go_loopw [6, 22] (fun x i wr => ∃ (k : Nat) (ob : Option Nat), i = .int .i64 k ∧ k ≤ n ∧ HA wr p p ob ((ps.take k).flatten) x ∧ Hid (((ps.take k).flatten).length ≤ 300 * k) ∧ Below p w1 wr) (fun _ i _ => n - (intOf i).toNat)
    case atStart => exact ⟨0, none, rfl, by omega, ⟨H2.out, OwnO.nil _ _, fun k h => by cases h⟩, Lib.hid (by simp), HB2.out⟩
    case round =>
      obtain ⟨k, ob, rfl, hkn, hA, HLN, hbl⟩ := hrel
      obtain ⟨wo, rfl⟩ : ∃ wo : World, wo = wr := ⟨_, rfl⟩
      have HAO := Lib.hid hA
      have HB := Lib.hid hbl
      clear hA hbl
      by_cases hlk : k < n
      · obtain ⟨l, hl⟩ : ∃ l, ps[k]? = some l := ⟨ps[k]'(by rw [← HN.out]; exact hlk), List.getElem?_eq_getElem _⟩
        have HW := Lib.hid (HBP.out wo HB.out)
        have HFL := Lib.hid (show (ps.take (k + 1)).flatten = (ps.take k).flatten ++ l by
          obtain ⟨h1, h2⟩ := List.getElem?_eq_some_iff.1 hl
          rw [List.take_succ_eq_append_getElem h1, List.flatten_append, h2]
          simp)
        obtain ⟨a2, c2, he, _, _, hall⟩ := HP.out
        obtain ⟨b, off, u, hae, hcell0, hu0⟩ := hall k l hl
        have hcell := keep_at HW.out hcell0
        have hu := hu0.step HW.out
        have HU0 := Lib.hid hu0
        clear hcell0 hu0
        simp only [Value.slice.injEq] at he
        have he1 := he.1
        clear he
        rw [hae] at he1
        subst he1
        have HUW := Lib.hid hu
        obtain ⟨ua, uc, rfl, hu1, hu2, _⟩ := hu.shape
        obtain ⟨m, hm⟩ : ∃ m, m = l.length := ⟨_, rfl⟩
        rw [← hm] at hcell HUW HU0 hu1
        have HM := Lib.hid hm
        unfold maxLen at hu2
        have hmi : (m : Int) ≤ 9223372036854775807 := by omega
        have hk0 : (0 : Int) ≤ (k : Int) := by omega
        have hki : (k : Int) < (n : Int) := by omega
        clear hl hall hu hm hae
        by_cases hm3 : 300 < m
        · go_wp2_with fail
          go_ret
          exact ⟨rfl, HW.out⟩
        · go_upto_region 10 with fail
          clear hcell
          have hm30 : m ≤ 300 := by omega
          generalize Value.slice ua m uc = u at *
          obtain ⟨A, hAe⟩ : ∃ A, A = (ps.take k).flatten := ⟨_, rfl⟩
          rw [← hAe] at HAO HLN HFL
          have HAE := Lib.hid hAe
          have HLN2 := Lib.hid (show A.length ≤ 9000 by have := HLN.out; omega)
          have HO := Lib.hid (OwnB.made wo wo.heap.size (Nat.le_refl _))
          have HU2 := Lib.hid (HUW.out.step (bel_new wo (.cells #[] 5)))
          have hlb : 0 + l.length ≤ 140737488355328 := by rw [← HM.out]; omega
          have hbs : wo.heap.size ≤ (wo.alloc (.cells #[] 5)).heap.size := by simp [go_sem]
          have HPL := Lib.hid HAO.out.hash.lt
          clear hAe hu1 hu2
          go_upto_region 12 with (first | (at_builtin; refine wpList_app rfl (.tmp 30) (.tmp 31) rfl wo.heap.size _ [] rfl HO.out _ l rfl HU2.out hlb hbs ?_; intro v3 w3 ho3 hb3 hs3 hn3; have HO3 := Lib.hid (show OwnB w3 wo.heap.size v3 l from ho3); have HS3 := Lib.hid (bel_step (Below.refl _ wo) ((bel_new wo (.cells #[] 5)).trans hb3)); clear ho3 hb3 hs3 hn3) | (go_at_call 17; refine (write_hash p p ob A v3 l _ ((HK.out.step HW.out).step HS3.out) hp0 (Nat.le_trans (Nat.le_of_lt HPL.out.1) HS3.out.size) (HAO.out.step HS3.out).hash HO3.out.isB (by have := HLN2.out; rw [← HM.out]; omega)).mono ?_; rintro e w4 ⟨ob4, rfl, h4, hb4, hf4⟩; have H4 := Lib.hid ((HAO.out.step HS3.out).wrote h4 hf4); have HF4 := Lib.hid hf4; have HB4 := Lib.hid ((HB.out.trans (HS3.out.mono (Nat.le_of_lt HPL.out.1))).trans hb4); clear h4 hb4 hf4))
          have HIN := Lib.hid (show IsB w4 v3 l from (HO3.out.ownO.keep fun j hj => HF4.out.block j (HO3.out.ownO.lt hj).1 (by have := HPL.out.1; have := (HO3.out.ownO.lt hj).2; omega) (fun e => by have := HPL.out.2 j e; have := (HO3.out.ownO.lt hj).2; omega)).isB)
          obtain ⟨ga, gc, hv3, hg1, hg2, _⟩ := HIN.out.shape
          have HI4 := Lib.hid (show InO w4 wo.heap.size m gc p ga ob4 u6 from fun hm0 => by
            have hne : l ≠ [] := by intro h; rw [HM.out, h] at hm0; simp at hm0
            obtain ⟨g, gc', hvg, hgb, hgl⟩ := HO3.out.shape hne
            have h1 : ga = some ⟨g, 0, none⟩ := by
              have := hv3.symm.trans hvg
              simp only [Value.slice.injEq] at this
              exact this.1
            have hob : v3.ownBlock = some g := by rw [hvg]; rfl
            refine ⟨g, l, h1, ?_, HM.out.symm, hgb, by have := HPL.out.1; omega, ?_, fun e => by have := (HAO.out.all.lt e).1; omega⟩
            · have := HO3.out.ownO.keep (w' := w4) fun j hj => HF4.out.block j (HO3.out.ownO.lt hj).1 (by have := HPL.out.1; have := (HO3.out.ownO.lt hj).2; omega) (fun e => by have := HPL.out.2 j e; have := (HO3.out.ownO.lt hj).2; omega)
              rw [hv3, ← HM.out] at this
              exact this
            · rcases HF4.out.own with e | ⟨j, e, hj⟩
              · rw [e]; intro x; have := HPL.out.2 g x; omega
              · rw [e]; intro x; injection x; omega)
          rw [← HM.out] at hv3
          subst hv3
          have hpo : p ≤ wo.heap.size := Nat.le_of_lt HPL.out.1
          clear hg1 hg2
          go_wp2_with fail
          go_loopw [38] (fun i wx => ∃ j : Nat, i = .int .i64 j ∧ j ≤ m ∧ HashO wx p p ob4 (A ++ l) ∧ OwnO wx p u6 A ∧ InO wx wo.heap.size m gc p ga ob4 u6 ∧ Below p w1 wx) (fun i _ => m - (intOf i).toNat)
          case atStart => exact ⟨0, rfl, Nat.zero_le _, H4.out.1, H4.out.2.1, HI4.out, HB4.out⟩
          case round =>
            obtain ⟨j, rfl, hjm, hh, ho, hin, hb5⟩ := hrel
            have HH := Lib.hid hh
            have HOA := Lib.hid ho
            have HB5 := Lib.hid hb5
            clear hh ho hb5
            by_cases hjlt : j < m
            · obtain ⟨g, l', hga, hio, hil, hgb, hgp, hgo, hgx⟩ := hin (by omega)
              subst hga
              obtain ⟨c, hc⟩ : ∃ c, l'[j]? = some c := ⟨l'[j]'(by omega), List.getElem?_eq_getElem _⟩
              obtain ⟨hcl, hfz⟩ := hio.cellAt hc
              have hx := xor255 c
              have HSET := Lib.hid (hio.set j (c ^^^ 255) (by omega)).1
              rw [Nat.zero_add] at HSET
              have hk2 : ∀ q, q ≠ g → (wr.setCell ⟨g, j, none⟩ (bcell (c ^^^ 255))).heap[q]? = wr.heap[q]? := fun q hq => Below.heap_setCell wr ⟨g, j, none⟩ _ q hq
              have HAS := Lib.hid (HA.aside HH.out HOA.out H4.out.2.2 ⟨hgp, hgo, hgx⟩ hk2)
              have HB6 := Lib.hid (HB5.out.setCell (p := ⟨g, j, none⟩) (show p ≤ g from Nat.le_trans hpo hgb) (bcell (c ^^^ 255)))
              have HI6 := Lib.hid (show InO (wr.setCell ⟨g, j, none⟩ (bcell (c ^^^ 255))) wo.heap.size m gc p (some ⟨g, 0, none⟩) ob4 u6 from fun _ => ⟨g, _, rfl, HSET.out, by rw [List.length_set]; exact hil, hgb, hgp, hgo, hgx⟩)
              have hj0 : (0 : Int) ≤ (j : Int) := by omega
              have hjI : (j : Int) < (m : Int) := by omega
              have hw := show bcell (c ^^^ 255) = .int .u8 ((c ^^^ 255).toNat : Int) from rfl
              rw [hw] at HAS HB6 HI6
              clear hin hio hil hc hk2 hw HSET
              go_wp2_with fail
              have hxn : c.toNat ^^^ 255 = (c ^^^ 255).toNat := (UInt8.toNat_xor c 255).symm
              rw [hxn]
              exact ⟨⟨j + 1, by go_num, by omega, HAS.out.1, HAS.out.2, HI6.out, HB6.out⟩, by simp [intOf]; omega⟩
            · obtain rfl : j = m := by omega
              clear hin
              have HUR := Lib.hid (HU0.out.step (HBP.out wr HB5.out))
              have HLB := Lib.hid (show A.length + l.length ≤ 140737488355328 by have := HLN2.out; rw [← HM.out]; omega)
              have hpw : p ≤ wr.heap.size := Nat.le_of_lt HH.out.lt.1
              go_upto_region 18 with (at_builtin; refine wpList_appO rfl (.tmp 48) (.tmp 49) rfl p u6 A rfl HOA.out u l rfl HUR.out HLB.out hpw ?_; intro v6 w6 ho6 hb6 hk6 hn6; have HA6 := Lib.hid (HA.grown HH.out HOA.out H4.out.2.2 ho6 hk6 hn6); have HB6 := Lib.hid (HB5.out.trans hb6); clear ho6 hb6 hk6 hn6)
              have HLN3 := Lib.hid (show ((ps.take (k + 1)).flatten).length ≤ 300 * (k + 1) by rw [HFL.out, List.length_append, ← HM.out]; have := HLN.out; omega)
              have HLN4 := Lib.hid (show (A ++ l).length ≤ 9300 by rw [List.length_append, ← HM.out]; have := HLN2.out; omega)
              rw [← HFL.out] at HA6 HLN4
              obtain ⟨A1, hA1⟩ : ∃ A1, A1 = (ps.take (k + 1)).flatten := ⟨_, rfl⟩
              rw [← hA1] at HA6 HLN4
              have HE1 := Lib.hid hA1
              clear hA1
              have HW6 := Lib.hid (HBP.out w6 HB6.out)
              by_cases hkq : k < qn
              · obtain ⟨q, hq⟩ : ∃ q, qs[k]? = some q := ⟨qs[k]'(by rw [← HQN.out]; exact hkq), List.getElem?_eq_getElem _⟩
                obtain ⟨a3, c3, he, _, _, hallq⟩ := HQ.out
                obtain ⟨qb, qo, hae, hqc⟩ := hallq k q hq
                simp only [Value.slice.injEq] at he
                have he1 := he.1
                clear he
                rw [hae] at he1
                subst he1
                have hqcell := keep_at HW6.out hqc
                have hkqi : (k : Int) < (qn : Int) := by omega
                clear hallq hqc hq hae
                cases q
                · go_wp2_with fail
                  go_roundw
                  case rel => exact ⟨k + 1, ob4, by go_num, by omega, by rw [← HE1.out]; exact HA6.out, HLN3, HB6.out⟩
                  case measure => simp [intOf]; omega
                · go_wp2_with (first | (go_at_call 18; refine (hsum_hash p p ob4 A1 _ (HK.out.step HW6.out) HA6.out.hash (by have := HLN4.out; omega)).mono ?_; rintro e w7 ⟨v7, rfl, ho7, hb7⟩; have HO7 := Lib.hid ho7.isB; have HA7 := Lib.hid (HA6.out.step hb7); have HB7 := Lib.hid (HB6.out.trans (hb7.mono (Nat.le_of_lt HA6.out.hash.lt.1))); have HW7 := Lib.hid (bel_step HW6.out hb7); clear ho7 hb7) | (go_at_call 12; refine (sum_any v6 A1 _ (HK.out.step HW7.out) HA7.out.all.isB (by have := HLN4.out; omega)).mono ?_; rintro e w8 ⟨v8, rfl, ho8, hb8⟩; have HO8 := Lib.hid ho8.isB; have HO78 := Lib.hid (HO7.out.step hb8); have HA8 := Lib.hid (HA7.out.step hb8); have HB8 := Lib.hid (HB7.out.trans (hb8.mono (Nat.le_of_lt HA7.out.hash.lt.1))); clear ho8 hb8) | (go_at_call 13; refine (bytes_same v7 v8 _ _ HO78.out HO8.out).mono ?_; rintro e w9 ⟨rfl, rfl⟩))
                  go_roundw
                  case rel => exact ⟨k + 1, ob4, by go_num, by omega, by rw [← HE1.out]; exact HA8.out, HLN3, HB8.out⟩
                  case measure => simp [intOf]; omega
              · have hkqi : ¬ (k : Int) < (qn : Int) := by omega
                have hkqd : decide ((k : Int) < (qn : Int)) = false := by rw [decide_eq_false_iff_not]; exact hkqi
                go_wp2_with fail
                go_roundw
                case rel => exact ⟨k + 1, ob4, by go_num, by omega, by rw [← HE1.out]; exact HA6.out, HLN3, HB6.out⟩
                case measure => simp [intOf]; omega
      · obtain rfl : k = n := by omega
        have hlt' : (ps.take k).flatten.length ≤ 9000 := by have := HLN.out; omega
        have HLN4 := Lib.hid hlt'
        generalize (ps.take k).flatten = A1 at *
        have HW6 := Lib.hid (HBP.out wo HB.out)
        clear hlt'
        go_wp2_with (first | (go_at_call 18; (with_reducible refine (hsum_hash p p ob A1 wo (HK.out.step HW6.out) HAO.out.hash (by have := HLN4.out; omega)).mono ?_); rintro e w7 ⟨v7, rfl, ho7, hb7⟩; have HO7 := Lib.hid ho7.isB; have HA7 := Lib.hid (HAO.out.step hb7); have HW7 := Lib.hid (bel_step HW6.out hb7); clear ho7 hb7) | (go_at_call 12; refine (sum_any u6 A1 _ (HK.out.step HW7.out) HA7.out.all.isB (by have := HLN4.out; omega)).mono ?_; rintro e w8 ⟨v8, rfl, ho8, hb8⟩; have HO8 := Lib.hid ho8.isB; have HO78 := Lib.hid (HO7.out.step hb8); have HA8 := Lib.hid (HA7.out.step hb8); have HW8 := Lib.hid (bel_step HW7.out hb8); clear ho8 hb8) | (go_at_call 13; (with_reducible refine (bytes_same v7 v8 _ _ HO78.out HO8.out).mono ?_); rintro e w9 ⟨rfl, rfl⟩) | (go_at_call 18; (with_reducible refine (hsum_hash p p ob A1 w8 (HK.out.step HW8.out) HA8.out.hash (by have := HLN4.out; omega)).mono ?_); rintro e w10 ⟨v10, rfl, ho10, hb10⟩; have HO10 := Lib.hid ho10.isB; have HA10 := Lib.hid (HA8.out.step hb10); have HW10 := Lib.hid (bel_step HW8.out hb10); clear ho10 hb10) | (go_at_call 18; (with_reducible refine (hsum_hash p p ob A1 w10 (HK.out.step HW10.out) HA10.out.hash (by have := HLN4.out; omega)).mono ?_); rintro e w11 ⟨v11, rfl, ho11, hb11⟩; have HO11 := Lib.hid ho11.isB; have HO1011 := Lib.hid (HO10.out.step hb11); have HW11 := Lib.hid (bel_step HW10.out hb11); clear ho11 hb11) | (go_at_call 13; (with_reducible refine (bytes_same v10 v11 _ _ HO1011.out HO11.out).mono ?_); rintro e w12 ⟨rfl, rfl⟩))
        go_ret
        exact ⟨rfl, HW11.out⟩
  · go_enter Tryd.func5, Tryd.ntmps5
    go_wp2_with (first | (go_at_call 11; with_reducible refine (awake_any w HK.out).mono ?_; rintro e w1 ⟨rfl, hb1⟩; have HB1 := Lib.hid hb1; clear hb1) | (go_at_call 11; refine (awake_any _ (HK.out.step HB1.out)).mono ?_; rintro e w2 ⟨rfl, hb2⟩; have HB2 := Lib.hid (bel_step HB1.out hb2); clear hb2))
    go_ret
    exact ⟨rfl, HB2.out⟩
end Go.Proofs.YtjghmhcljhjmmaaDoor
