/- The walk of the law RecordReads: it returns true. No condition beyond the slices' readings. -/
import Derived.Test.YtnieoaadhbcjiaaLawTake
namespace Go.Proofs.Ytnieoaadhbcjiaa
open Go.RowKit
set_option linter.unusedVariables false
set_option linter.unusedSimpArgs false

theorem OwnB.at2 {w : World} {base g n cap : Nat} {L : List UInt8} (h : OwnB w base (.slice (some ⟨g, 0, none⟩) n cap) L) (hn : n = L.length) (j : Nat) (hj : j < L.length) : w.cell? ⟨g, j, none⟩ = some (.int .u8 ((L.getD j 0).toNat : Int)) ∧ w.frozen? ⟨g, j, none⟩ = false := by
  subst hn
  refine ⟨?_, World.ownsRow.frozenAt h j⟩
  rw [World.ownsRow.cellAt h j (by omega), List.getElem?_map]
  simp [List.getElem?_eq_getElem hj, List.getD, bcell]
theorem OwnB.put2 {w : World} {base g n cap : Nat} {L : List UInt8} (h : OwnB w base (.slice (some ⟨g, 0, none⟩) n cap) L) (hn : n = L.length) (j : Nat) (x : Int) (c : UInt8) (hx : x = (c.toNat : Int)) : OwnB (w.setCell ⟨g, j, none⟩ (.int .u8 x)) base (.slice (some ⟨g, 0, none⟩) n cap) (L.set j c) := by
  subst hx hn
  have h9 := World.ownsRow.stored h j (.int .u8 (c.toNat : Int))
  unfold OwnB
  rw [List.length_set, List.map_set]
  exact h9.1
theorem IsB.blk {w w' : World} {a : Option Addr} {n c : Nat} {l : List UInt8} (h : IsB w (.slice a n c) l) (hb : l ≠ [] → ∃ g off, a = some ⟨g, off, none⟩ ∧ w'.heap[g]? = w.heap[g]?) : IsB w' (.slice a n c) l := by
  rcases h with h | ⟨h0, b, off, cap, hv, h1, h2, h3⟩
  · exact .inl h
  · refine .inr ⟨h0, b, off, cap, hv, h1, h2, fun i x hi => ?_⟩
    simp only [Value.slice.injEq] at hv
    obtain ⟨rfl, _, _⟩ := hv
    obtain ⟨b', off', he, hlt⟩ := hb h0
    simp only [Option.some.injEq, Addr.mk.injEq] at he
    obtain ⟨rfl, _, _⟩ := he
    exact (World.cell?_of_block hlt).trans (h3 i x hi)
theorem IsB.elem {w : World} {a : Option Addr} {c k : Nat} {l : List UInt8} (h : IsB w (.slice a l.length c) l) (hk : k < l.length) : ∃ g off x, a = some ⟨g, off, none⟩ ∧ l[k]? = some x ∧ w.cell? ⟨g, off + k, none⟩ = some (.int .u8 (x.toNat : Int)) := by
  rcases h with ⟨rfl, _⟩ | ⟨h0, b, off, cap, hv, h1, h2, h3⟩
  · simp at hk
  · simp only [Value.slice.injEq] at hv
    obtain ⟨rfl, _, _⟩ := hv
    exact ⟨b, off, l[k], rfl, List.getElem?_eq_getElem hk, h3 k _ (List.getElem?_eq_getElem hk)⟩

theorem leftc_yes (B b : Nat) (l : List UInt8) (w : World) (h : CurO B w b (some l)) : Calls Try.prog 25 #[.pointer (some ⟨b, 0, none⟩)] w fun e w' => e = .returned (.int .i64 l.length) ∧ w = w' := by
  obtain ⟨a, c, hx, hI, _⟩ := h
  exact left_ok b l w ⟨_, hx, hI⟩
theorem leftc_no (B b : Nat) (w : World) (h : CurO B w b none) : Calls Try.prog 25 #[.pointer (some ⟨b, 0, none⟩)] w fun e w' => e = .returned (.int .i64 0) ∧ w = w' := left_bad b w h
theorem errc_yes (B b : Nat) (l : List UInt8) (w : World) (h : CurO B w b (some l)) : Calls Try.prog 27 #[.pointer (some ⟨b, 0, none⟩)] w fun e w' => e = .returned .nilIface ∧ w = w' := by
  obtain ⟨a, c, hx, hI, _⟩ := h
  exact err_ok b l w ⟨_, hx, hI⟩
theorem errc_no (B b : Nat) (w : World) (h : CurO B w b none) : Calls Try.prog 27 #[.pointer (some ⟨b, 0, none⟩)] w fun e w' => e = .returned (.iface 55 (.int .i64 2)) ∧ w = w' := err_bad b w h
theorem RCurO.no {B : Nat} {w : World} {u : Value} {q : Bool} (h : RCurO B w (.agg #[u, .bool q]) none) : u = .slice none 0 0 ∧ q = true := by
  have h' : Value.agg #[u, .bool q] = .agg #[.slice none 0 0, .bool true] := h
  simpa using h'
theorem RCurO.yes {B : Nat} {w : World} {a : Option Addr} {n c : Nat} {q : Bool} {l : List UInt8} (h : RCurO B w (.agg #[.slice a n c, .bool q]) (some l)) : n = l.length ∧ q = false := by
  obtain ⟨a', c', he, _⟩ := h
  simp at he
  exact ⟨he.1.2.1, he.2⟩
theorem RCurO.drewN {B : Nat} {w : World} {v : Value} {o : Option (List UInt8)} (h : RCurO B w v o) (n : Nat) : RCurO B (w.drewN n) v o := by
  cases o with
  | none => exact h
  | some l => exact h
theorem Box2.drewN {w : World} {b : Nat} {t : TypeId} {x y : Value} (h : Box2 w b t x y) (n : Nat) : Box2 (w.drewN n) b t x y := h

set_option maxRecDepth 100000 in
set_option maxHeartbeats 4000000 in
theorem reads_walk (va vk : Value) (l ks : List UInt8) (w : World) (ha : IsB w va l) (hk : IsB w vk ks) : Calls Try.prog 6 #[va, vk] w fun e w' => e = .returned (.bool true) ∧ Below w.heap.size w w' := by
  have HA := Lib.hid ha
  have HK := Lib.hid hk
  obtain ⟨a, cap, rfl, _⟩ := ha.shape
  obtain ⟨ak, ck, rfl, _⟩ := hk.shape
  clear ha hk
  by_cases hl : 3000 < l.length ∨ 60 < ks.length
  · have hq : (decide ((3000 : Int) < (l.length : Int)) || decide ((60 : Int) < (ks.length : Int))) = true := by simp; omega
    rcases Nat.lt_or_ge 3000 l.length with h3 | h3
    · have hl' : (3000 : Int) < (l.length : Int) := by omega
      go_enter Try.func6, Try.ntmps6
      go_wp2_with fail
      refine (awake_any _).mono ?_
      rintro e w1 ⟨rfl, hb⟩
      go_wp2_with fail
      refine (awake_any _).mono ?_
      rintro e w2 ⟨rfl, hb2⟩
      go_wp2_with fail
      go_ret
      exact ⟨rfl, bel_step hb hb2⟩
    · have hl1 : (l.length : Int) ≤ 3000 := by omega
      have hl2 : (60 : Int) < (ks.length : Int) := by omega
      go_enter Try.func6, Try.ntmps6
      go_wp2_with fail
      refine (awake_any _).mono ?_
      rintro e w1 ⟨rfl, hb⟩
      go_wp2_with fail
      refine (awake_any _).mono ?_
      rintro e w2 ⟨rfl, hb2⟩
      go_wp2_with fail
      go_ret
      exact ⟨rfl, bel_step hb hb2⟩
  have hl1 : (l.length : Int) ≤ 3000 := by omega
  have hl2 : (ks.length : Int) ≤ 60 := by omega
  have hl3 : l.length ≤ 3000 := by omega
  have HL := Lib.hid hl3
  have hd1 : decide ((3000 : Int) < (l.length : Int)) = false := by simp; omega
  have hd2 : decide ((60 : Int) < (ks.length : Int)) = false := by simp; omega
  clear hl hl3
  go_enter Try.func6, Try.ntmps6
  go_wp2_with fail
  refine (awake_any _).mono ?_
  rintro e w1 ⟨rfl, hb⟩
  go_upto_region 5 with (first | (at_builtin; refine wpList_app rfl (.tmp 25) (.tmp 26) rfl w1.heap.size _ [] rfl (OwnB.made _ _ (Nat.le_refl _)) _ l rfl ((HA.out.step hb).step (bel_new _ _)) (by have := HL.out; simp; omega) (by simp) ?_; intro v2 w2 ho2 hb2 hz2 hn2; rw [List.nil_append] at ho2; have HO2 := Lib.hid ho2; clear ho2 hn2) | (go_at_call 23; refine (read_hi _ l _ HO2.out.isB (by have := HL.out; omega)).mono ?_; rintro e w3 ⟨b, a3, c3, rfl, hbz, hx, hI, hH, hb3⟩; have HX := Lib.hid hx; have HI := Lib.hid hI; have HH := Lib.hid hH; clear hx hI hH))
  have hz12 : w1.heap.size < w2.heap.size := by have := hz2; simp [go_sem] at this; omega
  have hb12 : Below w1.heap.size w1 w2 := (bel_new _ _).trans hb2
  have hb13 : Below w1.heap.size w1 w3 := bel_step hb12 hb3
  have hb4 := bel_new w3 (.cells #[.slice a l.length cap, .bool false] 49)
  have hzb : b < w3.heap.size := HX.out.lt
  have HO4 := Lib.hid ((HO2.out.step hb3).step hb4)
  have HX4 := Lib.hid (HX.out.step hb4)
  have HI4 := Lib.hid (HI.out.step hb4)
  have hh4 : l ≠ [] → ∃ g off, a3 = some ⟨g, off, none⟩ ∧ w2.heap.size ≤ g ∧ g < w3.heap.size := HH.out
  have HXR := Lib.hid (Box2.new w3 49 (.slice a l.length cap) (.bool false))
  have hB4 : Below w.heap.size w (w3.alloc (.cells #[.slice a l.length cap, .bool false] 49)) := bel_step (bel_step hb hb13) hb4
  have HB4 := Lib.hid hB4
  have hz4 : (w3.alloc (.cells #[.slice a l.length cap, .bool false] 49)).heap.size = w3.heap.size + 1 := by simp [go_sem]
  have hz0 : w.heap.size ≤ w1.heap.size := hb.size
  have hsh : ∃ a2 c2, v2 = .slice a2 l.length c2 := by obtain ⟨x, y, h, _⟩ := HO2.out.isB.shape; exact ⟨x, y, h⟩
  have hlast : ∀ g, v2.ownBlock = some g → w1.heap.size ≤ g ∧ g < w2.heap.size := fun g hg => World.ownsRow.lt HO2.out g hg
  have HLA := Lib.hid hlast
  obtain ⟨a2, c2, rfl⟩ := hsh
  clear hb2 hz2 hb3 hb12 hb13 hb4 hh4 hB4 hb HI HX HO2 hlast
  generalize w3.alloc (.cells #[.slice a l.length cap, .bool false] 49) = W at *
  go_wp2_with fail
  go_loopw [8] (fun i wr => ∃ (k : Nat) (m : List UInt8), i = .int .i64 k ∧ k ≤ l.length ∧ OwnB wr w1.heap.size (.slice a2 l.length c2) m ∧ m.length = l.length ∧ W.grownBy wr (Value.slice a2 l.length c2).ownBlock) (fun i _ => l.length - (intOf i).toNat)
  case atStart => exact ⟨0, l, rfl, Nat.zero_le _, HO4.out, rfl, World.grownBy.refl _ _⟩
  case round =>
    obtain ⟨k, m, rfl, hk, hO, hm, hG⟩ := hrel
    have HO := Lib.hid hO
    have HG := Lib.hid hG
    have HM := Lib.hid hm
    clear hO hG hm
    by_cases hlt : k < l.length
    · obtain ⟨g, cg, hv, _⟩ := HO.out.shape (by have := HM.out; intro e; subst e; simp at this; omega)
      simp only [Value.slice.injEq] at hv
      obtain ⟨rfl, _, rfl⟩ := hv
      obtain ⟨hc, hf⟩ := HO.out.at2 (by have := HM.out; omega) k (by have := HM.out; omega)
      obtain ⟨x, hx⟩ : ∃ x, m.getD k 0 = x := ⟨_, rfl⟩
      rw [hx] at hc
      clear hx
      have hput := HO.out.put2 (by have := HM.out; omega) k (((x.toNat : Int) + 1) % 256) (UInt8.ofNat (x.toNat + 1)) (by rw [UInt8.toNat_ofNat']; omega)
      have HP := Lib.hid hput
      have hg1 : W.grownBy (wr.setCell ⟨g, k, none⟩ (.int .u8 (((x.toNat : Int) + 1) % 256))) (Value.slice (some ⟨g, 0, none⟩) l.length c2).ownBlock := Only.trans HG.out Only.set
      have HG1 := Lib.hid hg1
      have hk0 : (0 : Int) ≤ (k : Int) := by omega
      have hk1 : (k : Int) < (l.length : Int) := by omega
      clear hput hg1
      go_wp2_with fail
      go_roundw
      case rel => exact ⟨k + 1, _, by go_num, by omega, HP.out, by have := HM.out; simpa using this, HG1.out⟩
      case measure => simp [intOf]; omega
    · have hblk : ∀ g, g < W.heap.size → g < w1.heap.size ∨ w2.heap.size ≤ g → wr.heap[g]? = W.heap[g]? := fun g hg hor => HG.out.block g hg (fun e => by have := HLA.out g e.symm; omega)
      have hxr : Box2 wr w3.heap.size 49 (.slice a l.length cap) (.bool false) := (hblk _ (by omega) (.inr (by omega))).trans HXR.out
      have hcu : CurO w3.heap.size wr b (some l) := ⟨a3, c3, (hblk b (by omega) (.inr hbz)).trans HX4.out, HI4.out.blk (fun hl0 => by obtain ⟨g, off, e, h1, h2⟩ := HH.out hl0; exact ⟨g, off, e, hblk g (by omega) (.inr h1)⟩), fun hl0 => by obtain ⟨g, off, e, _, h⟩ := HH.out hl0; exact ⟨g, off, e, h⟩⟩
      have hB5 : Below w.heap.size w wr := HB4.out.trans ⟨HG.out.os, HG.out.tape, HG.out.output, HG.out.size, fun g hg => hblk g (by omega) (.inl (by omega))⟩
      have hrc : RCurO w.heap.size wr (.agg #[.slice a l.length cap, .bool false]) (some l) := ⟨a, cap, rfl, HA.out.step hB5, HA.out.low⟩
      have hzr : w3.heap.size < wr.heap.size := by have := HG.out.size; omega
      have HXR5 := Lib.hid hxr
      have HCU5 := Lib.hid hcu
      have HB5 := Lib.hid hB5
      have HRC5 := Lib.hid hrc
      have hbw : w.heap.size ≤ b := by omega
      clear hblk hxr hcu hB5 hrc HO HG HM HB4 HO4 HX4 HI4 HXR HLA HH
      go_wp2_with fail
      go_loopw [9] (fun i wq => ∃ (k : Nat) (o : Option (List UInt8)) (a5 : Option Addr) (n5 c5 : Nat) (q5 : Bool), i = .int .i64 k ∧ k ≤ ks.length ∧ Box2 wq w3.heap.size 49 (.slice a5 n5 c5) (.bool q5) ∧ RCurO w.heap.size wq (.agg #[.slice a5 n5 c5, .bool q5]) o ∧ CurO w3.heap.size wq b o ∧ shortO o ∧ Below w.heap.size w wq ∧ w3.heap.size < wq.heap.size) (fun i _ => ks.length - (intOf i).toNat)
      case atStart => exact ⟨0, some l, a, l.length, cap, false, rfl, Nat.zero_le _, HXR5.out, HRC5.out, HCU5.out, (fun x hx => by cases hx; have := HL.out; omega), HB5.out, hzr⟩
      case round =>
        obtain ⟨k, o, a5, n5, c5, q5, rfl, hk, hX, hR, hC, hs, hB, hzq⟩ := hrel
        have HX := Lib.hid hX
        have HR := Lib.hid hR
        have HC := Lib.hid hC
        have HS := Lib.hid hs
        have HB := Lib.hid hB
        obtain ⟨x0, x1, x2, x3⟩ := hX.facts
        clear hX hR hC hs hB HXR5 HCU5 HB5 HRC5
        by_cases hlt : k < ks.length
        · obtain ⟨gk, ok, x, rfl, hkx, hcx⟩ := (HK.out.step HB.out).elem hlt
          have hxb := x.toNat_lt
          have hxn : IsB w (.slice (some ⟨gk, ok, none⟩) ks.length ck) ks := HK.out
          have hgk : gk < w.heap.size := by
            obtain ⟨g', o', he, hl⟩ := hxn.low (by intro e; subst e; simp at hlt)
            simp only [Option.some.injEq, Addr.mk.injEq] at he
            omega
          have hne1 : w3.heap.size ≠ b := by omega
          have hne2 : gk ≠ b := by omega
          have hk0 : (0 : Int) ≤ (k : Int) := by omega
          have hk1 : (k : Int) < (ks.length : Int) := by omega
          have hA : ∀ Wx, Below wr.heap.size wr Wx → Calls Try.prog 24 #[.pointer (some ⟨b, 0, none⟩), .agg #[.slice a5 n5 c5, .bool q5], .int .u8 (x.toNat : Int)] Wx (TakePost w.heap.size w3.heap.size b Wx (nextO x.toNat o)) := fun Wx hb9 =>
            take_law w.heap.size w3.heap.size b x.toNat _ o Wx (by omega) (HR.out.step hb9) (HC.out.step hb9) HS.out (Nat.le_trans HB.out.size hb9.size) (Nat.le_trans (Nat.le_of_lt hzq) hb9.size)
          have HA9 := Lib.hid hA
          have hba : Below wr.heap.size wr wr.drew := bel_draws (Below.refl _ _) 1
          have hbb : Below wr.heap.size wr (wr.alloc (.cells #[.slice none 0 0, .bool false] 49)).drew := bel_drew (bel_new wr _)
          have hxa := Box2.new wr 49 (.slice none 0 0) (.bool false)
          have HBA := Lib.hid hba
          have HBB := Lib.hid hbb
          have HXA := Lib.hid hxa
          have hneq : wr.heap.size ≠ b := by have := HC.out.lt; omega
          have hn3 : w3.heap.size ≠ wr.heap.size := by omega
          have hn4 : gk ≠ wr.heap.size := by omega
          clear hA hba hbb hxa hkx hxn
          go_wp2_with fail
          go_region_held3 (fun w' => w'.cell? ⟨w3.heap.size, 0, none⟩ = some (.slice a5 n5 c5) ∧ w'.cell? ⟨w3.heap.size, 1, none⟩ = some (.bool q5) ∧ w'.cell? ⟨gk, ok + k, none⟩ = some (.int .u8 (x.toNat : Int)))
            ((go_split_ands; refine ⟨?_, ?_, ?_⟩ <;> (repeat (with_reducible (first | assumption | refine keep_drew ?_ | refine keep_alloc ?_ | refine keep_only ho7 hne1 ?_ | refine keep_only ho7 hne2 ?_ | refine keep_set hn3 ?_ | refine keep_set hn4 ?_ | refine keep_set hn5 ?_ | refine keep_set hn6 ?_)))))
            (first | (go_at_call 24; (with_reducible refine (HA9.out _ HBA.out).mono ?_); rintro e w7 ⟨v7, rfl, hr7, hc7, ho7⟩; obtain ⟨a7, n7, c7, q7, rfl⟩ := hr7.form; have hn5 : w3.heap.size ≠ w7.heap.size := (by have := ho7.size; simp at this; omega); have hn6 : gk ≠ w7.heap.size := (by have := ho7.size; simp at this; omega)) | (go_at_call 24; (with_reducible refine (HA9.out _ HBB.out).mono ?_); rintro e w7 ⟨v7, rfl, hr7, hc7, ho7⟩; obtain ⟨a7, n7, c7, q7, rfl⟩ := hr7.form; obtain ⟨t0, t1, t2, t3⟩ := (HXA.out.drew.only ho7 hneq).facts))
          · have ho7' : Only b wr w7 := Only.drew.trans ho7
            have hx5 : Box2 w7 w3.heap.size 49 (.slice a5 n5 c5) (.bool q5) := HX.out.only ho7' hne1
            have hB5 : Below w.heap.size w w7 := HB.out.trans (ho7'.below hbw HB.out.size)
            have hx8 : Box2 (w7.alloc (.cells #[.slice a7 n7 c7, .bool q7] 49)) w7.heap.size 49 (.slice a7 n7 c7) (.bool q7) := Box2.new w7 49 _ _
            have hx9 : Box2 (w7.alloc (.cells #[.slice a7 n7 c7, .bool q7] 49)) w3.heap.size 49 (.slice a5 n5 c5) (.bool q5) := hx5.alloc _
            have hc8 : CurO w3.heap.size (w7.alloc (.cells #[.slice a7 n7 c7, .bool q7] 49)) b (nextO x.toNat o) := hc7.step (bel_new _ _)
            have hr8 : RCurO w.heap.size (w7.alloc (.cells #[.slice a7 n7 c7, .bool q7] 49)) (.agg #[.slice a7 n7 c7, .bool q7]) (nextO x.toNat o) := hr7.step (bel_new _ _)
            have hB8 : Below w.heap.size w (w7.alloc (.cells #[.slice a7 n7 c7, .bool q7] 49)) := bel_alloc hB5
            have hne9 : w3.heap.size ≠ w7.heap.size := by first | exact hn5 | exact hn3
            have hz8 : w3.heap.size < (w7.alloc (.cells #[.slice a7 n7 c7, .bool q7] 49)).heap.size := hx9.lt
            generalize w7.alloc (.cells #[.slice a7 n7 c7, .bool q7] 49) = W8 at *
            have HX8 := Lib.hid hx8
            have HX9 := Lib.hid hx9
            have HC8 := Lib.hid hc8
            have HR8 := Lib.hid hr8
            have HB8 := Lib.hid hB8
            obtain ⟨y0, y1, y2, y3⟩ := hx8.facts
            obtain ⟨z0, z1, z2, z3⟩ := hx9.facts
            clear hx8 hx9 hc8 hr8 hB8 hx5 hB5 HX HR HC HB hc7 hr7 HA9 HBA HBB HXA
            go_upto_region 14 with fail
            have hx := HX9.out.set2 (.slice a7 n7 c7) (.bool q7)
            have hnb := HX9.out.noB (by intro n h; cases h) (by intro n h; cases h)
            have hoS : Only w3.heap.size W8 ((W8.setCell ⟨w3.heap.size, 0, none⟩ (.slice a7 n7 c7)).setCell ⟨w3.heap.size, 1, none⟩ (.bool q7)) := Only.set2
            have hc := HC8.out.off hoS (Ne.symm hne1) hnb
            have hr := HR8.out.only hoS hnb
            have hB := HB8.out.trans (hoS.below (by omega) HB8.out.size)
            have hz : w3.heap.size < ((W8.setCell ⟨w3.heap.size, 0, none⟩ (.slice a7 n7 c7)).setCell ⟨w3.heap.size, 1, none⟩ (.bool q7)).heap.size := hx.lt
            generalize (W8.setCell ⟨w3.heap.size, 0, none⟩ (.slice a7 n7 c7)).setCell ⟨w3.heap.size, 1, none⟩ (.bool q7) = W9 at *
            have HX9 := Lib.hid hx
            have HC9 := Lib.hid hc
            have HR9 := Lib.hid hr
            have HB9 := Lib.hid hB
            have hS9 : shortO (nextO x.toNat o) := HS.out.after
            obtain ⟨y0, y1, y2, y3⟩ := hx.facts
            clear hx hnb hoS hc hB HX8 HC8 HR8 HB8 z0 z1 z2 z3
            generalize nextO x.toNat o = o9 at *
            have HS9 := Lib.hid hS9
            clear hS9 HS
            cases o9 with
            | none =>
              obtain ⟨e1, e2⟩ := hr.no
              simp only [Value.slice.injEq] at e1
              obtain ⟨rfl, rfl, rfl⟩ := e1
              subst e2
              clear hr
              go_quiet (first | (go_at_call 25; exact still_quiet (leftc_no w3.heap.size b _ (HC9.out.drewN _))) | (go_at_call 27; exact still_quiet (errc_no w3.heap.size b _ (HC9.out.drewN _))) | (go_at_call 26; exact still_quiet (is_yes 2 (by decide) _)))
              go_wp2_with fail
              go_roundw
              case rel => exact ⟨k + 1, none, none, 0, 0, true, by go_num, by omega, HX9.out.drewN _, rfl, HC9.out.drewN _, (fun l h => by cases h), bel_drewN HB9.out, hz⟩
              case measure => simp [intOf]; omega
            | some l9 =>
              obtain ⟨e1, e2⟩ := hr.yes
              subst e1 e2
              clear hr
              go_quiet (first | (go_at_call 25; exact still_quiet (leftc_yes w3.heap.size b l9 _ (HC9.out.drewN _))) | (go_at_call 27; exact still_quiet (errc_yes w3.heap.size b l9 _ (HC9.out.drewN _))) | (go_at_call 26; exact still_quiet (is_nil 2 _)))
              go_wp2_with fail
              go_roundw
              case rel => exact ⟨k + 1, some l9, a7, l9.length, c7, false, by go_num, by omega, HX9.out.drewN _, HR9.out.drewN _, HC9.out.drewN _, HS9.out, bel_drewN HB9.out, hz⟩
              case measure => simp [intOf]; omega
          · have ho7' : Only b wr w7 := ((Only.of_below (bel_new wr _)).trans Only.drew).trans ho7
            have hx5 : Box2 w7 w3.heap.size 49 (.slice a5 n5 c5) (.bool q5) := HX.out.only ho7' hne1
            have hB5 : Below w.heap.size w w7 := HB.out.trans (ho7'.below hbw HB.out.size)
            have hx8 : Box2 ((w7.setCell ⟨wr.heap.size, 0, none⟩ (.slice a7 n7 c7)).setCell ⟨wr.heap.size, 1, none⟩ (.bool q7)) wr.heap.size 49 (.slice a7 n7 c7) (.bool q7) := (HXA.out.drew.only ho7 hneq).set2 _ _
            have hx9 : Box2 ((w7.setCell ⟨wr.heap.size, 0, none⟩ (.slice a7 n7 c7)).setCell ⟨wr.heap.size, 1, none⟩ (.bool q7)) w3.heap.size 49 (.slice a5 n5 c5) (.bool q5) := hx5.only Only.set2 hn3
            have hc8 : CurO w3.heap.size ((w7.setCell ⟨wr.heap.size, 0, none⟩ (.slice a7 n7 c7)).setCell ⟨wr.heap.size, 1, none⟩ (.bool q7)) b (nextO x.toNat o) := hc7.off Only.set2 (Ne.symm hneq) ((HXA.out.drew.only ho7 hneq).noB (by intro n h; cases h) (by intro n h; cases h))
            have hr8 : RCurO w.heap.size ((w7.setCell ⟨wr.heap.size, 0, none⟩ (.slice a7 n7 c7)).setCell ⟨wr.heap.size, 1, none⟩ (.bool q7)) (.agg #[.slice a7 n7 c7, .bool q7]) (nextO x.toNat o) := hr7.only Only.set2 ((HXA.out.drew.only ho7 hneq).noB (by intro n h; cases h) (by intro n h; cases h))
            have hB8 : Below w.heap.size w ((w7.setCell ⟨wr.heap.size, 0, none⟩ (.slice a7 n7 c7)).setCell ⟨wr.heap.size, 1, none⟩ (.bool q7)) := hB5.trans (Only.set2.below (by omega) hB5.size)
            have hne9 : w3.heap.size ≠ wr.heap.size := by first | exact hn5 | exact hn3
            have hz8 : w3.heap.size < ((w7.setCell ⟨wr.heap.size, 0, none⟩ (.slice a7 n7 c7)).setCell ⟨wr.heap.size, 1, none⟩ (.bool q7)).heap.size := hx9.lt
            generalize (w7.setCell ⟨wr.heap.size, 0, none⟩ (.slice a7 n7 c7)).setCell ⟨wr.heap.size, 1, none⟩ (.bool q7) = W8 at *
            have HX8 := Lib.hid hx8
            have HX9 := Lib.hid hx9
            have HC8 := Lib.hid hc8
            have HR8 := Lib.hid hr8
            have HB8 := Lib.hid hB8
            obtain ⟨y0, y1, y2, y3⟩ := hx8.facts
            obtain ⟨z0, z1, z2, z3⟩ := hx9.facts
            clear hx8 hx9 hc8 hr8 hB8 hx5 hB5 HX HR HC HB hc7 hr7 HA9 HBA HBB HXA
            go_upto_region 14 with fail
            have hx := HX9.out.set2 (.slice a7 n7 c7) (.bool q7)
            have hnb := HX9.out.noB (by intro n h; cases h) (by intro n h; cases h)
            have hoS : Only w3.heap.size W8 ((W8.setCell ⟨w3.heap.size, 0, none⟩ (.slice a7 n7 c7)).setCell ⟨w3.heap.size, 1, none⟩ (.bool q7)) := Only.set2
            have hc := HC8.out.off hoS (Ne.symm hne1) hnb
            have hr := HR8.out.only hoS hnb
            have hB := HB8.out.trans (hoS.below (by omega) HB8.out.size)
            have hz : w3.heap.size < ((W8.setCell ⟨w3.heap.size, 0, none⟩ (.slice a7 n7 c7)).setCell ⟨w3.heap.size, 1, none⟩ (.bool q7)).heap.size := hx.lt
            generalize (W8.setCell ⟨w3.heap.size, 0, none⟩ (.slice a7 n7 c7)).setCell ⟨w3.heap.size, 1, none⟩ (.bool q7) = W9 at *
            have HX9 := Lib.hid hx
            have HC9 := Lib.hid hc
            have HR9 := Lib.hid hr
            have HB9 := Lib.hid hB
            have hS9 : shortO (nextO x.toNat o) := HS.out.after
            obtain ⟨y0, y1, y2, y3⟩ := hx.facts
            clear hx hnb hoS hc hB HX8 HC8 HR8 HB8 z0 z1 z2 z3
            generalize nextO x.toNat o = o9 at *
            have HS9 := Lib.hid hS9
            clear hS9 HS
            cases o9 with
            | none =>
              obtain ⟨e1, e2⟩ := hr.no
              simp only [Value.slice.injEq] at e1
              obtain ⟨rfl, rfl, rfl⟩ := e1
              subst e2
              clear hr
              go_quiet (first | (go_at_call 25; exact still_quiet (leftc_no w3.heap.size b _ (HC9.out.drewN _))) | (go_at_call 27; exact still_quiet (errc_no w3.heap.size b _ (HC9.out.drewN _))) | (go_at_call 26; exact still_quiet (is_yes 2 (by decide) _)))
              go_wp2_with fail
              go_roundw
              case rel => exact ⟨k + 1, none, none, 0, 0, true, by go_num, by omega, HX9.out.drewN _, rfl, HC9.out.drewN _, (fun l h => by cases h), bel_drewN HB9.out, hz⟩
              case measure => simp [intOf]; omega
            | some l9 =>
              obtain ⟨e1, e2⟩ := hr.yes
              subst e1 e2
              clear hr
              go_quiet (first | (go_at_call 25; exact still_quiet (leftc_yes w3.heap.size b l9 _ (HC9.out.drewN _))) | (go_at_call 27; exact still_quiet (errc_yes w3.heap.size b l9 _ (HC9.out.drewN _))) | (go_at_call 26; exact still_quiet (is_nil 2 _)))
              go_wp2_with fail
              go_roundw
              case rel => exact ⟨k + 1, some l9, a7, l9.length, c7, false, by go_num, by omega, HX9.out.drewN _, HR9.out.drewN _, HC9.out.drewN _, HS9.out, bel_drewN HB9.out, hz⟩
              case measure => simp [intOf]; omega
        · go_wp2_with fail
          go_ret
          exact ⟨rfl, HB.out⟩
end Go.Proofs.Ytnieoaadhbcjiaa
