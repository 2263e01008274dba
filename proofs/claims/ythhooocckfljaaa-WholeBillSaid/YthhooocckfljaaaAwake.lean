/- billAwake: one hit is counted, flushed, put into a set and billed. No condition. -/
import Derived.Test.YthhooocckfljaaaMem
namespace Go.Proofs.Ythhooocckfljaaa
open Go.RowKit Go.Maps Go.Shelf
set_option linter.unusedVariables false
set_option linter.unusedSimpArgs false

abbrev awM : Mtr := addM (newM [110] 0) 1 10
abbrev awE : Ent := ⟨[110], 0, 1, 1, 1, 10, 5⟩
def awH (t : Nat) : Nat := if t = 1 then 1 else 0
def awY (t : Nat) : Nat := if t = 1 then 10 else 0
theorem aw_flush : (flushEs awM (clampT 5) 16).2 = [awE] := by rfl
theorem aw_all {es : List Ent} (h : AllOf [awE] es) (t : Nat) (ht : t < 16) : totP (inT t 0 10) Ent.hits es = awH t ∧ totP (inT t 0 10) Ent.bytes es = awY t := by
  have hp : es.Perm [awE] := allOf_two h ⟨by simp, fun e => Iff.rfl⟩
  rw [totP_perm _ _ hp, totP_perm _ _ hp]
  unfold awH awY
  by_cases h1 : t = 1
  · subst h1; exact ⟨rfl, rfl⟩
  · have hn : ¬ (1 : Int) = (t : Int) := by omega
    simp [totP, inT, h1, hn]
theorem aw_code : codeE ⟨[110], 0, 1, 0, 0, 0, 0⟩ = 0 := by decide
theorem aw_code2 : codeE awE = 0 := by decide
theorem aw_fit : Fit (newM [110] 0) := fun t _ => by simp [newM]
theorem aw_ok : addOk (newM [110] 0) ((1 : Nat) : Int) 10 := by simp [addOk, newM]
theorem aw_lines : (linesP awH awY 1000000 0 16).length = 1 ∧ sumL (linesP awH awY 1000000 0 16) = 10 := by decide
theorem aw_zero : ∀ t, t < 16 → awM.H t = 0 → awM.Y t = 0 := by
  intro t _
  simp only [awM, addM, newM, upd]
  by_cases h : t = 1
  · subst h; simp
  · simp [h]
set_option maxRecDepth 100000 in
set_option maxHeartbeats 4000000 in
theorem awake_run (w : World) : Calls Try.prog 4 #[] w fun e w' => e = .returned (.bool true) ∧ Below w.heap.size w w' := by
  have H5 := Lib.hid (show ∀ W, Calls Try.prog 5 #[.string ⟨#[110]⟩, .int .i64 0] W _ from fun W => new_ok [110] 0 W (by decide) aw_code)
  have H11 := Lib.hid (show ∀ b W, MBlk W b (newM [110] 0) → Calls Try.prog 11 #[.pointer (some ⟨b, 0, none⟩), .int .i64 1, .int .i64 10] W fun e w' => e = .returned .nilIface ∧ MBlk w' b awM ∧ Only b W w' from fun b W h => add_ok b 1 10 _ W h aw_fit aw_ok)
  have H12 := Lib.hid (fun b W h => flush_any b 5 awM W h aw_zero (by decide))
  rw [aw_flush] at H12
  have HE := Lib.hid aw_code2
  go_enter Try.func4, Try.ntmps4
  go_upto_region 2 with (go_at_call 5; refine (H5.out _).mono ?_; rintro r w1 ⟨mb, rfl, hmb, hM, hb1⟩)
  have HM := Lib.hid hM
  have HB1 := Lib.hid hb1
  clear hM hb1 H5
  go_upto_region 4 with (go_at_call 11; refine (H11.out _ _ HM.out).mono ?_; rintro r w2 ⟨rfl, hM2, ho2⟩)
  have HM2 := Lib.hid hM2
  have HB2 := Lib.hid (HB1.out.grown ho2 HB1.out.size (fun k hk => by cases hk; exact hmb))
  have hz2 : w.heap.size ≤ w2.heap.size := HB2.out.size
  clear hM2 ho2 H11 HB1 HM
  go_upto_region 5 with (go_at_call 6; refine (new_set _).mono ?_; rintro r w3 ⟨p, b, rfl, hp2, hbb2, _, hpb, hS, hb3⟩)
  have HM3 := Lib.hid (HM2.out.bel hb3 HM2.out.lt)
  have HS3 := Lib.hid hS
  have HB3 := Lib.hid (bel_step HB2.out hb3)
  have hbp : b ≠ mb := by have := HM2.out.lt; omega
  have hpm : p ≠ mb := by have := HM2.out.lt; omega
  clear hS hb3 HM2 HB2
  go_upto_region 6 with (go_at_call 12; refine (H12.out _ _ HM3.out).mono ?_; rintro r w4 ⟨v, rfl, hO, _, ho4⟩; obtain ⟨va, vc, rfl⟩ := hO.shape)
  have hS4 : IsSet w4 p b [] := (Kept.of_grown (bs := [mb]) ho4 (by simp)).set_ HS3.out (by simpa using hpm) (by simpa using hbp)
  have HS4 := Lib.hid hS4
  have HO4 := Lib.hid hO
  have HB4 := Lib.hid (HB3.out.grown ho4 HB3.out.size (fun k hk => by cases hk; exact hmb))
  have hz3 : w.heap.size ≤ w3.heap.size := HB3.out.size
  have hbw : w.heap.size ≤ b := Nat.le_trans hz2 hbb2
  have hob : ∀ g, (Value.slice va [awE].length vc).ownBlock = some g → g ∉ [b] := by
    intro g hg
    have := (World.ownsRow.lt hO g hg).1
    have := HS3.out.2.lt
    simp only [List.mem_singleton]
    omega
  have HOB := Lib.hid hob
  have HP := Lib.hid (fun W h => put_run p b [] awE W h aw_code2 (fun f hf => (by cases hf)) (by simp))
  have HBL := Lib.hid (show ∀ g W, IsSet W p b [awE] → W.cell? ⟨g, 0, none⟩ = some (.int .i64 0) → W.cell? ⟨g, 1, none⟩ = some (.int .i64 1000000) → Calls Try.prog 14 #[.pointer (some ⟨p, 0, none⟩), .agg #[.slice (some ⟨g, 0, none⟩) 1 1, .int .i64 1, .int .i64 0, .int .i64 0], .int .i64 0, .int .i64 10] W fun e w' => ∃ a c, e = .returned (.tuple #[.slice a 1 c, .int .i64 10, .nilIface]) ∧ Below W.heap.size W w' from
    fun g W hS c0 c1 => (bill_run p b [awE] g 1000000 0 0 10 awH awY (by omega) (by omega) (by omega) (fun t ht => by unfold awH awY; by_cases h : t = 1 <;> simp [h]) W hS (by simp) (fun es h t ht => aw_all h t ht) c0 c1).mono fun e w' ⟨v, he, ho, hb⟩ => by
      obtain ⟨a, c, rfl⟩ := ho.shape
      rw [aw_lines.1, aw_lines.2] at he
      exact ⟨a, c, he, hb⟩)
  have hpb2 : some p ≠ some b := fun e => hpb (by cases e; rfl)
  clear hS4 hO ho4 hob H12 HM3 HS3 HB3
  go_loopw [29] (fun ii wr => ∃ j : Nat, ii = .int .i64 j ∧ j ≤ 1 ∧ IsSet wr p b ([awE].take j) ∧ Kept [b] w4 wr) (fun ii _ => 1 - (intOf ii).toNat)
  case atStart => exact ⟨0, rfl, by omega, HS4.out, Kept.refl _ _⟩
  case round =>
    obtain ⟨j, rfl, hj, hst, hkp⟩ := hrel
    have HST := Lib.hid hst
    have HKP := Lib.hid hkp
    clear hst hkp HS4
    have hj01 : j = 0 ∨ j = 1 := by omega
    rcases hj01 with rfl | rfl
    · obtain ⟨g, o, cap, e, hv, hek, hat⟩ := (HKP.out.own HO4.out HOB.out).isE.elem (k := 0) (by simp)
      simp only [Value.slice.injEq] at hv
      obtain ⟨rfl, hv2, rfl⟩ := hv
      simp only [List.getElem?_cons_zero, Option.some.injEq] at hek
      subst hek
      have hn1 := bel_new wr (.cells #[.string ⟨#[110]⟩, .int .i64 0, .int .i64 1, .int .i64 1, .int .i64 1, .int .i64 10, .int .i64 5] 46)
      have HSW := Lib.hid (show IsSet (wr.alloc (.cells #[.string ⟨#[110]⟩, .int .i64 0, .int .i64 1, .int .i64 1, .int .i64 1, .int .i64 10, .int .i64 5] 46)) p b [] from HST.out.step hn1 (block_lt_of_cell HST.out.1) HST.out.2.lt)
      have HKW := Lib.hid (HKP.out.trans (Kept.of_below hn1))
      obtain ⟨x0, x1, x2, x3, x4, x5, x6⟩ := hat
      simp only [Nat.zero_mul, Nat.add_zero] at x0 x1 x2 x3 x4 x5 x6
      change Hid (∀ W, IsSet W p b [] → Calls Try.prog 10 #[.pointer (some ⟨p, 0, none⟩), .agg #[.string ⟨#[110]⟩, .int .i64 0, .int .i64 1, .int .i64 1, .int .i64 1, .int .i64 10, .int .i64 5]] W _) at HP
      clear hv2 hn1 HST HKP
      go_wp2_with (go_at_call 10; refine (HP.out _ HSW.out).mono ?_; rintro r w5 ⟨tt, rfl, hm5, hg5, htt⟩; obtain rfl : tt = true := htt (fun f hf => (by cases hf)))
      have hs5 : IsSet w5 p b [awE] := ⟨keep_grown hg5 hpb2 HSW.out.1, hm5⟩
      have hk5 := HKW.out.trans (Kept.of_grown hg5 (List.mem_singleton.2 rfl))
      go_roundw
      case rel => exact ⟨1, by go_num, by omega, hs5, hk5⟩
      case measure => simp [intOf]
    · have HBR := Lib.hid (HKP.out.below HB4.out HB4.out.size (fun k hk => by simp at hk; omega))
      have hn1 := bel_new wr (.cells #[.int .i64 0, .int .i64 1000000] 59)
      have HSW := Lib.hid (show IsSet (wr.alloc (.cells #[.int .i64 0, .int .i64 1000000] 59)) p b [awE] from HST.out.step hn1 (block_lt_of_cell HST.out.1) HST.out.2.lt)
      have x0 : (wr.alloc (.cells #[.int .i64 0, .int .i64 1000000] 59)).cell? ⟨wr.heap.size, 0, none⟩ = some (.int .i64 0) := by simp [go_sem]
      have x1 : (wr.alloc (.cells #[.int .i64 0, .int .i64 1000000] 59)).cell? ⟨wr.heap.size, 1, none⟩ = some (.int .i64 1000000) := by simp [go_sem]
      have HX0 := Lib.hid x0
      have HX1 := Lib.hid x1
      have HN1 := Lib.hid (bel_step HBR.out hn1)
      clear x0 x1 hn1 HST HKP
      go_wp2_with (go_at_call 14; refine (HBL.out _ _ HSW.out HX0.out HX1.out).mono ?_; rintro r w6 ⟨la, lc, rfl, hb6⟩)
      go_ret
      exact ⟨rfl, bel_step HN1.out hb6⟩
end Go.Proofs.Ythhooocckfljaaa
