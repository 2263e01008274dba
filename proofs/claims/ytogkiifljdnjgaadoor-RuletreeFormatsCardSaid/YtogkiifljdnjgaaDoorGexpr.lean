/- Gexpr: Gexpr Glist Gsimple Gseed, one behind the other. -/
import Derived.Test.YtogkiifljdnjgaaDoorSeeds
import Derived.Deep.CutBlock
/- The walk of Grow's expr. Condition: a list's length. -/
namespace Go.Proofs.YtogkiifljdnjgaaDoor
open Go.RowKit
set_option linter.unusedVariables false
set_option linter.unusedSimpArgs false

def kindF (d : Nat) (x : SeedP) : Int := if d = 0 then 23 else exprK x
theorem kind_in (d : Nat) (x : SeedP) : kindF d x = 13 ∨ kindF d x = 14 ∨ kindF d x = 15 ∨ kindF d x = 16 ∨ kindF d x = 17 ∨ kindF d x = 18 ∨ kindF d x = 19 ∨ kindF d x = 24 ∨ kindF d x = 20 ∨ kindF d x = 21 ∨ kindF d x = 22 ∨ kindF d x = 23 := by
  unfold kindF exprK
  split
  · simp
  split
  · have h : x.1 % 12 < 12 := Nat.mod_lt _ (by decide)
    generalize x.1 % 12 = j at *
    match j, h with
    | 0, _ => simp [kindsL]
    | 1, _ => simp [kindsL]
    | 2, _ => simp [kindsL]
    | 3, _ => simp [kindsL]
    | 4, _ => simp [kindsL]
    | 5, _ => simp [kindsL]
    | 6, _ => simp [kindsL]
    | 7, _ => simp [kindsL]
    | 8, _ => simp [kindsL]
    | 9, _ => simp [kindsL]
    | 10, _ => simp [kindsL]
    | 11, _ => simp [kindsL]
  · simp
theorem exprP_eq (d : Nat) (l : List SeedP) : exprP d l = (.node (kindF d (takeP l).1) (textE (kindF d (takeP l).1) (takeP l).1.2) (kidsP (exprP (d - 1)) (manyE (kindF d (takeP l).1) (takeP l).1.2) (takeP l).2).1 0, (kidsP (exprP (d - 1)) (manyE (kindF d (takeP l).1) (takeP l).1.2) (takeP l).2).2) := by
  cases d with
  | zero => rfl
  | succ d => rfl
theorem many0 (x : SeedP) (n : Nat) : manyE (kindF 0 x) n = 0 := by rw [kindF, if_pos rfl]; rfl
def GexC (d : Nat) : Prop := ∀ (w : World) (N gb : Nat) (l : List SeedP) (di : Int), GAt w N gb l → di = (d : Int) → Calls Tryd.prog 54 #[.pointer (some ⟨gb, 0, none⟩), .int .i64 di] w fun e w' => PostG w w' N gb (exprP d l) e
set_option maxRecDepth 20000 in
set_option maxHeartbeats 8000000 in
theorem gex_con (d : Nat) (HC : 0 < d → GexC (d - 1)) (hd4 : d ≤ 100) : GexC d := by
  intro w N gb l di hg hdi
  have hlt := hg.lt
  have hdi1 : di ≤ 100 := by omega
  have hdi0 : (0 : Int) ≤ di := by omega
  have HG := Lib.hid hg
  have HDI := Lib.hid hdi
  have HCall := Lib.hid HC
  obtain ⟨hb1, hb2⟩ := hg.bnd
  have HB2 := Lib.hid hb2
  have HNG := Lib.hid (show N ≤ gb from hg.2.1)
  have hpw : ¬ gb = w.heap.size := by omega
  have hpw2 : ¬ w.heap.size = gb := by omega
  obtain ⟨R, hR⟩ : ∃ R, exprP d l = R := ⟨_, rfl⟩
  rw [hR]
  have HR := Lib.hid ((exprP_eq d l).symm.trans hR)
  clear hg hdi HC hR
  go_enter Tryd.func54, Tryd.ntmps54
  go_upto_region 4 with (first | (go_at_call 53; (with_reducible refine (take_any _ N gb l (HG.out.step (bel_new _ _))).mono ?_); rintro e w1 ⟨rfl, hg1, ho1⟩; have HG1 := Lib.hid hg1; have HO1 := Lib.hid ((Only.of_below (b := gb) (bel_new w (.cells #[.int .i64 0, .string ⟨#[]⟩, .slice none 0 0, .int .i64 0] 26))).trans ho1); have HR1 := Lib.hid (ho1.keep (heap_alloc_new w (.cells #[.int .i64 0, .string ⟨#[]⟩, .slice none 0 0, .int .i64 0] 26)) hpw2); clear hg1 ho1) | (go_at_call 55; (with_reducible refine (word_any _ HB2.out _).mono ?_); rintro e w2 ⟨rfl, hb2⟩; have HB3 := Lib.hid hb2; have HK3 := Lib.hid (heap_alloc_new (w1.alloc (.cells #[.int .u8 ((takeP l).1.1 : Int), .int .u8 ((takeP l).1.2 : Int)] 82)) (.cells #[.int .i64 13, .int .i64 14, .int .i64 15, .int .i64 16, .int .i64 17, .int .i64 18, .int .i64 19, .int .i64 24, .int .i64 20, .int .i64 21, .int .i64 22, .int .i64 23] 3)); clear hb2))
  have hz0 : w.heap.size < w1.heap.size := block_lt HR1.out
  have H0 : Hid (Gst w (w2.alloc (.cells #[.int .i64 23, .string ⟨(wordP (takeP l).1.2).toArray⟩, .slice none 0 0, .int .i64 0] 26)) N gb w1.heap.size w2.heap.size (takeP l).1 23 ⟨(wordP (takeP l).1.2).toArray⟩ (.slice none 0 0) (takeP l).2) := by
    have hs : w1.heap.size + 2 ≤ w2.heap.size := by have := HB3.out.size; simpa using this
    refine Lib.hid ⟨hz0, by omega, by simp, hlt, new_blk (keep_blk HB3.out (new_blk (new_blk HR1.out))), new_blk (keep_blk HB3.out (new_blk (heap_alloc_new w1 _))), heap_alloc_new w2 _, ⟨_, _, _, rfl⟩, ((HG1.out.step (bel_new _ _)).step (bel_new _ _)).step HB3.out |>.step (bel_new _ _), ?_⟩
    exact ((HO1.out.alloc.alloc).bel HB3.out).alloc
  have hkk := HK3.out
  have hsk : (w1.alloc (.cells #[.int .u8 ((takeP l).1.1 : Int), .int .u8 ((takeP l).1.2 : Int)] 82)).heap.size = w1.heap.size + 1 := by simp
  rw [hsk] at hkk
  have HKB := Lib.hid (new_blk (y := (.cells #[.int .i64 23, .string ⟨(wordP (takeP l).1.2).toArray⟩, .slice none 0 0, .int .i64 0] 26)) (keep_blk HB3.out hkk))
  clear HG1 HO1 HR1 HB3 HK3 hkk hsk hz0
  generalize World.alloc w2 _ = W0 at *
  generalize w2.heap.size = nb at *
  generalize w1.heap.size + 1 = kb at *
  generalize w1.heap.size = sb at *
  generalize hx : (takeP l).1 = x at *
  generalize hr : (takeP l).2 = r at *
  clear hx hr
  obtain ⟨x1, x2⟩ := x
  dsimp only at *
  have n1 : ¬ w.heap.size = nb := by have h1 := H0.out.lt1; have h2 := H0.out.lt2; omega
  have n2 : ¬ nb = w.heap.size := by omega
  have n3 : ¬ w.heap.size = sb := by have h1 := H0.out.lt1; omega
  have n4 : ¬ sb = w.heap.size := by omega
  have n5 : ¬ nb = sb := by have h2 := H0.out.lt2; omega
  have n6 : ¬ sb = nb := by omega
  have hx1 : (0 : Int) ≤ (x1 : Int) := by omega
  have hx2 : (0 : Int) ≤ (x2 : Int) := by omega
  have hx3 : (x1 : Int) < 256 := by omega
  have hx4 : (x2 : Int) < 256 := by omega
  obtain ⟨r0, r1, r2, r3, q0, q1, q2, q3⟩ := box4 H0.out.res
  obtain ⟨b0, b1, b2, b3, z0, z1, z2, z3⟩ := box4 H0.out.node
  obtain ⟨t0, t1⟩ := box2 H0.out.seed
  have hs0 := H0.out.lt3
  go_upto_if 18 with fail
  go_cut [] (fun wx => Gst w wx N gb sb nb (x1, x2) (exprK (x1, x2)) ⟨(wordP x2).toArray⟩ (.slice none 0 0) r)
  case first =>
    by_cases hlt2 : x1 < 200
    rotate_left
    · have hq : ¬ (x1 : Int) < 200 := by omega
      have HE := Lib.hid (show exprK (x1, x2) = 23 by unfold exprK; rw [if_neg hlt2])
      clear hlt2
      go_wp2_with fail
      go_meet
      rw [HE.out]
      exact H0.out
    have hq : (x1 : Int) < 200 := by omega
    obtain ⟨j, hj⟩ : ∃ j, x1 % 12 = j := ⟨_, rfl⟩
    have hj12 : j < 12 := by omega
    have HE := Lib.hid (show exprK (x1, x2) = kindsL.getD j 0 by unfold exprK; rw [if_pos hlt2, hj])
    have hji : (x1 : Int) % 12 = (j : Int) := by omega
    clear hj hlt2
    match j, hj12 with
    | 0, _ =>
      have e : (x1 : Int) % 12 = 0 := hji
      have ck : W0.cell? ⟨kb, 0, none⟩ = some (.int .i64 13) := by simp [World.cell?, HKB.out]
      clear hji
      go_wp2_with fail
      go_meet
      rw [HE.out]
      exact H0.out.set0 13
    | 1, _ =>
      have e : (x1 : Int) % 12 = 1 := hji
      have ck : W0.cell? ⟨kb, 1, none⟩ = some (.int .i64 14) := by simp [World.cell?, HKB.out]
      clear hji
      go_wp2_with fail
      go_meet
      rw [HE.out]
      exact H0.out.set0 14
    | 2, _ =>
      have e : (x1 : Int) % 12 = 2 := hji
      have ck : W0.cell? ⟨kb, 2, none⟩ = some (.int .i64 15) := by simp [World.cell?, HKB.out]
      clear hji
      go_wp2_with fail
      go_meet
      rw [HE.out]
      exact H0.out.set0 15
    | 3, _ =>
      have e : (x1 : Int) % 12 = 3 := hji
      have ck : W0.cell? ⟨kb, 3, none⟩ = some (.int .i64 16) := by simp [World.cell?, HKB.out]
      clear hji
      go_wp2_with fail
      go_meet
      rw [HE.out]
      exact H0.out.set0 16
    | 4, _ =>
      have e : (x1 : Int) % 12 = 4 := hji
      have ck : W0.cell? ⟨kb, 4, none⟩ = some (.int .i64 17) := by simp [World.cell?, HKB.out]
      clear hji
      go_wp2_with fail
      go_meet
      rw [HE.out]
      exact H0.out.set0 17
    | 5, _ =>
      have e : (x1 : Int) % 12 = 5 := hji
      have ck : W0.cell? ⟨kb, 5, none⟩ = some (.int .i64 18) := by simp [World.cell?, HKB.out]
      clear hji
      go_wp2_with fail
      go_meet
      rw [HE.out]
      exact H0.out.set0 18
    | 6, _ =>
      have e : (x1 : Int) % 12 = 6 := hji
      have ck : W0.cell? ⟨kb, 6, none⟩ = some (.int .i64 19) := by simp [World.cell?, HKB.out]
      clear hji
      go_wp2_with fail
      go_meet
      rw [HE.out]
      exact H0.out.set0 19
    | 7, _ =>
      have e : (x1 : Int) % 12 = 7 := hji
      have ck : W0.cell? ⟨kb, 7, none⟩ = some (.int .i64 24) := by simp [World.cell?, HKB.out]
      clear hji
      go_wp2_with fail
      go_meet
      rw [HE.out]
      exact H0.out.set0 24
    | 8, _ =>
      have e : (x1 : Int) % 12 = 8 := hji
      have ck : W0.cell? ⟨kb, 8, none⟩ = some (.int .i64 20) := by simp [World.cell?, HKB.out]
      clear hji
      go_wp2_with fail
      go_meet
      rw [HE.out]
      exact H0.out.set0 20
    | 9, _ =>
      have e : (x1 : Int) % 12 = 9 := hji
      have ck : W0.cell? ⟨kb, 9, none⟩ = some (.int .i64 21) := by simp [World.cell?, HKB.out]
      clear hji
      go_wp2_with fail
      go_meet
      rw [HE.out]
      exact H0.out.set0 21
    | 10, _ =>
      have e : (x1 : Int) % 12 = 10 := hji
      have ck : W0.cell? ⟨kb, 10, none⟩ = some (.int .i64 22) := by simp [World.cell?, HKB.out]
      clear hji
      go_wp2_with fail
      go_meet
      rw [HE.out]
      exact H0.out.set0 22
    | 11, _ =>
      have e : (x1 : Int) % 12 = 11 := hji
      have ck : W0.cell? ⟨kb, 11, none⟩ = some (.int .i64 23) := by simp [World.cell?, HKB.out]
      clear hji
      go_wp2_with fail
      go_meet
      rw [HE.out]
      exact H0.out.set0 23
  case rest =>
    have H1 := Lib.hid hcut
    clear hcut HKB H0 r0 r1 r2 r3 q0 q1 q2 q3 b0 b1 b2 b3 z0 z1 z2 z3 t0 t1 hs0
    generalize hE : exprK (x1, x2) = E at *
    have HE := Lib.hid hE
    clear hE
    go_upto_if 27 with fail
    go_cut [] (fun wx => Gst w wx N gb sb nb (x1, x2) (kindF d (x1, x2)) ⟨(wordP x2).toArray⟩ (.slice none 0 0) r)
    case first =>
      obtain ⟨r0, r1, r2, r3, q0, q1, q2, q3⟩ := box4 H1.out.res
      obtain ⟨b0, b1, b2, b3, z0, z1, z2, z3⟩ := box4 H1.out.node
      obtain ⟨t0, t1⟩ := box2 H1.out.seed
      have hs0 := H1.out.lt3
      have hs1 := Nat.lt_trans H1.out.lt2 H1.out.lt3
      by_cases hd0 : d = 0
      · have hq : di ≤ 0 := by have := HDI.out; omega
        have HF := Lib.hid (show kindF d (x1, x2) = 23 by unfold kindF; rw [if_pos hd0])
        clear hd0
        go_wp2_with fail
        go_meet
        rw [HF.out]
        exact H1.out.set0 23
      · have hq : ¬ di ≤ 0 := by have := HDI.out; omega
        have HF := Lib.hid (show kindF d (x1, x2) = E by unfold kindF; rw [if_neg hd0, HE.out])
        clear hd0
        go_wp2_with fail
        go_meet
        rw [HF.out]
        exact H1.out
    case rest =>
      have H2 := Lib.hid hcut
      have HKI := Lib.hid (kind_in d (x1, x2))
      have HM0 := Lib.hid (fun (h : d = 0) => show manyE (kindF d (x1, x2)) x2 = 0 by rw [h]; exact many0 _ _)
      clear hcut H1 HE
      generalize kindF d (x1, x2) = K at *
      have H3 := H2
      obtain ⟨r0, r1, r2, r3, q0, q1, q2, q3⟩ := box4 H2.out.res
      obtain ⟨b0, b1, b2, b3, z0, z1, z2, z3⟩ := box4 H2.out.node
      obtain ⟨t0, t1⟩ := box2 H2.out.seed
      have hs0 := H2.out.lt3
      have hs1 := Nat.lt_trans H2.out.lt2 H2.out.lt3
      go_upto_block 0 with fail
      go_cut [8] (fun m wx => m = .int .i64 (manyE K x2 : Int) ∧ Gst w wx N gb sb nb (x1, x2) K ⟨(textE K x2).toArray⟩ (.slice none 0 0) r)
      case first =>
        rcases HKI.out with rfl | rfl | rfl | rfl | rfl | rfl | rfl | rfl | rfl | rfl | rfl | rfl
        · go_wp2_with fail
          go_meet
          exact ⟨rfl, H2.out.set1 _⟩
        · go_wp2_with fail
          go_meet
          exact ⟨rfl, H2.out.set1 _⟩
        · go_wp2_with fail
          go_meet
          exact ⟨rfl, H2.out.set1 _⟩
        · obtain ⟨j, hj⟩ : ∃ j, x2 % 7 = j := ⟨_, rfl⟩
          have hjn : j < 7 := by omega
          have HT := Lib.hid (show textE 16 x2 = cmpsL.getD j [] by rw [← hj]; rfl)
          have hji : (x2 : Int) % 7 = (j : Int) := by omega
          clear hj
          match j, hjn with
          | 0, _ =>
            have e : (x2 : Int) % 7 = 0 := hji
            clear hji
            go_wp2_with fail
            go_meet
            refine ⟨rfl, ?_⟩
            rw [HT.out]
            exact (H2.out.set1 _).alloc _
          | 1, _ =>
            have e : (x2 : Int) % 7 = 1 := hji
            clear hji
            go_wp2_with fail
            go_meet
            refine ⟨rfl, ?_⟩
            rw [HT.out]
            exact (H2.out.set1 _).alloc _
          | 2, _ =>
            have e : (x2 : Int) % 7 = 2 := hji
            clear hji
            go_wp2_with fail
            go_meet
            refine ⟨rfl, ?_⟩
            rw [HT.out]
            exact (H2.out.set1 _).alloc _
          | 3, _ =>
            have e : (x2 : Int) % 7 = 3 := hji
            clear hji
            go_wp2_with fail
            go_meet
            refine ⟨rfl, ?_⟩
            rw [HT.out]
            exact (H2.out.set1 _).alloc _
          | 4, _ =>
            have e : (x2 : Int) % 7 = 4 := hji
            clear hji
            go_wp2_with fail
            go_meet
            refine ⟨rfl, ?_⟩
            rw [HT.out]
            exact (H2.out.set1 _).alloc _
          | 5, _ =>
            have e : (x2 : Int) % 7 = 5 := hji
            clear hji
            go_wp2_with fail
            go_meet
            refine ⟨rfl, ?_⟩
            rw [HT.out]
            exact (H2.out.set1 _).alloc _
          | 6, _ =>
            have e : (x2 : Int) % 7 = 6 := hji
            clear hji
            go_wp2_with fail
            go_meet
            refine ⟨rfl, ?_⟩
            rw [HT.out]
            exact (H2.out.set1 _).alloc _
        · go_wp2_with fail
          go_meet
          exact ⟨rfl, H2.out.set1 _⟩
        · go_wp2_with fail
          go_meet
          exact ⟨rfl, H2.out.set1 _⟩
        · go_wp2_with fail
          go_meet
          exact ⟨rfl, H2.out.set1 _⟩
        · have HM := Lib.hid (show manyE 24 x2 = x2 / 8 % 3 from rfl)
          have hm : ((x2 / 8 % 3 : Nat) : Int) = (x2 : Int) / 8 % 3 := by omega
          have HMI := Lib.hid hm
          have hm0 : (0 : Int) ≤ (x2 : Int) / 8 := by omega
          clear hm
          go_wp2_with fail
          go_meet
          exact ⟨by rw [HM.out, HMI.out], H2.out⟩
        · obtain ⟨j, hj⟩ : ∃ j, x2 % 5 = j := ⟨_, rfl⟩
          have hjn : j < 5 := by omega
          have HT := Lib.hid (show textE 20 x2 = numsL.getD j [] by rw [← hj]; rfl)
          have hji : (x2 : Int) % 5 = (j : Int) := by omega
          clear hj
          match j, hjn with
          | 0, _ =>
            have e : (x2 : Int) % 5 = 0 := hji
            clear hji
            go_wp2_with fail
            go_meet
            refine ⟨rfl, ?_⟩
            rw [HT.out]
            exact (H2.out.set1 _).alloc _
          | 1, _ =>
            have e : (x2 : Int) % 5 = 1 := hji
            clear hji
            go_wp2_with fail
            go_meet
            refine ⟨rfl, ?_⟩
            rw [HT.out]
            exact (H2.out.set1 _).alloc _
          | 2, _ =>
            have e : (x2 : Int) % 5 = 2 := hji
            clear hji
            go_wp2_with fail
            go_meet
            refine ⟨rfl, ?_⟩
            rw [HT.out]
            exact (H2.out.set1 _).alloc _
          | 3, _ =>
            have e : (x2 : Int) % 5 = 3 := hji
            clear hji
            go_wp2_with fail
            go_meet
            refine ⟨rfl, ?_⟩
            rw [HT.out]
            exact (H2.out.set1 _).alloc _
          | 4, _ =>
            have e : (x2 : Int) % 5 = 4 := hji
            clear hji
            go_wp2_with fail
            go_meet
            refine ⟨rfl, ?_⟩
            rw [HT.out]
            exact (H2.out.set1 _).alloc _
        · obtain ⟨j, hj⟩ : ∃ j, x2 % 5 = j := ⟨_, rfl⟩
          have hjn : j < 5 := by omega
          have HT := Lib.hid (show textE 21 x2 = strsL.getD j [] by rw [← hj]; rfl)
          have hji : (x2 : Int) % 5 = (j : Int) := by omega
          clear hj
          match j, hjn with
          | 0, _ =>
            have e : (x2 : Int) % 5 = 0 := hji
            clear hji
            go_wp2_with fail
            go_meet
            refine ⟨rfl, ?_⟩
            rw [HT.out]
            exact (H2.out.set1 _).alloc _
          | 1, _ =>
            have e : (x2 : Int) % 5 = 1 := hji
            clear hji
            go_wp2_with fail
            go_meet
            refine ⟨rfl, ?_⟩
            rw [HT.out]
            exact (H2.out.set1 _).alloc _
          | 2, _ =>
            have e : (x2 : Int) % 5 = 2 := hji
            clear hji
            go_wp2_with fail
            go_meet
            refine ⟨rfl, ?_⟩
            rw [HT.out]
            exact (H2.out.set1 _).alloc _
          | 3, _ =>
            have e : (x2 : Int) % 5 = 3 := hji
            clear hji
            go_wp2_with fail
            go_meet
            refine ⟨rfl, ?_⟩
            rw [HT.out]
            exact (H2.out.set1 _).alloc _
          | 4, _ =>
            have e : (x2 : Int) % 5 = 4 := hji
            clear hji
            go_wp2_with fail
            go_meet
            refine ⟨rfl, ?_⟩
            rw [HT.out]
            exact (H2.out.set1 _).alloc _
        · obtain ⟨j, hj⟩ : ∃ j, x2 % 2 = j := ⟨_, rfl⟩
          have hjn : j < 2 := by omega
          have HT := Lib.hid (show textE 22 x2 = boolsL.getD j [] by rw [← hj]; rfl)
          have hji : (x2 : Int) % 2 = (j : Int) := by omega
          clear hj
          match j, hjn with
          | 0, _ =>
            have e : (x2 : Int) % 2 = 0 := hji
            clear hji
            go_wp2_with fail
            go_meet
            refine ⟨rfl, ?_⟩
            rw [HT.out]
            exact (H2.out.set1 _).alloc _
          | 1, _ =>
            have e : (x2 : Int) % 2 = 1 := hji
            clear hji
            go_wp2_with fail
            go_meet
            refine ⟨rfl, ?_⟩
            rw [HT.out]
            exact (H2.out.set1 _).alloc _
        · go_wp2_with fail
          go_meet
          exact ⟨rfl, H2.out⟩
      case rest =>
        obtain ⟨hm, hcut⟩ := hcut
        have H4 := Lib.hid hcut
        have hM := manyE_le K x2
        have HMI := Lib.hid (show d = 0 → manyE K x2 = 0 from HM0.out)
        clear hcut H2 H3 HM0 b0 b1 b2 b3 z0 z1 z2 z3 r0 r1 r2 r3 q0 q1 q2 q3 t0 t1 hs0 hs1
        generalize textE K x2 = T at *
        subst hm
        generalize manyE K x2 = M at *
        go_wp2_with fail
        go_loopw [81] (fun i wr => ∃ (q : Nat) (kv : Value), i = .int .i64 q ∧ q ≤ M ∧ Gst w wr N gb sb nb (x1, x2) K ⟨T.toArray⟩ kv (kidsP (exprP (d - 1)) q r).2 ∧ OwnTs 26 wr (nb + 1) kv (kidsP (exprP (d - 1)) q r).1) (fun i _ => M - (intOf i).toNat)
        case atStart => exact ⟨0, _, rfl, Nat.zero_le _, H4.out, OwnTs.nil _ _ _⟩
        case round =>
          obtain ⟨q, kv, rfl, hq, hst, how⟩ := hrel
          have hkl := kidsP_cnt (f := exprP (d - 1)) q r
          have HKL := Lib.hid hkl
          obtain ⟨ak, ck, hkv⟩ := how.shape
          rw [hkl] at hkv
          subst hkv
          have HST := Lib.hid hst
          have HOW := Lib.hid how
          clear hst how hkl
          obtain ⟨r0, r1, r2, r3, q0, q1, q2, q3⟩ := box4 HST.out.res
          obtain ⟨b0, b1, b2, b3, z0, z1, z2, z3⟩ := box4 HST.out.node
          have hs0 := HST.out.lt3
          have hs1 := Nat.lt_trans HST.out.lt2 HST.out.lt3
          by_cases hlt2 : q < M
          · have hd0 : 0 < d := by
              rcases Nat.eq_zero_or_pos d with h | h
              · have := HMI.out h; omega
              · exact h
            have HCC := Lib.hid (fun W l' (hW : GAt W N gb l') => HCall.out hd0 W N gb l' (di - 1) hW (by have := HDI.out; omega))
            have HK1 := Lib.hid (show kidsP (exprP (d - 1)) (q + 1) r = ((kidsP (exprP (d - 1)) q r).1 ++ [(exprP (d - 1) (kidsP (exprP (d - 1)) q r).2).1], (exprP (d - 1) (kidsP (exprP (d - 1)) q r).2).2) from rfl)
            have hlti : (q : Int) < (M : Int) := by omega
            have HLT := Lib.hid (show ((kidsP (exprP (d - 1)) q r).1 ++ [(exprP (d - 1) (kidsP (exprP (d - 1)) q r).2).1]).length = (kidsP (exprP (d - 1)) q r).1.length + 1 by rw [List.length_append]; rfl)
            have hwr : IntKind.i64.wrap (di - 1) = di - 1 := IntWalk.i64_in _ (by omega)
            clear hd0
            generalize kidsP (exprP (d - 1)) q r = KS at *
            obtain ⟨K1, K2⟩ := KS
            dsimp only at *
            go_upto_region 26 with fail
            go_region_law (first | (go_simp; go_at_call 54; (with_reducible refine (HCC.out wr.drew K2 HST.out.g.drew).mono ?_); rintro e w1 ⟨⟨v1, rfl, ht1⟩, hg1, ho1⟩; obtain ⟨k1, xx1, a1, m1, c1, l1, rfl⟩ := isT_shape ht1; have HT1 := Lib.hid ht1; have HG1 := Lib.hid hg1; have HO1 := Lib.hid ho1.of_drew; have HN1 := Lib.hid (HO1.out.keep HST.out.node (by have h1 := HST.out.pl; have h2 := HST.out.lt1; have h3 := HST.out.lt2; omega)); obtain ⟨b0, b1, b2, b3, z0, z1, z2, z3⟩ := box4 HN1.out; have hln := block_lt HN1.out; clear ht1 hg1 ho1) | (refine step_appR rfl (.tmp 84) (.tmp 89) rfl (nb + 1) _ K1 rfl (HOW.out.only HO1.out (by have h1 := HST.out.pl; have h2 := HST.out.lt1; have h3 := HST.out.lt2; omega)) (exprP (d - 1) K2).1 _ _ _ _ rfl (New w1 wr.drew.heap.size) HT1.out (fun k hk => ⟨by have h1 := hk.1; have h2 : wr.drew.heap.size = wr.heap.size := rfl; have h3 := HST.out.lt3; omega, hk.2, fun e => by have h1 := (HOW.out.lt k e).2; have h2 := hk.1; have h3 : wr.drew.heap.size = wr.heap.size := rfl; omega⟩) (by have h1 := HKL.out; omega) (by have h1 := HO1.out.size; have h3 := HST.out.lt3; omega) ?_; intro v2 w2 ho2 hb2 hk2; have HO2 := Lib.hid ho2; have HG2 := Lib.hid (HG1.out.grown (HOW.out.only HO1.out (by have h1 := HST.out.pl; have h2 := HST.out.lt1; have h3 := HST.out.lt2; omega)) (by have h0 := HNG.out; have h1 := HST.out.pl; have h2 := HST.out.lt1; have h3 := HST.out.lt2; omega) (by have h1 := HST.out.pl; have h2 := HST.out.lt1; have h3 := HST.out.lt2; omega) hk2); obtain ⟨a2, c2, rfl⟩ := ho2.shape; have HB2 := Lib.hid hb2; have HN2 := Lib.hid ((hk2 _ hln (fun e => by have h1 := (HOW.out.lt _ e).1; omega)).trans HN1.out); obtain ⟨b0, b1, b2, b3, z0, z1, z2, z3⟩ := box4 HN2.out; clear ho2 hb2 hk2))
            all_goals
              go_wp2_with fail
              go_roundw
              case rel =>
                have hst2 : Gst w w2 N gb sb nb (x1, x2) K ⟨T.toArray⟩ (.slice ak q ck) (exprP (d - 1) K2).2 := Gst.app (HST.out.call HO1.out HG1.out) HB2.out HG2.out
                have hst3 := hst2.set2 (u := .slice a2 (K1.length + 1) c2) ⟨_, _, _, rfl⟩
                have how3 := (HO2.out.only (pb := nb) (Only.set (k := 2) (u := .slice a2 (K1.length + 1) c2)) (Nat.lt_succ_self _))
                rw [HLT.out] at how3
                exact ⟨q + 1, _, by go_num, by omega, by rw [HK1.out]; exact hst3, by rw [HK1.out]; exact how3⟩
              case measure => simp [intOf]; omega
          · have hq2 : q = M := by omega
            subst hq2
            have HQ := HR
            go_wp2_with fail
            refine bodyPost_ret (v := .agg #[.int .i64 K, .string ⟨T.toArray⟩, .slice ak q ck, .int .i64 0]) (by simp [results, Tryd.results54, go_sem, r0, r1, r2, r3, q0, q1, q2, q3]) rfl ?_
            rw [← HQ.out]
            exact HST.out.done rfl HOW.out.kids (by have h1 := HST.out.lt1; have h2 := HST.out.lt2; omega) (Only.set4 _ _ _ _ _ _)
theorem gex_any : ∀ d, d ≤ 100 → GexC d
  | 0, h => gex_con 0 (fun h => absurd h (by decide)) h
  | d + 1, h => gex_con (d + 1) (fun _ => gex_any d (by omega)) h
end Go.Proofs.YtogkiifljdnjgaaDoor

/- The walk of Grow's list. Condition: the statements' contract. -/
namespace Go.Proofs.YtogkiifljdnjgaaDoor
open Go.RowKit
set_option linter.unusedVariables false
set_option linter.unusedSimpArgs false

def PostL (w w' : World) (N gb : Nat) (r : List Tree × List SeedP) (e : Ending) : Prop := (∃ v, e = .returned v ∧ IsKids w' (New w' w.heap.size) r.1 v) ∧ GAt w' N gb r.2 ∧ Only gb w w'
def GstC (d : Nat) : Prop := ∀ (w : World) (N gb : Nat) (l : List SeedP) (di : Int), GAt w N gb l → di = (d : Int) → Calls Tryd.prog 40 #[.pointer (some ⟨gb, 0, none⟩), .int .i64 di] w fun e w' => PostG w w' N gb (stmtP d l) e
def GliC (d : Nat) : Prop := ∀ (w : World) (N gb : Nat) (l : List SeedP) (m : Nat) (di : Int), GAt w N gb l → m ≤ 100 → di = (d : Int) → Calls Tryd.prog 24 #[.pointer (some ⟨gb, 0, none⟩), .int .i64 (m : Int), .int .i64 di] w fun e w' => PostL w w' N gb (listP (stmtP d) m l) e
theorem GAt.cell {w : World} {N gb : Nat} {l : List SeedP} (h : GAt w N gb l) : ∃ a cap, w.heap[gb]? = some (.cells #[.slice a l.length cap] 57 (0, 0)) := by
  obtain ⟨_, _, v, h1, _, h2⟩ := h
  rcases h2 with ⟨rfl, a, cap, rfl, _⟩ | ⟨_, b, off, cap, rfl, _⟩
  · exact ⟨a, cap, h1⟩
  · exact ⟨_, cap, h1⟩
set_option maxRecDepth 20000 in
set_option maxHeartbeats 4000000 in
theorem gli_con (d : Nat) (HC : GstC d) : GliC d := by
  intro w N gb l m di hg hm hdi
  have hlt := hg.lt
  have HG := Lib.hid hg
  have HDI := Lib.hid hdi
  have HCall := Lib.hid HC
  have HNG := Lib.hid (show N ≤ gb from hg.2.1)
  have hmi : (m : Int) ≤ 100 := by omega
  have hm0 : (0 : Int) ≤ (m : Int) := by omega
  obtain ⟨R, hR⟩ : ∃ R, listP (stmtP d) m l = R := ⟨_, rfl⟩
  rw [hR]
  have HR := Lib.hid hR
  clear hg hdi HC hR
  go_enter Tryd.func24, Tryd.ntmps24
  go_wp2_with fail
  go_loopw [7, 9] (fun x i wr => ∃ q : Nat, i = .int .i64 q ∧ q ≤ m ∧ OwnTs 26 wr w.heap.size x (listP (stmtP d) q l).1 ∧ GAt wr N gb (listP (stmtP d) q l).2 ∧ Only gb w wr) (fun _ i _ => m - (intOf i).toNat)
  case atStart => exact ⟨0, rfl, Nat.zero_le _, OwnTs.nil _ _ _, HG.out, Only.refl _ _⟩
  case round =>
    obtain ⟨q, rfl, hq, how, hg, hon⟩ := hrel
    have HL := Lib.hid (listP_cnt (f := stmtP d) q l)
    have HK1 := Lib.hid (show listP (stmtP d) (q + 1) l = if (listP (stmtP d) q l).2 = [] then listP (stmtP d) q l else ((listP (stmtP d) q l).1 ++ [(stmtP d (listP (stmtP d) q l).2).1], (stmtP d (listP (stmtP d) q l).2).2) from rfl)
    by_cases hlt2 : q < m
    · have hlti : (q : Int) < (m : Int) := by omega
      generalize listP (stmtP d) q l = KS at *
      obtain ⟨K1, K2⟩ := KS
      dsimp only at *
      obtain ⟨ak, ck, rfl⟩ := how.shape
      have HOW := Lib.hid how
      have HGW := Lib.hid hg
      have HON := Lib.hid hon
      obtain ⟨ga, gc, hgc⟩ := hg.cell
      have p0 : wr.cell? ⟨gb, 0, none⟩ = some (.slice ga K2.length gc) := by simp [World.cell?, hgc]
      have hl2 : K2.length ≤ 200 := hg.1
      clear how hg hon hgc
      by_cases hk : K2 = []
      · have HE := Lib.hid (show listP (stmtP d) (q + 1) l = (K1, K2) by rw [HK1.out, if_pos hk])
        rw [show K2.length = 0 by rw [hk]; rfl] at p0
        go_wp2_with fail
        go_roundw
        case rel => exact ⟨q + 1, by go_num, by omega, by rw [HE.out]; exact HOW.out, by rw [HE.out]; exact HGW.out, HON.out⟩
        case measure => simp [intOf]; omega
      · have HE := Lib.hid (show listP (stmtP d) (q + 1) l = (K1 ++ [(stmtP d K2).1], (stmtP d K2).2) by rw [HK1.out, if_neg hk])
        have hkl : (0 : Int) < (K2.length : Int) := by have := List.length_pos_iff.2 hk; omega
        have HCC := Lib.hid (fun W (hW : GAt W N gb K2) => HCall.out W N gb K2 di hW HDI.out)
        clear hk
        go_wp2_with (first | (go_at_call 40; (with_reducible refine (HCC.out _ HGW.out).mono ?_); rintro e w1 ⟨⟨v1, rfl, ht1⟩, hg1, ho1⟩; obtain ⟨k1, xx1, a1, m1, c1, l1, rfl⟩ := isT_shape ht1; have HT1 := Lib.hid ht1; have HG1 := Lib.hid hg1; have HO1 := Lib.hid ho1; have HOW1 := Lib.hid (HOW.out.only ho1 (by omega)); clear ht1 hg1 ho1) | (at_builtin; refine wpList_appR rfl (.tmp 17) (.tmp 21) rfl w.heap.size _ K1 rfl HOW1.out (stmtP d K2).1 _ _ _ _ rfl (New w1 wr.heap.size) HT1.out (fun k hk => ⟨by have h1 := hk.1; have h2 := HON.out.size; omega, hk.2, fun e => by have h1 := (HOW.out.lt k e).2; have h2 := hk.1; omega⟩) (by have h1 := HL.out; omega) (by have h1 := HON.out.size; have h2 := HO1.out.size; omega) ?_; intro v2 w2 ho2 hb2 hk2; have HO2 := Lib.hid ho2; have HB2 := Lib.hid hb2; have HG2 := Lib.hid (HG1.out.grown HOW1.out (by have h1 := HNG.out; omega) hlt hk2); clear ho2 hb2 hk2))
        go_roundw
        case rel => exact ⟨q + 1, by go_num, by omega, by rw [HE.out]; exact HO2.out, by rw [HE.out]; exact HG2.out, (HON.out.trans HO1.out).bel2 HB2.out⟩
        case measure => simp [intOf]; omega
    · have hq2 : q = m := by omega
      subst hq2
      rw [HR.out] at how hg
      obtain ⟨ak, ck, rfl⟩ := how.shape
      have HOW := Lib.hid how
      have HGW := Lib.hid hg
      have HON := Lib.hid hon
      clear how hg hon
      go_wp2_with fail
      go_ret
      exact ⟨⟨_, rfl, HOW.out.kids⟩, HGW.out, HON.out⟩
end Go.Proofs.YtogkiifljdnjgaaDoor

/- The walk of Grow's statement, for all kinds but If. Condition: a list's length. -/
namespace Go.Proofs.YtogkiifljdnjgaaDoor
open Go.RowKit
set_option linter.unusedVariables false
set_option linter.unusedSimpArgs false

theorem stmtP_simple (d : Nat) (l : List SeedP) (h : stmtK (takeP l).1 ≠ 2) : stmtP d l = simpleP (stmtK (takeP l).1) (takeP l).1.2 (takeP l).2 := by
  cases d with
  | zero => rw [stmtP, if_neg h]
  | succ d => rw [stmtP, if_neg h]
set_option maxRecDepth 20000 in
set_option maxHeartbeats 8000000 in
theorem gsimple (d : Nat) (hd4 : d ≤ 100) : ∀ (w : World) (N gb : Nat) (l : List SeedP) (di : Int), GAt w N gb l → di = (d : Int) → stmtK (takeP l).1 ≠ 2 → Calls Tryd.prog 40 #[.pointer (some ⟨gb, 0, none⟩), .int .i64 di] w fun e w' => PostG w w' N gb (stmtP d l) e := by
  intro w N gb l di hg hdi hk2
  rw [stmtP_simple d l hk2]
  obtain ⟨R, hR⟩ : ∃ R, simpleP (stmtK (takeP l).1) (takeP l).1.2 (takeP l).2 = R := ⟨_, rfl⟩
  rw [hR]
  have hsk : stmtK (takeP l).1 = 2 + ((takeP l).1.1 : Int) % 10 := by unfold stmtK; omega
  rw [hsk] at hR hk2
  have HR := Lib.hid hR
  have HK2 := Lib.hid hk2
  clear hR hk2 hsk
  have hlt := hg.lt
  have hdi1 : di ≤ 100 := by omega
  have hdi0 : (0 : Int) ≤ di := by omega
  have HG := Lib.hid hg
  have HDI := Lib.hid hdi
  obtain ⟨hb1, hb2⟩ := hg.bnd
  have HB2 := Lib.hid hb2
  have HNG := Lib.hid (show N ≤ gb from hg.2.1)
  have hpw : ¬ gb = w.heap.size := by omega
  have hpw2 : ¬ w.heap.size = gb := by omega
  have hy1 : (0 : Int) ≤ ((takeP l).1.1 : Int) := by omega
  have hy2 : ((takeP l).1.1 : Int) < 256 := by omega
  clear hg hdi
  go_enter Tryd.func40, Tryd.ntmps40
  go_upto_region 3 with (go_at_call 53; (with_reducible refine (take_any _ N gb l (HG.out.step (bel_new _ _))).mono ?_); rintro e w1 ⟨rfl, hg1, ho1⟩; have HG1 := Lib.hid hg1; have HO1 := Lib.hid ((Only.of_below (b := gb) (bel_new w (.cells #[.int .i64 0, .string ⟨#[]⟩, .slice none 0 0, .int .i64 0] 26))).trans ho1); have HR1 := Lib.hid (ho1.keep (heap_alloc_new w (.cells #[.int .i64 0, .string ⟨#[]⟩, .slice none 0 0, .int .i64 0] 26)) hpw2); clear hg1 ho1)
  have hz0 : w.heap.size < w1.heap.size := block_lt HR1.out
  have H0 : Hid (Gst w ((w1.alloc (.cells #[.int .u8 ((takeP l).1.1 : Int), .int .u8 ((takeP l).1.2 : Int)] 82)).alloc (.cells #[.int .i64 (2 + ((takeP l).1.1 : Int) % 10), .string ⟨#[]⟩, .slice none 0 0, .int .i64 0] 26)) N gb w1.heap.size (w1.heap.size + 1) (takeP l).1 (2 + ((takeP l).1.1 : Int) % 10) ⟨#[]⟩ (.slice none 0 0) (takeP l).2) :=
    Lib.hid ⟨hz0, Nat.lt_succ_self _, by simp, hlt, new_blk (new_blk HR1.out), new_blk (heap_alloc_new w1 _), by have h := heap_alloc_new (w1.alloc (.cells #[.int .u8 ((takeP l).1.1 : Int), .int .u8 ((takeP l).1.2 : Int)] 82)) (.cells #[.int .i64 (2 + ((takeP l).1.1 : Int) % 10), .string ⟨#[]⟩, .slice none 0 0, .int .i64 0] 26); simpa using h, ⟨_, _, _, rfl⟩, (HG1.out.step (bel_new _ _)).step (bel_new _ _), HO1.out.alloc.alloc⟩
  clear HG1 HO1 HR1 hz0
  generalize World.alloc (World.alloc w1 _) _ = W0 at *
  generalize w1.heap.size + 1 = nb at *
  generalize w1.heap.size = sb at *
  generalize hx : (takeP l).1 = x at *
  generalize hr : (takeP l).2 = r at *
  clear hx hr
  obtain ⟨x1, x2⟩ := x
  dsimp only at *
  have n1 : ¬ w.heap.size = nb := by have h1 := H0.out.lt1; have h2 := H0.out.lt2; omega
  have n2 : ¬ nb = w.heap.size := by omega
  have n3 : ¬ w.heap.size = sb := by have h1 := H0.out.lt1; omega
  have n4 : ¬ sb = w.heap.size := by omega
  have n5 : ¬ nb = sb := by have h2 := H0.out.lt2; omega
  have n6 : ¬ sb = nb := by omega
  have hx2 : (0 : Int) ≤ (x2 : Int) := by omega
  have hx4 : (x2 : Int) < 256 := by omega
  obtain ⟨r0, r1, r2, r3, q0, q1, q2, q3⟩ := box4 H0.out.res
  obtain ⟨b0, b1, b2, b3, z0, z1, z2, z3⟩ := box4 H0.out.node
  obtain ⟨t0, t1⟩ := box2 H0.out.seed
  have hs0 := H0.out.lt3
  have hs1 := Nat.lt_trans H0.out.lt2 H0.out.lt3
  have hKr : 3 ≤ 2 + (x1 : Int) % 10 ∧ 2 + (x1 : Int) % 10 ≤ 11 := by have := HK2.out; omega
  generalize 2 + (x1 : Int) % 10 = K at *
  have HKR := Lib.hid hKr
  clear hKr
  go_upto_block 0 with fail
  go_cut [] (fun wx => Gst w wx N gb sb nb (x1, x2) K ⟨(textS K x2).toArray⟩ (.slice none 0 0) r)
  case first =>
    have hc : K = 3 ∨ K = 4 ∨ K = 5 ∨ K = 6 ∨ K = 7 ∨ K = 8 ∨ K = 9 ∨ K = 10 ∨ K = 11 := by have := HKR.out; omega
    rcases hc with rfl | rfl | rfl | rfl | rfl | rfl | rfl | rfl | rfl
    · go_wp2_with (go_at_call 55; (with_reducible refine (word_any _ HB2.out _).mono ?_); rintro e w2 ⟨rfl, hb2⟩; have H2 := Lib.hid (H0.out.step hb2); obtain ⟨b0, b1, b2, b3, z0, z1, z2, z3⟩ := box4 H2.out.node; clear hb2)
      go_meet
      exact H2.out.set1 _
    · obtain ⟨j, hj⟩ : ∃ j, x2 % 2 = j := ⟨_, rfl⟩
      have hjn : j < 2 := by omega
      have HT := Lib.hid (show textS 4 x2 = setsL.getD j [] by rw [← hj]; rfl)
      have hji : (x2 : Int) % 2 = (j : Int) := by omega
      clear hj
      match j, hjn with
      | 0, _ =>
        have e : (x2 : Int) % 2 = 0 := hji
        clear hji
        go_wp2_with fail
        go_meet
        rw [HT.out]
        exact (H0.out.set1 _).alloc _
      | 1, _ =>
        have e : (x2 : Int) % 2 = 1 := hji
        clear hji
        go_wp2_with fail
        go_meet
        rw [HT.out]
        exact (H0.out.set1 _).alloc _
    · obtain ⟨j, hj⟩ : ∃ j, x2 % 3 = j := ⟨_, rfl⟩
      have hjn : j < 3 := by omega
      have HT := Lib.hid (show textS 5 x2 = hdrsL.getD j [] by rw [← hj]; rfl)
      have hji : (x2 : Int) % 3 = (j : Int) := by omega
      clear hj
      match j, hjn with
      | 0, _ =>
        have e : (x2 : Int) % 3 = 0 := hji
        clear hji
        go_wp2_with fail
        go_meet
        rw [HT.out]
        exact (H0.out.set1 _).alloc _
      | 1, _ =>
        have e : (x2 : Int) % 3 = 1 := hji
        clear hji
        go_wp2_with fail
        go_meet
        rw [HT.out]
        exact (H0.out.set1 _).alloc _
      | 2, _ =>
        have e : (x2 : Int) % 3 = 2 := hji
        clear hji
        go_wp2_with fail
        go_meet
        rw [HT.out]
        exact (H0.out.set1 _).alloc _
    · obtain ⟨j, hj⟩ : ∃ j, x2 % 3 = j := ⟨_, rfl⟩
      have hjn : j < 3 := by omega
      have HT := Lib.hid (show textS 6 x2 = hdrsL.getD j [] by rw [← hj]; rfl)
      have hji : (x2 : Int) % 3 = (j : Int) := by omega
      clear hj
      match j, hjn with
      | 0, _ =>
        have e : (x2 : Int) % 3 = 0 := hji
        clear hji
        go_wp2_with fail
        go_meet
        rw [HT.out]
        exact (H0.out.set1 _).alloc _
      | 1, _ =>
        have e : (x2 : Int) % 3 = 1 := hji
        clear hji
        go_wp2_with fail
        go_meet
        rw [HT.out]
        exact (H0.out.set1 _).alloc _
      | 2, _ =>
        have e : (x2 : Int) % 3 = 2 := hji
        clear hji
        go_wp2_with fail
        go_meet
        rw [HT.out]
        exact (H0.out.set1 _).alloc _
    · go_wp2_with fail
      go_meet
      exact H0.out
    · go_wp2_with fail
      go_meet
      exact H0.out
    · go_wp2_with fail
      go_meet
      exact H0.out
    · go_wp2_with fail
      go_meet
      exact H0.out
    · go_wp2_with fail
      go_meet
      exact H0.out
  case rest =>
    have H4 := Lib.hid hcut
    clear hcut H0 b0 b1 b2 b3 z0 z1 z2 z3 r0 r1 r2 r3 q0 q1 q2 q3 t0 t1 hs0 hs1
    obtain ⟨r0, r1, r2, r3, q0, q1, q2, q3⟩ := box4 H4.out.res
    obtain ⟨b0, b1, b2, b3, z0, z1, z2, z3⟩ := box4 H4.out.node
    have hs0 := H4.out.lt3
    by_cases hz : K = 6 ∨ K = 10 ∨ K = 11
    · have HQ := Lib.hid (show (Tree.node K (textS K x2) [] 0, r) = R by rw [← HR.out]; unfold simpleP; rw [if_neg (by omega)])
      clear HR HK2 HKR
      generalize textS K x2 = T at *
      rcases hz with rfl | rfl | rfl
      all_goals
        go_wp2_with fail
        refine bodyPost_ret (by simp [results, Tryd.results40, go_sem, r0, r1, r2, r3, q0, q1, q2, q3]; rfl) rfl ?_
        rw [← HQ.out]
        exact H4.out.done (B := nb) rfl (IsKids.nil _ _) (by have h1 := H4.out.lt1; have h2 := H4.out.lt2; omega) (Only.set4 _ _ _ _ _ _)
    · have e6 : (K != 6) = true := by simp; omega
      have e10 : (K != 10) = true := by simp; omega
      have e11 : (K != 11) = true := by simp; omega
      have HQ := Lib.hid (show (Tree.node K (textS K x2) [(exprP 4 r).1] 0, (exprP 4 r).2) = R by rw [← HR.out]; unfold simpleP; rw [if_pos (by omega)])
      have HCC := Lib.hid (fun W (hW : GAt W N gb r) => gex_any 4 (by decide) W N gb r 4 hW rfl)
      clear HR HK2 HKR hz
      generalize textS K x2 = T at *
      generalize exprP 4 r = E at *
      go_upto_region 24 with fail
      go_region_law (first | (go_simp; go_at_call 54; (with_reducible refine (HCC.out wc.drew H4.out.g.drew).mono ?_); rintro e w1 ⟨⟨v1, rfl, ht1⟩, hg1, ho1⟩; obtain ⟨k1, xx1, a1, m1, c1, l1, rfl⟩ := isT_shape ht1; have HT1 := Lib.hid ht1; have HO1 := Lib.hid ho1.of_drew; have H5 := Lib.hid (H4.out.call HO1.out hg1); obtain ⟨b0, b1, b2, b3, z0, z1, z2, z3⟩ := box4 H5.out.node; have hln := H5.out.lt3; clear ht1 hg1 ho1) | (refine step_appR rfl (.tmp 135) (.tmp 138) rfl (nb + 1) _ [] rfl (OwnTs.nil _ _ _) E.1 _ _ _ _ rfl (New w1 wc.drew.heap.size) HT1.out (fun k hk => ⟨by have h1 := hk.1; have h2 : wc.drew.heap.size = wc.heap.size := rfl; omega, hk.2, fun e => by cases e⟩) (by simp) (by omega) ?_; intro v2 w2 ho2 hb2 hk2; have HO2 := Lib.hid ho2; obtain ⟨a2, c2, rfl⟩ := ho2.shape; have H6 := Lib.hid (H5.out.app hb2 (H5.out.g.grown (OwnTs.nil 26 w1 (nb + 1)) (by have h0 := HNG.out; have h1 := H4.out.lt1; have h2 := H4.out.lt2; omega) (by have h1 := H4.out.lt1; have h2 := H4.out.lt2; omega) hk2)); obtain ⟨b0, b1, b2, b3, z0, z1, z2, z3⟩ := box4 H6.out.node; obtain ⟨r0, r1, r2, r3, q0, q1, q2, q3⟩ := box4 H6.out.res; clear ho2 hb2 hk2))
      all_goals
        go_wp2_with fail
        refine bodyPost_ret (v := .agg #[.int .i64 K, .string ⟨T.toArray⟩, .slice a2 1 c2, .int .i64 0]) (by simp [results, Tryd.results40, go_sem, r0, r1, r2, r3, q0, q1, q2, q3]) rfl ?_
        rw [← HQ.out]
        exact (H6.out.set2 (u := .slice a2 1 c2) ⟨_, _, _, rfl⟩).done rfl ((HO2.out.only (pb := nb) Only.set (Nat.lt_succ_self _)).kids) (by have h1 := H4.out.lt1; have h2 := H4.out.lt2; omega) (Only.set4 _ _ _ _ _ _)
end Go.Proofs.YtogkiifljdnjgaaDoor

/- append of seeds; a row of two trees. No condition beyond the sizes. -/
namespace Go.Proofs.YtogkiifljdnjgaaDoor
open Go.RowKit
set_option linter.unusedVariables false
set_option linter.unusedSimpArgs false

theorem OwnTs.two {T : TypeId} {w : World} {base : Nat} {F : Nat → Prop} {t u : Tree} {a b c d e f g h : Value} (ht : IsT w F t (.agg #[a, b, c, d])) (hu : IsT w F u (.agg #[e, f, g, h]))
    (hF : ∀ k, F k → base ≤ k ∧ k < w.heap.size) (hb : base ≤ w.heap.size) : OwnTs T (w.alloc (.cells #[a, b, c, d, e, f, g, h] T)) base (.slice (some ⟨w.heap.size, 0, none⟩) 2 2) [t, u] := by
  have hbn := bel_new w (.cells #[a, b, c, d, e, f, g, h] T)
  refine ⟨F, [a, b, c, d, e, f, g, h], ⟨rfl, .inr ⟨w.heap.size, 2, #[a, b, c, d, e, f, g, h], rfl, hb, heap_alloc_new w _, Nat.le_refl _, by decide, rfl, rfl⟩⟩, fun k hk => ⟨(hF k hk).1, by have := (hF k hk).2; simp; omega, fun e => by have := (hF k hk).2; simp [Value.ownBlock] at e; omega⟩, ?_⟩
  exact ⟨a, b, c, d, [e, f, g, h], rfl, ht.step hbn, e, f, g, h, [], rfl, hu.step hbn, rfl⟩
theorem isT_kind {w : World} {F : Nat → Prop} {t : Tree} {k : Int} {b c d : Value} (h : IsT w F t (.agg #[.int .i64 k, b, c, d])) : k = t.kind := by
  obtain ⟨k', tx, ks, l⟩ := t
  obtain ⟨kv, he, _⟩ := isT_node.1 h
  simp only [Value.agg.injEq, Array.mk.injEq, List.cons.injEq, Value.int.injEq, and_true, true_and] at he
  exact he.1
theorem infoS : (Tryd.prog.info? 82).map (fun i => (i.zero, i.size, i.bytes)) = some (some (.agg #[.int .u8 0, .int .u8 0]), 2, 2) := by kernel_rfl
theorem undS : Tryd.prog.underlying 22 = some (.slice 82) := by kernel_rfl
def seedC (l : List SeedP) : List Value := l.flatMap fun s => [.int .u8 (s.1 : Int), .int .u8 (s.2 : Int)]
theorem seedC_len : ∀ l : List SeedP, (seedC l).length = l.length * 2
  | [] => rfl
  | s :: l => by
    have := seedC_len l
    simp only [seedC, List.flatMap_cons, List.length_append, List.length_cons, List.length_nil] at this ⊢
    omega
theorem seedC_at : ∀ (l : List SeedP) (i : Nat) (s : SeedP), l[i]? = some s → (seedC l)[i * 2]? = some (.int .u8 (s.1 : Int)) ∧ (seedC l)[i * 2 + 1]? = some (.int .u8 (s.2 : Int))
  | a :: l, 0, s, h => by
    simp at h
    subst h
    exact ⟨rfl, rfl⟩
  | a :: l, i + 1, s, h => by
    have := seedC_at l i s (by simpa using h)
    simp only [seedC, List.flatMap_cons, List.cons_append, List.nil_append]
    rw [show (i + 1) * 2 = i * 2 + 1 + 1 by omega]
    simpa [seedC] using this
theorem seedC_cell {w : World} {b off : Nat} {l : List SeedP} (h : ∀ i s, l[i]? = some s → w.cell? ⟨b, off + i * 2, none⟩ = some (.int .u8 (s.1 : Int)) ∧ w.cell? ⟨b, off + i * 2 + 1, none⟩ = some (.int .u8 (s.2 : Int))) :
    ∀ j u, (seedC l)[j]? = some u → w.cell? ⟨b, off + j, none⟩ = some u := by
  intro j u hj
  have hlt : j < (seedC l).length := (List.getElem?_eq_some_iff.1 hj).1
  rw [seedC_len] at hlt
  have hi : l[j / 2]? = some l[j / 2] := List.getElem?_eq_getElem (by omega)
  obtain ⟨s0, s1⟩ := seedC_at l _ _ hi
  obtain ⟨c0, c1⟩ := h _ _ hi
  rcases Nat.mod_two_eq_zero_or_one j with hm | hm
  · rw [show j / 2 * 2 = j by omega] at s0 c0
    rw [s0] at hj
    rw [c0, ← hj]
  · rw [show j / 2 * 2 + 1 = j by omega] at s1
    rw [show off + j / 2 * 2 + 1 = off + j by omega] at c1
    rw [s1] at hj
    rw [c1, ← hj]
theorem seedC_one : ∀ (l : List SeedP), ∀ u ∈ seedC l, u.oneCell' = true := by
  intro l u hu
  obtain ⟨s, _, hs⟩ := List.mem_flatMap.1 hu
  simp at hs
  rcases hs with rfl | rfl <;> rfl
/-- append of the seeds that are left to a new row of one seed. -/
theorem step_appS {ops : Array Oper} {o : Oper} {A : Act} {K : Act → World → Prop} {Q : Exit → Act → World → Prop} {E : Prop} {w : World} (hgd : o.guard = none) (s x : Operand)
    (ho : o.op = .call { callee := .builtin .append, args := #[s, x], argTypes := #[22, 22] })
    (N gb y : Nat) (Y : Int) (hY : Y = (y : Int)) (hy : y < 256) (l : List SeedP) (sv : Value) (hs : A.eval s = .slice (some ⟨w.heap.size, 0, none⟩) 1 1) (hx : A.eval x = sv) (hS : IsS w N gb sv l) (hne : l ≠ []) (hl : l.length ≤ 200) (hgb : gb < w.heap.size) (hN : N ≤ gb)
    (h : ∀ g c w', IsS w' N gb (.slice (some ⟨g, 0, none⟩) (l.length + 1) c) ((0, y) :: l) → Below w.heap.size w w' → K (A.put o.dst (.slice (some ⟨g, 0, none⟩) (l.length + 1) c)) w') :
    if Region.wanted o (yielded ops A.tmps) = true then Oper.wp Tryd.prog o A (w.alloc (.cells #[.int .u8 0, .int .u8 Y] 82)).drew K Q else E := by
  have hw : Region.wanted o (yielded ops A.tmps) = true := by simp [Region.wanted, hgd]
  rw [if_pos hw]
  subst hY
  obtain ⟨hS0, hS1⟩ := hS
  rcases hS1 with ⟨e, _⟩ | ⟨_, b, off, cap, rfl, h1, h2, h3, h4, h5⟩
  · exact absurd e hne
  obtain ⟨i0, hi, hz0, hz1, hz2⟩ := info_parts infoS
  have hbn := (bel_new w (.cells #[.int .u8 0, .int .u8 (y : Int)] 82)).drew
  have hown : (w.alloc (.cells #[.int .u8 0, .int .u8 (y : Int)] 82)).drew.ownsRow w.heap.size 82 2 (.slice (some ⟨w.heap.size, 0, none⟩) 1 1) 1 (seedC [(0, y)]) :=
    ⟨rfl, .inr ⟨w.heap.size, 1, _, rfl, Nat.le_refl _, heap_alloc_new w _, Nat.le_refl _, by decide, rfl, rfl⟩⟩
  obtain ⟨v', w', hrun, r1, r2, r3, r4⟩ := run_append_own_at (P := Tryd.prog) (w.alloc (.cells #[.int .u8 0, .int .u8 (y : Int)] 82)).drew w.heap.size 22 o.type 82 i0 _ 2 2 undS hi hz0 hz1 hz2 rfl (by decide) _ 1 _ hown ⟨b, off, none⟩ l.length cap (seedC l) (seedC_len l) (fun j u hj => by
    have := keep_at hbn (seedC_cell h5 j u hj)
    by_cases h0 : j = 0
    · subst h0; simpa [Addr.add] using this
    · simpa [Addr.add, h0] using this) (seedC_one l) (by unfold maxLen; omega) (by omega) (by simp)
  have hcell : ∀ j u, (seedC ((0, y) :: l))[j]? = some u → ∃ g c, v' = .slice (some ⟨g, 0, none⟩) (1 + l.length) c ∧ w'.cell? ⟨g, j, none⟩ = some u := by
    intro j u hj
    have hj' : (seedC [(0, y)] ++ seedC l)[j]? = some u := by simpa [seedC] using hj
    obtain ⟨o0, o1⟩ := r1
    rcases o1 with ⟨_, e⟩ | ⟨g, c, cur, rfl, _, hg, _, _, _, ht⟩
    · omega
    · refine ⟨g, c, rfl, ?_⟩
      rw [← ht, List.getElem?_take] at hj'
      split at hj'
      · simp only [World.cell?, hg]
        simpa using hj'
      · cases hj'
  have hbw : Below w.heap.size w w' := by
    refine ⟨r2.os.trans hbn.os, r2.tape.trans hbn.tape, r2.output.trans hbn.output, Nat.le_trans hbn.size r2.size, fun k hk => (r2.block k (by simp; omega) (fun e => ?_)).trans (hbn.block k hk)⟩
    simp [Value.ownBlock] at e
    omega
  have hgt : ∃ g c cur, v' = .slice (some ⟨g, 0, none⟩) (1 + l.length) c ∧ w.heap.size ≤ g ∧ w'.heap[g]? = some (.cells cur 82 (0, 0)) ∧ 1 + l.length ≤ c ∧ c ≤ maxLen := by
    obtain ⟨o0, o1⟩ := r1
    rcases o1 with ⟨_, e⟩ | ⟨g, c, cur, rfl, hb, hg, hc, hm, _⟩
    · omega
    · exact ⟨g, c, cur, rfl, hb, hg, hc, hm⟩
  obtain ⟨g, c, cur, rfl, hg1, hg2, hg3, hg4⟩ := hgt
  unfold Oper.wp
  simp [execOp, ho, resolve, invoke, builtin, hs, hx, hrun, Result.andThen]
  rw [Nat.add_comm 1 l.length] at hcell hg3 ⊢
  refine h g c w' ⟨fun t ht => ?_, .inr ⟨by simp, g, 0, c, by rw [List.length_cons], by simpa using hg3, hg4, by omega, .inr ⟨cur, _, hg2⟩, fun i t hi => ?_⟩⟩ hbw
  · rcases List.mem_cons.1 ht with rfl | ht
    · exact ⟨by show 0 < 256; decide, hy⟩
    · exact hS0 t ht
  · obtain ⟨s0, s1⟩ := seedC_at _ _ _ hi
    obtain ⟨g1, c1, e1, e2⟩ := hcell _ _ s0
    obtain ⟨g2, c2, e3, e4⟩ := hcell _ _ s1
    simp only [Value.slice.injEq, Option.some.injEq, Addr.mk.injEq, and_true, true_and] at e1 e3
    obtain ⟨rfl, _⟩ := e1
    obtain ⟨rfl, _⟩ := e3
    rw [Nat.zero_add]
    exact ⟨e2, e4⟩
theorem GAt.cellS {w : World} {N gb : Nat} {l : List SeedP} (h : GAt w N gb l) : ∃ a cap, w.heap[gb]? = some (.cells #[.slice a l.length cap] 57 (0, 0)) ∧ IsS w N gb (.slice a l.length cap) l := by
  obtain ⟨_, _, v, h1, h2⟩ := h
  rcases h2.2 with ⟨rfl, a, cap, rfl, _⟩ | ⟨_, b, off, cap, rfl, _⟩
  · exact ⟨a, cap, h1, h2⟩
  · exact ⟨_, cap, h1, h2⟩
end Go.Proofs.YtogkiifljdnjgaaDoor
