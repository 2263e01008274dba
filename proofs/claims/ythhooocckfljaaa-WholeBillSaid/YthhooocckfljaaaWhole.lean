/- WholeBill (f3): the walk. -/
import Derived.Test.YthhooocckfljaaaWholeF
namespace Go.Proofs.Ythhooocckfljaaa
open Go.RowKit Go.Maps Go.Shelf
set_option linter.unusedVariables false
set_option linter.unusedSimpArgs false

set_option maxRecDepth 100000 in
set_option maxHeartbeats 8000000 in
theorem whole_walk (v : Value) (cs : List Cnt) (pr : Nat) (w : World) (h : IsC w v cs) (hc : ∀ c ∈ cs, c.ok) (hpr : pr < 65536) :
    Calls Try.prog 3 #[v, .int .u16 pr] w fun e w' => e = .returned (.bool true) ∧ Below w.heap.size w w' := by
  obtain ⟨ca, cc, rfl, hcs⟩ := h
  have HAW := Lib.hid (fun W => awake_run W)
  by_cases hl : 60 < cs.length
  · have hl' : (60 : Int) < (cs.length : Int) := by omega
    clear hcs hc hl
    go_enter Try.func3, Try.ntmps3
    go_wp2_with (go_at_call 4; refine (HAW.out _).mono ?_; rintro r w1 ⟨rfl, hb1⟩)
    go_ret
    exact ⟨rfl, hb1⟩
  · have hl' : (cs.length : Int) ≤ 60 := by omega
    have hl2 : ¬ (60 : Int) < (cs.length : Int) := by omega
    have HCS := Lib.hid hcs
    have HC := Lib.hid hc
    have H5 := Lib.hid (fun (i : Nat) (hi : i < 3) (bt : Int) (hb : 0 ≤ bt ∧ bt ≤ 1000) W => new_ok (nodeN i) bt W (by simp [nodeN]) (node_code hi bt hb))
    clear hcs hc hl
    have hd60 : decide ((60 : Int) < (cs.length : Int)) = false := by simp; omega
    go_enter Try.func3, Try.ntmps3
    go_upto_region 3 with (go_at_call 4; refine (HAW.out _).mono ?_; rintro r w1 ⟨rfl, hb1⟩)
    go_upto_region 7 with fail
    have hz1 : w.heap.size ≤ w1.heap.size := hb1.size
    have hn1 := bel_new w1 (.cells #[.string ⟨#[110, 48]⟩, .string ⟨#[110, 49]⟩, .string ⟨#[110, 50]⟩] 9)
    have hr1 : Row (w1.alloc (.cells #[.string ⟨#[110, 48]⟩, .string ⟨#[110, 49]⟩, .string ⟨#[110, 50]⟩] 9)) w1.heap.size 9 3 (fun i => .string ⟨(nodeN i).toArray⟩) := heap_alloc_new w1 _
    have hs2 : (w1.alloc (.cells #[.string ⟨#[110, 48]⟩, .string ⟨#[110, 49]⟩, .string ⟨#[110, 50]⟩] 9)).heap.size = w1.heap.size + 1 := by simp
    have HB1 := Lib.hid (bel_step hb1 hn1)
    generalize w1.alloc (.cells #[.string ⟨#[110, 48]⟩, .string ⟨#[110, 49]⟩, .string ⟨#[110, 50]⟩] 9) = V1 at *
    have hr2 : Row (V1.alloc (.cells #[.pointer none, .pointer none, .pointer none] 27)) V1.heap.size 27 3 (fun i => if i < 0 then .pointer (some ⟨0, 0, none⟩) else .pointer none) := heap_alloc_new V1 _
    have hn2 := bel_new V1 (.cells #[.pointer none, .pointer none, .pointer none] 27)
    have hr12 := hr1.keep (Kept.of_below (bs := []) hn2) (by simp)
    have hs3 : (V1.alloc (.cells #[.pointer none, .pointer none, .pointer none] 27)).heap.size = V1.heap.size + 1 := by simp
    have HB2 := Lib.hid (bel_step HB1.out hn2)
    generalize V1.alloc (.cells #[.pointer none, .pointer none, .pointer none] 27) = V2 at *
    have hr3 : Row (V2.alloc (.cells #[.int .i64 0, .int .i64 0, .int .i64 0] 28)) V2.heap.size 28 3 (fun i => .int .i64 0) := heap_alloc_new V2 _
    have hn3 := bel_new V2 (.cells #[.int .i64 0, .int .i64 0, .int .i64 0] 28)
    have hr13 := hr12.keep (Kept.of_below (bs := []) hn3) (by simp)
    have hr23 := hr2.keep (Kept.of_below (bs := []) hn3) (by simp)
    have hs4 : (V2.alloc (.cells #[.int .i64 0, .int .i64 0, .int .i64 0] 28)).heap.size = V2.heap.size + 1 := by simp
    have HB3 := Lib.hid (bel_step HB2.out hn3)
    generalize V2.alloc (.cells #[.int .i64 0, .int .i64 0, .int .i64 0] 28) = V3 at *
    have HR1 := Lib.hid hr13
    have HR2 := Lib.hid hr23
    have HR3 := Lib.hid hr3
    have e1 : w1.heap.size + 1 = V1.heap.size := hs2.symm
    have e2 : V1.heap.size + 1 = V2.heap.size := by omega
    have e3 : V2.heap.size + 1 = V3.heap.size := by omega
    rw [e1, e2]
    generalize hnm : w1.heap.size = nm at *
    generalize hms : V1.heap.size = ms at *
    generalize hbo : V2.heap.size = bo at *
    have hE1 : nm < ms ∧ ms < bo ∧ bo < V3.heap.size ∧ w.heap.size ≤ nm := by omega
    obtain ⟨l1, l2, l3, l0⟩ := hE1
    clear e1 e2 e3 hs2 hs3 hs4 hnm hms hbo hr1 hr2 hr3 hr12 hr13 hr23 hn1 hn2 hn3 hb1 HB1 HB2 hz1
    go_loopw [55] (fun ii wr => ∃ k : Nat, ii = .int .i64 k ∧ k ≤ 3 ∧ Made ms k V3 wr) (fun ii _ => 3 - (intOf ii).toNat)
    case atStart => exact ⟨0, rfl, by omega, fun _ => 0, HR2.out.congr (fun k _ => by simp), fun i hi => (by omega), fun i j hi => (by omega), Kept.refl _ _⟩
    case round =>
      obtain ⟨k, rfl, hk, hmd⟩ := hrel
      have hkp := hmd.choose_spec.2.2.2
      have hszr : V3.heap.size ≤ wr.heap.size := hkp.size
      have HMD := Lib.hid hmd
      have HRN := Lib.hid (HR1.out.keep hkp (by simp; omega))
      have HRB := Lib.hid (HR3.out.keep hkp (by simp; omega))
      have HKP := Lib.hid hkp
      clear hmd hkp
      by_cases hlt : k < 3
      · as_aux_lemma =>
          have hk0 : (0 : Int) ≤ (k : Int) := by omega
          have hk1 : (k : Int) < 3 := by omega
          have c0 := HRN.out.cell hlt
          have HK5 := Lib.hid (H5.out k hlt 0 (by omega))
          go_upto_region 12 with (go_at_call 5; refine (HK5.out _).mono ?_; rintro r w5 ⟨mb, rfl, hmb, hM, hb5⟩)
          have hrm := (HMD.out.choose_spec.1).keep (Kept.of_below (bs := []) hb5) (by simp)
          have cm := hrm.cell hlt
          rw [if_neg (Nat.lt_irrefl k)] at cm
          have fm := hrm.frozen k
          have HNX := Lib.hid (HMD.out.next hlt hmb hM hb5 (by omega))
          clear hrm c0 hM hb5
          go_wp2_with fail
          go_roundw
          case rel => exact ⟨k + 1, by go_num, by omega, HNX.out⟩
          case measure => simp [intOf]; omega
      · obtain rfl : k = 3 := by omega
        obtain ⟨mb, hrm, hmm, hmi, _⟩ := HMD.out
        have HMM := Lib.hid hmm
        have HMI := Lib.hid hmi
        have HRM := Lib.hid (hrm.congr (g := fun i => .pointer (some ⟨mb i, 0, none⟩)) (fun i hi => by rw [if_pos hi]))
        have HBW := Lib.hid (HKP.out.below HB3.out HB3.out.size (fun k hk => by simp at hk; omega))
        clear hrm hmm hmi HMD HKP HR1 HR2 HR3 HB3
        have L0 : V3.heap.size ≤ wr.heap.size := hszr
        clear hszr
        go_upto_region 18 with fail
        generalize hU0 : wr = U0 at *
        have hn0 := bel_new U0 (.cells #[.slice none 0 0, .slice none 0 0, .slice none 0 0] 34)
        have hw0 : Row (U0.alloc (.cells #[.slice none 0 0, .slice none 0 0, .slice none 0 0] 34)) U0.heap.size 34 3 (fun i => .slice none 0 0) := heap_alloc_new U0 _
        have hz0 : (U0.alloc (.cells #[.slice none 0 0, .slice none 0 0, .slice none 0 0] 34)).heap.size = U0.heap.size + 1 := by simp
        generalize U0.alloc (.cells #[.slice none 0 0, .slice none 0 0, .slice none 0 0] 34) = U1 at *
        have hn1 := bel_new U1 (.cells #[.int .i64 0, .int .i64 0, .int .i64 0, .int .i64 0, .int .i64 0, .int .i64 0, .int .i64 0, .int .i64 0, .int .i64 0, .int .i64 0, .int .i64 0, .int .i64 0, .int .i64 0, .int .i64 0, .int .i64 0, .int .i64 0, .int .i64 0, .int .i64 0] 37)
        have hw1 : Row (U1.alloc (.cells #[.int .i64 0, .int .i64 0, .int .i64 0, .int .i64 0, .int .i64 0, .int .i64 0, .int .i64 0, .int .i64 0, .int .i64 0, .int .i64 0, .int .i64 0, .int .i64 0, .int .i64 0, .int .i64 0, .int .i64 0, .int .i64 0, .int .i64 0, .int .i64 0] 37)) U1.heap.size 37 18 (fun i => .int .i64 0) := heap_alloc_new U1 _
        have hz1 : (U1.alloc (.cells #[.int .i64 0, .int .i64 0, .int .i64 0, .int .i64 0, .int .i64 0, .int .i64 0, .int .i64 0, .int .i64 0, .int .i64 0, .int .i64 0, .int .i64 0, .int .i64 0, .int .i64 0, .int .i64 0, .int .i64 0, .int .i64 0, .int .i64 0, .int .i64 0] 37)).heap.size = U1.heap.size + 1 := by simp
        generalize U1.alloc (.cells #[.int .i64 0, .int .i64 0, .int .i64 0, .int .i64 0, .int .i64 0, .int .i64 0, .int .i64 0, .int .i64 0, .int .i64 0, .int .i64 0, .int .i64 0, .int .i64 0, .int .i64 0, .int .i64 0, .int .i64 0, .int .i64 0, .int .i64 0, .int .i64 0] 37) = U2 at *
        have hn2 := bel_new U2 (.cells #[.int .i64 0, .int .i64 0, .int .i64 0, .int .i64 0, .int .i64 0, .int .i64 0] 36)
        have hw2 : Row (U2.alloc (.cells #[.int .i64 0, .int .i64 0, .int .i64 0, .int .i64 0, .int .i64 0, .int .i64 0] 36)) U2.heap.size 36 6 (fun i => .int .i64 0) := heap_alloc_new U2 _
        have hz2 : (U2.alloc (.cells #[.int .i64 0, .int .i64 0, .int .i64 0, .int .i64 0, .int .i64 0, .int .i64 0] 36)).heap.size = U2.heap.size + 1 := by simp
        generalize U2.alloc (.cells #[.int .i64 0, .int .i64 0, .int .i64 0, .int .i64 0, .int .i64 0, .int .i64 0] 36) = U3 at *
        have hn3 := bel_new U3 (.cells #[.int .i64 0, .int .i64 0, .int .i64 0, .int .i64 0, .int .i64 0, .int .i64 0] 36)
        have hw3 : Row (U3.alloc (.cells #[.int .i64 0, .int .i64 0, .int .i64 0, .int .i64 0, .int .i64 0, .int .i64 0] 36)) U3.heap.size 36 6 (fun i => .int .i64 0) := heap_alloc_new U3 _
        have hz3 : (U3.alloc (.cells #[.int .i64 0, .int .i64 0, .int .i64 0, .int .i64 0, .int .i64 0, .int .i64 0] 36)).heap.size = U3.heap.size + 1 := by simp
        generalize U3.alloc (.cells #[.int .i64 0, .int .i64 0, .int .i64 0, .int .i64 0, .int .i64 0, .int .i64 0] 36) = U4 at *
        have hn4 := bel_new U4 (.cells #[.int .i64 0, .int .i64 0, .int .i64 0, .int .i64 0, .int .i64 0, .int .i64 0] 36)
        have hw4 : Row (U4.alloc (.cells #[.int .i64 0, .int .i64 0, .int .i64 0, .int .i64 0, .int .i64 0, .int .i64 0] 36)) U4.heap.size 36 6 (fun i => .int .i64 0) := heap_alloc_new U4 _
        have hz4 : (U4.alloc (.cells #[.int .i64 0, .int .i64 0, .int .i64 0, .int .i64 0, .int .i64 0, .int .i64 0] 36)).heap.size = U4.heap.size + 1 := by simp
        generalize U4.alloc (.cells #[.int .i64 0, .int .i64 0, .int .i64 0, .int .i64 0, .int .i64 0, .int .i64 0] 36) = U5 at *
        have hn5 := bel_new U5 (.cells #[.int .i64 0, .int .i64 0, .int .i64 0] 28)
        have hw5 : Row (U5.alloc (.cells #[.int .i64 0, .int .i64 0, .int .i64 0] 28)) U5.heap.size 28 3 (fun i => .int .i64 0) := heap_alloc_new U5 _
        have hz5 : (U5.alloc (.cells #[.int .i64 0, .int .i64 0, .int .i64 0] 28)).heap.size = U5.heap.size + 1 := by simp
        generalize U5.alloc (.cells #[.int .i64 0, .int .i64 0, .int .i64 0] 28) = U6 at *
        have E0 : U0.heap.size + 1 = U1.heap.size := hz0.symm
        have E1 : U1.heap.size + 1 = U2.heap.size := by omega
        have E2 : U2.heap.size + 1 = U3.heap.size := by omega
        have E3 : U3.heap.size + 1 = U4.heap.size := by omega
        have E4 : U4.heap.size + 1 = U5.heap.size := by omega
        rw [E0, E1, E2, E3, E4]
        generalize hg0 : U0.heap.size = lg at *
        generalize hg1 : U1.heap.size = pe at *
        generalize hg2 : U2.heap.size = se at *
        generalize hg3 : U3.heap.size = wt at *
        generalize hg4 : U4.heap.size = ar at *
        generalize hg5 : U5.heap.size = su at *
        have LL : V3.heap.size ≤ lg ∧ lg < pe ∧ pe < se ∧ se < wt ∧ wt < ar ∧ ar < su ∧ su < U6.heap.size := by omega
        have HLL := Lib.hid LL
        have HE := Lib.hid (show U0.heap.size = lg ∧ U1.heap.size = pe ∧ U2.heap.size = se ∧ U3.heap.size = wt ∧ U4.heap.size = ar ∧ U5.heap.size = su from ⟨hg0, hg1, hg2, hg3, hg4, hg5⟩)
        have HN0 := Lib.hid hn0
        have HW0 := Lib.hid hw0
        have HN1 := Lib.hid hn1
        have HW1 := Lib.hid hw1
        have HN2 := Lib.hid hn2
        have HW2 := Lib.hid hw2
        have HN3 := Lib.hid hn3
        have HW3 := Lib.hid hw3
        have HN4 := Lib.hid hn4
        have HW4 := Lib.hid hw4
        have HN5 := Lib.hid hn5
        have HW5 := Lib.hid hw5
        clear LL E0 E1 E2 E3 E4 hg0 hg1 hg2 hg3 hg4 hg5 hz0 hz1 hz2 hz3 hz4 hz5 hn0 hn1 hn2 hn3 hn4 hn5 hw0 hw1 hw2 hw3 hw4 hw5 L0 hU0
        go_upto_region 20 with (go_at_call 6; refine (new_set _).mono ?_; rintro r U7 ⟨p, b, rfl, hp6, hb6, hp7, hpb, hS7, hb67⟩)
        have hn7 := bel_new U7 (.cells #[.pointer (some ⟨p, 0, none⟩)] 38)
        have hw7 : (U7.alloc (.cells #[.pointer (some ⟨p, 0, none⟩)] 38)).cell? ⟨U7.heap.size, 0, none⟩ = some (.pointer (some ⟨p, 0, none⟩)) := by simp [go_sem]
        have HS8 := Lib.hid (hS7.step hn7 hp7 hS7.2.lt)
        have hb7 := hS7.2.lt
        have HB68 := Lib.hid (bel_step hb67 hn7)
        generalize U7.alloc (.cells #[.pointer (some ⟨p, 0, none⟩)] 38) = U8 at *
        have hTU : Turn w ⟨nm, ms, bo, lg, pe, se, wt, ar, su, U7.heap.size, p, b⟩ 0 U8 := by
          as_aux_lemma =>
            obtain ⟨q0, q1, q2, q3, q4, q5, q6⟩ := HLL.out
            obtain ⟨g0, g1, g2, g3, g4, g5⟩ := HE.out
            have n0 : Below U0.heap.size U0 U1 := by rw [g0]; exact HN0.out
            have n1 : Below U1.heap.size U1 U2 := by rw [g1]; exact HN1.out
            have n2 : Below U2.heap.size U2 U3 := by rw [g2]; exact HN2.out
            have n3 : Below U3.heap.size U3 U4 := by rw [g3]; exact HN3.out
            have n4 : Below U4.heap.size U4 U5 := by rw [g4]; exact HN4.out
            have n5 : Below U5.heap.size U5 U6 := by rw [g5]; exact HN5.out
            have c5 : Below U5.heap.size U5 U8 := bel_step n5 HB68.out
            have c4 : Below U4.heap.size U4 U8 := bel_step n4 c5
            have c3 : Below U3.heap.size U3 U8 := bel_step n3 c4
            have c2 : Below U2.heap.size U2 U8 := bel_step n2 c3
            have c1 : Below U1.heap.size U1 U8 := bel_step n1 c2
            have c0 : Below U0.heap.size U0 U8 := bel_step n0 c1
            have hs7 : U6.heap.size ≤ U7.heap.size := hb67.size
            have kp : ∀ {U : World} (hb : Below U.heap.size U U8) {k ty n : Nat} {f : Nat → Value}, Row U k ty n f → Row U8 k ty n f := fun hb _ _ _ _ hr => hr.keep (Kept.of_below (bs := []) hb) (by simp)
            have hml : ∀ i, i < 3 → V3.heap.size ≤ mb i ∧ mb i < lg := fun i hi => by
              have := HMM.out i hi
              have h2 := this.1.lt
              omega
            refine ⟨stsZ, 0, mb, fun _ => .slice none 0 0, inv_zero, Nat.le_refl _, ?_, ?_, ?_⟩
            · exact {
                names := kp c0 HRN.out
                mtrs := kp c0 HRM.out
                boots := kp c0 HRB.out
                logs := kp c1 HW0.out
                pend := (kp c2 HW1.out).congr (fun k hk => (congrFun pendF_zero k).symm)
                serv := (kp c3 HW2.out).congr (fun k hk => (congrFun pairF_zero k).symm)
                writ := (kp c4 HW3.out).congr (fun k hk => (congrFun pairF_zero k).symm)
                arr := (kp c5 HW4.out).congr (fun k hk => (congrFun pairF_zero k).symm)
                sure := kp HB68.out HW5.out
                led := hw7
                set := HS8.out
                met := fun i hi => (HMM.out i hi).1.bel c0 (HMM.out i hi).1.lt
                own := fun i hi => OwnE.nil _ _ }
            · exact {
                nodup := by simp [Adr.all]; omega
                low := fun k hk => by simp [Adr.all] at hk; omega
                mlow := fun i hi => by have := hml i hi; omega
                mall := fun i hi => by have := hml i hi; simp [Adr.all]; omega
                minj := fun i j hi hj hne => HMI.out i j hi hj hne
                lall := fun i hi g hg => by cases hg
                lmb := fun i j hi hj hg => by cases hg
                linj := fun i j hi hj hne g hg => by cases hg }
            · exact bel_step HBW.out c0
        have HTU := Lib.hid hTU
        generalize hle : U7.heap.size = le at *
        clear hle
        clear hTU hw7 hn7 hb7 hpb hp7 hb6 hp6 hb67 hS7 HS8 HB68 HN0 HN1 HN2 HN3 HN4 HN5 HW0 HW1 HW2 HW3 HW4 HW5 HE HLL HMM HMI HRM HRN HRB HBW l0 l1 l2 l3
        generalize hAD : (⟨nm, ms, bo, lg, pe, se, wt, ar, su, le, p, b⟩ : Adr) = A at *
        obtain rfl : nm = A.nm := by rw [← hAD]
        obtain rfl : ms = A.ms := by rw [← hAD]
        obtain rfl : bo = A.bo := by rw [← hAD]
        obtain rfl : lg = A.lg := by rw [← hAD]
        obtain rfl : pe = A.pe := by rw [← hAD]
        obtain rfl : se = A.se := by rw [← hAD]
        obtain rfl : wt = A.wr := by rw [← hAD]
        obtain rfl : ar = A.ar := by rw [← hAD]
        obtain rfl : su = A.su := by rw [← hAD]
        obtain rfl : le = A.le := by rw [← hAD]
        obtain rfl : p = A.p := by rw [← hAD]
        obtain rfl : b = A.b := by rw [← hAD]
        clear hAD
        go_upto_region 21 with fail
        go_loopw [79] (fun ii wr => ∃ k : Nat, ii = .int .i64 k ∧ k ≤ cs.length ∧ Turn w A k wr) (fun ii _ => cs.length - (intOf ii).toNat)
        case atStart => exact ⟨0, rfl, Nat.zero_le _, HTU.out⟩
        case round =>
          obtain ⟨k, rfl, hk, htu⟩ := hrel
          have HTU := Lib.hid htu
          clear htu
          by_cases hlt : k < cs.length
          · have hk0 : (0 : Int) ≤ (k : Int) := by omega
            have hk1 : (k : Int) < (cs.length : Int) := by omega
            have hk60 : k < 60 := by omega
            obtain ⟨s, ns, mb, lv, hinv, hns, hpl, hap, hbl⟩ := HTU.out
            have hck : cs[k]? = some cs[k] := List.getElem?_eq_getElem hlt
            have hcok := HC.out cs[k] (List.mem_of_getElem? hck)
            obtain ⟨g, o, rfl, hcat⟩ := HCS.out k cs[k] hck
            generalize cs[k] = ct at *
            obtain ⟨y0, y1, y2, y3⟩ := hcat.bel hbl rfl
            have hn1 := bel_new wr (.cells #[.int .u8 ct.kind, .int .u8 ct.node, .int .u8 ct.ten, .int .u16 ct.byt] 51)
            have b0 : (wr.alloc (.cells #[.int .u8 ct.kind, .int .u8 ct.node, .int .u8 ct.ten, .int .u16 ct.byt] 51)).cell? ⟨wr.heap.size, 0, none⟩ = some (.int .u8 ct.kind) := by simp [go_sem]
            have b1 : (wr.alloc (.cells #[.int .u8 ct.kind, .int .u8 ct.node, .int .u8 ct.ten, .int .u16 ct.byt] 51)).cell? ⟨wr.heap.size, 1, none⟩ = some (.int .u8 ct.node) := by simp [go_sem]
            have b2 : (wr.alloc (.cells #[.int .u8 ct.kind, .int .u8 ct.node, .int .u8 ct.ten, .int .u16 ct.byt] 51)).cell? ⟨wr.heap.size, 2, none⟩ = some (.int .u8 ct.ten) := by simp [go_sem]
            have b3 : (wr.alloc (.cells #[.int .u8 ct.kind, .int .u8 ct.node, .int .u8 ct.ten, .int .u16 ct.byt] 51)).cell? ⟨wr.heap.size, 3, none⟩ = some (.int .u16 ct.byt) := by simp [go_sem]
            have HBX := Lib.hid (show (∀ c ∈ A.all, c < wr.heap.size) ∧ ∀ i, i < 3 → mb i < wr.heap.size from hpl.lt)
            have HP := Lib.hid (hpl.step hn1)
            have HAP := Lib.hid hap
            have HINV := Lib.hid hinv
            have HBL := Lib.hid (bel_step hbl hn1)
            obtain ⟨k1, k2, k3, k4⟩ := hcok
            clear hcat hn1 hpl hap hinv hbl hck HTU
            go_upto_region 23 with fail
            clear y0 y1 y2 y3
            generalize hW1 : wr.alloc (.cells #[.int .u8 ct.kind, .int .u8 ct.node, .int .u8 ct.ten, .int .u16 ct.byt] 51) = W1 at *
            generalize hbx : wr.heap.size = bx at *
            clear hW1 hbx
            have hi0 : (0 : Int) ≤ (ct.node : Int) := by omega
            have hi2 : (0 : Int) ≤ (ct.ten : Int) := by omega
            have hi1 : (ct.node : Int) < 256 := by omega
            have hi3 : (ct.ten : Int) < 256 := by omega
            obtain ⟨i, hie, hin⟩ : ∃ i : Nat, (ct.node : Int) % 3 = (i : Int) ∧ i < 3 := ⟨ct.node % 3, by omega, by omega⟩
            obtain ⟨t, hte, htn⟩ : ∃ t : Nat, (ct.ten : Int) % 3 = (t : Int) ∧ t < 3 := ⟨ct.ten % 3, by omega, by omega⟩
            obtain ⟨q, hqe, hqn⟩ : ∃ q : Nat, (ct.kind : Int) % 8 = (q : Int) ∧ q < 8 := ⟨ct.kind % 8, by omega, by omega⟩
            have hq0 : (0 : Int) ≤ (ct.kind : Int) := by omega
            have hq1 : (ct.kind : Int) < 256 := by omega
            go_quiet (fail)
            have HP2 := Lib.hid (HP.out.drewN nq)
            have HBL2 := Lib.hid (show Below w.heap.size w (W1.drewN nq) from ((Kept.refl [] W1).drewN nq).below HBL.out HBL.out.size (fun k hk => by cases hk))
            have b3' : (W1.drewN nq).cell? ⟨bx, 3, none⟩ = some (.int .u16 ct.byt) := b3
            go_upto_block 4 with fail
            rw [hie, hte, hqe]
            clear hie hte hi0 hi1 hi2 hi3
            clear b0 b1 b2 b3 hqe hq0 hq1 HP HBL
            generalize W1.drewN nq = W2 at *
            go_cut [] (fun wx => Turn w A (k + 1) wx)
            case first =>
              have hi0 : (0 : Int) ≤ (i : Int) := by omega
              have hi1 : (i : Int) < 3 := by omega
              have ht0 : (0 : Int) ≤ (t : Int) := by omega
              have ht1 : (t : Int) < 3 := by omega
              have hq0 : (0 : Int) ≤ (q : Int) := by omega
              have hy0 : (0 : Int) ≤ (ct.byt : Int) := by omega
              have hy1 : (ct.byt : Int) < 65536 := by omega
              have hwr : IntKind.i64.wrap (ct.byt : Int) = (ct.byt : Int) := IntWalk.i64_in _ (by omega)
              have hqq : (q : Int) ≤ 4 ∨ (q : Int) = 5 ∨ (q : Int) = 6 ∨ (q : Int) = 7 := by omega
              clear hqn
              rcases hqq with hq | hq | hq | hq
              · as_aux_lemma =>
                  have HADD := Lib.hid (fun W hW => add_ok (mb i) t ct.byt (s.m i) W hW (HINV.out.fit (by omega) hin) (HINV.out.addOk (by omega) hin htn k4))
                  have hcm := HP2.out.mtrs.cell hin
                  dsimp only [Sts.vals] at hcm
                  have hM0 := HP2.out.met i hin
                  dsimp only [Sts.vals] at hM0
                  have HM0 := Lib.hid hM0
                  have hnm : A.ms ≠ mb i := fun e => HAP.out.mall i hin (by rw [← e]; simp [Adr.all])
                  have hnb : bx ≠ mb i := fun e => by have h1 := HBX.out.2 i hin; omega
                  clear hM0
                  go_upto_region 31 with fail
                  go_region_held3 (fun w' => w'.cell? ⟨A.ms, i, none⟩ = some (.pointer (some ⟨mb i, 0, none⟩)) ∧ w'.cell? ⟨bx, 3, none⟩ = some (.int .u16 ct.byt))
                    ((go_split_ands; refine ⟨?_, ?_⟩ <;> (repeat (with_reducible (first | assumption | refine keep_only hO3 hnm ?_ | refine keep_only hO3 hnb ?_ | refine keep_drew ?_)))))
                    ((go_at_call 11; (with_reducible refine (HADD.out _ (MBlk.drew HM0.out)).mono ?_); rintro r W3 ⟨rfl, hM3, hO3⟩))
                  go_upto_region 33 with fail
                  go_region_held3 (fun w' => True) (trivial) (fail)
                  go_upto_region 34 with fail
                  have hP3 : Pl w.heap.size A W3 (addV0 s mb lv i t ct.byt) := Pl.turn HP2.out.drew HAP.out i _ hin hO3 hM3
                  have hB3 : Below w.heap.size w W3 := (bel_drew HBL2.out).grown hO3 HBL2.out.size (fun k hk => by cases hk; exact HAP.out.mlow i hin)
                  have hsl := hP3.lt
                  have hbw : bx < W2.heap.size := block_lt_of_cell b3'
                  have hsz3 : W2.heap.size ≤ W3.heap.size := hO3.size
                  have hn4 := bel_new W3 (.cells #[.pointer (some ⟨A.pe, i * 6 + t * 2, none⟩), .pointer (some ⟨A.se, t * 2, none⟩)] 53)
                  have x0 : (W3.alloc (.cells #[.pointer (some ⟨A.pe, i * 6 + t * 2, none⟩), .pointer (some ⟨A.se, t * 2, none⟩)] 53)).drew.cell? ⟨W3.heap.size, 0, none⟩ = some (.pointer (some ⟨A.pe, i * 6 + t * 2, none⟩)) := keep_drew (by simp [go_sem])
                  have x1 : (W3.alloc (.cells #[.pointer (some ⟨A.pe, i * 6 + t * 2, none⟩), .pointer (some ⟨A.se, t * 2, none⟩)] 53)).drew.cell? ⟨W3.heap.size, 1, none⟩ = some (.pointer (some ⟨A.se, t * 2, none⟩)) := keep_drew (by simp [go_sem])
                  have x3 : (W3.alloc (.cells #[.pointer (some ⟨A.pe, i * 6 + t * 2, none⟩), .pointer (some ⟨A.se, t * 2, none⟩)] 53)).drew.cell? ⟨bx, 3, none⟩ = some (.int .u16 ct.byt) := keep_drew (keep_at hn4 (keep_only hO3 hnb (keep_drew b3')))
                  have HNE := Lib.hid (show ∀ c ∈ A.all, W3.heap.size ≠ c ∧ bx ≠ c from fun c hc => ⟨by have := hsl.1 c hc; omega, by have := HBX.out.1 c hc; omega⟩)
                  have HI0 := Lib.hid (show AddI w A s mb lv i t ct.byt W3.heap.size bx 0 (W3.alloc (.cells #[.pointer (some ⟨A.pe, i * 6 + t * 2, none⟩), .pointer (some ⟨A.se, t * 2, none⟩)] 53)).drew from ⟨⟨x0, x1, x3⟩, bel_drew (bel_step hB3 hn4), .inl ⟨rfl, (hP3.step hn4).drew⟩⟩)
                  clear x0 x1 x3 hn4 hsz3 hbw hsl hB3 hP3 hO3 hM3 HM0 HADD hcm HP2 HBL2 b3'
                  generalize (W3.alloc (.cells #[.pointer (some ⟨A.pe, i * 6 + t * 2, none⟩), .pointer (some ⟨A.se, t * 2, none⟩)] 53)).drew = W4 at *
                  generalize W3.heap.size = sl at *
                  have hpnd := HINV.out.pend i hin t
                  have hsvH := HINV.out.srvH t htn
                  have hsvY := HINV.out.srvY t htn
                  have hpn := HINV.out.pend_nonneg t
                  have htz := (HINV.out.tot_nonneg t).1
                  have hw1 : wrap64 ((s.m i).H t + 1) = (s.m i).H t + 1 := by unfold wrap64; omega
                  have hw2 : wrap64 ((s.m i).Y t + ct.byt) = (s.m i).Y t + ct.byt := by unfold wrap64; omega
                  have hw3 : wrap64 (s.sH t + 1) = s.sH t + 1 := by unfold wrap64; omega
                  have hw4 : wrap64 (s.sY t + ct.byt) = s.sY t + ct.byt := by unfold wrap64; omega
                  clear hpnd hsvH hsvY hpn htz
                  go_loopw [143] (fun ii wr => ∃ j : Nat, ii = .int .i64 j ∧ AddI w A s mb lv i t ct.byt sl bx j wr) (fun ii _ => 2 - (intOf ii).toNat)
                  case atStart => exact ⟨0, rfl, HI0.out⟩
                  case round =>
                    obtain ⟨j, rfl, ⟨x0, x1, x3⟩, hbi, hj⟩ := hrel
                    have HBI := Lib.hid hbi
                    clear hbi HI0
                    rcases hj with ⟨rfl, hpi⟩ | ⟨rfl, hpi⟩ | ⟨rfl, hpi⟩
                    · have HPI := Lib.hid hpi
                      have m0 : wr.cell? ⟨A.pe, i * 6 + t * 2, none⟩ = some (.int .i64 ((s.m i).H t)) := (hpi.pend.cell (k := i * 6 + t * 2) (by omega)).trans (congrArg some (pendF_at (fun i => (s.m i).H) (fun i => (s.m i).Y) i t htn).1)
                      have f0 := hpi.pend.frozen (i * 6 + t * 2)
                      have HY1 := Lib.hid (show (addV0 s mb lv i t ct.byt).pe (i * 6 + t * 2 + 1) = .int .i64 ((s.m i).Y t) from (pendF_at (fun i => (s.m i).H) (fun i => (s.m i).Y) i t htn).2)
                      clear hpi
                      go_upto_region 36 with fail
                      refine wp_region_last_drew (by kernel_rfl) (by kernel_rfl) (by kernel_rfl) (by kernel_rfl) (by kernel_rfl) (by kernel_rfl) ?_
                      dsimp only [idleLast, lastOf, idle]
                      repeat (go_big_quiet_step (fail))
                      refine wpQuiet_nil ?_
                      rintro _ ⟨nq2, rfl⟩
                      refine wpList_plain rfl fun K hK => ?_
                      go_simp
                      refine hK _ _ ?_
                      clear hK K
                      have hpl2 : Pl w.heap.size A ((wr.drewN nq2).setCell ⟨A.pe, i * 6 + t * 2, none⟩ (.int .i64 ((s.m i).H t + 1))) _ := Pl.set_pe (HPI.out.drewN nq2) HAP.out (i * 6 + t * 2) (.int .i64 ((s.m i).H t + 1))
                      have z0 : ((wr.drewN nq2).setCell ⟨A.pe, i * 6 + t * 2, none⟩ (.int .i64 ((s.m i).H t + 1))).cell? ⟨sl, 0, none⟩ = some (.pointer (some ⟨A.pe, i * 6 + t * 2, none⟩)) := keep_set (HNE.out A.pe (by simp [Adr.all])).1 x0
                      have z1 : ((wr.drewN nq2).setCell ⟨A.pe, i * 6 + t * 2, none⟩ (.int .i64 ((s.m i).H t + 1))).cell? ⟨sl, 1, none⟩ = some (.pointer (some ⟨A.se, t * 2, none⟩)) := keep_set (HNE.out A.pe (by simp [Adr.all])).1 x1
                      have z3 : ((wr.drewN nq2).setCell ⟨A.pe, i * 6 + t * 2, none⟩ (.int .i64 ((s.m i).H t + 1))).cell? ⟨bx, 3, none⟩ = some (.int .u16 ct.byt) := keep_set (HNE.out A.pe (by simp [Adr.all])).2 x3
                      have n1 : ((wr.drewN nq2).setCell ⟨A.pe, i * 6 + t * 2, none⟩ (.int .i64 ((s.m i).H t + 1))).cell? ⟨A.pe, i * 6 + t * 2 + 1, none⟩ = some (.int .i64 ((s.m i).Y t)) := by
                        rw [hpl2.pend.cell (k := i * 6 + t * 2 + 1) (by omega)]
                        show some (updV _ (i * 6 + t * 2) _ (i * 6 + t * 2 + 1)) = _
                        unfold updV
                        rw [if_neg (by omega)]
                        exact congrArg some HY1.out
                      have f1 := hpl2.pend.frozen (i * 6 + t * 2 + 1)
                      have HPI2 := Lib.hid hpl2
                      have HBI2 := Lib.hid (show Below w.heap.size w ((wr.drewN nq2).setCell ⟨A.pe, i * 6 + t * 2, none⟩ (.int .i64 ((s.m i).H t + 1))) from bel_setOwn (((Kept.refl [] wr).drewN nq2).below HBI.out HBI.out.size (fun k hk => by cases hk)) (HAP.out.low _ (by simp [Adr.all])) HBI.out.size)
                      clear x0 x1 x3 m0 f0 hpl2 HPI HBI
                      generalize (wr.drewN nq2).setCell ⟨A.pe, i * 6 + t * 2, none⟩ (.int .i64 ((s.m i).H t + 1)) = W6 at *
                      go_upto_region 37 with fail
                      refine wp_region_last_drew (by kernel_rfl) (by kernel_rfl) (by kernel_rfl) (by kernel_rfl) (by kernel_rfl) (by kernel_rfl) ?_
                      dsimp only [idleLast, lastOf, idle]
                      repeat (go_big_quiet_step (fail))
                      refine wpQuiet_nil ?_
                      rintro _ ⟨nq3, rfl⟩
                      refine wpList_plain rfl fun K hK => ?_
                      go_simp
                      refine hK _ _ ?_
                      clear hK K
                      have hpl3 : Pl w.heap.size A ((W6.drewN nq3).setCell ⟨A.pe, i * 6 + t * 2 + 1, none⟩ (.int .i64 ((s.m i).Y t + ct.byt))) (addV1 s mb lv i t ct.byt) := Pl.set_pe (HPI2.out.drewN nq3) HAP.out (i * 6 + t * 2 + 1) (.int .i64 ((s.m i).Y t + ct.byt))
                      have v0 : ((W6.drewN nq3).setCell ⟨A.pe, i * 6 + t * 2 + 1, none⟩ (.int .i64 ((s.m i).Y t + ct.byt))).cell? ⟨sl, 0, none⟩ = some (.pointer (some ⟨A.pe, i * 6 + t * 2, none⟩)) := keep_set (HNE.out A.pe (by simp [Adr.all])).1 z0
                      have v1 : ((W6.drewN nq3).setCell ⟨A.pe, i * 6 + t * 2 + 1, none⟩ (.int .i64 ((s.m i).Y t + ct.byt))).cell? ⟨sl, 1, none⟩ = some (.pointer (some ⟨A.se, t * 2, none⟩)) := keep_set (HNE.out A.pe (by simp [Adr.all])).1 z1
                      have v3 : ((W6.drewN nq3).setCell ⟨A.pe, i * 6 + t * 2 + 1, none⟩ (.int .i64 ((s.m i).Y t + ct.byt))).cell? ⟨bx, 3, none⟩ = some (.int .u16 ct.byt) := keep_set (HNE.out A.pe (by simp [Adr.all])).2 z3
                      have HBI3 : Below w.heap.size w ((W6.drewN nq3).setCell ⟨A.pe, i * 6 + t * 2 + 1, none⟩ (.int .i64 ((s.m i).Y t + ct.byt))) := bel_setOwn (((Kept.refl [] W6).drewN nq3).below HBI2.out HBI2.out.size (fun k hk => by cases hk)) (HAP.out.low _ (by simp [Adr.all])) HBI2.out.size
                      have HNX := Lib.hid (show AddI w A s mb lv i t ct.byt sl bx 1 _ from ⟨⟨v0, v1, v3⟩, HBI3, .inr (.inl ⟨rfl, hpl3⟩)⟩)
                      clear z0 z1 z3 n1 f1 HPI2 HBI2 hpl3 v0 v1 v3 HBI3
                      generalize (W6.drewN nq3).setCell ⟨A.pe, i * 6 + t * 2 + 1, none⟩ (.int .i64 ((s.m i).Y t + ct.byt)) = W8 at *
                      go_wp2_with fail
                      go_roundw
                      case rel => exact ⟨1, by go_num, HNX.out⟩
                      case measure => simp [intOf]
                    · have HPI := Lib.hid hpi
                      have m0 : wr.cell? ⟨A.se, t * 2, none⟩ = some (.int .i64 (s.sH t)) := (hpi.serv.cell (k := t * 2) (by omega)).trans (congrArg some (pairF_0 _ _ t))
                      have f0 := hpi.serv.frozen (t * 2)
                      have HY1 := Lib.hid (show (addV1 s mb lv i t ct.byt).se (t * 2 + 1) = .int .i64 (s.sY t) from pairF_1 _ _ t)
                      clear hpi
                      go_upto_region 36 with fail
                      refine wp_region_last_drew (by kernel_rfl) (by kernel_rfl) (by kernel_rfl) (by kernel_rfl) (by kernel_rfl) (by kernel_rfl) ?_
                      dsimp only [idleLast, lastOf, idle]
                      repeat (go_big_quiet_step (fail))
                      refine wpQuiet_nil ?_
                      rintro _ ⟨nq2, rfl⟩
                      refine wpList_plain rfl fun K hK => ?_
                      go_simp
                      refine hK _ _ ?_
                      clear hK K
                      have hpl2 : Pl w.heap.size A ((wr.drewN nq2).setCell ⟨A.se, t * 2, none⟩ (.int .i64 (s.sH t + 1))) _ := Pl.set_se (HPI.out.drewN nq2) HAP.out (t * 2) (.int .i64 (s.sH t + 1))
                      have z0 : ((wr.drewN nq2).setCell ⟨A.se, t * 2, none⟩ (.int .i64 (s.sH t + 1))).cell? ⟨sl, 0, none⟩ = some (.pointer (some ⟨A.pe, i * 6 + t * 2, none⟩)) := keep_set (HNE.out A.se (by simp [Adr.all])).1 x0
                      have z1 : ((wr.drewN nq2).setCell ⟨A.se, t * 2, none⟩ (.int .i64 (s.sH t + 1))).cell? ⟨sl, 1, none⟩ = some (.pointer (some ⟨A.se, t * 2, none⟩)) := keep_set (HNE.out A.se (by simp [Adr.all])).1 x1
                      have z3 : ((wr.drewN nq2).setCell ⟨A.se, t * 2, none⟩ (.int .i64 (s.sH t + 1))).cell? ⟨bx, 3, none⟩ = some (.int .u16 ct.byt) := keep_set (HNE.out A.se (by simp [Adr.all])).2 x3
                      have n1 : ((wr.drewN nq2).setCell ⟨A.se, t * 2, none⟩ (.int .i64 (s.sH t + 1))).cell? ⟨A.se, t * 2 + 1, none⟩ = some (.int .i64 (s.sY t)) := by
                        rw [hpl2.serv.cell (k := t * 2 + 1) (by omega)]
                        show some (updV _ (t * 2) _ (t * 2 + 1)) = _
                        unfold updV
                        rw [if_neg (by omega)]
                        exact congrArg some HY1.out
                      have f1 := hpl2.serv.frozen (t * 2 + 1)
                      have HPI2 := Lib.hid hpl2
                      have HBI2 := Lib.hid (show Below w.heap.size w ((wr.drewN nq2).setCell ⟨A.se, t * 2, none⟩ (.int .i64 (s.sH t + 1))) from bel_setOwn (((Kept.refl [] wr).drewN nq2).below HBI.out HBI.out.size (fun k hk => by cases hk)) (HAP.out.low _ (by simp [Adr.all])) HBI.out.size)
                      clear x0 x1 x3 m0 f0 hpl2 HPI HBI
                      generalize (wr.drewN nq2).setCell ⟨A.se, t * 2, none⟩ (.int .i64 (s.sH t + 1)) = W6 at *
                      go_upto_region 37 with fail
                      refine wp_region_last_drew (by kernel_rfl) (by kernel_rfl) (by kernel_rfl) (by kernel_rfl) (by kernel_rfl) (by kernel_rfl) ?_
                      dsimp only [idleLast, lastOf, idle]
                      repeat (go_big_quiet_step (fail))
                      refine wpQuiet_nil ?_
                      rintro _ ⟨nq3, rfl⟩
                      refine wpList_plain rfl fun K hK => ?_
                      go_simp
                      refine hK _ _ ?_
                      clear hK K
                      have hpl3 : Pl w.heap.size A ((W6.drewN nq3).setCell ⟨A.se, t * 2 + 1, none⟩ (.int .i64 (s.sY t + ct.byt))) (addV2 s mb lv i t ct.byt) := Pl.set_se (HPI2.out.drewN nq3) HAP.out (t * 2 + 1) (.int .i64 (s.sY t + ct.byt))
                      have v0 : ((W6.drewN nq3).setCell ⟨A.se, t * 2 + 1, none⟩ (.int .i64 (s.sY t + ct.byt))).cell? ⟨sl, 0, none⟩ = some (.pointer (some ⟨A.pe, i * 6 + t * 2, none⟩)) := keep_set (HNE.out A.se (by simp [Adr.all])).1 z0
                      have v1 : ((W6.drewN nq3).setCell ⟨A.se, t * 2 + 1, none⟩ (.int .i64 (s.sY t + ct.byt))).cell? ⟨sl, 1, none⟩ = some (.pointer (some ⟨A.se, t * 2, none⟩)) := keep_set (HNE.out A.se (by simp [Adr.all])).1 z1
                      have v3 : ((W6.drewN nq3).setCell ⟨A.se, t * 2 + 1, none⟩ (.int .i64 (s.sY t + ct.byt))).cell? ⟨bx, 3, none⟩ = some (.int .u16 ct.byt) := keep_set (HNE.out A.se (by simp [Adr.all])).2 z3
                      have HBI3 : Below w.heap.size w ((W6.drewN nq3).setCell ⟨A.se, t * 2 + 1, none⟩ (.int .i64 (s.sY t + ct.byt))) := bel_setOwn (((Kept.refl [] W6).drewN nq3).below HBI2.out HBI2.out.size (fun k hk => by cases hk)) (HAP.out.low _ (by simp [Adr.all])) HBI2.out.size
                      have HNX := Lib.hid (show AddI w A s mb lv i t ct.byt sl bx 2 _ from ⟨⟨v0, v1, v3⟩, HBI3, .inr (.inr ⟨rfl, hpl3⟩)⟩)
                      clear z0 z1 z3 n1 f1 HPI2 HBI2 hpl3 v0 v1 v3 HBI3
                      generalize (W6.drewN nq3).setCell ⟨A.se, t * 2 + 1, none⟩ (.int .i64 (s.sY t + ct.byt)) = W8 at *
                      go_wp2_with fail
                      go_roundw
                      case rel => exact ⟨2, by go_num, HNX.out⟩
                      case measure => simp [intOf]
                    · have HTN := Lib.hid (show Turn w A (k + 1) wr from ⟨s.add i t ct.byt, ns, mb, lv, HINV.out.add hin htn (by omega), by omega, add_fin hin htn hpi, HAP.out, HBI.out⟩)
                      clear hpi x0 x1 x3
                      go_wp2_with fail
                      go_meet
                      exact HTN.out
              · as_aux_lemma =>
                  obtain rfl : q = 5 := by omega
                  rw [show ((5 : Nat) : Int) = (5 : Int) from rfl]
                  have hclamp : clampT (k : Int) = (k : Int) := by unfold clampT; omega
                  have HFL := Lib.hid (fun W hM => flush_any (mb i) (k : Int) (s.m i) W hM (fun t ht => (HINV.out.pend i hin t).2.2.2.2.1) (by have := HINV.out.seq i hin; omega))
                  rw [hclamp] at HFL
                  have clg : W2.cell? ⟨A.lg, i, none⟩ = some (lv i) := HP2.out.logs.cell hin
                  have cms : W2.cell? ⟨A.ms, i, none⟩ = some (.pointer (some ⟨mb i, 0, none⟩)) := HP2.out.mtrs.cell hin
                  have HM0 := Lib.hid (show MBlk W2 (mb i) (s.m i) from HP2.out.met i hin)
                  have hn1 : A.lg ≠ mb i := fun e => HAP.out.mall i hin (by rw [← e]; simp [Adr.all])
                  have hn2 : A.ms ≠ mb i := fun e => HAP.out.mall i hin (by rw [← e]; simp [Adr.all])
                  have hn3 : some A.lg ≠ (lv i).ownBlock := fun e => HAP.out.lall i hin A.lg e.symm (by simp [Adr.all])
                  have hn4 : some A.ms ≠ (lv i).ownBlock := fun e => HAP.out.lall i hin A.ms e.symm (by simp [Adr.all])
                  have hll : (s.logs i).length ≤ 960 := by have := HINV.out.len i hin; omega
                  have hfl := (flushEs_bd (s.m i) (k : Int) 16).2.2
                  clear hq hq0 hclamp
                  go_upto_region 40 with fail
                  refine wp_region_last_held (fun w' => w'.cell? ⟨A.lg, i, none⟩ = some (lv i) ∧ w'.cell? ⟨A.ms, i, none⟩ = some (.pointer (some ⟨mb i, 0, none⟩))) (by kernel_rfl) (by kernel_rfl) (by kernel_rfl) (by kernel_rfl) (by kernel_rfl) ⟨keep_drew clg, keep_drew cms⟩ (fun hHeld => ?_)
                  dsimp only [idleLast, lastOf, idle]
                  refine wpAnyH_take (i := 0) (oi := ⟨some 168, _, _, _, _, _⟩) (v := ?_) rfl (by kernel_rfl) (by kernel_rfl) (by kernel_rfl) (fun _ _ _ h => h) (Or.inl ⟨by rfl, ?hy0⟩) (by assumption) ?rest0
                  case hy0 => (intro w hSw; (try dsimp only at hSw); go_simp; (try with_reducible rfl))
                  try simp only [Act.put, List.setIfInBounds_toArray, List.set_cons_zero, List.set_cons_succ]
                  refine wpAnyH_take (i := 1) (oi := ⟨some 169, _, _, _, _, _⟩) (v := ?_) rfl (by kernel_rfl) (by kernel_rfl) (by kernel_rfl) (fun _ _ _ h => h) (Or.inl ⟨by rfl, ?hy1⟩) (by assumption) ?rest1
                  case hy1 => (intro w hSw; (try dsimp only at hSw); go_simp; (try with_reducible rfl))
                  try simp only [Act.put, List.setIfInBounds_toArray, List.set_cons_zero, List.set_cons_succ]
                  refine wpAnyH_take (i := 2) (oi := ⟨some 170, _, _, _, _, _⟩) (v := ?_) rfl (by kernel_rfl) (by kernel_rfl) (by kernel_rfl) (fun _ _ _ h => h) (Or.inl ⟨by rfl, ?hy2⟩) (by assumption) ?rest2
                  case hy2 => (intro w hSw; (try dsimp only at hSw); go_simp; (try with_reducible rfl))
                  try simp only [Act.put, List.setIfInBounds_toArray, List.set_cons_zero, List.set_cons_succ]
                  refine wpAnyH_take (i := 3) (oi := ⟨some 171, _, _, _, _, _⟩) (v := ?_) rfl (by kernel_rfl) (by kernel_rfl) (by kernel_rfl) (fun _ _ _ h => h) (Or.inl ⟨by rfl, ?hy3⟩) (by assumption) ?rest3
                  case hy3 => (intro w hSw; (try dsimp only at hSw); go_simp; (try with_reducible rfl))
                  try simp only [Act.put, List.setIfInBounds_toArray, List.set_cons_zero, List.set_cons_succ]
                  refine wpAnyH_take (i := 4) (oi := ⟨some 172, _, _, _, _, _⟩) (v := ?_) rfl (by kernel_rfl) (by kernel_rfl) (by kernel_rfl) (fun _ _ _ h => h) (Or.inl ⟨by rfl, ?hy4⟩) (by assumption) ?rest4
                  case hy4 => (intro w hSw; (try dsimp only at hSw); go_simp; (try with_reducible rfl))
                  try simp only [Act.put, List.setIfInBounds_toArray, List.set_cons_zero, List.set_cons_succ]
                  refine wpAnyH_take (i := 5) (oi := ⟨some 173, _, _, _, _, _⟩) (v := ?_) rfl (by kernel_rfl) (by kernel_rfl) (by kernel_rfl) (fun _ _ _ h => h) (Or.inl ⟨by rfl, ?hy5⟩) (by assumption) ?rest5
                  case hy5 => (intro w hSw; (try dsimp only at hSw); go_simp; (try with_reducible rfl))
                  try simp only [Act.put, List.setIfInBounds_toArray, List.set_cons_zero, List.set_cons_succ]
                  refine wpAnyH_take (i := 6) (oi := ⟨some 174, _, _, _, _, _⟩) (v := ?_) rfl (by kernel_rfl) (by kernel_rfl) (by kernel_rfl) (fun _ _ _ h => h) (Or.inl ⟨by rfl, ?hy6⟩) (by assumption) ?rest6
                  case hy6 => (intro w hSw; (try dsimp only at hSw); go_simp; (try with_reducible rfl))
                  try simp only [Act.put, List.setIfInBounds_toArray, List.set_cons_zero, List.set_cons_succ]
                  refine wpAnyH_take (i := 7) (oi := ⟨some 175, _, _, _, _, _⟩) (v := ?_) rfl (by kernel_rfl) (by kernel_rfl) (by kernel_rfl) (fun _ _ _ h => h) (Or.inl ⟨by rfl, ?hy7⟩) (by assumption) ?rest7
                  case hy7 => (intro w hSw; (try dsimp only at hSw); go_simp; (try with_reducible rfl))
                  try simp only [Act.put, List.setIfInBounds_toArray, List.set_cons_zero, List.set_cons_succ]
                  refine wpAnyH_ready (rs := [8]) (by kernel_rfl) (by simp) ?_
                  refine AllReadyH.cons (o := ⟨some 176, _, _, _, _, _⟩) rfl (fun K hK => ?_) AllReadyH.nil
                  go_simp
                  go_at_call 12; (with_reducible refine (HFL.out _ (MBlk.drew HM0.out)).mono ?_); rintro r W3 ⟨v3, rfl, hO3, hM3, ho3⟩
                  refine hK.out _ _ ?_ (fun hHeld => ?_)
                  · exact ⟨keep_only ho3 hn1 (keep_drew clg), keep_only ho3 hn2 (keep_drew cms)⟩
                  clear hK K
                  try simp only [Act.put, List.setIfInBounds_toArray, List.set_cons_zero, List.set_cons_succ]
                  have hp3 := Pl.turn HP2.out.drew HAP.out i _ hin ho3 hM3
                  have hB3 : Below w.heap.size w W3 := (bel_drew HBL2.out).grown ho3 HBL2.out.size (fun k hk => by cases hk; exact HAP.out.mlow i hin)
                  have hown3 : OwnE W3 w.heap.size (lv i) (s.logs i) := hp3.own i hin
                  refine wpAnyH_ready (rs := [9]) (by kernel_rfl) (by simp) ?_
                  refine AllReadyH.cons (o := ⟨some 177, _, _, _, _, _⟩) rfl (fun K hK => ?_) AllReadyH.nil
                  refine step_appEs ?_ (.tmp 171) (.tmp 176) ?_ w.heap.size (lv i) (s.logs i) ?_ hown3 v3 _ _ ?_ hO3 (by omega) hB3.size ?_
                  rfl
                  rfl
                  rfl
                  rfl
                  intro v4 W4 hO4 hg4 hat4
                  obtain ⟨a4, c4, rfl⟩ := hO4.shape
                  refine hK.out _ _ ?_ (fun hHeld => ?_)
                  · exact ⟨keep_grown hg4 hn3 (keep_only ho3 hn1 (keep_drew clg)), keep_grown hg4 hn4 (keep_only ho3 hn2 (keep_drew cms))⟩
                  clear hK K
                  try simp only [Act.put, List.setIfInBounds_toArray, List.set_cons_zero, List.set_cons_succ]
                  refine wpAnyH_take (i := 10) (oi := ⟨some 178, _, _, _, _, _⟩) (v := ?_) rfl (by kernel_rfl) (by kernel_rfl) (by kernel_rfl) (fun _ _ _ h => h) (Or.inl ⟨by rfl, ?hy10⟩) (by assumption) ?rest10
                  case hy10 => (intro w hSw; (try dsimp only at hSw); go_simp; (try with_reducible rfl))
                  try simp only [Act.put, List.setIfInBounds_toArray, List.set_cons_zero, List.set_cons_succ]
                  refine wpAnyH_take (i := 11) (oi := ⟨none, _, _, _, _, _⟩) (v := ?_) rfl (by kernel_rfl) (by kernel_rfl) (by kernel_rfl) (fun _ _ _ h => h) (Or.inl ⟨by rfl, ?hy11⟩) (by assumption) ?rest11
                  case hy11 => (intro w hSw; (try dsimp only at hSw); go_simp; (try with_reducible rfl))
                  try simp only [Act.put, List.setIfInBounds_toArray, List.set_cons_zero, List.set_cons_succ]
                  refine wpAnyH_done (by kernel_rfl) ?_ _
                  dsimp only [lastQ]
                  have cl4 : W4.cell? ⟨A.lg, i, none⟩ = some (lv i) := keep_grown hg4 hn3 (keep_only ho3 hn1 (keep_drew clg))
                  have hfz4 : W4.frozen? ⟨A.lg, i, none⟩ = false := by
                    have hlg : A.lg < W3.heap.size := hp3.lt.1 _ (by simp [Adr.all])
                    rw [World.frozen?_of_block (hg4.block A.lg hlg hn3)]
                    exact hp3.logs.frozen i
                  refine wpList_plain rfl fun K hK => ?_
                  go_simp
                  refine hK _ _ ?_
                  clear hK K
                  rw [List.length_append] at hO4 hat4
                  have hp4 := Pl.append hp3 HAP.out i _ _ hin hg4 hO4 (fun g hg hm => by
                    rcases hat4 with e | e
                    · exact HAP.out.lall i hin g (by rw [← e]; exact hg) hm
                    · have h1 := hp3.lt.1 g hm
                      rw [e] at hg
                      have h2 := Option.some.inj hg
                      omega)
                  have HAP4 := Lib.hid (Apart.grown hp3 HAP.out hin hat4)
                  have HB4 := Lib.hid (bel_own (k := i) (u := .slice a4 ((s.logs i).length + (flushEs (s.m i) (k : Int) 16).2.length) c4) (hB3.grown hg4 hB3.size (fun k hk => (World.ownsRow.lt hown3 k hk).1)) (HAP.out.low A.lg (by simp [Adr.all])))
                  have HP4 := Lib.hid (show Pl w.heap.size A (W4.setCell ⟨A.lg, i, none⟩ (.slice a4 ((s.logs i).length + (flushEs (s.m i) (k : Int) 16).2.length) c4)) (flushV s mb lv i (.slice a4 ((s.logs i).length + (flushEs (s.m i) (k : Int) 16).2.length) c4) k 0) from
                    hp4.congr (fun _ _ => rfl) (fun _ _ => rfl) (fun _ _ => rfl) (fun k _ => wt_zero s i k) (fun _ _ => rfl) (fun _ _ => rfl) (fun _ => Iff.rfl) (fun _ _ => rfl) (fun _ _ => rfl) (fun _ _ => rfl) (fun _ _ => rfl))
                  clear hp4 hp3 hB3 hown3 hO4 hg4 hat4 hfz4 cl4 hO3 hM3 ho3 HFL HM0 clg cms hn1 hn2 hn3 hn4 hll hfl HP2 HBL2 b3' hHeld
                  generalize W4.setCell ⟨A.lg, i, none⟩ (.slice a4 ((s.logs i).length + (flushEs (s.m i) (k : Int) 16).2.length) c4) = W5 at *
                  generalize Value.slice a4 ((s.logs i).length + (flushEs (s.m i) (k : Int) 16).2.length) c4 = V4 at *
                  go_upto_region 42 with fail
                  go_loopw [179] (fun ii wr => ∃ j : Nat, ii = .int .i64 j ∧ j ≤ 3 ∧ Pl w.heap.size A wr (flushV s mb lv i V4 k j) ∧ Below w.heap.size w wr) (fun ii _ => 3 - (intOf ii).toNat)
                  case atStart => exact ⟨0, rfl, by omega, HP4.out, HB4.out⟩
                  case round =>
                    obtain ⟨j, rfl, hj, hpj, hbj⟩ := hrel
                    have HPJ := Lib.hid hpj
                    have HBJ := Lib.hid hbj
                    clear hbj HP4 HB4
                    by_cases hlt3 : j < 3
                    · have hj0 : (0 : Int) ≤ (j : Int) := by omega
                      have hj1 : (j : Int) < 3 := by omega
                      have hpnd := HINV.out.pend i hin j
                      have hsvH := HINV.out.srvH j hlt3
                      have hsvY := HINV.out.srvY j hlt3
                      have hpn := HINV.out.pend_nonneg j
                      have htz := (HINV.out.tot_nonneg j).1
                      have hw1 : wrap64 (totP (ofT j) Ent.hits s.all + (s.m i).H j) = totP (ofT j) Ent.hits s.all + (s.m i).H j := by unfold wrap64; omega
                      have hw2 : wrap64 (totP (ofT j) Ent.bytes s.all + (s.m i).Y j) = totP (ofT j) Ent.bytes s.all + (s.m i).Y j := by unfold wrap64; omega
                      have c0 : wr.cell? ⟨A.wr, j * 2, none⟩ = some (.int .i64 (totP (ofT j) Ent.hits s.all)) := (Row.pair0 (n := 6) (ty := 36) (H := wtH s i j) (Y := wtY s i j) hpj.writ j (by omega)).trans (by rw [(wt_at s i j).1])
                      have f0 := hpj.writ.frozen (j * 2)
                      have p0 : wr.cell? ⟨A.pe, i * 6 + j * 2, none⟩ = some (.int .i64 ((s.m i).H j)) := (hpj.pend.cell (k := i * 6 + j * 2) (by omega)).trans (congrArg some (pendF_at (fun i => (s.m i).H) (fun i => (s.m i).Y) i j hlt3).1)
                      clear hpj hpnd hsvH hsvY hpn htz
                      go_upto_region 44 with fail
                      refine wp_region_last_drew (by kernel_rfl) (by kernel_rfl) (by kernel_rfl) (by kernel_rfl) (by kernel_rfl) (by kernel_rfl) ?_
                      dsimp only [idleLast, lastOf, idle]
                      repeat (go_big_quiet_step (fail))
                      refine wpQuiet_nil ?_
                      rintro _ ⟨nq2, rfl⟩
                      refine wpList_plain rfl fun K hK => ?_
                      go_simp
                      refine hK _ _ ?_
                      clear hK K
                      have hplA := Pl.set_wr (HPJ.out.drewN nq2) HAP4.out (j * 2) (.int .i64 (totP (ofT j) Ent.hits s.all + (s.m i).H j))
                      have c1 : ((wr.drewN nq2).setCell ⟨A.wr, j * 2, none⟩ (.int .i64 (totP (ofT j) Ent.hits s.all + (s.m i).H j))).cell? ⟨A.wr, j * 2 + 1, none⟩ = some (.int .i64 (totP (ofT j) Ent.bytes s.all)) := by
                        rw [hplA.writ.cell (k := j * 2 + 1) (by omega)]
                        show some (updV _ (j * 2) _ (j * 2 + 1)) = _
                        unfold updV
                        rw [if_neg (by omega)]
                        show some (pairF (wtH s i j) (wtY s i j) (j * 2 + 1)) = _
                        rw [pairF_1, (wt_at s i j).2]
                      have f1 := hplA.writ.frozen (j * 2 + 1)
                      have p1 : ((wr.drewN nq2).setCell ⟨A.wr, j * 2, none⟩ (.int .i64 (totP (ofT j) Ent.hits s.all + (s.m i).H j))).cell? ⟨A.pe, i * 6 + j * 2 + 1, none⟩ = some (.int .i64 ((s.m i).Y j)) := (hplA.pend.cell (k := i * 6 + j * 2 + 1) (by omega)).trans (congrArg some (pendF_at (fun i => (s.m i).H) (fun i => (s.m i).Y) i j hlt3).2)
                      have HPA := Lib.hid hplA
                      have HBA := Lib.hid (show Below w.heap.size w ((wr.drewN nq2).setCell ⟨A.wr, j * 2, none⟩ (.int .i64 (totP (ofT j) Ent.hits s.all + (s.m i).H j))) from bel_own (((Kept.refl [] wr).drewN nq2).below HBJ.out HBJ.out.size (fun k hk => by cases hk)) (HAP.out.low _ (by simp [Adr.all])))
                      clear c0 f0 p0 hplA HPJ HBJ
                      generalize (wr.drewN nq2).setCell ⟨A.wr, j * 2, none⟩ (.int .i64 (totP (ofT j) Ent.hits s.all + (s.m i).H j)) = W6 at *
                      go_upto_region 45 with fail
                      refine wp_region_last_drew (by kernel_rfl) (by kernel_rfl) (by kernel_rfl) (by kernel_rfl) (by kernel_rfl) (by kernel_rfl) ?_
                      dsimp only [idleLast, lastOf, idle]
                      repeat (go_big_quiet_step (fail))
                      refine wpQuiet_nil ?_
                      rintro _ ⟨nq3, rfl⟩
                      refine wpList_plain rfl fun K hK => ?_
                      go_simp
                      refine hK _ _ ?_
                      clear hK K
                      have hplB := Pl.set_wr (HPA.out.drewN nq3) HAP4.out (j * 2 + 1) (.int .i64 (totP (ofT j) Ent.bytes s.all + (s.m i).Y j))
                      have HPB := Lib.hid (show Pl w.heap.size A ((W6.drewN nq3).setCell ⟨A.wr, j * 2 + 1, none⟩ (.int .i64 (totP (ofT j) Ent.bytes s.all + (s.m i).Y j))) (flushV s mb lv i V4 k (j + 1)) from
                        hplB.congr (fun _ _ => rfl) (fun _ _ => rfl) (fun _ _ => rfl) (fun k _ => wt_row s i j k) (fun _ _ => rfl) (fun _ _ => rfl) (fun _ => Iff.rfl) (fun _ _ => rfl) (fun _ _ => rfl) (fun _ _ => rfl) (fun _ _ => rfl))
                      have HBB := Lib.hid (show Below w.heap.size w ((W6.drewN nq3).setCell ⟨A.wr, j * 2 + 1, none⟩ (.int .i64 (totP (ofT j) Ent.bytes s.all + (s.m i).Y j))) from bel_own (((Kept.refl [] W6).drewN nq3).below HBA.out HBA.out.size (fun k hk => by cases hk)) (HAP.out.low _ (by simp [Adr.all])))
                      clear c1 f1 p1 hplB HPA HBA
                      generalize (W6.drewN nq3).setCell ⟨A.wr, j * 2 + 1, none⟩ (.int .i64 (totP (ofT j) Ent.bytes s.all + (s.m i).Y j)) = W8 at *
                      go_wp2_with fail
                      go_roundw
                      case rel => exact ⟨j + 1, by go_num, by omega, HPB.out, HBB.out⟩
                      case measure => simp [intOf]; omega
                    · obtain rfl : j = 3 := by omega
                      have z0 := hpj.pend.cell (k := i * 6) (by omega)
                      have z1 := hpj.pend.cell (k := i * 6 + 1) (by omega)
                      have z2 := hpj.pend.cell (k := i * 6 + 2) (by omega)
                      have z3 := hpj.pend.cell (k := i * 6 + 3) (by omega)
                      have z4 := hpj.pend.cell (k := i * 6 + 4) (by omega)
                      have z5 := hpj.pend.cell (k := i * 6 + 5) (by omega)
                      have f0 := hpj.pend.frozen (i * 6)
                      have f1 := hpj.pend.frozen (i * 6 + 1)
                      have f2 := hpj.pend.frozen (i * 6 + 2)
                      have f3 := hpj.pend.frozen (i * 6 + 3)
                      have f4 := hpj.pend.frozen (i * 6 + 4)
                      have f5 := hpj.pend.frozen (i * 6 + 5)
                      clear hpj
                      go_wp2_with fail
                      go_meet
                      have q1 := Pl.set_pe HPJ.out HAP4.out (i * 6) (.int .i64 0)
                      have q2 := Pl.set_pe q1 HAP4.out (i * 6 + 1) (.int .i64 0)
                      have q3 := Pl.set_pe q2 HAP4.out (i * 6 + 2) (.int .i64 0)
                      have q4 := Pl.set_pe q3 HAP4.out (i * 6 + 3) (.int .i64 0)
                      have q5 := Pl.set_pe q4 HAP4.out (i * 6 + 4) (.int .i64 0)
                      have q6 := Pl.set_pe q5 HAP4.out (i * 6 + 5) (.int .i64 0)
                      have hlo := HAP.out.low A.pe (by simp [Adr.all])
                      exact ⟨s.flush i k, ns, mb, updN lv i V4, HINV.out.flush hin (by omega) (by omega), by omega, flush_fin (s := s) (lv := lv) hin HINV.out q6, HAP4.out, bel_own (bel_own (bel_own (bel_own (bel_own (bel_own HBJ.out hlo) hlo) hlo) hlo) hlo) hlo⟩
              · as_aux_lemma =>
                  obtain rfl : q = 6 := by omega
                  have hce : (ct.byt : Int) % 400 = ((ct.byt % 400 : Nat) : Int) := by omega
                  have HSN := Lib.hid (send_st (cut := ct.byt % 400) HP2.out HAP.out HINV.out (by omega) (by omega) hin (by omega))
                  rw [← hce] at HSN
                  rw [show ((6 : Nat) : Int) = (6 : Int) from rfl]
                  clear hq hq0 hce
                  go_wp2_with (go_at_call 7; (with_reducible refine (HSN.out).mono ?_); rintro r W5 ⟨rfl, hk5, k5, full, hkl, hfl, _, hp5⟩; have HT5 := Lib.hid (show Turn w A (k + 1) W5 from ⟨s.send i k5 full, ns + 1, mb, lv, (HINV.out.send hin hkl hfl (by omega)).mono (by omega) (by omega), by omega, hp5, HAP.out, hk5.below HBL2.out HBL2.out.size (fun c hc => HAP.out.low c (by simp at hc; rcases hc with e | e | e <;> simp [Adr.all, e]))⟩); clear hk5 hp5 hkl hfl)
                  go_meet
                  exact HT5.out
              · as_aux_lemma =>
                  obtain rfl : q = 7 := by omega
                  rw [show ((7 : Nat) : Int) = (7 : Int) from rfl]
                  have hbt := HINV.out.boot i hin
                  have c7 : W2.cell? ⟨A.bo, i, none⟩ = some (.int .i64 (s.m i).boot) := HP2.out.boots.cell hin
                  have f7 := HP2.out.boots.frozen i
                  have hw7 : wrap64 ((s.m i).boot + 1) = (s.m i).boot + 1 := by unfold wrap64; omega
                  have HB5 := Lib.hid (H5.out i hin ((s.m i).boot + 1) (by omega))
                  clear hbt hq hq0
                  go_upto_region 26 with fail
                  have hp3 := HP2.out.set_bo HAP.out i (.int .i64 ((s.m i).boot + 1))
                  have HBL3 := Lib.hid (bel_setOwn (k := i) (u := .int .i64 ((s.m i).boot + 1)) HBL2.out (HAP.out.low A.bo (by simp [Adr.all])) HBL2.out.size)
                  clear c7 f7 HP2 HBL2 b3'
                  generalize W2.setCell ⟨A.bo, i, none⟩ (.int .i64 ((s.m i).boot + 1)) = W3 at *
                  have c8 : W3.cell? ⟨A.bo, i, none⟩ = some (.int .i64 ((s.m i).boot + 1)) := by
                    rw [hp3.boots.cell hin]
                    show some (updV _ i _ i) = _
                    simp [updV]
                  have cn : W3.cell? ⟨A.nm, i, none⟩ = some (.string ⟨(nodeN i).toArray⟩) := hp3.names.cell hin
                  have HP3 := Lib.hid hp3
                  clear hp3
                  go_region_held3 (fun w' => w'.cell? ⟨A.nm, i, none⟩ = some (.string ⟨(nodeN i).toArray⟩) ∧ w'.cell? ⟨A.bo, i, none⟩ = some (.int .i64 ((s.m i).boot + 1)))
                    ((go_split_ands; refine ⟨?_, ?_⟩ <;> (repeat (with_reducible (first | assumption | refine keep_at hb5 ?_ | refine keep_drew ?_)))))
                    ((go_at_call 5; (with_reducible refine (HB5.out _).mono ?_); rintro r W5 ⟨b', rfl, hb', hM5, hb5⟩))
                  go_upto_region 29 with fail
                  have hp5 := HP3.out.drew.step hb5
                  have HAP5 := Lib.hid (Apart.fresh HP3.out HAP.out hin (show W3.heap.size ≤ b' from hb') HBL3.out.size)
                  have HBL5 := Lib.hid (bel_step (bel_drew HBL3.out) hb5)
                  have hb'A : b' ∉ A.all := fun hm => by
                    have h1 := HP3.out.lt.1 b' hm
                    have h2 : W3.heap.size ≤ b' := hb'
                    omega
                  have cm := hp5.mtrs.cell hin
                  have fm := hp5.mtrs.frozen i
                  have z0 := hp5.pend.cell (k := i * 6) (by omega)
                  have z1 := hp5.pend.cell (k := i * 6 + 1) (by omega)
                  have z2 := hp5.pend.cell (k := i * 6 + 2) (by omega)
                  have z3 := hp5.pend.cell (k := i * 6 + 3) (by omega)
                  have z4 := hp5.pend.cell (k := i * 6 + 4) (by omega)
                  have z5 := hp5.pend.cell (k := i * 6 + 5) (by omega)
                  have f0 := hp5.pend.frozen (i * 6)
                  have f1 := hp5.pend.frozen (i * 6 + 1)
                  have f2 := hp5.pend.frozen (i * 6 + 2)
                  have f3 := hp5.pend.frozen (i * 6 + 3)
                  have f4 := hp5.pend.frozen (i * 6 + 4)
                  have f5 := hp5.pend.frozen (i * 6 + 5)
                  have HP5 := Lib.hid hp5
                  have HM5 := Lib.hid hM5
                  have hne : A.ms ≠ A.pe := HAP.out.ne 1 4 (by decide) (by decide) (by decide)
                  clear hp5 hM5 hb5 c8 cn HP3 HBL3 hb'
                  dsimp only at cm z0 z1 z2 z3 z4 z5
                  go_wp2_with fail
                  go_meet
                  have p1 := Pl.set_mb HP5.out HAP.out i b' (newM (nodeN i) ((s.m i).boot + 1)) hin HM5.out hb'A
                  have p2 := Pl.set_pe p1 HAP5.out (i * 6) (.int .i64 0)
                  have p3 := Pl.set_pe p2 HAP5.out (i * 6 + 1) (.int .i64 0)
                  have p4 := Pl.set_pe p3 HAP5.out (i * 6 + 2) (.int .i64 0)
                  have p5 := Pl.set_pe p4 HAP5.out (i * 6 + 3) (.int .i64 0)
                  have p6 := Pl.set_pe p5 HAP5.out (i * 6 + 4) (.int .i64 0)
                  have p7 := Pl.set_pe p6 HAP5.out (i * 6 + 5) (.int .i64 0)
                  have hlo := HAP.out.low A.pe (by simp [Adr.all])
                  exact ⟨s.boot i, ns, updN mb i b', lv, HINV.out.restart hin, by omega, boot_fin (s := s) (lv := lv) p7, HAP5.out, bel_own (bel_own (bel_own (bel_own (bel_own (bel_own (bel_own HBL5.out (HAP.out.low A.ms (by simp [Adr.all]))) hlo) hlo) hlo) hlo) hlo) hlo⟩
            case rest =>
              as_aux_lemma =>
                have HT2 := Lib.hid hcut
                clear hcut HINV HAP HP2 HBL2 b3' hns
                obtain ⟨s2, ns2, mb2, lv2, hinv, hns, hpl, hap, hbl⟩ := HT2.out
                have HP3 := Lib.hid hpl
                have HINV := Lib.hid hinv
                have hsl : s2.S.length ≤ 1000000 := by have := hinv.slen; omega
                clear hinv hpl hap hbl
                go_upto_region 52 with fail
                go_loopw [223] (fun ii wr => ∃ t : Nat, ii = .int .i64 t ∧ t ≤ 3 ∧ Below wc.heap.size wc wr) (fun ii _ => 3 - (intOf ii).toNat)
                case atStart => exact ⟨0, rfl, by omega, Below.refl _ _⟩
                case round =>
                  obtain ⟨t2, rfl, ht2, hbw⟩ := hrel
                  have HBW := Lib.hid hbw
                  have HP4 := Lib.hid (HP3.out.step hbw)
                  clear hbw
                  by_cases hlt2 : t2 < 3
                  · have hlt20 : (0 : Int) ≤ (t2 : Int) := by omega
                    have hlt21 : (t2 : Int) < 3 := by omega
                    have cle := HP4.out.led
                    have HTT := Lib.hid (total_run A.p A.b s2.S t2 wr HP4.out.set hsl)
                    have hsrv := HINV.out.srvH t2 hlt2
                    have hsrvY := HINV.out.srvY t2 hlt2
                    have hpn := HINV.out.pend_nonneg t2
                    have HMID := Lib.hid (fun es hA => HINV.out.mid (es := es) hA t2)
                    go_upto_region 55 with (go_at_call 13; refine (HTT.out).mono ?_; rintro r w6 ⟨es, hA, rfl, hb6⟩)
                    have hmid := HMID.out es hA
                    have HP6 := HP4.out.step hb6
                    have c0 := Row.pair0 (n := 6) (ty := 36) (H := s2.sH) (Y := s2.sY) HP6.serv t2 (by omega)
                    have c1 := Row.pair1 (n := 6) (ty := 36) (H := s2.sH) (Y := s2.sY) HP6.serv t2 (by omega)
                    have c2 := Row.pair0 (n := 6) (ty := 36) (H := fun t => totP (ofT t) Ent.hits s2.firm) (Y := fun t => totP (ofT t) Ent.bytes s2.firm) HP6.arr t2 (by omega)
                    have c3 := Row.pair1 (n := 6) (ty := 36) (H := fun t => totP (ofT t) Ent.hits s2.firm) (Y := fun t => totP (ofT t) Ent.bytes s2.firm) HP6.arr t2 (by omega)
                    have HB6 := Lib.hid (bel_step HBW.out hb6)
                    clear HP6 hb6 cle hA HTT HMID
                    generalize totP (ofT t2) Ent.hits es = hE at *
                    generalize totP (ofT t2) Ent.bytes es = yE at *
                    generalize totP (ofT t2) Ent.hits s2.firm = hF at *
                    generalize totP (ofT t2) Ent.bytes s2.firm = yF at *
                    generalize totP (ofT t2) Ent.hits s2.all = hL at *
                    generalize totP (ofT t2) Ent.bytes s2.all = yL at *
                    generalize s2.sH t2 = hS at *
                    generalize s2.sY t2 = yS at *
                    have i1 : ¬ hS < hE := by omega
                    have i2 : ¬ yS < yE := by omega
                    have i3 : ¬ hE < hF := by omega
                    have i4 : ¬ yE < yF := by omega
                    clear hmid hsrv hsrvY hpn
                    go_wp2_with fail
                    go_roundw
                    case rel => exact ⟨t2 + 1, by go_num, by omega, HB6.out⟩
                    case measure => simp [intOf]; omega
                  · obtain rfl : t2 = 3 := by omega
                    have HTN := Lib.hid (show Turn w A (k + 1) wr from by
                      obtain ⟨s3, ns3, mb3, lv3, h1, h2, h3, h4, h5⟩ := HT2.out
                      exact ⟨s3, ns3, mb3, lv3, h1, h2, h3.step HBW.out, h4, bel_step h5 HBW.out⟩)
                    go_wp2_with fail
                    go_roundw
                    case rel => exact ⟨k + 1, by go_num, by omega, HTN.out⟩
                    case measure => simp [intOf]; omega
          · as_aux_lemma =>
              obtain rfl : k = cs.length := by omega
              have hn60 : cs.length ≤ 60 := by omega
              have HS0 := Lib.hid (show SentI w A cs.length 0 wr from by
                obtain ⟨s, ns, mb, lv, hinv, hns, hpl, hap, hbl⟩ := HTU.out
                exact ⟨s, ns, mb, lv, hinv, by omega, hpl, hap, hbl, fun i hi => by omega⟩)
              clear HTU
              go_upto_region 60 with fail
              go_loopw [264] (fun ii wr => ∃ j : Nat, ii = .int .i64 j ∧ j ≤ 3 ∧ SentI w A cs.length j wr) (fun ii _ => 3 - (intOf ii).toNat)
              case atStart => exact ⟨0, rfl, by omega, HS0.out⟩
              case round =>
                obtain ⟨j, rfl, hj, hse⟩ := hrel
                have HSE := Lib.hid hse
                clear hse HS0
                by_cases hlt3 : j < 3
                · obtain ⟨s, ns, mb, lv, hinv, hns, hpl, hap, hbl, hsu⟩ := HSE.out
                  have HSN := Lib.hid (send_st (cut := 1048576) hpl hap hinv hn60 (by omega) hlt3 (Nat.le_refl _))
                  rw [show ((1048576 : Nat) : Int) = (1048576 : Int) from rfl] at HSN
                  have HNX := Lib.hid (show ∀ (W5 : World) (k5 : Nat) (full : Bool), Kept [A.b, A.ar, A.su] wr W5 → k5 ≤ (s.logs j).length → (full = true → k5 = (s.logs j).length) → (120 * (s.logs j).length ≤ 1048576 → full = true) → Pl w.heap.size A W5 ((s.send j k5 full).vals mb lv) → SentI w A cs.length (j + 1) W5 from fun W5 k5 full hk hkl hf hcf hp => by
                    have hl := hinv.len j hlt3
                    have hft := hcf (by omega)
                    subst hft
                    refine ⟨s.send j k5 true, ns + 1, mb, lv, hinv.send hlt3 hkl hf hn60, by omega, hp, hap, hk.below hbl hbl.size (fun c hc => hap.low c (by simp at hc; rcases hc with e | e | e <;> simp [Adr.all, e])), fun i hi => ?_⟩
                    show (if true = true then updN s.sure j (s.logs j).length else s.sure) i = (s.logs i).length
                    rw [if_pos rfl]
                    by_cases e : i = j
                    · subst e; rw [updN_same]
                    · rw [updN_ne _ _ _ e]; exact hsu i (by omega))
                  have hj0 : (0 : Int) ≤ (j : Int) := by omega
                  have hj1 : (j : Int) < 3 := by omega
                  clear hinv hns hpl hap hbl hsu HSE
                  go_wp2_with (go_at_call 7; (with_reducible refine (HSN.out).mono ?_); rintro r W5 ⟨rfl, hk5, k5, full, hkl, hfl, hcf, hp5⟩; have HT5 := Lib.hid (HNX.out W5 k5 full hk5 hkl hfl hcf hp5); clear hk5 hp5 hkl hfl hcf)
                  go_roundw
                  case rel => exact ⟨j + 1, by go_num, by omega, HT5.out⟩
                  case measure => simp [intOf]; omega
                · as_aux_lemma =>
                    obtain rfl : j = 3 := by omega
                    obtain ⟨s, ns, mb, lv, hinv, hns, hpl, hap, hbl, hsu⟩ := HSE.out
                    have hwp : IntKind.i64.wrap (pr : Int) = (pr : Int) := IntWalk.i64_in _ (by omega)
                    have hsl : s.S.length ≤ 1000000 := by have := hinv.slen; omega
                    have HTB := Lib.hid (fun t => hinv.tot_bd hn60 t)
                    have HES := Lib.hid (fun es hA t => hinv.tot_es hn60 hsu es hA t)
                    have HNG := Lib.hid (hinv.noGap hsu)
                    have HH3 := Lib.hid (show ∀ t, 3 ≤ t → tH s t = 0 from fun t ht => (hinv.tot_bd hn60 t).2.2.2.2.2 ht)
                    have HBD := Lib.hid (show ∀ t, 7 * tH s t + pr * tY s t < 1000000000000000000 from fun t => by
                      have h1 := hinv.tot_bd hn60 t
                      have h2 : pr * tY s t ≤ 65535 * 4000000 := Nat.mul_le_mul (by omega) h1.2.2.2.1
                      omega)
                    have HBLL := Lib.hid (show ∀ g W, IsSet W A.p A.b s.S → W.cell? ⟨g, 0, none⟩ = some (.int .i64 0) → W.cell? ⟨g, 1, none⟩ = some (.int .i64 pr) → Calls Try.prog 14 #[.pointer (some ⟨A.p, 0, none⟩), .agg #[.slice (some ⟨g, 0, none⟩) 1 1, .int .i64 1, .int .i64 7, .int .i64 0], .int .i64 0, .int .i64 1000] W fun e w' =>
                        ∃ v, e = .returned (.tuple #[v, .int .i64 (sumL (linesP (tH s) (tY s) pr 7 16) : Nat), .nilIface]) ∧ OwnL w' W.heap.size v (linesP (tH s) (tY s) pr 7 16) ∧ Below W.heap.size W w' from
                      fun g W hS c0 c1 => bill_run A.p A.b s.S g pr 7 0 1000 (tH s) (tY s) (by omega) (by omega) (by omega) (fun t ht => by have h1 := hinv.tot_bd hn60 t; exact ⟨h1.2.2.2.2.1, by omega, by omega, HBD.out t⟩) W hS hsl (fun es hA t ht => hinv.bill_tot hn60 hsu es hA t) c0 c1)
                    have HPL := Lib.hid hpl
                    have HBL := Lib.hid hbl
                    clear hinv hns hpl hap hbl hsu HSE
                    generalize tH s = Hf at *
                    generalize tY s = Yf at *
                    go_upto_region 66 with fail
                    have hn1 := bel_new wr (.cells #[.int .i64 0, .int .i64 pr] 59)
                    have x0 : (wr.alloc (.cells #[.int .i64 0, .int .i64 pr] 59)).cell? ⟨wr.heap.size, 0, none⟩ = some (.int .i64 0) := by simp [go_sem]
                    have x1 : (wr.alloc (.cells #[.int .i64 0, .int .i64 pr] 59)).cell? ⟨wr.heap.size, 1, none⟩ = some (.int .i64 pr) := by simp [go_sem]
                    have hz1 : (wr.alloc (.cells #[.int .i64 0, .int .i64 pr] 59)).heap.size = wr.heap.size + 1 := by simp
                    have HP1 := Lib.hid (HPL.out.step hn1)
                    have HB1 := Lib.hid (bel_step HBL.out hn1)
                    generalize wr.alloc (.cells #[.int .i64 0, .int .i64 pr] 59) = G1 at *
                    have hn2 := bel_new G1 (.cells #[.slice (some ⟨wr.heap.size, 0, none⟩) 1 1, .int .i64 1, .int .i64 7, .int .i64 0] 62)
                    have d0 : (G1.alloc (.cells #[.slice (some ⟨wr.heap.size, 0, none⟩) 1 1, .int .i64 1, .int .i64 7, .int .i64 0] 62)).cell? ⟨G1.heap.size, 0, none⟩ = some (.slice (some ⟨wr.heap.size, 0, none⟩) 1 1) := by simp [go_sem]
                    have d1 : (G1.alloc (.cells #[.slice (some ⟨wr.heap.size, 0, none⟩) 1 1, .int .i64 1, .int .i64 7, .int .i64 0] 62)).cell? ⟨G1.heap.size, 1, none⟩ = some (.int .i64 1) := by simp [go_sem]
                    have d2 : (G1.alloc (.cells #[.slice (some ⟨wr.heap.size, 0, none⟩) 1 1, .int .i64 1, .int .i64 7, .int .i64 0] 62)).cell? ⟨G1.heap.size, 2, none⟩ = some (.int .i64 7) := by simp [go_sem]
                    have d3 : (G1.alloc (.cells #[.slice (some ⟨wr.heap.size, 0, none⟩) 1 1, .int .i64 1, .int .i64 7, .int .i64 0] 62)).cell? ⟨G1.heap.size, 3, none⟩ = some (.int .i64 0) := by simp [go_sem]
                    have HX0 := Lib.hid (keep_at hn2 x0)
                    have HX1 := Lib.hid (keep_at hn2 x1)
                    have HP2 := Lib.hid (HP1.out.step hn2)
                    have HB2 := Lib.hid (bel_step HB1.out hn2)
                    rw [show wr.heap.size + 1 = G1.heap.size from hz1.symm]
                    clear hn1 hn2 x0 x1 hz1 HP1 HB1 HPL HBL
                    generalize G1.alloc (.cells #[.slice (some ⟨wr.heap.size, 0, none⟩) 1 1, .int .i64 1, .int .i64 7, .int .i64 0] 62) = G2 at *
                    generalize wr.heap.size = tg at *
                    generalize G1.heap.size = tb at *
                    have cle := HP2.out.led
                    go_upto_region 67 with (go_at_call 14; (with_reducible refine (HBLL.out _ _ HP2.out.set HX0.out HX1.out).mono ?_); rintro r W6 ⟨lvv, rfl, ho6, hb6⟩; obtain ⟨la, lc, rfl⟩ := ho6.shape)
                    have HO6 := Lib.hid ho6
                    have HP6 := Lib.hid (HP2.out.step hb6)
                    have HB6 := Lib.hid (bel_step HB2.out hb6)
                    have cle6 := keep_at hb6 cle
                    clear ho6 hb6 cle d0 d1 d2 d3 HX0 HX1 HP2 HB2 HBLL
                    go_upto_region 71 with (go_at_call 15; (with_reducible refine (gaps_run A.p A.b s.S _ HP6.out.set hsl HNG.out).mono ?_); rintro r W7 ⟨rfl, hb7⟩)
                    have HO7 := Lib.hid (HO6.out.step hb7)
                    have HP7 := Lib.hid (HP6.out.step hb7)
                    have HB7 := Lib.hid (bel_step HB6.out hb7)
                    clear hb7 cle6 HO6 HP6 HB6 HNG
                    have HLB := Lib.hid (linesP_bd Hf Yf pr 7 fun t _ => HBD.out t)
                    have HL16 := Lib.hid (show linesP Hf Yf pr 7 16 = linesP Hf Yf pr 7 3 from lines16 _ _ _ _ HH3.out 13)
                    obtain ⟨NL, hNL⟩ : ∃ n : Nat, n = (linesP Hf Yf pr 7 16).length := ⟨_, rfl⟩
                    obtain ⟨SL, hSL⟩ : ∃ n : Nat, n = sumL (linesP Hf Yf pr 7 16) := ⟨_, rfl⟩
                    rw [← hNL, ← hSL]
                    rw [← hNL] at HO7
                    have HNL := Lib.hid hNL
                    have HSL := Lib.hid hSL
                    clear hNL hSL
                    go_loopw [38, 39, 292] (fun tot kk ii wr => ∃ t K SM : Nat, ii = .int .i64 t ∧ t ≤ 3 ∧ tot = .int .i64 SM ∧ kk = .int .i64 K ∧ Hid (SM = sumL (linesP Hf Yf pr 7 t) ∧ K = (linesP Hf Yf pr 7 t).length) ∧ Below W7.heap.size W7 wr) (fun _ _ ii _ => 3 - (intOf ii).toNat)
                    case atStart => exact ⟨0, 0, 0, rfl, by omega, rfl, rfl, Lib.hid ⟨rfl, rfl⟩, Below.refl _ _⟩
                    case round =>
                      obtain ⟨t, K, SM, rfl, ht, rfl, rfl, HKS, hbw⟩ := hrel
                      have HBW := Lib.hid hbw
                      have HP8 := Lib.hid (HP7.out.step hbw)
                      have HO8 := Lib.hid (HO7.out.step hbw)
                      clear hbw
                      have hlb := HLB.out t (by omega)
                      by_cases hlt : t < 3
                      · have ht0 : (0 : Int) ≤ (t : Int) := by omega
                        have ht1 : (t : Int) < 3 := by omega
                        have cle := HP8.out.led
                        have HTT := Lib.hid (total_run A.p A.b s.S t wr HP8.out.set hsl)
                        have htb := HTB.out t
                        go_upto_region 74 with (go_at_call 13; (with_reducible refine (HTT.out).mono ?_); rintro r w6 ⟨es, hA, rfl, hb6⟩)
                        have hes := HES.out es hA t
                        rw [hes.1, hes.2]
                        have hp9 := HP8.out.step hb6
                        have HO9 := Lib.hid (HO8.out.step hb6)
                        have HB9 := Lib.hid (bel_step HBW.out hb6)
                        have c0 := Row.pair0 (n := 6) (ty := 36) (H := fun t => totP (ofT t) Ent.hits s.all) (Y := fun t => totP (ofT t) Ent.bytes s.all) hp9.writ t (by omega)
                        have c1 := Row.pair1 (n := 6) (ty := 36) (H := fun t => totP (ofT t) Ent.hits s.all) (Y := fun t => totP (ofT t) Ent.bytes s.all) hp9.writ t (by omega)
                        rw [htb.1] at c0
                        rw [htb.2.1] at c1
                        have HBDT := Lib.hid (HBD.out t)
                        have HZ := Lib.hid htb.2.2.2.2.1
                        have hh1 := htb.2.2.1
                        have hh2 := htb.2.2.2.1
                        clear hes hp9 hb6 hA cle HTT htb HBW
                        by_cases h0 : Hf t = 0
                        · have HLN := Lib.hid (show linesP Hf Yf pr 7 (t + 1) = linesP Hf Yf pr 7 t by rw [linesP, if_pos h0, List.append_nil])
                          rw [h0] at c0 ⊢
                          rw [show ((0 : Nat) : Int) = (0 : Int) from rfl] at c0 ⊢
                          clear h0 hlb
                          go_wp2_with fail
                          go_roundw
                          case rel => exact ⟨t + 1, K, SM, by go_num, by omega, rfl, rfl, Lib.hid (by rw [HLN.out]; exact HKS.out), HB9.out⟩
                          case measure => simp [intOf]; omega
                        · as_aux_lemma =>
                            have HLA := Lib.hid (line_at Hf Yf pr 7 hlt h0 HH3.out)
                            have hln := (List.getElem?_eq_some_iff.1 HLA.out.1).1
                            have hl16 := HLB.out 16 (by omega)
                            have hu := upP_le _ HBDT.out
                            have hsum : sumL (linesP Hf Yf pr 7 (t + 1)) = SM + upP (7 * Hf t + pr * Yf t) 1000000 := by rw [HKS.out.1, HLA.out.2, sumL_app]; rfl
                            have hlen : (linesP Hf Yf pr 7 (t + 1)).length = K + 1 := by rw [HKS.out.2, HLA.out.2, List.length_append]; rfl
                            have HLEN := Lib.hid hlen
                            have HO9' : OwnL w6 G2.heap.size (.slice la (linesP Hf Yf pr 7 16).length lc) (linesP Hf Yf pr 7 16) := by rw [← HNL.out]; exact HO9.out
                            have hkn : K < NL := by rw [HKS.out.2, HNL.out]; exact hln
                            have hkk : K ≤ 16 := by have := hlb.1; rw [← HKS.out.2] at this; omega
                            have hsm : SM ≤ 16000000000016 := by have := hlb.2; rw [← HKS.out.1] at this; omega
                            obtain ⟨lg9, lc9, hv9, _, _⟩ := World.ownsRow.form HO9' (by omega)
                            simp only [Value.slice.injEq] at hv9
                            obtain ⟨rfl, _, rfl⟩ := hv9
                            have hla : (linesP Hf Yf pr 7 16)[K]? = some ⟨t, Hf t, Yf t, upP (7 * Hf t + pr * Yf t) 1000000⟩ := by rw [HKS.out.2]; exact HLA.out.1
                            have v0 : w6.cell? ⟨lg9, K * 4, none⟩ = some (.int .i64 (t : Nat)) := OwnL.cells HO9' _ _ hla 0 (by omega)
                            have v1 : w6.cell? ⟨lg9, K * 4 + 1, none⟩ = some (.int .i64 (Hf t : Nat)) := OwnL.cells HO9' _ _ hla 1 (by omega)
                            have v2 : w6.cell? ⟨lg9, K * 4 + 2, none⟩ = some (.int .i64 (Yf t : Nat)) := OwnL.cells HO9' _ _ hla 2 (by omega)
                            have v3 : w6.cell? ⟨lg9, K * 4 + 3, none⟩ = some (.int .i64 (upP (7 * Hf t + pr * Yf t) 1000000 : Nat)) := OwnL.cells HO9' _ _ hla 3 (by omega)
                            clear HO9' hla
                            have hup := fun W => up_run (7 * Hf t + pr * Yf t) 1000000 (by omega) (by have := HBDT.out; omega) W
                            rw [show ((1000000 : Nat) : Int) = (1000000 : Int) from rfl] at hup
                            obtain ⟨MM, hMM⟩ : ∃ M : Int, M = ((pr * Yf t : Nat) : Int) := ⟨_, rfl⟩
                            obtain ⟨QQ, hQQ⟩ : ∃ M : Int, M = ((7 * Hf t : Nat) : Int) := ⟨_, rfl⟩
                            obtain ⟨TT, hTT⟩ : ∃ M : Int, M = ((7 * Hf t + pr * Yf t : Nat) : Int) := ⟨_, rfl⟩
                            obtain ⟨cn, hcn⟩ : ∃ c : Nat, c = upP (7 * Hf t + pr * Yf t) 1000000 := ⟨_, rfl⟩
                            rw [← hTT, ← hcn] at hup
                            rw [← hcn] at v3 hsum hu
                            have HUP := Lib.hid hup
                            have HSUM := Lib.hid hsum
                            have e1 : (pr : Int) * (Yf t : Int) = MM := by rw [hMM]; exact (Int.natCast_mul _ _).symm
                            have e2 : (7 : Int) * (Hf t : Int) = QQ := by omega
                            have e3 : MM + QQ = TT := by omega
                            have hT : (0 : Int) ≤ TT ∧ TT ≤ 1000000000000000000 := by have := HBDT.out; omega
                            have hM : (0 : Int) ≤ MM ∧ MM ≤ 1000000000000000000 := by have := HBDT.out; omega
                            have hQ : (0 : Int) ≤ QQ ∧ QQ ≤ 1000000000000000000 := by have := HBDT.out; omega
                            have hh0 : ¬ ((Hf t : Nat) : Int) = 0 := by omega
                            have hhb : (Hf t == 0) = false := by simpa using h0
                            have hhd : decide (Hf t = 0) = false := by simpa using h0
                            clear hup hsum hlen hl16 HZ HTB HES HBDT hMM hQQ hTT hcn
                            have hw1 : wrap64 MM = MM := by unfold wrap64; omega
                            have hw2 : wrap64 QQ = QQ := by unfold wrap64; omega
                            have hw3 : wrap64 TT = TT := by unfold wrap64; omega
                            have hcn0 : (0 : Int) ≤ (cn : Int) := Int.natCast_nonneg _
                            have hcn1 : (cn : Int) ≤ 1000000000001 := by omega
                            have hsm0 : (0 : Int) ≤ (SM : Int) := by omega
                            have hsm1 : (SM : Int) ≤ 16000000000016 := by omega
                            have hkl : (K : Int) < (NL : Int) := by omega
                            have hk9 : (K : Int) ≤ 16 := by omega
                            have hk8 : (0 : Int) ≤ (K : Int) := by omega
                            have hknn : ¬ NL ≤ K := by omega
                            clear hT hM hQ hu hln hlb hsm hkk hkn
                            go_upto_region 80 with (go_at_call 16; (with_reducible refine (HUP.out _).mono ?_); rintro r w8 ⟨rfl, rfl⟩)
                            clear v0 v1 v2 v3 e1 e2 e3 hw1 hw2 hw3 hkl hknn hh0 hhb hhd h0 hh1 hh2 c0 c1 HUP HLA
                            go_wp2_with fail
                            go_roundw
                            case rel => exact ⟨t + 1, K + 1, SM + cn, by go_num, by omega, by go_num, by go_num, Lib.hid ⟨HSUM.out.symm, HLEN.out.symm⟩, HB9.out⟩
                            case measure => simp [intOf]; omega
                      · as_aux_lemma =>
                          obtain rfl : t = 3 := by omega
                          have HFIN := Lib.hid (bel_step HB7.out HBW.out)
                          obtain rfl : K = NL := by rw [HKS.out.2, HNL.out, HL16.out]
                          obtain rfl : SM = SL := by rw [HKS.out.1, HSL.out, HL16.out]
                          clear hlb
                          go_wp2_with fail
                          go_ret
                          exact ⟨rfl, HFIN.out⟩
end Go.Proofs.Ythhooocckfljaaa
