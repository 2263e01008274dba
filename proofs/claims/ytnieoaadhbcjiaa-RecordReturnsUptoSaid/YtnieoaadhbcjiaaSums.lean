/- The walk of the law RecordSums: it returns true. No condition beyond the slices' reading. -/
import Derived.Test.YtnieoaadhbcjiaaRefs
import Derived.Test.YtnieoaadhbcjiaaSumLaw
import Derived.Test.YtnieoaadhbcjiaaAppends
import Derived.Deep.OwnRows
namespace Go.Proofs.Ytnieoaadhbcjiaa
open Go.RowKit
set_option linter.unusedVariables false
set_option linter.unusedSimpArgs false

theorem rowB {w : World} {g : Nat} {f : Nat → Value} {l : List UInt8} (hr : w.rowIs g 5 l.length f) (hf : ∀ i c, l[i]? = some c → f i = .int .u8 (c.toNat : Int)) (hm : l.length ≤ maxLen) :
    IsB w (.slice (some ⟨g, 0, none⟩) l.length l.length) l := by
  by_cases h0 : l = []
  · subst h0
    exact IsB.empty w _ _ (Nat.zero_le _) (fun h => by cases h)
  · refine .inr ⟨h0, g, 0, l.length, rfl, Nat.le_refl _, hm, fun i c hi => ?_⟩
    have hil : i < l.length := (List.getElem?_eq_some_iff.1 hi).1
    rw [Nat.zero_add, hr.cell hil, hf i c hi]
theorem IsB.upto {w : World} {a : Option Addr} {l : List UInt8} {cap : Nat} (h : IsB w (.slice a l.length cap) l) (n : Nat) (hn : n ≤ l.length) : IsB w (.slice a n cap) (l.take n) := by
  have hs := h.shape
  obtain ⟨a', cap', hv, h1, h2, h3⟩ := hs
  injection hv with e1 e2 e3
  subst e1 e3
  by_cases h0 : n = 0
  · subst h0
    exact .inl ⟨by simp, a, cap, rfl, h2, h3⟩
  · rcases h with ⟨rfl, _⟩ | ⟨h0', b, off, cap', hv, g1, g2, g3⟩
    · simp at hn; omega
    · injection hv with e1 e2 e3
      subst e1 e3
      have hl : (l.take n).length = n := by simp; omega
      refine .inr ⟨?_, b, off, cap, by rw [hl], by omega, h2, fun i c hi => ?_⟩
      · intro e; rw [e] at hl; simp at hl; omega
      · rw [List.getElem?_take] at hi
        by_cases hin : i < n
        · rw [if_pos hin] at hi; exact g3 i c hi
        · rw [if_neg hin] at hi; cases hi
theorem IsB.draws {w : World} {v : Value} {l : List UInt8} (h : IsB w v l) (n : Nat) : IsB (w.drewN n) v l := h
theorem xor_u8 (c d : UInt8) : bits .xor .u8 (c.toNat : Int) (d.toNat : Int) = ((c ^^^ d).toNat : Int) := by
  rw [UInt8.toNat_xor]
  exact u8_xor_nat _ _ c.toNat_lt d.toNat_lt
theorem made5 (n : Nat) (h : n ≤ 3000) (w : World) : (Instr.makeSlice 23 (.int .i64 (n : Int)) (.int .i64 (n : Int))).run Try.prog w = .ok (.slice (some ⟨w.heap.size, 0, none⟩) n n) (w.alloc (.cells (madeCells #[.int .u8 0] n) 5)) :=
  run_make_row' 23 5 (.int .u8 0) 1 Try.underlying23 info5 rfl .i64 .i64 n (by omega) (by omega) w

theorem two_rows (wc : World) (n : Nat) : World.rowIs ((wc.alloc (.cells (madeCells #[.int .u8 0] n) 5)).alloc (.cells (madeCells #[.int .u8 0] n) 5)).drew wc.heap.size 5 n (fun _ => .int .u8 0) ∧
    World.rowIs ((wc.alloc (.cells (madeCells #[.int .u8 0] n) 5)).alloc (.cells (madeCells #[.int .u8 0] n) 5)).drew (wc.heap.size + 1) 5 n (fun _ => .int .u8 0) := by
  refine ⟨((World.rowIs_made wc (.int .u8 0) n 5).alloc _).drew, ?_⟩
  have := World.rowIs_made (wc.alloc (.cells (madeCells #[.int .u8 0] n) 5)) (.int .u8 0) n 5
  rw [World.size_alloc] at this
  exact this.drew

set_option maxHeartbeats 2000000 in
theorem sums_main (x y : Addr) (ca cb : Nat) (a b : List UInt8) (n : Nat) (w : World) (ha : IsB w (.slice (some x) a.length ca) a) (hb : IsB w (.slice (some y) b.length cb) b) (hla : a.length ≤ 3000) (hlb : b.length ≤ 3000)
    (hn : min (a.length : Int) b.length = (n : Int)) :
    Calls Try.prog 4 #[.slice (some x) a.length ca, .slice (some y) b.length cb] w fun e w' => e = .returned (.bool true) ∧ Below w.heap.size w w' := by
  have hmk := made5 n (by omega)
  have hna : n ≤ a.length := by omega
  have hnb : n ≤ b.length := by omega
  have hla' : (a.length : Int) ≤ 3000 := by omega
  have hlb' : (b.length : Int) ≤ 3000 := by omega
  obtain ⟨_, _, hv, hc1, _⟩ := ha.shape
  simp only [Value.slice.injEq] at hv
  obtain ⟨rfl, _, rfl⟩ := hv
  obtain ⟨_, _, hv', hc2, _⟩ := hb.shape
  simp only [Value.slice.injEq] at hv'
  obtain ⟨rfl, _, rfl⟩ := hv'
  have HA := Lib.hid ha
  have HB := Lib.hid hb
  clear ha hb
  go_enter Try.func4, Try.ntmps4
  go_wp2_with fail
  refine (awake_any _).mono ?_
  rintro e w1 ⟨rfl, hb1⟩
  have hA1 := HA.out.step hb1
  have hB1 := HB.out.step hb1
  have HA1 := Lib.hid hA1
  have HB1 := Lib.hid hB1
  clear hA1 hB1
  go_upto_region 5 with (first | (go_at_call 18; first | (with_reducible refine (sum_any _ _ _ HA1.out).mono ?_; rintro e w' ⟨rfl, rfl⟩) | (with_reducible refine (sum_any _ _ _ HB1.out).mono ?_; rintro e w' ⟨rfl, rfl⟩)) | (go_at_call 19; first | (with_reducible refine (rsum_any _ _ _ HA1.out).mono ?_; rintro e w' ⟨rfl, rfl⟩) | (with_reducible refine (rsum_any _ _ _ HB1.out).mono ?_; rintro e w' ⟨rfl, rfl⟩)))
  go_cut [5] (fun u wx => u = .int .i64 (n : Int) ∧ wx = w1)
  case first =>
    go_wp2_with fail
    all_goals
      go_meet
      exact ⟨congrArg _ (by omega), rfl⟩
  case rest =>
    obtain ⟨rfl, rfl⟩ := hcut
    go_upto_region 6 with fail
    go_cut [6, 7] (fun u v wx => ∃ g h : Nat, u = .slice (some ⟨g, 0, none⟩) n n ∧ v = .slice (some ⟨h, 0, none⟩) n n ∧ g ≠ h ∧ wx.rowIs g 5 n (fun _ => .int .u8 0) ∧ wx.rowIs h 5 n (fun _ => .int .u8 0) ∧ w.heap.size ≤ g ∧ w.heap.size ≤ h ∧ Below w.heap.size w wx)
    case first =>
      go_region
      all_goals go_wp2_with fail
      all_goals go_meet
      · exact ⟨_, _, rfl, rfl, by omega, (two_rows wc n).1, (two_rows wc n).2, hb1.size, Nat.le_succ_of_le hb1.size, bel_drew (bel_alloc (bel_alloc hb1))⟩
      · exact ⟨_, _, rfl, rfl, by omega, (two_rows wc n).2, (two_rows wc n).1, Nat.le_succ_of_le hb1.size, hb1.size, bel_drew (bel_alloc (bel_alloc hb1))⟩
    case rest =>
      obtain ⟨g, h, rfl, rfl, hgh, hg, hh, hbg, hbh, hB⟩ := hcut
      go_upto_region 8 with fail
      have HG := Lib.hid hg
      have HH := Lib.hid hh
      clear hg hh hb1 HA1 HB1
      go_loopw [8] (fun i wr => ∃ (k : Nat) (f : Nat → Value), i = .int .i64 k ∧ k ≤ n ∧ wr.rowIs g 5 n f ∧ (∀ j c d, a[j]? = some c → b[j]? = some d → j < k → f j = .int .u8 ((c ^^^ d).toNat : Int)) ∧ wr.rowIs h 5 n (fun _ => .int .u8 0) ∧ Below w.heap.size w wr) (fun i _ => n - (intOf i).toNat)
      case atStart => exact ⟨0, _, rfl, by omega, HG.out, fun _ _ _ _ _ h => absurd h (Nat.not_lt_zero _), HH.out, hB⟩
      case round =>
        obtain ⟨k, f, rfl, hk, hr, hf, hr2, hBr⟩ := hrel
        have HR := Lib.hid hr
        have HF := Lib.hid hf
        have HR2 := Lib.hid hr2
        have hAr := HA.out.step hBr
        have hBB := HB.out.step hBr
        clear hr hf hr2
        by_cases hkn : k < n
        · rcases hAr with ⟨rfl, _⟩ | ⟨_, ba, oa, ca', hv, _, _, hca⟩
          · simp at hna; omega
          rcases hBB with ⟨rfl, _⟩ | ⟨_, bb, ob, cb', hv', _, _, hcb⟩
          · simp at hnb; omega
          simp only [Value.slice.injEq, Option.some.injEq] at hv hv'
          obtain ⟨rfl, _, rfl⟩ := hv
          obtain ⟨rfl, _, rfl⟩ := hv'
          obtain ⟨c, hc⟩ : ∃ c, a[k]? = some c := ⟨_, List.getElem?_eq_getElem (by omega)⟩
          obtain ⟨d, hd⟩ : ∃ d, b[k]? = some d := ⟨_, List.getElem?_eq_getElem (by omega)⟩
          have c1 := hca k c hc
          have c2 := hcb k d hd
          have c3 := HR.out.cell hkn
          have c4 := HR.out.frozen k
          have hx := xor_u8 c d
          have hka : k < a.length := by omega
          have hkb : k < b.length := by omega
          have HC := Lib.hid hc
          have HD := Lib.hid hd
          clear hca hcb hc hd
          go_wp2_with fail
          go_region
          all_goals go_wp2_with fail
          all_goals go_roundw
          case rel =>
            refine ⟨k + 1, fun j => if j = k then .int .u8 ((c ^^^ d).toNat : Int) else f j, by go_num, by omega, ?_, ?_, ?_, ?_⟩
            · rw [UInt8.toNat_xor]
              exact (HR.out.set k _).drew
            · intro j c' d' hc' hd' hj
              by_cases e : j = k
              · subst e
                have h1 := HC.out
                have h2 := HD.out
                rw [hc'] at h1
                rw [hd'] at h2
                injection h1 with h1
                injection h2 with h2
                subst h1 h2
                simp
              · simp only [if_neg e]
                exact HF.out j c' d' hc' hd' (by omega)
            · exact (HR2.out.setOther (Ne.symm hgh) _).drew
            · exact bel_drew (hBr.setCell hbg _)
          case measure => simp [intOf]; omega
        · obtain rfl : k = n := by omega
          have hX : IsB wr (.slice (some ⟨g, 0, none⟩) k k) (List.zipWith (· ^^^ ·) (a.take k) (b.take k)) := by
            have hl : (List.zipWith (· ^^^ ·) (a.take k) (b.take k)).length = k := by simp; omega
            have := rowB (l := List.zipWith (· ^^^ ·) (a.take k) (b.take k)) (g := g) (w := wr) (f := f) (by rw [hl]; exact HR.out) (fun i e hi => by
              rw [List.getElem?_zipWith] at hi
              cases h1 : (a.take k)[i]? with
              | none => rw [h1] at hi; cases hi
              | some c =>
                cases h2 : (b.take k)[i]? with
                | none => rw [h1, h2] at hi; cases hi
                | some d =>
                  rw [h1, h2] at hi
                  simp only [Option.some.injEq] at hi
                  subst hi
                  rw [List.getElem?_take] at h1 h2
                  by_cases hik : i < k
                  · rw [if_pos hik] at h1 h2
                    exact HF.out i c d h1 h2 hik
                  · rw [if_neg hik] at h1; cases h1) (by rw [hl]; unfold maxLen; omega)
            rwa [hl] at this
          have hZ : IsB wr (.slice (some ⟨h, 0, none⟩) k k) (List.replicate k 0) := by
            have := rowB (l := List.replicate k (0 : UInt8)) (g := h) (w := wr) (f := fun _ => .int .u8 0) (by simpa using HR2.out) (fun i c hi => by
              have := List.eq_of_mem_replicate (List.mem_of_getElem? hi)
              subst this
              rfl) (by simp; unfold maxLen; omega)
            simpa using this
          have hAk := hAr.upto k hna
          have hBk := hBB.upto k hnb
          have s1 := fun m => sum_any _ _ _ (hX.draws m)
          have s2 := fun m => sum_any _ _ _ (hAk.draws m)
          have s3 := fun m => sum_any _ _ _ (hBk.draws m)
          have s4 := fun m => sum_any _ _ _ (hZ.draws m)
          have S1 := Lib.hid s1
          have S2 := Lib.hid s2
          have S3 := Lib.hid s3
          have S4 := Lib.hid s4
          have hlaw := sum_law (a.take k) (b.take k) (by simp; omega)
          have e1 := xor_u32 (sumP (a.take k)) (sumP (b.take k)) (word_sumP _) (word_sumP _)
          have e2 := xor_u32 (sumP (a.take k) ^^^ sumP (b.take k)) (sumP (List.replicate k 0)) ((word_sumP _).xor (word_sumP _)) (word_sumP _)
          rw [show (a.take k).length = k by simp; omega] at hlaw
          rw [← hlaw] at e2
          have E1 := Lib.hid e1
          have E2 := Lib.hid e2
          clear s1 s2 s3 s4 hX hZ hAk hBk hAr hBB hlaw e1 e2
          go_wp2_with fail
          go_quiet ((go_at_call 18; (first | with_reducible exact still_quiet (S1.out _) | with_reducible exact still_quiet (S2.out _) | with_reducible exact still_quiet (S3.out _) | with_reducible exact still_quiet (S4.out _))))
          go_wp2_with fail
          go_ret
          exact ⟨ret_bool (by rw [E1.out, E2.out]; simp), bel_drewN hBr⟩

theorem IsB.none_nil {w : World} {cap : Nat} {l : List UInt8} (h : IsB w (.slice none l.length cap) l) : l = [] ∧ cap = 0 := by
  rcases h with ⟨rfl, a, c, hv, _, h2⟩ | ⟨_, b, off, c, hv, _⟩
  · simp only [Value.slice.injEq] at hv
    obtain ⟨rfl, _, rfl⟩ := hv
    exact ⟨rfl, h2 rfl⟩
  · simp only [Value.slice.injEq] at hv
    exact absurd hv.1 (by simp)

set_option maxHeartbeats 4000000 in
theorem sums_zero (pa pb : Option Addr) (ca cb : Nat) (a b : List UInt8) (w : World) (ha : IsB w (.slice pa a.length ca) a) (hb : IsB w (.slice pb b.length cb) b) (hla : a.length ≤ 3000) (hlb : b.length ≤ 3000)
    (h0 : pa = none ∨ pb = none) :
    Calls Try.prog 4 #[.slice pa a.length ca, .slice pb b.length cb] w fun e w' => e = .returned (.bool true) ∧ Below w.heap.size w w' := by
  have hmk := made5 0 (by omega)
  simp only [Int.natCast_zero] at hmk
  have hl0 := sum_law [] [] rfl
  have e1 := xor_u32 (sumP []) (sumP []) (word_sumP _) (word_sumP _)
  have e2 := xor_u32 (sumP [] ^^^ sumP []) (sumP []) ((word_sumP _).xor (word_sumP _)) (word_sumP _)
  have e3 : ((sumP [] ^^^ sumP []) ^^^ sumP [] : Nat) = sumP [] := hl0.symm
  rw [e3] at e2
  have E1 := Lib.hid e1
  have E2 := Lib.hid e2
  clear hl0 e1 e2 e3
  have hla' : (a.length : Int) ≤ 3000 := by omega
  have hlb' : (b.length : Int) ≤ 3000 := by omega
  obtain ⟨_, _, hv, hc1, _⟩ := ha.shape
  simp only [Value.slice.injEq] at hv
  obtain ⟨rfl, _, rfl⟩ := hv
  obtain ⟨_, _, hv', hc2, _⟩ := hb.shape
  simp only [Value.slice.injEq] at hv'
  obtain ⟨rfl, _, rfl⟩ := hv'
  have HA := Lib.hid ha
  have HB := Lib.hid hb
  clear ha hb
  rcases pa with _ | x <;> rcases pb with _ | y
  case some.some => rcases h0 with h0 | h0 <;> cases h0
  all_goals clear h0
  case' none.none =>
    obtain ⟨rfl, rfl⟩ := HA.out.none_nil
    obtain ⟨rfl, rfl⟩ := HB.out.none_nil
  case' none.some =>
    obtain ⟨rfl, rfl⟩ := HA.out.none_nil
  case' some.none =>
    obtain ⟨rfl, rfl⟩ := HB.out.none_nil
  all_goals
    go_enter Try.func4, Try.ntmps4
    go_wp2_with fail
    refine (awake_any _).mono ?_
    rintro e w1 ⟨rfl, hb1⟩
    have hA1 := HA.out.step hb1
    have hB1 := HB.out.step hb1
    have HA1 := Lib.hid hA1
    have HB1 := Lib.hid hB1
    clear hA1 hB1
    go_upto_region 5 with (first | (go_at_call 18; first | (with_reducible refine (sum_nil _ _ _).mono ?_; rintro e w' ⟨rfl, rfl⟩) | (with_reducible refine (sum_any _ _ _ HA1.out).mono ?_; rintro e w' ⟨rfl, rfl⟩) | (with_reducible refine (sum_any _ _ _ HB1.out).mono ?_; rintro e w' ⟨rfl, rfl⟩)) | (go_at_call 19; first | (with_reducible refine (rsum_nil _ _ _).mono ?_; rintro e w' ⟨rfl, rfl⟩) | (with_reducible refine (rsum_any _ _ _ HA1.out).mono ?_; rintro e w' ⟨rfl, rfl⟩) | (with_reducible refine (rsum_any _ _ _ HB1.out).mono ?_; rintro e w' ⟨rfl, rfl⟩)))
    go_cut [5] (fun u wx => u = .int .i64 0 ∧ wx = w1)
    case first =>
      go_wp2_with fail
      all_goals
        go_meet
        exact ⟨congrArg _ (by first | omega | (simp; done) | (simp at *; omega)), rfl⟩
    case rest =>
      obtain ⟨rfl, rfl⟩ := hcut
      go_upto_region 6 with fail
      go_cut [6, 7] (fun u v wx => ∃ g h : Nat, u = .slice (some ⟨g, 0, none⟩) 0 0 ∧ v = .slice (some ⟨h, 0, none⟩) 0 0 ∧ Below w.heap.size w wx)
      case first =>
        go_region
        all_goals
          go_wp2_with fail
          go_meet
          exact ⟨_, _, rfl, rfl, bel_drew (bel_alloc (bel_alloc hb1))⟩
      case rest =>
        obtain ⟨g, h, rfl, rfl, hB⟩ := hcut
        go_upto_region 8 with fail
        go_loopw [8] (fun i wr => i = .int .i64 0 ∧ wr = wc) (fun i _ => 0)
        case atStart => exact ⟨rfl, rfl⟩
        case round =>
          obtain ⟨rfl, rfl⟩ := hrel
          go_wp2_with fail
          go_quiet ((go_at_call 18; with_reducible exact still_quiet (sum_nil _ _ _)))
          go_wp2_with fail
          go_ret
          exact ⟨ret_bool (by rw [E1.out, E2.out]; simp), bel_drewN hB⟩

set_option maxHeartbeats 1000000 in
theorem sums_walk (va vb : Value) (a b : List UInt8) (w : World) (ha : IsB w va a) (hb : IsB w vb b) :
    Calls Try.prog 4 #[va, vb] w fun e w' => e = .returned (.bool true) ∧ Below w.heap.size w w' := by
  obtain ⟨pa, ca, rfl, _⟩ := ha.shape
  obtain ⟨pb, cb, rfl, _⟩ := hb.shape
  by_cases hla : 3000 < a.length
  · have hla' : (3000 : Int) < (a.length : Int) := by omega
    clear ha hb hla
    go_enter Try.func4, Try.ntmps4
    go_wp2_with fail
    refine (awake_any _).mono ?_
    rintro e w1 ⟨rfl, hb1⟩
    go_wp2_with fail
    refine (awake_any _).mono ?_
    rintro e w2 ⟨rfl, hb2⟩
    go_wp2_with fail
    go_ret
    exact ⟨rfl, bel_step hb1 hb2⟩
  by_cases hlb : 3000 < b.length
  · have hla' : (a.length : Int) ≤ 3000 := by omega
    have hlb' : (3000 : Int) < (b.length : Int) := by omega
    clear ha hb hla hlb
    go_enter Try.func4, Try.ntmps4
    go_wp2_with fail
    refine (awake_any _).mono ?_
    rintro e w1 ⟨rfl, hb1⟩
    go_wp2_with fail
    refine (awake_any _).mono ?_
    rintro e w2 ⟨rfl, hb2⟩
    go_wp2_with fail
    go_ret
    exact ⟨rfl, bel_step hb1 hb2⟩
  rcases pa with _ | x
  · exact sums_zero _ _ _ _ a b w ha hb (by omega) (by omega) (.inl rfl)
  rcases pb with _ | y
  · exact sums_zero _ _ _ _ a b w ha hb (by omega) (by omega) (.inr rfl)
  exact sums_main x y ca cb a b (min a.length b.length) w ha hb (by omega) (by omega) (by omega)
end Go.Proofs.Ytnieoaadhbcjiaa
