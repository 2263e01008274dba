/- The walks of the statements' own Same, valid and of Clip. No condition beyond a list's length. -/
import Derived.Test.YtdkaapkehmjepaaDecs
import Derived.BigQuiet
import Derived.Laws.StructEq
namespace Go.Proofs.Ytdkaapkehmjepaa
open Go.RowKit
set_option linter.unusedVariables false
set_option linter.unusedSimpArgs false

theorem clip_any (n lo hi : Int) (w : World) : Calls Try.prog 28 #[.int .i64 n, .int .i64 lo, .int .i64 hi] w fun e w' => e = .returned (.int .i64 (max lo (min n hi))) ∧ w = w' := by
  by_cases h1 : hi < n
  · by_cases h2 : lo < hi
    · go_enter Try.func28, Try.ntmps28
      go_wp2
      go_ret
      exact ⟨ret_int (by omega), rfl⟩
    · go_enter Try.func28, Try.ntmps28
      go_wp2
      go_ret
      exact ⟨ret_int (by omega), rfl⟩
  · by_cases h2 : lo < n
    · go_enter Try.func28, Try.ntmps28
      go_wp2
      go_ret
      exact ⟨ret_int (by omega), rfl⟩
    · go_enter Try.func28, Try.ntmps28
      go_wp2
      go_ret
      exact ⟨ret_int (by omega), rfl⟩

theorem ent_ne (e f : Ent) (h : e ≠ f) :
    e.node ≠ f.node ∨ (e.node = f.node ∧ (e.boot ≠ f.boot ∨ (e.boot = f.boot ∧ (e.seq ≠ f.seq ∨ (e.seq = f.seq ∧ (e.ten ≠ f.ten ∨ (e.ten = f.ten ∧ (e.hits ≠ f.hits ∨ (e.hits = f.hits ∧ (e.bytes ≠ f.bytes ∨ (e.bytes = f.bytes ∧ e.att ≠ f.att))))))))))) := by
  obtain ⟨a0, a1, a2, a3, a4, a5, a6⟩ := e
  obtain ⟨b0, b1, b2, b3, b4, b5, b6⟩ := f
  simp only [ne_eq, Ent.mk.injEq] at h ⊢
  by_cases h0 : a0 = b0
  · by_cases h1 : a1 = b1
    · by_cases h2 : a2 = b2
      · by_cases h3 : a3 = b3
        · by_cases h4 : a4 = b4
          · by_cases h5 : a5 = b5
            · simp_all
            · simp_all
          · simp_all
        · simp_all
      · simp_all
    · simp_all
  · exact .inl h0
theorem node_ne {a b : List UInt8} (h : a ≠ b) : ((ByteArray.mk a.toArray).toList == (ByteArray.mk b.toArray).toList) = false := by
  simp [ByteArray.toList_eq, h]

theorem neq_run (e f : Ent) (h : e ≠ f) (W : World) : (binOp .neq 23 e.val f.val).run Try.prog W = .ok (.bool true) W := by
  have hcs := ent_ne e f h
  obtain ⟨a0, a1, a2, a3, a4, a5, a6⟩ := e
  obtain ⟨b0, b1, b2, b3, b4, b5, b6⟩ := f
  unfold Ent.val
  dsimp only at hcs ⊢
  rcases hcs with h0 | ⟨rfl, h1 | ⟨rfl, h1 | ⟨rfl, h1 | ⟨rfl, h1 | ⟨rfl, h1 | ⟨rfl, h1⟩⟩⟩⟩⟩⟩
  · simp [go_sem, h0]
  all_goals simp [go_sem, h1]

theorem drewN_two (w : World) (n m : Nat) : (w.drewN n).drewN m = w.drewN (n + m) := by
  first | rfl | simp [World.drewN, Nat.add_assoc]
set_option maxRecDepth 20000 in
set_option maxHeartbeats 1000000 in
theorem same_draws (u v : Value) (es fs : List Ent) (w : World) (h : IsE w u es) (g : IsE w v fs) (hl : es.length ≤ 1000000) :
    Calls Try.prog 18 #[u, v] w fun r w' => ∃ b : Bool, r = .returned (.bool b) ∧ (b = true ↔ es = fs) ∧ ∃ n, w' = w.drewN n := by
  obtain ⟨a1, c1, rfl, _, _⟩ := h.shape
  obtain ⟨a2, c2, rfl, _, _⟩ := g.shape
  have H := Lib.hid h
  have G := Lib.hid g
  have hl9 : (es.length : Int) ≤ 1000000 := by omega
  clear h g hl
  go_enter Try.func18, Try.ntmps18
  by_cases hlen : es.length = fs.length
  · have HL := Lib.hid hlen
    rw [← hlen]
    rw [← hlen] at G
    clear hlen
    go_wp2_with fail
    go_loopw [5, 13] (fun _ i wr => ∃ k : Nat, i = .int .i64 k ∧ k ≤ es.length ∧ es.take k = fs.take k ∧ ∃ n, wr = w.drewN n) (fun _ i _ => es.length - (intOf i).toNat)
    case atStart => exact ⟨0, rfl, Nat.zero_le _, rfl, 0, rfl⟩
    case round =>
      obtain ⟨k, rfl, hk, heq, nd, hnd⟩ := hrel
      have HEQ := Lib.hid heq
      have HB := Lib.hid (show Below w.heap.size w wr by rw [hnd]; exact bel_drewN (n := nd) (Below.refl w.heap.size w))
      have HND := Lib.hid hnd
      clear heq hnd
      by_cases hlt : k < es.length
      · obtain ⟨g1, o1, p1, e, hv1, he, hat1⟩ := (H.out.step HB.out).elem hlt
        have hg := G.out.step HB.out
        rw [HL.out] at hg
        obtain ⟨g2, o2, p2, f, hv2, hf, hat2⟩ := hg.elem (k := k) (by have := HL.out; omega)
        simp only [Value.slice.injEq] at hv1 hv2
        obtain ⟨rfl, _, rfl⟩ := hv1
        obtain ⟨rfl, _, rfl⟩ := hv2
        have HE := Lib.hid he
        have HF := Lib.hid hf
        obtain ⟨x0, x1, x2, x3, x4, x5, x6⟩ := hat1
        obtain ⟨y0, y1, y2, y3, y4, y5, y6⟩ := hat2
        have hq0 : (0 : Int) ≤ (k : Int) := by omega
        have hq1 : (k : Int) < (es.length : Int) := by omega
        clear he hf hg
        by_cases hef : e = f
        · subst hef
          go_upto_region 6 with fail
          go_quiet (fail)
          go_wp2_with fail
          go_roundw
          case rel => exact ⟨k + 1, by go_num, by omega, by rw [take_more HE.out, take_more HF.out, HEQ.out], _, by rw [HND.out]; exact drewN_two _ _ _⟩
          case measure => simp [intOf]; omega
        · have HNE := Lib.hid (show es ≠ fs from fun h => hef (by
            have h1 := HE.out
            have h2 := HF.out
            rw [h, h2] at h1
            injection h1 with h1
            exact h1.symm))
          have hrun := fun W => neq_run e f hef W
          unfold Ent.val at hrun
          clear hef HE HF HEQ
          obtain ⟨a0, a1, a2, a3, a4, a5, a6⟩ := e
          obtain ⟨b0, b1, b2, b3, b4, b5, b6⟩ := f
          dsimp only at x0 x1 x2 x3 x4 x5 x6 y0 y1 y2 y3 y4 y5 y6 hrun
          go_upto_region 6 with fail
          go_quiet (fail)
          go_wp2_with fail
          go_ret
          exact ⟨_, rfl, by simpa using HNE.out, _, by rw [HND.out]; exact drewN_two _ _ _⟩
      · obtain rfl : k = es.length := by omega
        go_wp2_with fail
        go_ret
        exact ⟨_, rfl, by have h1 := HEQ.out; rw [List.take_length, HL.out, List.take_length] at h1; simp [h1], nd, HND.out⟩
  · have hb : ((es.length : Int) == (fs.length : Int)) = false := by simp; omega
    have hb2 : ¬ (es.length : Int) = (fs.length : Int) := by omega
    have HN := Lib.hid (show es ≠ fs from fun h => hlen (by rw [h]))
    clear hlen
    go_wp2_with fail
    go_ret
    exact ⟨_, rfl, by simpa using HN.out, 0, rfl⟩
theorem same_any (u v : Value) (es fs : List Ent) (w : World) (h : IsE w u es) (g : IsE w v fs) (hl : es.length ≤ 1000000) :
    Calls Try.prog 18 #[u, v] w fun r w' => ∃ b : Bool, r = .returned (.bool b) ∧ (b = true ↔ es = fs) ∧ Below w.heap.size w w' := by
  refine (same_draws u v es fs w h g hl).mono ?_
  rintro r w' ⟨b, rfl, hb, n, rfl⟩
  exact ⟨b, rfl, hb, bel_drewN (Below.refl _ _)⟩
theorem same_quiet (u v : Value) (es : List Ent) (w : World) (n : Nat) (h : IsE w u es) (g : IsE w v es) (hl : es.length ≤ 1000000) :
    Calls Try.prog 18 #[u, v] (w.drewN n) fun r w' => r = .returned (.bool true) ∧ ∃ m, w' = w.drewN m := by
  refine (same_draws u v es es (w.drewN n) h g hl).mono ?_
  rintro r w' ⟨b, rfl, hb, m, rfl⟩
  exact ⟨by rw [hb.2 rfl], _, drewN_two _ _ _⟩
def vals (es : List Ent) : List Ent := es.filter (fun e => decide (codeE e = 0))
theorem vals_more {es : List Ent} {k : Nat} {e : Ent} (hk : es[k]? = some e) : vals (es.take (k + 1)) = vals (es.take k) ++ if codeE e = 0 then [e] else [] := by
  unfold vals
  rw [take_more hk, List.filter_append]
  congr 1
  by_cases h : codeE e = 0 <;> simp [h]
theorem vals_ok (es : List Ent) : ∀ e ∈ vals es, codeE e = 0 := fun e h => by simpa using (List.mem_filter.1 h).2
theorem vals_len (es : List Ent) : (vals es).length ≤ es.length := List.length_filter_le _ _

set_option maxRecDepth 100000 in
set_option maxHeartbeats 2000000 in
theorem valid_any (v : Value) (es : List Ent) (w : World) (h : IsE w v es) (hf : ∀ e ∈ es, FitE e) (hl : es.length ≤ 100000) :
    Calls Try.prog 27 #[v] w fun r w' => ∃ u, r = .returned u ∧ OwnE w' w.heap.size u (vals es) ∧ Below w.heap.size w w' := by
  obtain ⟨a, cap, rfl, _, _⟩ := h.shape
  have H := Lib.hid h
  have HF := Lib.hid hf
  have hl' : (es.length : Int) ≤ 100000 := by omega
  clear h hf
  go_enter Try.func27, Try.ntmps27
  go_wp2_with fail
  go_loopw [3, 8] (fun ov i wr => ∃ k : Nat, i = .int .i64 k ∧ k ≤ es.length ∧ OwnE wr w.heap.size ov (vals (es.take k)) ∧ Below w.heap.size w wr) (fun _ i _ => es.length - (intOf i).toNat)
  case atStart => exact ⟨0, rfl, Nat.zero_le _, OwnE.nil _ _, Below.refl _ _⟩
  case round =>
    obtain ⟨k, rfl, hk, hown, hB⟩ := hrel
    have HO := Lib.hid hown
    have HB := Lib.hid hB
    have hz0 : w.heap.size ≤ wr.heap.size := hB.size
    have hvl := vals_len (es.take k)
    rw [List.length_take] at hvl
    have HVL := Lib.hid hvl
    clear hown hB hvl
    by_cases hlt : k < es.length
    · obtain ⟨g, o, cap', e, hv, hek, hat⟩ := (H.out.step HB.out).elem hlt
      simp only [Value.slice.injEq] at hv
      obtain ⟨rfl, _, rfl⟩ := hv
      have hfe := HF.out e (List.mem_of_getElem? hek)
      have HVM := Lib.hid (vals_more hek)
      have HD := Lib.hid (fun W => codeE_any e W hfe.1 hfe.2)
      obtain ⟨x0, x1, x2, x3, x4, x5, x6⟩ := hat
      have hq0 : (0 : Int) ≤ (k : Int) := by omega
      have hq1 : (k : Int) < (es.length : Int) := by omega
      unfold Ent.val at *
      clear hfe hek
      go_upto_region 5 with fail
      have hbx := EntAt.box wr e
      have hn1 := bel_new wr (.cells #[.string ⟨e.node.toArray⟩, .int .i64 e.boot, .int .i64 e.seq, .int .i64 e.ten, .int .i64 e.hits, .int .i64 e.bytes, .int .i64 e.att] 23)
      have hz1 : wr.heap.size < (wr.alloc (.cells #[.string ⟨e.node.toArray⟩, .int .i64 e.boot, .int .i64 e.seq, .int .i64 e.ten, .int .i64 e.hits, .int .i64 e.bytes, .int .i64 e.att] 23)).heap.size := by simp [go_sem]
      have HO1 := Lib.hid (HO.out.step hn1)
      have HB1 := Lib.hid (HB.out.trans (hn1.mono hz0))
      have HE1 := Lib.hid hbx
      obtain ⟨c0, c1, c2, c3, c4, c5, c6⟩ := hbx
      simp only [Nat.zero_add] at c0 c1 c2 c3 c4 c5 c6
      clear hn1 x0 x1 x2 x3 x4 x5 x6 HO HB
      generalize wr.alloc (.cells #[.string ⟨e.node.toArray⟩, .int .i64 e.boot, .int .i64 e.seq, .int .i64 e.ten, .int .i64 e.hits, .int .i64 e.bytes, .int .i64 e.att] 23) = W1 at *
      by_cases hc : codeE e = 0
      · rw [hc, if_pos rfl] at HVM
        rw [hc] at HD
        clear hc
        go_upto_region 6 with (go_at_call 15; refine (HD.out _).mono ?_; rintro r W2 ⟨rfl, hb2⟩)
        obtain ⟨d0, d1, d2, d3, d4, d5, d6⟩ := HE1.out.step hb2
        simp only [Nat.zero_add] at d0 d1 d2 d3 d4 d5 d6
        have HO2 := Lib.hid (HO1.out.step hb2)
        have HB2 := Lib.hid (HB1.out.trans (hb2.mono (by omega)))
        have hz2 : w.heap.size ≤ W2.heap.size := HB2.out.size
        clear hb2 c0 c1 c2 c3 c4 c5 c6 HO1 HB1 HE1
        go_wp2_with (at_builtin; refine wpList_appE rfl (.tmp 15) (.tmp 17) rfl w.heap.size _ _ rfl (HO2.out.step (bel_new W2 (.cells (ecells e).toArray 23))) W2.heap.size e rfl (ent_cells W2 e) (by have := HVL.out; omega) (by simp [go_sem]; omega) ?_; intro v8 W8 ho8 hb8 hz8 hg8)
        have HO8 := Lib.hid ho8
        have HB8 := Lib.hid ((HB2.out.alloc hz2 (.cells (ecells e).toArray 23)).trans hb8)
        clear ho8 hb8 hg8
        go_roundw
        case rel => exact ⟨k + 1, by go_num, by omega, by rw [HVM.out]; exact HO8.out, HB8.out⟩
        case measure => simp [intOf]; omega
      · rw [if_neg hc, List.append_nil] at HVM
        have hcb : (codeE e == 0) = false := by simpa using hc
        have hcn : ¬ codeE e = 0 := hc
        generalize codeE e = c at *
        clear hc
        go_wp2_with (go_at_call 15; refine (HD.out _).mono ?_; rintro r W2 ⟨rfl, hb2⟩)
        go_roundw
        case rel => exact ⟨k + 1, by go_num, by omega, by rw [HVM.out]; exact HO1.out.step hb2, HB1.out.trans (hb2.mono (by omega))⟩
        case measure => simp [intOf]; omega
    · obtain rfl : k = es.length := by omega
      go_wp2_with fail
      go_ret
      exact ⟨_, rfl, by have := HO.out; rwa [List.take_length] at this, HB.out⟩
end Go.Proofs.Ytdkaapkehmjepaa
