/- Pair: SizeW SameW, one behind the other. -/
import Derived.Test.YtogkiifljdnjgaaDoorGram
import Derived.Lib.QuietBelow
/- The walks of Size and Depth, the reference's too. Condition: a size's bound. -/
namespace Go.Proofs.YtogkiifljdnjgaaDoor
open Go.RowKit
set_option linter.unusedVariables false
set_option linter.unusedSimpArgs false

/-- One of the kids, in a later world. -/
theorem IsKids.at {w : World} {F : Nat → Prop} {ks : List Tree} {kv : Value} (h : IsKids w F ks kv) {k : Nat} {t : Tree} (hk : ks[k]? = some t) :
    ∃ b off cap, ∃ (k0 : Int) (x0 : List UInt8) (a0 : Option Addr) (m0 n0 : Nat) (l0 : Int), kv = .slice (some ⟨b, off, none⟩) ks.length cap ∧ w.cell? ⟨b, off + k * 4, none⟩ = some (.int .i64 k0) ∧ w.cell? ⟨b, off + k * 4 + 1, none⟩ = some (.string ⟨x0.toArray⟩) ∧ w.cell? ⟨b, off + k * 4 + 2, none⟩ = some (.slice a0 m0 n0) ∧ w.cell? ⟨b, off + k * 4 + 3, none⟩ = some (.int .i64 l0) ∧ IsT w F t (.agg #[.int .i64 k0, .string ⟨x0.toArray⟩, .slice a0 m0 n0, .int .i64 l0]) := by
  obtain ⟨a, cap, hv, h1, h2, h3, h4⟩ := h
  have hne : ks ≠ [] := by intro e; subst e; simp at hk
  obtain ⟨b, off, ha, hF, hr⟩ := h4 hne
  obtain ⟨v0, v1, v2, v3, c0, c1, c2, c3, ht⟩ := hr.at hk
  subst ha
  obtain ⟨k0, x0, a0, m0, n0, l0, he⟩ := isT_shape ht
  simp only [Value.agg.injEq, Array.mk.injEq, List.cons.injEq, and_true] at he
  obtain ⟨rfl, rfl, rfl, rfl⟩ := he
  exact ⟨b, off, cap, k0, x0, a0, m0, n0, l0, hv, c0, c1, c2, c3, ht⟩
def SizeC (fid : FuncId) (n : Nat) : Prop := ∀ (t : Tree) (F : Nat → Prop) (w : World) (v : Value), IsT w F t v → depthT t ≤ n → sizeT t ≤ 1000000000 →
  Calls Tryd.prog fid #[v] w fun e w' => e = .returned (.int .i64 (sizeT t)) ∧ Below w.heap.size w w'
def DepthC (fid : FuncId) (n : Nat) : Prop := ∀ (t : Tree) (F : Nat → Prop) (w : World) (v : Value), IsT w F t v → depthT t ≤ n → sizeT t ≤ 1000000000 →
  Calls Tryd.prog fid #[v] w fun e w' => e = .returned (.int .i64 (depthT t)) ∧ Below w.heap.size w w'
theorem depth_pos (t : Tree) : 1 ≤ depthT t := by
  obtain ⟨k, tx, ks, l⟩ := t
  rw [depthT_node]
  omega
set_option maxRecDepth 20000 in
theorem size_con (n : Nat) (HC : SizeC 23 n) : SizeC 23 (n + 1) := by
  intro t F w v ht hd hs
  obtain ⟨k, tx, ks, l⟩ := t
  obtain ⟨kv, rfl, hks⟩ := isT_node.1 ht
  rw [depthT_node] at hd
  rw [sizeT_node] at hs
  rw [sizeT_node]
  have HK := Lib.hid hks
  have HCall := Lib.hid HC
  have HD := Lib.hid hd
  obtain ⟨a, c, rfl⟩ : ∃ a c, kv = .slice a ks.length c := by
    obtain ⟨a, c, hv, _⟩ := hks
    exact ⟨a, c, hv⟩
  have hl : ks.length ≤ 1000000000 := by have := len_le_size ks; omega
  have HB0 := Lib.hid (bel_new w (.cells #[.int .i64 k, .string ⟨tx.toArray⟩, .slice a ks.length c, .int .i64 l] 32))
  have HX0 := Lib.hid (heap_alloc_new w (.cells #[.int .i64 k, .string ⟨tx.toArray⟩, .slice a ks.length c, .int .i64 l] 32))
  have HQD := Lib.hid (depthL_le_size ks)
  clear ht hd hks HC
  go_enter Tryd.func23, Tryd.ntmps23
  go_wp2_with fail
  go_loopw [3, 9] (fun s i wr => ∃ q : Nat, i = .int .i64 q ∧ q ≤ ks.length ∧ s = .int .i64 ((1 + sizeL (ks.take q) : Nat) : Int) ∧ Below w.heap.size w wr ∧ wr.heap[w.heap.size]? = some (.cells #[.int .i64 k, .string ⟨tx.toArray⟩, .slice a ks.length c, .int .i64 l] 32 (0, 0))) (fun _ i _ => ks.length - (intOf i).toNat)
  case atStart => exact ⟨0, rfl, Nat.zero_le _, by simp [sizeL_nil, depthL_nil], HB0.out, HX0.out⟩
  case round =>
    obtain ⟨q, rfl, hq, rfl, hb, hx⟩ := hrel
    have HB := Lib.hid hb
    have HX := Lib.hid hx
    clear hb hx
    by_cases hlt : q < ks.length
    · obtain ⟨t', ht'⟩ : ∃ t', ks[q]? = some t' := ⟨_, List.getElem?_eq_getElem hlt⟩
      obtain ⟨b, off, cap, k0, x0, a0, m0, n0, l0, hv, c0, c1, c2, c3, hT⟩ := IsKids.at (HK.out.step HB.out) ht'
      simp only [Value.slice.injEq] at hv
      obtain ⟨rfl, _, rfl⟩ := hv
      obtain ⟨d0, d1, d2, d3, y0, y1, y2, y3⟩ := box4 HX.out
      have h1 := sizeL_take ht'
      have h2 := sizeL_take_le ks (q + 1)
      have h4 := sizeL_take ht'
      have h5 := depthL_le_size (ks.take q)
      have h3 := depthT_at ht'
      have h6 := depth_le_size t'
      have HT := Lib.hid hT
      have HN := Lib.hid h1
      have HCC := Lib.hid (fun W (hW : IsT W F t' (.agg #[.int .i64 k0, .string ⟨x0.toArray⟩, .slice a0 m0 n0, .int .i64 l0])) => HCall.out t' F W _ hW (by have := HD.out; omega) (by omega))
      have hz3 : ((sizeT t' : Nat) : Int) ≤ 1000000000 := by omega
      have hz1 : ((1 + sizeL (ks.take q) : Nat) : Int) ≤ 1000000000 := by omega
      generalize sizeT t' = z at *
      have hz0 : (0 : Int) ≤ ((1 + sizeL (ks.take q) : Nat) : Int) := by omega
      have hz2 : (0 : Int) ≤ (z : Int) := by omega
      have hlti : (q : Int) < (ks.length : Int) := by omega
      clear h1 h2 h3 h4 h5 h6 hT ht'
      go_wp2_with (first | (go_at_call 23; (with_reducible refine (HCC.out _ (HT.out.step (bel_new _ _))).mono ?_); rintro e w1 ⟨rfl, hb1⟩; have HB1 := Lib.hid hb1; clear hb1))
      go_roundw
      case rel => exact ⟨q + 1, by go_num, by omega, by rw [HN.out]; go_num, (HB.out.trans ((bel_new wr _).mono HB.out.size)).trans (HB1.out.mono (by have := HB.out.size; simp; omega)), keep_blk HB1.out (new_blk HX.out)⟩
      case measure => simp [intOf]; omega
    · have hq2 : q = ks.length := by omega
      subst hq2
      rw [List.take_length]
      go_wp2_with fail
      go_ret
      exact ⟨by first | rfl | exact ret_int (by omega), HB.out⟩
set_option maxRecDepth 20000 in
theorem rsize_con (n : Nat) (HC : SizeC 14 n) : SizeC 14 (n + 1) := by
  intro t F w v ht hd hs
  obtain ⟨k, tx, ks, l⟩ := t
  obtain ⟨kv, rfl, hks⟩ := isT_node.1 ht
  rw [depthT_node] at hd
  rw [sizeT_node] at hs
  rw [sizeT_node]
  have HK := Lib.hid hks
  have HCall := Lib.hid HC
  have HD := Lib.hid hd
  obtain ⟨a, c, rfl⟩ : ∃ a c, kv = .slice a ks.length c := by
    obtain ⟨a, c, hv, _⟩ := hks
    exact ⟨a, c, hv⟩
  have hl : ks.length ≤ 1000000000 := by have := len_le_size ks; omega
  have HB0 := Lib.hid (bel_new w (.cells #[.int .i64 k, .string ⟨tx.toArray⟩, .slice a ks.length c, .int .i64 l] 26))
  have HX0 := Lib.hid (heap_alloc_new w (.cells #[.int .i64 k, .string ⟨tx.toArray⟩, .slice a ks.length c, .int .i64 l] 26))
  have HQD := Lib.hid (depthL_le_size ks)
  clear ht hd hks HC
  go_enter Tryd.func14, Tryd.ntmps14
  go_wp2_with fail
  go_loopw [3, 8] (fun s i wr => ∃ q : Nat, i = .int .i64 q ∧ q ≤ ks.length ∧ s = .int .i64 ((1 + sizeL (ks.take q) : Nat) : Int) ∧ Below w.heap.size w wr ∧ wr.heap[w.heap.size]? = some (.cells #[.int .i64 k, .string ⟨tx.toArray⟩, .slice a ks.length c, .int .i64 l] 26 (0, 0))) (fun _ i _ => ks.length - (intOf i).toNat)
  case atStart => exact ⟨0, rfl, Nat.zero_le _, by simp [sizeL_nil, depthL_nil], HB0.out, HX0.out⟩
  case round =>
    obtain ⟨q, rfl, hq, rfl, hb, hx⟩ := hrel
    have HB := Lib.hid hb
    have HX := Lib.hid hx
    clear hb hx
    by_cases hlt : q < ks.length
    · obtain ⟨t', ht'⟩ : ∃ t', ks[q]? = some t' := ⟨_, List.getElem?_eq_getElem hlt⟩
      obtain ⟨b, off, cap, k0, x0, a0, m0, n0, l0, hv, c0, c1, c2, c3, hT⟩ := IsKids.at (HK.out.step HB.out) ht'
      simp only [Value.slice.injEq] at hv
      obtain ⟨rfl, _, rfl⟩ := hv
      obtain ⟨d0, d1, d2, d3, y0, y1, y2, y3⟩ := box4 HX.out
      have h1 := sizeL_take ht'
      have h2 := sizeL_take_le ks (q + 1)
      have h4 := sizeL_take ht'
      have h5 := depthL_le_size (ks.take q)
      have h3 := depthT_at ht'
      have h6 := depth_le_size t'
      have HT := Lib.hid hT
      have HN := Lib.hid h1
      have HCC := Lib.hid (fun W (hW : IsT W F t' (.agg #[.int .i64 k0, .string ⟨x0.toArray⟩, .slice a0 m0 n0, .int .i64 l0])) => HCall.out t' F W _ hW (by have := HD.out; omega) (by omega))
      have hz3 : ((sizeT t' : Nat) : Int) ≤ 1000000000 := by omega
      have hz1 : ((1 + sizeL (ks.take q) : Nat) : Int) ≤ 1000000000 := by omega
      generalize sizeT t' = z at *
      have hz0 : (0 : Int) ≤ ((1 + sizeL (ks.take q) : Nat) : Int) := by omega
      have hz2 : (0 : Int) ≤ (z : Int) := by omega
      have hlti : (q : Int) < (ks.length : Int) := by omega
      clear h1 h2 h3 h4 h5 h6 hT ht'
      go_wp2_with (first | (go_at_call 14; (with_reducible refine (HCC.out _ HT.out).mono ?_); rintro e w1 ⟨rfl, hb1⟩; have HB1 := Lib.hid hb1; clear hb1))
      go_roundw
      case rel => exact ⟨q + 1, by go_num, by omega, by rw [HN.out]; go_num, (HB.out.trans (HB1.out.mono HB.out.size)), keep_blk HB1.out HX.out⟩
      case measure => simp [intOf]; omega
    · have hq2 : q = ks.length := by omega
      subst hq2
      rw [List.take_length]
      go_wp2_with fail
      go_ret
      exact ⟨by first | rfl | exact ret_int (by omega), HB.out⟩
set_option maxRecDepth 20000 in
theorem depth_con (n : Nat) (HC : DepthC 37 n) : DepthC 37 (n + 1) := by
  intro t F w v ht hd hs
  obtain ⟨k, tx, ks, l⟩ := t
  obtain ⟨kv, rfl, hks⟩ := isT_node.1 ht
  rw [depthT_node] at hd
  rw [sizeT_node] at hs
  rw [depthT_node]
  have HK := Lib.hid hks
  have HCall := Lib.hid HC
  have HD := Lib.hid hd
  obtain ⟨a, c, rfl⟩ : ∃ a c, kv = .slice a ks.length c := by
    obtain ⟨a, c, hv, _⟩ := hks
    exact ⟨a, c, hv⟩
  have hl : ks.length ≤ 1000000000 := by have := len_le_size ks; omega
  have HB0 := Lib.hid (bel_new w (.cells #[.int .i64 k, .string ⟨tx.toArray⟩, .slice a ks.length c, .int .i64 l] 32))
  have HX0 := Lib.hid (heap_alloc_new w (.cells #[.int .i64 k, .string ⟨tx.toArray⟩, .slice a ks.length c, .int .i64 l] 32))
  have HQD := Lib.hid (depthL_le_size ks)
  clear ht hd hks HC
  go_enter Tryd.func37, Tryd.ntmps37
  go_wp2_with fail
  go_loopw [3, 9] (fun s i wr => ∃ q : Nat, i = .int .i64 q ∧ q ≤ ks.length ∧ s = .int .i64 ((depthL (ks.take q) : Nat) : Int) ∧ Below w.heap.size w wr ∧ wr.heap[w.heap.size]? = some (.cells #[.int .i64 k, .string ⟨tx.toArray⟩, .slice a ks.length c, .int .i64 l] 32 (0, 0))) (fun _ i _ => ks.length - (intOf i).toNat)
  case atStart => exact ⟨0, rfl, Nat.zero_le _, by simp [sizeL_nil, depthL_nil], HB0.out, HX0.out⟩
  case round =>
    obtain ⟨q, rfl, hq, rfl, hb, hx⟩ := hrel
    have HB := Lib.hid hb
    have HX := Lib.hid hx
    clear hb hx
    by_cases hlt : q < ks.length
    · obtain ⟨t', ht'⟩ : ∃ t', ks[q]? = some t' := ⟨_, List.getElem?_eq_getElem hlt⟩
      obtain ⟨b, off, cap, k0, x0, a0, m0, n0, l0, hv, c0, c1, c2, c3, hT⟩ := IsKids.at (HK.out.step HB.out) ht'
      simp only [Value.slice.injEq] at hv
      obtain ⟨rfl, _, rfl⟩ := hv
      obtain ⟨d0, d1, d2, d3, y0, y1, y2, y3⟩ := box4 HX.out
      have h1 := depthL_take ht'
      have h2 := sizeL_take_le ks (q + 1)
      have h4 := sizeL_take ht'
      have h5 := depthL_le_size (ks.take q)
      have h3 := depthT_at ht'
      have h6 := depth_le_size t'
      have HT := Lib.hid hT
      have HN := Lib.hid h1
      have HCC := Lib.hid (fun W (hW : IsT W F t' (.agg #[.int .i64 k0, .string ⟨x0.toArray⟩, .slice a0 m0 n0, .int .i64 l0])) => HCall.out t' F W _ hW (by have := HD.out; omega) (by omega))
      have hz3 : ((depthT t' : Nat) : Int) ≤ 1000000000 := by omega
      have hz1 : ((depthL (ks.take q) : Nat) : Int) ≤ 1000000000 := by omega
      generalize depthT t' = z at *
      have hz0 : (0 : Int) ≤ ((depthL (ks.take q) : Nat) : Int) := by omega
      have hz2 : (0 : Int) ≤ (z : Int) := by omega
      have hlti : (q : Int) < (ks.length : Int) := by omega
      clear h1 h2 h3 h4 h5 h6 hT ht'
      go_wp2_with (first | (go_at_call 37; (with_reducible refine (HCC.out _ (HT.out.step (bel_new _ _))).mono ?_); rintro e w1 ⟨rfl, hb1⟩; have HB1 := Lib.hid hb1; clear hb1))
      go_roundw
      case rel => exact ⟨q + 1, by go_num, by omega, by rw [HN.out]; go_num, (HB.out.trans ((bel_new wr _).mono HB.out.size)).trans (HB1.out.mono (by have := HB.out.size; simp; omega)), keep_blk HB1.out (new_blk HX.out)⟩
      case measure => simp [intOf]; omega
    · have hq2 : q = ks.length := by omega
      subst hq2
      rw [List.take_length]
      have hz1 : ((depthL ks : Nat) : Int) ≤ 1000000000 := by have := HQD.out; omega
      have hz0 : (0 : Int) ≤ ((depthL ks : Nat) : Int) := by omega
      go_wp2_with fail
      go_ret
      exact ⟨by first | rfl | exact ret_int (by omega), HB.out⟩
set_option maxRecDepth 20000 in
theorem rdepth_con (n : Nat) (HC : DepthC 25 n) : DepthC 25 (n + 1) := by
  intro t F w v ht hd hs
  obtain ⟨k, tx, ks, l⟩ := t
  obtain ⟨kv, rfl, hks⟩ := isT_node.1 ht
  rw [depthT_node] at hd
  rw [sizeT_node] at hs
  rw [depthT_node]
  have HK := Lib.hid hks
  have HCall := Lib.hid HC
  have HD := Lib.hid hd
  obtain ⟨a, c, rfl⟩ : ∃ a c, kv = .slice a ks.length c := by
    obtain ⟨a, c, hv, _⟩ := hks
    exact ⟨a, c, hv⟩
  have hl : ks.length ≤ 1000000000 := by have := len_le_size ks; omega
  have HB0 := Lib.hid (bel_new w (.cells #[.int .i64 k, .string ⟨tx.toArray⟩, .slice a ks.length c, .int .i64 l] 26))
  have HX0 := Lib.hid (heap_alloc_new w (.cells #[.int .i64 k, .string ⟨tx.toArray⟩, .slice a ks.length c, .int .i64 l] 26))
  have HQD := Lib.hid (depthL_le_size ks)
  clear ht hd hks HC
  go_enter Tryd.func25, Tryd.ntmps25
  go_wp2_with fail
  go_loopw [3, 8] (fun s i wr => ∃ q : Nat, i = .int .i64 q ∧ q ≤ ks.length ∧ s = .int .i64 ((depthL (ks.take q) : Nat) : Int) ∧ Below w.heap.size w wr ∧ wr.heap[w.heap.size]? = some (.cells #[.int .i64 k, .string ⟨tx.toArray⟩, .slice a ks.length c, .int .i64 l] 26 (0, 0))) (fun _ i _ => ks.length - (intOf i).toNat)
  case atStart => exact ⟨0, rfl, Nat.zero_le _, by simp [sizeL_nil, depthL_nil], HB0.out, HX0.out⟩
  case round =>
    obtain ⟨q, rfl, hq, rfl, hb, hx⟩ := hrel
    have HB := Lib.hid hb
    have HX := Lib.hid hx
    clear hb hx
    by_cases hlt : q < ks.length
    · obtain ⟨t', ht'⟩ : ∃ t', ks[q]? = some t' := ⟨_, List.getElem?_eq_getElem hlt⟩
      obtain ⟨b, off, cap, k0, x0, a0, m0, n0, l0, hv, c0, c1, c2, c3, hT⟩ := IsKids.at (HK.out.step HB.out) ht'
      simp only [Value.slice.injEq] at hv
      obtain ⟨rfl, _, rfl⟩ := hv
      obtain ⟨d0, d1, d2, d3, y0, y1, y2, y3⟩ := box4 HX.out
      have h1 := depthL_take ht'
      have h2 := sizeL_take_le ks (q + 1)
      have h4 := sizeL_take ht'
      have h5 := depthL_le_size (ks.take q)
      have h3 := depthT_at ht'
      have h6 := depth_le_size t'
      have HT := Lib.hid hT
      have HN := Lib.hid h1
      have HCC := Lib.hid (fun W (hW : IsT W F t' (.agg #[.int .i64 k0, .string ⟨x0.toArray⟩, .slice a0 m0 n0, .int .i64 l0])) => HCall.out t' F W _ hW (by have := HD.out; omega) (by omega))
      have hz3 : ((depthT t' : Nat) : Int) ≤ 1000000000 := by omega
      have hz1 : ((depthL (ks.take q) : Nat) : Int) ≤ 1000000000 := by omega
      generalize depthT t' = z at *
      have hz0 : (0 : Int) ≤ ((depthL (ks.take q) : Nat) : Int) := by omega
      have hz2 : (0 : Int) ≤ (z : Int) := by omega
      have hlti : (q : Int) < (ks.length : Int) := by omega
      clear h1 h2 h3 h4 h5 h6 hT ht'
      go_wp2_with (first | (go_at_call 25; (with_reducible refine (HCC.out _ HT.out).mono ?_); rintro e w1 ⟨rfl, hb1⟩; have HB1 := Lib.hid hb1; clear hb1))
      go_roundw
      case rel => exact ⟨q + 1, by go_num, by omega, by rw [HN.out]; go_num, (HB.out.trans (HB1.out.mono HB.out.size)), keep_blk HB1.out HX.out⟩
      case measure => simp [intOf]; omega
    · have hq2 : q = ks.length := by omega
      subst hq2
      rw [List.take_length]
      have hz1 : ((depthL ks : Nat) : Int) ≤ 1000000000 := by have := HQD.out; omega
      have hz0 : (0 : Int) ≤ ((depthL ks : Nat) : Int) := by omega
      go_wp2_with fail
      go_ret
      exact ⟨by first | rfl | exact ret_int (by omega), HB.out⟩
theorem size_all : ∀ n, SizeC 23 n ∧ SizeC 14 n ∧ DepthC 37 n ∧ DepthC 25 n
  | 0 => by
    refine ⟨?_, ?_, ?_, ?_⟩ <;> exact fun t F w v ht hd hs => by have := depth_pos t; omega
  | n + 1 => ⟨size_con n (size_all n).1, rsize_con n (size_all n).2.1, depth_con n (size_all n).2.2.1, rdepth_con n (size_all n).2.2.2⟩
theorem size_any (t : Tree) (F : Nat → Prop) (w : World) (v : Value) (h : IsT w F t v) (hs : sizeT t ≤ 1000000000) :
    Calls Tryd.prog 23 #[v] w fun e w' => e = .returned (.int .i64 (sizeT t)) ∧ Below w.heap.size w w' := (size_all _).1 t F w v h (Nat.le_refl _) hs
theorem rsize_any (t : Tree) (F : Nat → Prop) (w : World) (v : Value) (h : IsT w F t v) (hs : sizeT t ≤ 1000000000) :
    Calls Tryd.prog 14 #[v] w fun e w' => e = .returned (.int .i64 (sizeT t)) ∧ Below w.heap.size w w' := (size_all _).2.1 t F w v h (Nat.le_refl _) hs
theorem depth_any (t : Tree) (F : Nat → Prop) (w : World) (v : Value) (h : IsT w F t v) (hs : sizeT t ≤ 1000000000) :
    Calls Tryd.prog 37 #[v] w fun e w' => e = .returned (.int .i64 (depthT t)) ∧ Below w.heap.size w w' := (size_all _).2.2.1 t F w v h (Nat.le_refl _) hs
theorem rdepth_any (t : Tree) (F : Nat → Prop) (w : World) (v : Value) (h : IsT w F t v) (hs : sizeT t ≤ 1000000000) :
    Calls Tryd.prog 25 #[v] w fun e w' => e = .returned (.int .i64 (depthT t)) ∧ Below w.heap.size w w' := (size_all _).2.2.2 t F w v h (Nat.le_refl _) hs
end Go.Proofs.YtogkiifljdnjgaaDoor

/- The walks of Same, the reference's too. Condition: a size's bound. -/
namespace Go.Proofs.YtogkiifljdnjgaaDoor
open Go.RowKit
set_option linter.unusedVariables false
set_option linter.unusedSimpArgs false

def SameC (fid : FuncId) (n : Nat) : Prop := ∀ (t u : Tree) (F G : Nat → Prop) (w : World) (v x : Value), IsT w F t v → IsT w G u x → depthT t ≤ n → sizeT t ≤ 1000000000 →
  Calls Tryd.prog fid #[v, x] w fun e w' => e = .returned (.bool (sameT t u)) ∧ Below w.heap.size w w'
theorem same_yes (t u : Tree) (W : World) (fid : FuncId) (a b : Value) (h : Calls Tryd.prog fid #[a, b] W fun e w' => e = .returned (.bool (sameT t u)) ∧ Below W.heap.size W w') (hq : sameT t u = true) :
    Calls Tryd.prog fid #[a, b] W fun e w' => e = .returned (.bool true) ∧ Below W.heap.size W w' := by rwa [hq] at h
theorem same_no (t u : Tree) (W : World) (fid : FuncId) (a b : Value) (h : Calls Tryd.prog fid #[a, b] W fun e w' => e = .returned (.bool (sameT t u)) ∧ Below W.heap.size W w') (hq : sameT t u = false) :
    Calls Tryd.prog fid #[a, b] W fun e w' => e = .returned (.bool false) ∧ Below W.heap.size W w' := by rwa [hq] at h
theorem ba_ne {a b : List UInt8} (h : a ≠ b) : (⟨a.toArray⟩ : ByteArray) ≠ ⟨b.toArray⟩ := by
  intro e
  injection e with e
  exact h (by simpa using e)
set_option maxRecDepth 20000 in
set_option maxHeartbeats 2000000 in
theorem same_con (n : Nat) (HC : SameC 12 n) : SameC 12 (n + 1) := by
  intro t u F G w v x ht hu hd hs
  obtain ⟨k, tx, ks, l⟩ := t
  obtain ⟨k', tx', us, l'⟩ := u
  obtain ⟨kv, rfl, hks⟩ := isT_node.1 ht
  obtain ⟨kv', rfl, hus⟩ := isT_node.1 hu
  rw [depthT_node] at hd
  rw [sizeT_node] at hs
  rw [sameT_node]
  have HK := Lib.hid hks
  have HU := Lib.hid hus
  have HCall := Lib.hid HC
  have HD := Lib.hid hd
  have HS := Lib.hid hs
  obtain ⟨a, c, rfl⟩ : ∃ a c, kv = .slice a ks.length c := by
    obtain ⟨a, c, hv, _⟩ := hks
    exact ⟨a, c, hv⟩
  obtain ⟨a', c', rfl⟩ : ∃ a c, kv' = .slice a us.length c := by
    obtain ⟨a, c, hv, _⟩ := hus
    exact ⟨a, c, hv⟩
  have hl : ks.length ≤ 1000000000 := by have := len_le_size ks; omega
  have HB0 := Lib.hid ((bel_new w (.cells #[.int .i64 k, .string ⟨tx.toArray⟩, .slice a ks.length c, .int .i64 l] 32)).alloc (by simp) (.cells #[.int .i64 k', .string ⟨tx'.toArray⟩, .slice a' us.length c', .int .i64 l'] 32))
  have HX0 := Lib.hid (new_blk (y := .cells #[.int .i64 k', .string ⟨tx'.toArray⟩, .slice a' us.length c', .int .i64 l'] 32) (heap_alloc_new w (.cells #[.int .i64 k, .string ⟨tx.toArray⟩, .slice a ks.length c, .int .i64 l] 32)))
  have hy0 := heap_alloc_new (w.alloc (.cells #[.int .i64 k, .string ⟨tx.toArray⟩, .slice a ks.length c, .int .i64 l] 32)) (.cells #[.int .i64 k', .string ⟨tx'.toArray⟩, .slice a' us.length c', .int .i64 l'] 32)
  have hsz : (w.alloc (.cells #[.int .i64 k, .string ⟨tx.toArray⟩, .slice a ks.length c, .int .i64 l] 32)).heap.size = w.heap.size + 1 := by simp
  rw [hsz] at hy0
  have HY0 := Lib.hid hy0
  clear ht hu hd hs hks hus HC hsz hy0
  by_cases hk : k = k'
  rotate_left
  · have e1 : (k != k') = true := bne_iff_ne.2 hk
    have e2 : (k == k') = false := beq_eq_false_iff_ne.2 hk
    rw [e2, Bool.false_and]
    clear hk e2
    go_enter Tryd.func12, Tryd.ntmps12
    go_wp2_with fail
    go_ret
    exact ⟨rfl, HB0.out⟩
  have e1 : (k != k') = false := by simp [hk]
  have e2 : (k == k') = true := beq_iff_eq.2 hk
  rw [e2, Bool.true_and]
  clear hk e2
  by_cases htx : tx = tx'
  rotate_left
  · have e3 : (tx == tx') = false := beq_eq_false_iff_ne.2 htx
    rw [e3, Bool.false_and]
    clear htx
    go_enter Tryd.func12, Tryd.ntmps12
    go_wp2_with fail
    go_ret
    exact ⟨rfl, HB0.out⟩
  subst htx
  rw [show (tx == tx) = true from beq_self_eq_true tx, Bool.true_and]
  by_cases hn : ks.length = us.length
  rotate_left
  · have e5 : (ks.length == us.length) = false := beq_eq_false_iff_ne.2 hn
    have e6 : ((ks.length : Int) != (us.length : Int)) = true := bne_iff_ne.2 (by omega)
    rw [e5, Bool.false_and]
    clear hn
    go_enter Tryd.func12, Tryd.ntmps12
    go_wp2_with fail
    go_ret
    exact ⟨rfl, HB0.out⟩
  have e5 : (ks.length == us.length) = true := beq_iff_eq.2 hn
  rw [e5, Bool.true_and]
  have HN := Lib.hid hn
  clear e5
  rw [← hn]
  rw [← hn] at HB0 HX0 HY0 HU
  clear hn
  go_enter Tryd.func12, Tryd.ntmps12
  go_wp2_with fail
  go_loopw [30] (fun i wr => ∃ q : Nat, i = .int .i64 q ∧ q ≤ ks.length ∧ sameL (ks.take q) (us.take q) = true ∧ Below w.heap.size w wr ∧ wr.heap[w.heap.size]? = some (.cells #[.int .i64 k, .string ⟨tx.toArray⟩, .slice a ks.length c, .int .i64 l] 32 (0, 0)) ∧ wr.heap[w.heap.size + 1]? = some (.cells #[.int .i64 k', .string ⟨tx.toArray⟩, .slice a' ks.length c', .int .i64 l'] 32 (0, 0))) (fun i _ => ks.length - (intOf i).toNat)
  case atStart => exact ⟨0, rfl, Nat.zero_le _, by simp [sameL_nil], HB0.out, HX0.out, HY0.out⟩
  case round =>
    obtain ⟨q, rfl, hq, hsm, hb, hx, hy⟩ := hrel
    have HB := Lib.hid hb
    have HX := Lib.hid hx
    have HY := Lib.hid hy
    have HSM := Lib.hid hsm
    clear hb hx hy hsm
    by_cases hlt : q < ks.length
    · obtain ⟨t', ht'⟩ : ∃ t', ks[q]? = some t' := ⟨_, List.getElem?_eq_getElem hlt⟩
      obtain ⟨u', hu'⟩ : ∃ u', us[q]? = some u' := ⟨_, List.getElem?_eq_getElem (by have := HN.out; omega)⟩
      obtain ⟨b, off, cap, k0, x0, a0, m0, n0, l0, hv, c0, c1, c2, c3, hT⟩ := IsKids.at (HK.out.step HB.out) ht'
      simp only [Value.slice.injEq] at hv
      obtain ⟨rfl, _, rfl⟩ := hv
      obtain ⟨b', off', cap', k0', x0', a0', m0', n0', l0', hv', c0', c1', c2', c3', hU⟩ := IsKids.at (HU.out.step HB.out) hu'
      simp only [Value.slice.injEq] at hv'
      obtain ⟨rfl, _, rfl⟩ := hv'
      obtain ⟨d0, d1, d2, d3, y0, y1, y2, y3⟩ := box4 HX.out
      obtain ⟨f0, f1, f2, f3, g0, g1, g2, g3⟩ := box4 HY.out
      have HT := Lib.hid hT
      have HT' := Lib.hid hU
      have HZ := Lib.hid (sameL_take ks us q t' u' ht' hu')
      have HZN := Lib.hid (fun h => sameL_bad ks us q t' u' ht' hu' h)
      have h3 := depthT_at ht'
      have h4 := sizeT_at ht'
      have HCC := Lib.hid (fun W (hW : Below wr.heap.size wr W) => HCall.out t' u' F G W _ _ (hT.step hW) (hU.step hW) (by have := HD.out; omega) (by have := HS.out; omega))
      have hlti : (q : Int) < (ks.length : Int) := by omega
      clear h3 h4 hT hU ht' hu'
      cases hsame : sameT t' u'
      · have HCN := Lib.hid (fun W hW => same_no t' u' W 12 _ _ (HCC.out W hW) hsame)
        have HQ := Lib.hid (HZN.out hsame)
        clear hsame
        go_upto_region 6 with fail
        have R1 := fun d os => cell_regrown d2 d os
        have R2 := fun d os => cell_regrown f2 d os
        have R3 := fun d os => cell_regrown c0 d os
        have R4 := fun d os => cell_regrown c1 d os
        have R5 := fun d os => cell_regrown c2 d os
        have R6 := fun d os => cell_regrown c3 d os
        have R7 := fun d os => cell_regrown c0' d os
        have R8 := fun d os => cell_regrown c1' d os
        have R9 := fun d os => cell_regrown c2' d os
        have R10 := fun d os => cell_regrown c3' d os
        refine wp_region_quiet_below (by kernel_rfl) (by kernel_rfl) ?_
        repeat (go_big_quiet_step ((go_at_call 12; refine Calls.regrown_of (HCN.out _ ?_); exact (below_regrown _ _ _))))
        clear R1 R2 R3 R4 R5 R6 R7 R8 R9 R10
        refine wpQuiet_nil ?_
        intro w6 hw6
        have hb6 : Below wr.heap.size wr w6 := by obtain ⟨p, rfl⟩ := hw6; exact below_regrown wr p.d p.os
        have HB6 := Lib.hid hb6
        clear hw6 hb6
        go_wp2_with fail
        go_ret
        exact ⟨ret_bool HQ.out.symm, HB.out.trans (HB6.out.mono HB.out.size)⟩
      · have HCN := Lib.hid (fun W hW => same_yes t' u' W 12 _ _ (HCC.out W hW) hsame)
        have HSM2 := Lib.hid (show sameL (ks.take (q + 1)) (us.take (q + 1)) = true by rw [HZ.out, HSM.out, hsame]; rfl)
        clear hsame
        go_upto_region 6 with fail
        have R1 := fun d os => cell_regrown d2 d os
        have R2 := fun d os => cell_regrown f2 d os
        have R3 := fun d os => cell_regrown c0 d os
        have R4 := fun d os => cell_regrown c1 d os
        have R5 := fun d os => cell_regrown c2 d os
        have R6 := fun d os => cell_regrown c3 d os
        have R7 := fun d os => cell_regrown c0' d os
        have R8 := fun d os => cell_regrown c1' d os
        have R9 := fun d os => cell_regrown c2' d os
        have R10 := fun d os => cell_regrown c3' d os
        refine wp_region_quiet_below (by kernel_rfl) (by kernel_rfl) ?_
        repeat (go_big_quiet_step ((go_at_call 12; refine Calls.regrown_of (HCN.out _ ?_); exact (below_regrown _ _ _))))
        clear R1 R2 R3 R4 R5 R6 R7 R8 R9 R10
        refine wpQuiet_nil ?_
        intro w6 hw6
        have hb6 : Below wr.heap.size wr w6 := by obtain ⟨p, rfl⟩ := hw6; exact below_regrown wr p.d p.os
        have HB6 := Lib.hid hb6
        clear hw6 hb6
        go_wp2_with fail
        go_roundw
        case rel => exact ⟨q + 1, by go_num, by omega, HSM2.out, HB.out.trans (HB6.out.mono HB.out.size), keep_blk HB6.out HX.out, keep_blk HB6.out HY.out⟩
        case measure => simp [intOf]; omega
    · have hq2 : q = ks.length := by omega
      subst hq2
      have HQ := Lib.hid (show sameL ks us = true by have h := HSM.out; rw [List.take_length] at h; rwa [HN.out, List.take_length] at h)
      go_wp2_with fail
      go_ret
      exact ⟨ret_bool HQ.out.symm, HB.out⟩
set_option maxRecDepth 20000 in
set_option maxHeartbeats 2000000 in
theorem rsame_con (n : Nat) (HC : SameC 13 n) : SameC 13 (n + 1) := by
  intro t u F G w v x ht hu hd hs
  obtain ⟨k, tx, ks, l⟩ := t
  obtain ⟨k', tx', us, l'⟩ := u
  obtain ⟨kv, rfl, hks⟩ := isT_node.1 ht
  obtain ⟨kv', rfl, hus⟩ := isT_node.1 hu
  rw [depthT_node] at hd
  rw [sizeT_node] at hs
  rw [sameT_node]
  have HK := Lib.hid hks
  have HU := Lib.hid hus
  have HCall := Lib.hid HC
  have HD := Lib.hid hd
  have HS := Lib.hid hs
  obtain ⟨a, c, rfl⟩ : ∃ a c, kv = .slice a ks.length c := by
    obtain ⟨a, c, hv, _⟩ := hks
    exact ⟨a, c, hv⟩
  obtain ⟨a', c', rfl⟩ : ∃ a c, kv' = .slice a us.length c := by
    obtain ⟨a, c, hv, _⟩ := hus
    exact ⟨a, c, hv⟩
  have hl : ks.length ≤ 1000000000 := by have := len_le_size ks; omega
  have HB0 := Lib.hid ((bel_new w (.cells #[.int .i64 k, .string ⟨tx.toArray⟩, .slice a ks.length c, .int .i64 l] 26)).alloc (by simp) (.cells #[.int .i64 k', .string ⟨tx'.toArray⟩, .slice a' us.length c', .int .i64 l'] 26))
  have HX0 := Lib.hid (new_blk (y := .cells #[.int .i64 k', .string ⟨tx'.toArray⟩, .slice a' us.length c', .int .i64 l'] 26) (heap_alloc_new w (.cells #[.int .i64 k, .string ⟨tx.toArray⟩, .slice a ks.length c, .int .i64 l] 26)))
  have hy0 := heap_alloc_new (w.alloc (.cells #[.int .i64 k, .string ⟨tx.toArray⟩, .slice a ks.length c, .int .i64 l] 26)) (.cells #[.int .i64 k', .string ⟨tx'.toArray⟩, .slice a' us.length c', .int .i64 l'] 26)
  have hsz : (w.alloc (.cells #[.int .i64 k, .string ⟨tx.toArray⟩, .slice a ks.length c, .int .i64 l] 26)).heap.size = w.heap.size + 1 := by simp
  rw [hsz] at hy0
  have HY0 := Lib.hid hy0
  clear ht hu hd hs hks hus HC hsz hy0
  by_cases hk : k = k'
  rotate_left
  · have e1 : (k != k') = true := bne_iff_ne.2 hk
    have e2 : (k == k') = false := beq_eq_false_iff_ne.2 hk
    rw [e2, Bool.false_and]
    clear hk e2
    go_enter Tryd.func13, Tryd.ntmps13
    go_wp2_with fail
    go_ret
    exact ⟨rfl, HB0.out⟩
  have e1 : (k != k') = false := by simp [hk]
  have e2 : (k == k') = true := beq_iff_eq.2 hk
  rw [e2, Bool.true_and]
  clear hk e2
  by_cases htx : tx = tx'
  rotate_left
  · have e3 : (tx == tx') = false := beq_eq_false_iff_ne.2 htx
    rw [e3, Bool.false_and]
    clear htx
    go_enter Tryd.func13, Tryd.ntmps13
    go_wp2_with fail
    go_ret
    exact ⟨rfl, HB0.out⟩
  subst htx
  rw [show (tx == tx) = true from beq_self_eq_true tx, Bool.true_and]
  by_cases hn : ks.length = us.length
  rotate_left
  · have e5 : (ks.length == us.length) = false := beq_eq_false_iff_ne.2 hn
    have e6 : ((ks.length : Int) != (us.length : Int)) = true := bne_iff_ne.2 (by omega)
    rw [e5, Bool.false_and]
    clear hn
    go_enter Tryd.func13, Tryd.ntmps13
    go_wp2_with fail
    go_ret
    exact ⟨rfl, HB0.out⟩
  have e5 : (ks.length == us.length) = true := beq_iff_eq.2 hn
  rw [e5, Bool.true_and]
  have HN := Lib.hid hn
  clear e5
  rw [← hn]
  rw [← hn] at HB0 HX0 HY0 HU
  clear hn
  go_enter Tryd.func13, Tryd.ntmps13
  go_wp2_with fail
  go_loopw [30] (fun i wr => ∃ q : Nat, i = .int .i64 q ∧ q ≤ ks.length ∧ sameL (ks.take q) (us.take q) = true ∧ Below w.heap.size w wr ∧ wr.heap[w.heap.size]? = some (.cells #[.int .i64 k, .string ⟨tx.toArray⟩, .slice a ks.length c, .int .i64 l] 26 (0, 0)) ∧ wr.heap[w.heap.size + 1]? = some (.cells #[.int .i64 k', .string ⟨tx.toArray⟩, .slice a' ks.length c', .int .i64 l'] 26 (0, 0))) (fun i _ => ks.length - (intOf i).toNat)
  case atStart => exact ⟨0, rfl, Nat.zero_le _, by simp [sameL_nil], HB0.out, HX0.out, HY0.out⟩
  case round =>
    obtain ⟨q, rfl, hq, hsm, hb, hx, hy⟩ := hrel
    have HB := Lib.hid hb
    have HX := Lib.hid hx
    have HY := Lib.hid hy
    have HSM := Lib.hid hsm
    clear hb hx hy hsm
    by_cases hlt : q < ks.length
    · obtain ⟨t', ht'⟩ : ∃ t', ks[q]? = some t' := ⟨_, List.getElem?_eq_getElem hlt⟩
      obtain ⟨u', hu'⟩ : ∃ u', us[q]? = some u' := ⟨_, List.getElem?_eq_getElem (by have := HN.out; omega)⟩
      obtain ⟨b, off, cap, k0, x0, a0, m0, n0, l0, hv, c0, c1, c2, c3, hT⟩ := IsKids.at (HK.out.step HB.out) ht'
      simp only [Value.slice.injEq] at hv
      obtain ⟨rfl, _, rfl⟩ := hv
      obtain ⟨b', off', cap', k0', x0', a0', m0', n0', l0', hv', c0', c1', c2', c3', hU⟩ := IsKids.at (HU.out.step HB.out) hu'
      simp only [Value.slice.injEq] at hv'
      obtain ⟨rfl, _, rfl⟩ := hv'
      obtain ⟨d0, d1, d2, d3, y0, y1, y2, y3⟩ := box4 HX.out
      obtain ⟨f0, f1, f2, f3, g0, g1, g2, g3⟩ := box4 HY.out
      have HT := Lib.hid hT
      have HT' := Lib.hid hU
      have HZ := Lib.hid (sameL_take ks us q t' u' ht' hu')
      have HZN := Lib.hid (fun h => sameL_bad ks us q t' u' ht' hu' h)
      have h3 := depthT_at ht'
      have h4 := sizeT_at ht'
      have HCC := Lib.hid (fun W (hW : Below wr.heap.size wr W) => HCall.out t' u' F G W _ _ (hT.step hW) (hU.step hW) (by have := HD.out; omega) (by have := HS.out; omega))
      have hlti : (q : Int) < (ks.length : Int) := by omega
      clear h3 h4 hT hU ht' hu'
      cases hsame : sameT t' u'
      · have HCN := Lib.hid (fun W hW => same_no t' u' W 13 _ _ (HCC.out W hW) hsame)
        have HQ := Lib.hid (HZN.out hsame)
        clear hsame
        go_upto_region 6 with fail
        have R1 := fun d os => cell_regrown d2 d os
        have R2 := fun d os => cell_regrown f2 d os
        have R3 := fun d os => cell_regrown c0 d os
        have R4 := fun d os => cell_regrown c1 d os
        have R5 := fun d os => cell_regrown c2 d os
        have R6 := fun d os => cell_regrown c3 d os
        have R7 := fun d os => cell_regrown c0' d os
        have R8 := fun d os => cell_regrown c1' d os
        have R9 := fun d os => cell_regrown c2' d os
        have R10 := fun d os => cell_regrown c3' d os
        refine wp_region_quiet_below (by kernel_rfl) (by kernel_rfl) ?_
        repeat (go_big_quiet_step ((go_at_call 13; refine Calls.regrown_of (HCN.out _ ?_); exact (below_regrown _ _ _))))
        clear R1 R2 R3 R4 R5 R6 R7 R8 R9 R10
        refine wpQuiet_nil ?_
        intro w6 hw6
        have hb6 : Below wr.heap.size wr w6 := by obtain ⟨p, rfl⟩ := hw6; exact below_regrown wr p.d p.os
        have HB6 := Lib.hid hb6
        clear hw6 hb6
        go_wp2_with fail
        go_ret
        exact ⟨ret_bool HQ.out.symm, HB.out.trans (HB6.out.mono HB.out.size)⟩
      · have HCN := Lib.hid (fun W hW => same_yes t' u' W 13 _ _ (HCC.out W hW) hsame)
        have HSM2 := Lib.hid (show sameL (ks.take (q + 1)) (us.take (q + 1)) = true by rw [HZ.out, HSM.out, hsame]; rfl)
        clear hsame
        go_upto_region 6 with fail
        have R1 := fun d os => cell_regrown d2 d os
        have R2 := fun d os => cell_regrown f2 d os
        have R3 := fun d os => cell_regrown c0 d os
        have R4 := fun d os => cell_regrown c1 d os
        have R5 := fun d os => cell_regrown c2 d os
        have R6 := fun d os => cell_regrown c3 d os
        have R7 := fun d os => cell_regrown c0' d os
        have R8 := fun d os => cell_regrown c1' d os
        have R9 := fun d os => cell_regrown c2' d os
        have R10 := fun d os => cell_regrown c3' d os
        refine wp_region_quiet_below (by kernel_rfl) (by kernel_rfl) ?_
        repeat (go_big_quiet_step ((go_at_call 13; refine Calls.regrown_of (HCN.out _ ?_); exact (below_regrown _ _ _))))
        clear R1 R2 R3 R4 R5 R6 R7 R8 R9 R10
        refine wpQuiet_nil ?_
        intro w6 hw6
        have hb6 : Below wr.heap.size wr w6 := by obtain ⟨p, rfl⟩ := hw6; exact below_regrown wr p.d p.os
        have HB6 := Lib.hid hb6
        clear hw6 hb6
        go_wp2_with fail
        go_roundw
        case rel => exact ⟨q + 1, by go_num, by omega, HSM2.out, HB.out.trans (HB6.out.mono HB.out.size), keep_blk HB6.out HX.out, keep_blk HB6.out HY.out⟩
        case measure => simp [intOf]; omega
    · have hq2 : q = ks.length := by omega
      subst hq2
      have HQ := Lib.hid (show sameL ks us = true by have h := HSM.out; rw [List.take_length] at h; rwa [HN.out, List.take_length] at h)
      go_wp2_with fail
      go_ret
      exact ⟨ret_bool HQ.out.symm, HB.out⟩
theorem same_all : ∀ n, SameC 12 n ∧ SameC 13 n
  | 0 => by
    refine ⟨?_, ?_⟩ <;> exact fun t u F G w v x ht hu hd hs => by have := depth_pos t; omega
  | n + 1 => ⟨same_con n (same_all n).1, rsame_con n (same_all n).2⟩
theorem same_any (t u : Tree) (F G : Nat → Prop) (w : World) (v x : Value) (ht : IsT w F t v) (hu : IsT w G u x) (hs : sizeT t ≤ 1000000000) :
    Calls Tryd.prog 12 #[v, x] w fun e w' => e = .returned (.bool (sameT t u)) ∧ Below w.heap.size w w' := (same_all _).1 t u F G w v x ht hu (Nat.le_refl _) hs
theorem rsame_any (t u : Tree) (F G : Nat → Prop) (w : World) (v x : Value) (ht : IsT w F t v) (hu : IsT w G u x) (hs : sizeT t ≤ 1000000000) :
    Calls Tryd.prog 13 #[v, x] w fun e w' => e = .returned (.bool (sameT t u)) ∧ Below w.heap.size w w' := (same_all _).2 t u F G w v x ht hu (Nat.le_refl _) hs
end Go.Proofs.YtogkiifljdnjgaaDoor
