/- Grow, walked. No condition beyond what seeds are in memory. -/
import Derived.Test.YtogkiifljdnjgaaDoorGif
import Derived.Test.YtogkiifljdnjgaaDoorParse
namespace Go.Proofs.YtogkiifljdnjgaaDoor
open Go.RowKit
set_option linter.unusedVariables false
set_option linter.unusedSimpArgs false

theorem gst_any : ∀ d, d ≤ 90 → GstC d
  | 0, h => fun w N gb l di hg hdi => by
    by_cases hk : stmtK (takeP l).1 = 2
    · exact gif0 w N gb l di hg hdi hk
    · exact gsimple 0 (by omega) w N gb l di hg hdi hk
  | d + 1, h => fun w N gb l di hg hdi => by
    by_cases hk : stmtK (takeP l).1 = 2
    · exact gifS d (gst_any d (by omega)) (by omega) w N gb l di hg hdi hk
    · exact gsimple (d + 1) (by omega) w N gb l di hg hdi hk
/-- Seeds that came in. -/
def ArgS (w : World) (v : Value) (l : List SeedP) : Prop :=
  (∀ s ∈ l, s.1 < 256 ∧ s.2 < 256) ∧ ((l = [] ∧ ∃ a cap, v = .slice a 0 cap ∧ cap ≤ maxLen ∧ (a = none → cap = 0)) ∨
  (l ≠ [] ∧ ∃ b off cap, v = .slice (some ⟨b, off, none⟩) l.length cap ∧ l.length ≤ cap ∧ cap ≤ maxLen ∧ ∀ i s, l[i]? = some s → w.cell? ⟨b, off + i * 2, none⟩ = some (.int .u8 (s.1 : Int)) ∧ w.cell? ⟨b, off + i * 2 + 1, none⟩ = some (.int .u8 (s.2 : Int))))
theorem ArgS.step {w w' : World} {v : Value} {l : List SeedP} (h : ArgS w v l) (hb : Below w.heap.size w w') : ArgS w' v l := by
  obtain ⟨h0, h⟩ := h
  refine ⟨h0, ?_⟩
  rcases h with h | ⟨h1, b, off, cap, hv, h2, h3, h5⟩
  · exact .inl h
  · exact .inr ⟨h1, b, off, cap, hv, h2, h3, fun i s hi => ⟨keep_at hb (h5 i s hi).1, keep_at hb (h5 i s hi).2⟩⟩
theorem ArgS.shape {w : World} {v : Value} {l : List SeedP} (h : ArgS w v l) : ∃ a cap, v = .slice a l.length cap ∧ l.length ≤ cap ∧ cap ≤ maxLen ∧ (a = none → cap = 0) := by
  rcases h.2 with ⟨rfl, a, cap, rfl, h1, h2⟩ | ⟨_, b, off, cap, rfl, h1, h2, _⟩
  · exact ⟨a, cap, rfl, Nat.zero_le _, h1, h2⟩
  · exact ⟨_, cap, rfl, h1, h2, fun e => by cases e⟩
/-- The first seeds, as a grower has them. -/
theorem ArgS.first {w : World} {a : Option Addr} {cap : Nat} {l : List SeedP} (h : ArgS w (.slice a l.length cap) l) (gb k : Nat) (hg : w.heap.size ≤ gb) : IsS w w.heap.size gb (.slice a (l.take k).length cap) (l.take k) := by
  obtain ⟨h0, h⟩ := h
  refine ⟨fun s hs => h0 s (List.mem_of_mem_take hs), ?_⟩
  rcases h with ⟨rfl, a', c', hv, h1, h2⟩ | ⟨h1, b, off, c', hv, h2, h3, h5⟩
  · simp only [Value.slice.injEq] at hv
    obtain ⟨rfl, _, rfl⟩ := hv
    exact .inl ⟨by simp, _, _, by simp, h1, h2⟩
  · simp only [Value.slice.injEq, true_and] at hv
    obtain ⟨rfl, rfl⟩ := hv
    by_cases hk : l.take k = []
    · exact .inl ⟨hk, _, cap, by rw [hk]; rfl, h3, fun e => by cases e⟩
    · have hb : b < w.heap.size := by
        cases l with
        | nil => exact absurd rfl h1
        | cons s r => exact World.block_lt_of_cell? w _ (h5 0 s rfl).1
      refine .inr ⟨hk, b, off, cap, rfl, by rw [List.length_take]; omega, h3, by omega, .inl hb, fun i s hi => ?_⟩
      rw [List.getElem?_take] at hi
      split at hi
      · exact h5 i s hi
      · cases hi
theorem grow_end {w w3 : World} {x : Obj} {a : Option Addr} {n c : Nat} {l : List SeedP} (hk : IsKids w3 (New w3 ((w.alloc (.cells #[.int .i64 0, .string ⟨#[]⟩, .slice none 0 0, .int .i64 0] 26)).alloc x).heap.size) (listP (stmtP 3) 12 (l.take 120)).1 (.slice a n c))
    (ho : Only (w.heap.size + 1) ((w.alloc (.cells #[.int .i64 0, .string ⟨#[]⟩, .slice none 0 0, .int .i64 0] 26)).alloc x) w3) :
    PostT w ((((w3.setCell ⟨w.heap.size, 0, none⟩ (.int .i64 1)).setCell ⟨w.heap.size, 1, none⟩ (.string ⟨#[]⟩)).setCell ⟨w.heap.size, 2, none⟩ (.slice a n c)).setCell ⟨w.heap.size, 3, none⟩ (.int .i64 1)) (growP l) (.returned (.agg #[.int .i64 1, .string ⟨#[]⟩, .slice a n c, .int .i64 1])) := by
  have hs := Only.set4 w.heap.size w3 (.int .i64 1) (.string ⟨#[]⟩) (.slice a n c) (.int .i64 1)
  have hz : ((w.alloc (.cells #[.int .i64 0, .string ⟨#[]⟩, .slice none 0 0, .int .i64 0] 26)).alloc x).heap.size = w.heap.size + 2 := by simp
  have hb : Below w.heap.size w ((w.alloc (.cells #[.int .i64 0, .string ⟨#[]⟩, .slice none 0 0, .int .i64 0] 26)).alloc x) := (bel_new w _).alloc (by simp) _
  rw [hz] at hk
  refine ⟨⟨_, rfl, ?_⟩, below_of_only (below_of_only hb ho (by omega)) hs (Nat.le_refl _)⟩
  unfold growP
  exact IsT.of ((hk.only hs (by omega)).mono fun b hb hl => ⟨by have := hb.1; omega, hl⟩)
set_option maxRecDepth 20000 in
set_option maxHeartbeats 2000000 in
theorem grow_any (w : World) (v : Value) (l : List SeedP) (h : ArgS w v l) : Calls Tryd.prog 9 #[v] w fun e w' => PostT w w' (growP l) e := by
  obtain ⟨a, cap, rfl, h1, h2, h3⟩ := h.shape
  have HA := Lib.hid h
  have HC := Lib.hid (fun W N gb l' (hW : GAt W N gb l') => show Calls Tryd.prog 24 #[.pointer (some ⟨gb, 0, none⟩), .int .i64 12, .int .i64 3] W fun e w' => PostL W w' N gb (listP (stmtP 3) 12 l') e from gli_con 3 (gst_any 3 (by decide)) W N gb l' 12 3 hW (by decide) rfl)
  obtain ⟨k, hk⟩ : ∃ k, min l.length 120 = k := ⟨_, rfl⟩
  have HK := Lib.hid (show (l.take 120).length = k by rw [List.length_take, ← hk]; omega)
  have HG0 : Hid (GAt ((w.alloc (.cells #[.int .i64 0, .string ⟨#[]⟩, .slice none 0 0, .int .i64 0] 26)).alloc (.cells #[.slice a k cap] 57)) w.heap.size (w.heap.size + 1) (l.take 120)) := by
    have hs := h.first (w.heap.size + 1) 120 (by omega)
    have hb : Below w.heap.size w ((w.alloc (.cells #[.int .i64 0, .string ⟨#[]⟩, .slice none 0 0, .int .i64 0] 26)).alloc (.cells #[.slice a k cap] 57)) := (bel_new w _).alloc (by simp) _
    have hh := heap_alloc_new (w.alloc (.cells #[.int .i64 0, .string ⟨#[]⟩, .slice none 0 0, .int .i64 0] 26)) (.cells #[.slice a k cap] 57)
    have hz : (w.alloc (.cells #[.int .i64 0, .string ⟨#[]⟩, .slice none 0 0, .int .i64 0] 26)).heap.size = w.heap.size + 1 := by simp
    rw [hz] at hh
    rw [HK.out] at hs
    exact Lib.hid ⟨by rw [HK.out]; omega, by omega, _, hh, hs.only (Only.of_below (b := w.heap.size + 1) hb) (.inl rfl)⟩
  unfold maxLen at h2
  have hcap : (l.length : Int) ≤ (cap : Int) := by omega
  by_cases hlk : l.length ≤ 120
  · have hkk : k = l.length := by omega
    subst hkk
    have hli : (l.length : Int) ≤ 120 := by omega
    clear hk h hlk h3 HK
    go_enter Tryd.func9, Tryd.ntmps9
    go_wp2_with (go_at_call 24; (with_reducible refine (HC.out _ _ _ _ HG0.out).mono ?_); rintro e w3 ⟨⟨v3, rfl, hk3⟩, hg3, ho3⟩; obtain ⟨a3, c3, rfl⟩ := isKids_shape hk3; have HK3 := Lib.hid hk3; have HO3 := Lib.hid ho3; have HR3 := Lib.hid (ho3.keep (new_blk (heap_alloc_new w (.cells #[.int .i64 0, .string ⟨#[]⟩, .slice none 0 0, .int .i64 0] 26))) (by omega)); obtain ⟨r0, r1, r2, r3, q0, q1, q2, q3⟩ := box4 HR3.out; clear hk3 hg3 ho3)
    refine bodyPost_ret (v := .agg #[.int .i64 1, .string ⟨#[]⟩, .slice a3 (listP (stmtP 3) 12 (l.take 120)).1.length c3, .int .i64 1]) (by simp [results, Tryd.results9, go_sem, r0, r1, r2, r3, q0, q1, q2, q3]) rfl ?_
    exact grow_end HK3.out HO3.out
  · have hkk : k = 120 := by omega
    subst hkk
    have hli : (120 : Int) < (l.length : Int) := by omega
    have hli2 : ¬ (l.length : Int) ≤ 120 := by omega
    have hc2 : (120 : Int) ≤ (cap : Int) := by omega
    have hc3 : 120 ≤ cap := by omega
    clear hk h hlk h3 HK
    go_enter Tryd.func9, Tryd.ntmps9
    go_wp2_with (go_at_call 24; (with_reducible refine (HC.out _ _ _ _ HG0.out).mono ?_); rintro e w3 ⟨⟨v3, rfl, hk3⟩, hg3, ho3⟩; obtain ⟨a3, c3, rfl⟩ := isKids_shape hk3; have HK3 := Lib.hid hk3; have HO3 := Lib.hid ho3; have HR3 := Lib.hid (ho3.keep (new_blk (heap_alloc_new w (.cells #[.int .i64 0, .string ⟨#[]⟩, .slice none 0 0, .int .i64 0] 26))) (by omega)); obtain ⟨r0, r1, r2, r3, q0, q1, q2, q3⟩ := box4 HR3.out; clear hk3 hg3 ho3)
    refine bodyPost_ret (v := .agg #[.int .i64 1, .string ⟨#[]⟩, .slice a3 (listP (stmtP 3) 12 (l.take 120)).1.length c3, .int .i64 1]) (by simp [results, Tryd.results9, go_sem, r0, r1, r2, r3, q0, q1, q2, q3]) rfl ?_
    exact grow_end HK3.out HO3.out
end Go.Proofs.YtogkiifljdnjgaaDoor
