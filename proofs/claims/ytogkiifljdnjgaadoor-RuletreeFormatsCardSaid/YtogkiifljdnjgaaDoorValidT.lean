/- The walks of small and Valid. Conditions: bounds on size and texts. -/
import Derived.Test.YtogkiifljdnjgaaDoorValidS
import Derived.Test.YtogkiifljdnjgaaDoorNodes
namespace Go.Proofs.YtogkiifljdnjgaaDoor
open Go.RowKit
set_option linter.unusedVariables false
set_option linter.unusedSimpArgs false

/-- What small leaves: its answer, and the nodes that are left. -/
def PostS (w w' : World) (pk m d : Nat) (t : Tree) (e : Ending) : Prop :=
  e = .returned (.bool (decide (sizeT t ≤ m ∧ depthT t ≤ d))) ∧ (sizeT t ≤ m → depthT t ≤ d → w'.heap[pk]? = some (.cells #[.int .i64 ((m - sizeT t : Nat) : Int)] 3 (0, 0))) ∧ Only pk w w'
def SmC (n : Nat) : Prop := ∀ (t : Tree) (F : Nat → Prop) (w : World) (v : Value) (pk m d : Nat), IsT w F t v → depthT t ≤ n → sizeT t ≤ 1000000000 → w.heap[pk]? = some (.cells #[.int .i64 (m : Int)] 3 (0, 0)) → (∀ b, F b → b ≠ pk) → m ≤ 512 → d ≤ 32 →
  Calls Tryd.prog 27 #[v, .pointer (some ⟨pk, 0, none⟩), .int .i64 (d : Int)] w fun e w' => PostS w w' pk m d t e
theorem sizeT_pos (t : Tree) : 1 ≤ sizeT t := by
  obtain ⟨k, tx, ks, l⟩ := t
  rw [sizeT_node]
  omega
theorem postS_yes {w w' : World} {pk m d : Nat} {t : Tree} {e : Ending} (h : PostS w w' pk m d t e) (h1 : sizeT t ≤ m) (h2 : depthT t ≤ d) : e = .returned (.bool true) ∧ w'.heap[pk]? = some (.cells #[.int .i64 ((m - sizeT t : Nat) : Int)] 3 (0, 0)) ∧ Only pk w w' := by
  obtain ⟨a, b, c⟩ := h
  exact ⟨by rw [a, decide_eq_true ⟨h1, h2⟩], b h1 h2, c⟩
theorem postS_no {w w' : World} {pk m d : Nat} {t : Tree} {e : Ending} (h : PostS w w' pk m d t e) (h1 : ¬ (sizeT t ≤ m ∧ depthT t ≤ d)) : e = .returned (.bool false) ∧ Only pk w w' := by
  obtain ⟨a, b, c⟩ := h
  exact ⟨by rw [a, decide_eq_false h1], c⟩
theorem postS_false {w w' : World} {pk m d : Nat} {t : Tree} (h : Only pk w w') (h1 : ¬ (sizeT t ≤ m ∧ depthT t ≤ d)) : PostS w w' pk m d t (.returned (.bool false)) :=
  ⟨by rw [decide_eq_false h1], fun a b => absurd ⟨a, b⟩ h1, h⟩
theorem postS_true {w w' : World} {pk m d : Nat} {t : Tree} (h : Only pk w w') (h1 : sizeT t ≤ m) (h2 : depthT t ≤ d) (h3 : w'.heap[pk]? = some (.cells #[.int .i64 ((m - sizeT t : Nat) : Int)] 3 (0, 0))) : PostS w w' pk m d t (.returned (.bool true)) :=
  ⟨by rw [decide_eq_true ⟨h1, h2⟩], fun _ _ => h3, h⟩
set_option maxRecDepth 20000 in
set_option maxHeartbeats 2000000 in
theorem small_ok (n : Nat) (HC : SmC n) : SmC (n + 1) := by
  intro t F w v pk m d ht hd hs hpk hF hm hdd
  obtain ⟨k, tx, ks, l⟩ := t
  obtain ⟨kv, rfl, hks⟩ := isT_node.1 ht
  rw [depthT_node] at hd
  rw [sizeT_node] at hs
  have HK := Lib.hid hks
  have HCall := Lib.hid HC
  have HD := Lib.hid hd
  have HS := Lib.hid hs
  have HF := Lib.hid hF
  have HPK := Lib.hid hpk
  obtain ⟨a, c, rfl⟩ : ∃ a c, kv = .slice a ks.length c := by
    obtain ⟨a, c, hv, _⟩ := hks
    exact ⟨a, c, hv⟩
  have hl : ks.length ≤ 1000000000 := by have := len_le_size ks; omega
  have hplt : pk < w.heap.size := block_lt hpk
  have n1 : ¬ pk = w.heap.size := by omega
  have n4 : ¬ w.heap.size = pk := by omega
  have hm0 : (0 : Int) ≤ (m : Int) := by omega
  have hm1 : (m : Int) ≤ 512 := by omega
  have hd0 : (0 : Int) ≤ (d : Int) := by omega
  have hd1 : (d : Int) ≤ 32 := by omega
  have HSZ := Lib.hid (sizeT_node k tx ks l)
  have HDP := Lib.hid (depthT_node k tx ks l)
  generalize hT : Tree.node k tx ks l = T at *
  clear ht hd hs hks HC hpk hF hT
  have HA := Lib.hid (bel_new w (.cells #[.int .i64 k, .string ⟨tx.toArray⟩, .slice a ks.length c, .int .i64 l] 32))
  have HX0 := Lib.hid (heap_alloc_new w (.cells #[.int .i64 k, .string ⟨tx.toArray⟩, .slice a ks.length c, .int .i64 l] 32))
  have hz3 : (w.alloc (.cells #[.int .i64 k, .string ⟨tx.toArray⟩, .slice a ks.length c, .int .i64 l] 32)).heap.size = w.heap.size + 1 := by simp
  have HPA := Lib.hid (keep_blk HA.out HPK.out)
  go_enter Tryd.func27, Tryd.ntmps27
  go_upto_region 1 with fail
  generalize World.alloc w _ = A at *
  have p0 : A.cell? ⟨pk, 0, none⟩ = some (.int .i64 (m : Int)) := by simp [World.cell?, HPA.out]
  have p1 : A.frozen? ⟨pk, 0, none⟩ = false := by simp [World.frozen?, HPA.out]
  have HB1 := Lib.hid (Joins.block_setCell (i := 0) HPA.out (.int .i64 ((m : Int) - 1)))
  have HO1 := Lib.hid ((Only.of_below (b := pk) HA.out).trans (Only.set (b := pk) (k := 0) (w := A) (u := .int .i64 ((m : Int) - 1))))
  have HY0 := Lib.hid (Only.keep (Only.set (b := pk) (k := 0) (w := A) (u := .int .i64 ((m : Int) - 1))) HX0.out n4)
  have HZ3 := Lib.hid hz3
  clear hz3
  by_cases hmz : m = 0
  · subst hmz
    go_wp2_with fail
    go_ret
    exact postS_false HO1.out (by rw [HSZ.out]; omega)
  have g1 : ¬ (m : Int) - 1 < 0 := by omega
  by_cases hdz : d = 0
  · subst hdz
    go_wp2_with fail
    go_ret
    exact postS_false HO1.out (by rw [HDP.out]; omega)
  have g2 : ¬ (d : Int) < 1 := by omega
  obtain ⟨b0, b1, b2, b3, z0, z1, z2, z3⟩ := box4 HY0.out
  go_wp2_with fail
  go_loopw [25] (fun i wr => ∃ q : Nat, i = .int .i64 q ∧ q ≤ ks.length ∧ sizeL (ks.take q) ≤ m - 1 ∧ depthL (ks.take q) ≤ d - 1 ∧ wr.heap[pk]? = some (.cells #[.int .i64 ((m - 1 - sizeL (ks.take q) : Nat) : Int)] 3 (0, 0)) ∧ wr.heap[w.heap.size]? = some (.cells #[.int .i64 k, .string ⟨tx.toArray⟩, .slice a ks.length c, .int .i64 l] 32 (0, 0)) ∧ Only pk w wr) (fun i _ => ks.length - (intOf i).toNat)
  case atStart => exact ⟨0, rfl, Nat.zero_le _, by rw [List.take_zero, sizeL_nil]; omega, by rw [List.take_zero, depthL_nil]; omega, by rw [List.take_zero, sizeL_nil, show ((m - 1 - 0 : Nat) : Int) = (m : Int) - 1 by omega]; simpa using HB1.out, HY0.out, HO1.out⟩
  case round =>
    obtain ⟨q, rfl, hq, hsl, hdl, hpk, hx0, hon⟩ := hrel
    have HPW := Lib.hid hpk
    have HW0 := Lib.hid hx0
    have HON := Lib.hid hon
    have HSL := Lib.hid hsl
    have HDL := Lib.hid hdl
    have hsz : w.heap.size < wr.heap.size := block_lt hx0
    clear hpk hx0 hon hsl hdl
    by_cases hlt : q < ks.length
    · obtain ⟨t', ht'⟩ : ∃ t', ks[q]? = some t' := ⟨_, List.getElem?_eq_getElem hlt⟩
      obtain ⟨b, off, cap, k0, x0, a0, m0, n0, l0, hv, c0, c1, c2, c3, hT⟩ := IsKids.at (HK.out.other HON.out HF.out) ht'
      simp only [Value.slice.injEq] at hv
      obtain ⟨rfl, _, rfl⟩ := hv
      have h1 := sizeL_take ht'
      have h2 := depthL_take ht'
      have h3 := depthT_at ht'
      have h4 := sizeT_at ht'
      have h5 := sizeL_take_le ks (q + 1)
      have h6 := depthT_mem (List.mem_of_getElem? ht')
      have HT := Lib.hid hT
      have hpw2 := block_lt HPW.out
      have HCC := Lib.hid (fun W (hW : Below wr.heap.size wr W) (di : Int) (hdi : di = ((d - 1 : Nat) : Int)) => (show Calls Tryd.prog 27 #[.agg #[.int .i64 k0, .string ⟨x0.toArray⟩, .slice a0 m0 n0, .int .i64 l0], .pointer (some ⟨pk, 0, none⟩), .int .i64 di] W fun e w' => PostS W w' pk (m - 1 - sizeL (ks.take q)) (d - 1) t' e by rw [hdi]; exact HCall.out t' F W _ pk _ _ (hT.step hW) (by have := HD.out; omega) (by have := HS.out; omega) (keep_blk hW HPW.out) HF.out (by omega) (by omega)))
      have hlti : (q : Int) < (ks.length : Int) := by omega
      obtain ⟨e0, e1, e2, e3, y0, y1, y2, y3⟩ := box4 HW0.out
      by_cases hok : sizeT t' ≤ m - 1 - sizeL (ks.take q) ∧ depthT t' ≤ d - 1
      · have HOK := Lib.hid hok
        have HN1 := Lib.hid (show sizeL (ks.take (q + 1)) ≤ m - 1 by have := HSL.out; omega)
        have HN2 := Lib.hid (show depthL (ks.take (q + 1)) ≤ d - 1 by have := HDL.out; omega)
        have HN3 := Lib.hid (show m - 1 - sizeL (ks.take (q + 1)) = m - 1 - sizeL (ks.take q) - sizeT t' by omega)
        clear h1 h2 h3 h4 h5 h6 hT ht' hok
        go_wp2_with (first | (go_at_call 27; refine (HCC.out _ (bel_new _ _) _ (by omega)).mono ?_; intro e w1 hps; obtain ⟨rfl, hpk1, ho1⟩ := postS_yes hps HOK.out.1 HOK.out.2; have HP1 := Lib.hid hpk1; have HO1' := Lib.hid ((Only.of_below (b := pk) (bel_new wr (.cells #[.int .i64 k0, .string ⟨x0.toArray⟩, .slice a0 m0 n0, .int .i64 l0] 32))).trans ho1); clear hpk1 ho1 hps))
        go_roundw
        case rel => exact ⟨q + 1, by go_num, by omega, HN1.out, HN2.out, by rw [HN3.out]; exact HP1.out, HO1'.out.keep HW0.out n4, HON.out.trans HO1'.out⟩
        case measure => simp [intOf]; omega
      · have HOK := Lib.hid hok
        have HBAD := Lib.hid (show ¬ (sizeT T ≤ m ∧ depthT T ≤ d) by rw [HSZ.out, HDP.out]; have := HSL.out; have := HDL.out; omega)
        clear h1 h2 h3 h4 h5 h6 hT ht' hok
        go_wp2_with (first | (go_at_call 27; refine (HCC.out _ (bel_new _ _) _ (by omega)).mono ?_; intro e w1 hps; obtain ⟨rfl, ho1⟩ := postS_no hps HOK.out; have HO1' := Lib.hid ((Only.of_below (b := pk) (bel_new wr (.cells #[.int .i64 k0, .string ⟨x0.toArray⟩, .slice a0 m0 n0, .int .i64 l0] 32))).trans ho1); clear ho1 hps))
        go_ret
        exact postS_false (HON.out.trans HO1'.out) HBAD.out
    · have hq2 : q = ks.length := by omega
      subst hq2
      rw [List.take_length] at HSL HDL HPW
      go_wp2_with fail
      go_ret
      exact postS_true HON.out (by rw [HSZ.out]; have := HSL.out; omega) (by rw [HDP.out]; have := HDL.out; omega) (by rw [HSZ.out, show m - (1 + sizeL ks) = m - 1 - sizeL ks by omega]; exact HPW.out)
theorem small_all : ∀ n, SmC n
  | 0 => fun t F w v pk m d ht hd => by have := depth_pos t; omega
  | n + 1 => small_ok n (small_all n)
end Go.Proofs.YtogkiifljdnjgaaDoor
