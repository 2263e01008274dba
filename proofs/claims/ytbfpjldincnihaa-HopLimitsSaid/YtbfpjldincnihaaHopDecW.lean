/- The walk of hop.Decode (begun). No condition beyond that there are at most a million bytes. -/
import Derived.Test.YtbfpjldincnihaaHopDec
namespace Go.Proofs.Ytbfpjldincnihaa
open Go.RowKit
set_option linter.unusedVariables false
set_option linter.unusedSimpArgs false

def zeroMsg : Value := .agg #[.int .i64 0, .int .i64 0, .int .i64 0, .int .i64 0, .int .i64 0, .string ⟨#[]⟩, .slice none 0 0, .slice none 0 0]
def HDecPost (w : World) (b : List UInt8) (e : Ending) (w' : World) : Prop :=
  match hdecP b with
  | none => e = .returned (.tuple #[zeroMsg, .iface 43 (.int .i64 2)]) ∧ Below w.heap.size w w'
  | some m => ∃ la lc da dc, e = .returned (.tuple #[m.val (.slice la m.lst.length lc) (.slice da m.dat.length dc), .nilIface]) ∧ IsT w' (.slice la m.lst.length lc) m.lst ∧ IsB w' (.slice da m.dat.length dc) m.dat ∧ Below w.heap.size w w'
theorem HDecPost.bad {w w' : World} {b : List UInt8} (h : hdecP b = none) (hb : Below w.heap.size w w') : HDecPost w b (.returned (.tuple #[zeroMsg, .iface 43 (.int .i64 2)])) w' := by
  unfold HDecPost
  rw [h]
  exact ⟨rfl, hb⟩

theorem Only.sets8 (w : World) (b : Nat) (v0 v1 v2 v3 v4 v5 v6 v7 : Value) :
    Only b w ((((((((w.setCell ⟨b, 0, none⟩ v0).setCell ⟨b, 1, none⟩ v1).setCell ⟨b, 2, none⟩ v2).setCell ⟨b, 3, none⟩ v3).setCell ⟨b, 4, none⟩ v4).setCell ⟨b, 5, none⟩ v5).setCell ⟨b, 6, none⟩ v6).setCell ⟨b, 7, none⟩ v7) :=
  ((((((Only.set.trans Only.set).trans Only.set).trans Only.set).trans Only.set).trans Only.set).trans Only.set).trans Only.set

set_option maxRecDepth 100000 in
set_option maxHeartbeats 4000000 in
theorem hdec_err (v : Value) (b : List UInt8) (w : World) (h : IsB w v b) (hl : b.length ≤ 1000000) (hd : (∃ c, decP b = .inl c) ∨ ∃ k n p s, decP b = .inr (k, n, p, s) ∧ s ≠ b.length) :
    Calls Try.prog 20 #[v] w (HDecPost w b) := by
  obtain ⟨a, cap, rfl, hc1, hc2, hc3⟩ := h.shape
  have H := Lib.hid h
  have hz0 := MBox.new w 0 0 0 0 0 [] (.slice none 0 0) (.slice none 0 0)
  have HZ0 := Lib.hid hz0
  have HB0 := Lib.hid (bel_new w (.cells #[.int .i64 0, .int .i64 0, .int .i64 0, .int .i64 0, .int .i64 0, .string ⟨#[]⟩, .slice none 0 0, .slice none 0 0] 25))
  have hl9 : (b.length : Int) ≤ 1000000 := by omega
  clear h hc2 hc3 hz0
  rcases hd with ⟨code, hd⟩ | ⟨k, n, p, s, hd, hs⟩
  · have HNONE := Lib.hid (show hdecP b = none by unfold hdecP; rw [hd])
    have HT := Lib.hid (fun (W : World) (h : IsB W (.slice a b.length cap) b) => (show Calls Try.prog 37 #[.slice a b.length cap] W fun e w' => e = .returned (.tuple #[.agg #[.int .i64 0, .int .i64 0, .slice none 0 0], .int .i64 0, .iface 43 (.int .i64 code)]) ∧ Below W.heap.size W w' from by
      have h9 := dec_any _ b W h (by omega)
      rw [hd] at h9
      exact h9))
    clear hd hl
    go_enter Try.func20, Try.ntmps20
    go_upto_region 1 with fail
    change Code.wp _ _ _ _ (w.alloc (.cells #[.int .i64 0, .int .i64 0, .int .i64 0, .int .i64 0, .int .i64 0, .string ⟨([] : List UInt8).toArray⟩, .slice none 0 0, .slice none 0 0] 25))
    change Hid (Below w.heap.size w (w.alloc (.cells #[.int .i64 0, .int .i64 0, .int .i64 0, .int .i64 0, .int .i64 0, .string ⟨([] : List UInt8).toArray⟩, .slice none 0 0, .slice none 0 0] 25))) at HB0
    generalize w.alloc (.cells #[.int .i64 0, .int .i64 0, .int .i64 0, .int .i64 0, .int .i64 0, .string ⟨([] : List UInt8).toArray⟩, .slice none 0 0, .slice none 0 0] 25) = W1 at *
    go_upto_region 3 with (go_at_call 37; refine (HT.out _ (H.out.step HB0.out)).mono ?_; rintro r W2 ⟨rfl, hb2⟩)
    have hn3 := bel_new W2 (.cells #[.int .i64 0, .int .i64 0, .slice none 0 0] 37)
    have HZ3 := Lib.hid ((HZ0.out.step hb2).step hn3)
    have HB3 := Lib.hid (bel_step (bel_step HB0.out hb2) hn3)
    clear hb2 hn3 HZ0 HB0
    generalize W2.alloc (.cells #[.int .i64 0, .int .i64 0, .slice none 0 0] 37) = W3 at *
    obtain ⟨c0, c1, c2, c3, c4, c5, c6, c7⟩ := HZ3.out.cells
    have f0 := HZ3.out.frozen 0
    have f1 := HZ3.out.frozen 1
    have f2 := HZ3.out.frozen 2
    have f3 := HZ3.out.frozen 3
    have f4 := HZ3.out.frozen 4
    have f5 := HZ3.out.frozen 5
    have f6 := HZ3.out.frozen 6
    have f7 := HZ3.out.frozen 7
    go_wp2_with fail
    have hz := HZ3.out.sets 0 0 0 0 0 [] (.slice none 0 0) (.slice none 0 0)
    have HBF := Lib.hid (HB3.out.trans ((Only.sets8 W3 w.heap.size (.int .i64 0) (.int .i64 0) (.int .i64 0) (.int .i64 0) (.int .i64 0) (.string ⟨#[]⟩) (.slice none 0 0) (.slice none 0 0)).below (Nat.le_refl _) HB3.out.size))
    obtain ⟨z0, z1, z2, z3, z4, z5, z6, z7⟩ := hz.cells
    exact bodyPost_ret (v := .tuple #[zeroMsg, .iface 43 (.int .i64 2)]) (by simp [results, Try.results20, asAddr, go_sem, zeroMsg, c0, c1, c2, c3, c4, c5, c6, c7]) rfl (HDecPost.bad HNONE.out HBF.out)
  · have HNONE := Lib.hid (show hdecP b = none by unfold hdecP; rw [hd]; simp only []; rw [if_neg (fun h => hs h.1)])
    have hsb : ((s : Int) == (b.length : Int)) = false := by simpa using fun h => hs (by omega)
    have hsn : ¬ (s : Int) = (b.length : Int) := by omega
    have HT := Lib.hid (fun (W : World) (h : IsB W (.slice a b.length cap) b) => (show Calls Try.prog 37 #[.slice a b.length cap] W fun e w' => ∃ u, e = .returned (.tuple #[.agg #[.int .i64 k, .int .i64 n, u], .int .i64 s, .nilIface]) ∧ OwnB w' W.heap.size u p ∧ Below W.heap.size W w' from by
      have h9 := dec_any _ b W h (by omega)
      rw [hd] at h9
      exact h9))
    clear hs
    clear hd hl
    go_enter Try.func20, Try.ntmps20
    go_upto_region 1 with fail
    change Code.wp _ _ _ _ (w.alloc (.cells #[.int .i64 0, .int .i64 0, .int .i64 0, .int .i64 0, .int .i64 0, .string ⟨([] : List UInt8).toArray⟩, .slice none 0 0, .slice none 0 0] 25))
    change Hid (Below w.heap.size w (w.alloc (.cells #[.int .i64 0, .int .i64 0, .int .i64 0, .int .i64 0, .int .i64 0, .string ⟨([] : List UInt8).toArray⟩, .slice none 0 0, .slice none 0 0] 25))) at HB0
    generalize w.alloc (.cells #[.int .i64 0, .int .i64 0, .int .i64 0, .int .i64 0, .int .i64 0, .string ⟨([] : List UInt8).toArray⟩, .slice none 0 0, .slice none 0 0] 25) = W1 at *
    go_upto_region 3 with (go_at_call 37; refine (HT.out _ (H.out.step HB0.out)).mono ?_; rintro r W2 ⟨u, rfl, ho2, hb2⟩; obtain ⟨au, nu, cu, rfl⟩ : ∃ a n c, u = .slice a n c := (by obtain ⟨a, c, h, _⟩ := ho2.isB.shape; exact ⟨a, _, c, h⟩); clear ho2)
    have hn3 := bel_new W2 (.cells #[.int .i64 k, .int .i64 n, .slice au nu cu] 37)
    have HZ3 := Lib.hid ((HZ0.out.step hb2).step hn3)
    have HB3 := Lib.hid (bel_step (bel_step HB0.out hb2) hn3)
    clear hb2 hn3 HZ0 HB0
    generalize W2.alloc (.cells #[.int .i64 k, .int .i64 n, .slice au nu cu] 37) = W3 at *
    obtain ⟨c0, c1, c2, c3, c4, c5, c6, c7⟩ := HZ3.out.cells
    have f0 := HZ3.out.frozen 0
    have f1 := HZ3.out.frozen 1
    have f2 := HZ3.out.frozen 2
    have f3 := HZ3.out.frozen 3
    have f4 := HZ3.out.frozen 4
    have f5 := HZ3.out.frozen 5
    have f6 := HZ3.out.frozen 6
    have f7 := HZ3.out.frozen 7
    go_wp2_with fail
    have hz := HZ3.out.sets 0 0 0 0 0 [] (.slice none 0 0) (.slice none 0 0)
    have HBF := Lib.hid (HB3.out.trans ((Only.sets8 W3 w.heap.size (.int .i64 0) (.int .i64 0) (.int .i64 0) (.int .i64 0) (.int .i64 0) (.string ⟨#[]⟩) (.slice none 0 0) (.slice none 0 0)).below (Nat.le_refl _) HB3.out.size))
    obtain ⟨z0, z1, z2, z3, z4, z5, z6, z7⟩ := hz.cells
    exact bodyPost_ret (v := .tuple #[zeroMsg, .iface 43 (.int .i64 2)]) (by simp [results, Try.results20, asAddr, go_sem, zeroMsg, c0, c1, c2, c3, c4, c5, c6, c7]) rfl (HDecPost.bad HNONE.out HBF.out)
set_option maxRecDepth 100000 in
set_option maxHeartbeats 4000000 in
theorem hdec_kind (v : Value) (b : List UInt8) (w : World) (h : IsB w v b) (hl : b.length ≤ 1000000) (k n : Nat) (p : List UInt8) (hd : decP b = .inr (k, n, p, b.length)) (hok : okK k = false) :
    Calls Try.prog 20 #[v] w (HDecPost w b) := by
  obtain ⟨a, cap, rfl, hc1, hc2, hc3⟩ := h.shape
  have H := Lib.hid h
  have HZ0 := Lib.hid (MBox.new w 0 0 0 0 0 [] (.slice none 0 0) (.slice none 0 0))
  have HB0 := Lib.hid (bel_new w (.cells #[.int .i64 0, .int .i64 0, .int .i64 0, .int .i64 0, .int .i64 0, .string ⟨#[]⟩, .slice none 0 0, .slice none 0 0] 25))
  have hl9 : (b.length : Int) ≤ 1000000 := by omega
  clear h hc2 hc3
  have HT := Lib.hid (fun (W : World) (h : IsB W (.slice a b.length cap) b) => (show Calls Try.prog 37 #[.slice a b.length cap] W fun e w' => ∃ u, e = .returned (.tuple #[.agg #[.int .i64 k, .int .i64 n, u], .int .i64 b.length, .nilIface]) ∧ OwnB w' W.heap.size u p ∧ Below W.heap.size W w' from by
    have h9 := dec_any _ b W h (by omega)
    rw [hd] at h9
    exact h9))
  have HU := Lib.hid (fun W => uses_any (k : Int) W)
  unfold Flds.val at HU
  have HNONE := Lib.hid (show hdecP b = none by unfold hdecP; rw [hd]; simp only []; rw [if_neg (fun h => by rw [hok] at h; exact absurd h.2.1 (by simp))])
  rw [hok] at HU
  clear hd hl hok
  go_enter Try.func20, Try.ntmps20
  go_upto_region 1 with fail
  change Code.wp _ _ _ _ (w.alloc (.cells #[.int .i64 0, .int .i64 0, .int .i64 0, .int .i64 0, .int .i64 0, .string ⟨([] : List UInt8).toArray⟩, .slice none 0 0, .slice none 0 0] 25))
  change Hid (Below w.heap.size w (w.alloc (.cells #[.int .i64 0, .int .i64 0, .int .i64 0, .int .i64 0, .int .i64 0, .string ⟨([] : List UInt8).toArray⟩, .slice none 0 0, .slice none 0 0] 25))) at HB0
  generalize w.alloc (.cells #[.int .i64 0, .int .i64 0, .int .i64 0, .int .i64 0, .int .i64 0, .string ⟨([] : List UInt8).toArray⟩, .slice none 0 0, .slice none 0 0] 25) = W1 at *
  go_upto_region 4 with (go_at_call 37; refine (HT.out _ (H.out.step HB0.out)).mono ?_; rintro r W2 ⟨u, rfl, ho2, hb2⟩; obtain ⟨au, nu, cu, rfl⟩ : ∃ a n c, u = .slice a n c := (by obtain ⟨a, c, h, _⟩ := ho2.isB.shape; exact ⟨a, _, c, h⟩))
  have hn3 := bel_new W2 (.cells #[.int .i64 k, .int .i64 n, .slice au nu cu] 37)
  have HZ3 := Lib.hid ((HZ0.out.step hb2).step hn3)
  have HB3 := Lib.hid (bel_step (bel_step HB0.out hb2) hn3)
  have HP3 := Lib.hid (ho2.isB.step hn3)
  have r0 : (W2.alloc (.cells #[.int .i64 k, .int .i64 n, .slice au nu cu] 37)).cell? ⟨W2.heap.size, 0, none⟩ = some (.int .i64 k) := by simp [go_sem]
  have r1 : (W2.alloc (.cells #[.int .i64 k, .int .i64 n, .slice au nu cu] 37)).cell? ⟨W2.heap.size, 1, none⟩ = some (.int .i64 n) := by simp [go_sem]
  have r2 : (W2.alloc (.cells #[.int .i64 k, .int .i64 n, .slice au nu cu] 37)).cell? ⟨W2.heap.size, 2, none⟩ = some (.slice au nu cu) := by simp [go_sem]
  have hz2 : w.heap.size < W2.heap.size := Nat.lt_of_lt_of_le HZ0.out.lt hb2.size
  have hz3 : W2.heap.size < (W2.alloc (.cells #[.int .i64 k, .int .i64 n, .slice au nu cu] 37)).heap.size := by simp [go_sem]
  clear hb2 hn3 ho2 HZ0 HB0
  generalize W2.alloc (.cells #[.int .i64 k, .int .i64 n, .slice au nu cu] 37) = W3 at *
  generalize usesF (k : Int) = uu at *
  go_upto_region 6 with (go_at_call 27; refine (HU.out _).mono ?_; rintro r W4 ⟨rfl, hb4⟩)
  have hn5 := bel_new W4 (.cells #[.bool uu.id, .bool uu.num, .bool uu.tot, .bool uu.off, .bool uu.txt, .bool uu.lst, .bool uu.dat] 56)
  have HZ5 := Lib.hid ((HZ3.out.step hb4).step hn5)
  have HB5 := Lib.hid (bel_step (bel_step HB3.out hb4) hn5)
  clear hb4 hn5 HZ3 HB3 r0 r1 r2
  generalize W4.alloc (.cells #[.bool uu.id, .bool uu.num, .bool uu.tot, .bool uu.off, .bool uu.txt, .bool uu.lst, .bool uu.dat] 56) = W5 at *
  obtain ⟨c0, c1, c2, c3, c4, c5, c6, c7⟩ := HZ5.out.cells
  have f0 := HZ5.out.frozen 0
  have f1 := HZ5.out.frozen 1
  have f2 := HZ5.out.frozen 2
  have f3 := HZ5.out.frozen 3
  have f4 := HZ5.out.frozen 4
  have f5 := HZ5.out.frozen 5
  have f6 := HZ5.out.frozen 6
  have f7 := HZ5.out.frozen 7
  go_wp2_with fail
  have HBF := Lib.hid (HB5.out.trans ((Only.sets8 W5 w.heap.size (.int .i64 0) (.int .i64 0) (.int .i64 0) (.int .i64 0) (.int .i64 0) (.string ⟨#[]⟩) (.slice none 0 0) (.slice none 0 0)).below (Nat.le_refl _) HB5.out.size))
  exact bodyPost_ret (v := .tuple #[zeroMsg, .iface 43 (.int .i64 2)]) (by simp [results, Try.results20, asAddr, go_sem, zeroMsg, c0, c1, c2, c3, c4, c5, c6, c7]) rfl (HDecPost.bad HNONE.out HBF.out)
end Go.Proofs.Ytbfpjldincnihaa
