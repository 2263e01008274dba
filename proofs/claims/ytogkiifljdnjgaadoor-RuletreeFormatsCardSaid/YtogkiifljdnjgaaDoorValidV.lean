/- The walk of Valid. Conditions: bounds on size and texts. -/
import Derived.Test.YtogkiifljdnjgaaDoorValidT
namespace Go.Proofs.YtogkiifljdnjgaaDoor
open Go.RowKit
set_option linter.unusedVariables false
set_option linter.unusedSimpArgs false

def validP : Tree → Bool
  | .node k tx ks l => (decide (k = 1) && (decide (tx = []) && decide (sizeT (.node k tx ks l) ≤ 512 ∧ depthT (.node k tx ks l) ≤ 32))) && stsOK ks
theorem validP_node {k : Int} {tx : List UInt8} {ks : List Tree} {l : Int} : validP (.node k tx ks l) = ((decide (k = 1) && (decide (tx = []) && decide (sizeT (.node k tx ks l) ≤ 512 ∧ depthT (.node k tx ks l) ≤ 32))) && stsOK ks) := by rw [validP]
set_option maxRecDepth 20000 in
set_option maxHeartbeats 1000000 in
theorem valid_any (t : Tree) (F0 : Nat → Prop) (w : World) (v : Value) (ht0 : IsT w F0 t v) (hw : KW w) (hs : sizeT t ≤ 1000000000) (hsh : shortT t) :
    Calls Tryd.prog 16 #[v] w fun e w' => e = .returned (.bool (validP t)) ∧ Below w.heap.size w w' := by
  obtain ⟨F, ht, hF⟩ : ∃ F, IsT w F t v ∧ ∀ b, F b → b < w.heap.size := ⟨fun b => F0 b ∧ b < w.heap.size, ht0.mono (fun b h1 h2 => ⟨h1, h2⟩), fun b h => h.2⟩
  obtain ⟨n, hd, HC0⟩ : ∃ n, depthT t ≤ n ∧ OkC 28 stOK n := ⟨_, Nat.le_refl _, (valid_all (depthT t)).1⟩
  have HCall := Lib.hid HC0
  clear HC0
  have HSM := Lib.hid (fun W hW pk hpk hn => small_all (depthT t) t F W v pk 512 32 (ht.step hW) (Nat.le_refl _) hs hpk hn (by omega) (by omega))
  obtain ⟨k, tx, ks, l⟩ := t
  obtain ⟨kv, rfl, hks⟩ := isT_node.1 ht
  have hd2 := hd
  rw [depthT_node] at hd2
  have hs2 := hs
  rw [sizeT_node] at hs2
  rw [shortT_node] at hsh
  obtain ⟨htx, hshl⟩ := hsh
  obtain ⟨R, hR⟩ : ∃ R, validP (.node k tx ks l) = R := ⟨_, rfl⟩
  rw [hR]
  rw [validP_node] at hR
  have HR := Lib.hid hR
  have HW := Lib.hid hw
  have HK := Lib.hid hks
  have HD := Lib.hid hd2
  have HTX := Lib.hid htx
  have HSH := Lib.hid hshl
  have HSZ := Lib.hid hs2
  obtain ⟨a, c, rfl⟩ : ∃ a c, kv = .slice a ks.length c := by
    obtain ⟨a, c, hv, _⟩ := hks
    exact ⟨a, c, hv⟩
  have hl : ks.length ≤ 1000000000 := by have := len_le_size ks; have := hs2; omega
  have hl0 : (0 : Int) ≤ (ks.length : Int) := by omega
  have HB0 := Lib.hid (bel_new w (.cells #[.int .i64 k, .string ⟨tx.toArray⟩, .slice a ks.length c, .int .i64 l] 32))
  have HX0 := Lib.hid (heap_alloc_new w (.cells #[.int .i64 k, .string ⟨tx.toArray⟩, .slice a ks.length c, .int .i64 l] 32))
  clear ht hd hs ht0 hd2 hs2 hks hR hw htx hshl
  have HBA := Lib.hid (HB0.out.alloc (by simp) (.cells #[.int .i64 512] 3))
  have HXA := Lib.hid (new_blk (y := .cells #[.int .i64 512] 3) HX0.out)
  have hpa := heap_alloc_new (w.alloc (.cells #[.int .i64 k, .string ⟨tx.toArray⟩, .slice a ks.length c, .int .i64 l] 32)) (.cells #[.int .i64 512] 3)
  have hz : (w.alloc (.cells #[.int .i64 k, .string ⟨tx.toArray⟩, .slice a ks.length c, .int .i64 l] 32)).heap.size = w.heap.size + 1 := by simp
  rw [hz] at hpa
  have HPA := Lib.hid hpa
  have HF := Lib.hid hF
  clear hF hz hpa
  obtain ⟨r0, r1, r2, r3, q0, q1, q2, q3⟩ := box4 HXA.out
  by_cases hk : k = 1
  rotate_left
  · have hkb : (k != 1) = true := bne_iff_ne.2 hk
    have HQ := Lib.hid (show false = R by rw [← HR.out]; simp [hk])
    go_enter Tryd.func16, Tryd.ntmps16
    go_wp2_with fail
    go_ret
    exact ⟨by rw [← HQ.out]; rfl, HBA.out⟩
  subst hk
  rcases tx with _ | ⟨y, r⟩
  rotate_left
  · have HQ := Lib.hid (show false = R by rw [← HR.out]; simp)
    go_enter Tryd.func16, Tryd.ntmps16
    go_wp2_with fail
    go_ret
    exact ⟨by rw [← HQ.out]; rfl, HBA.out⟩
  by_cases hsm : sizeT (.node 1 [] ks l) ≤ 512 ∧ depthT (.node 1 [] ks l) ≤ 32
  rotate_left
  · have HQ := Lib.hid (show false = R by rw [← HR.out, decide_eq_false hsm]; simp)
    have HOK := Lib.hid hsm
    clear hsm
    go_enter Tryd.func16, Tryd.ntmps16
    go_wp2_with (first | (go_at_call 27; refine (HSM.out _ HBA.out _ HPA.out (fun b hb => by have := HF.out b hb; omega)).mono ?_; intro e w1 hps; obtain ⟨rfl, ho1⟩ := postS_no hps HOK.out; have HO1 := Lib.hid ho1; clear ho1 hps))
    go_ret
    exact ⟨by rw [← HQ.out]; rfl, HBA.out.trans (HO1.out.below (by omega) HBA.out.size)⟩
  have HRA := Lib.hid (show stsOK ks = R by rw [← HR.out, decide_eq_true hsm]; simp)
  have HOK := Lib.hid hsm
  clear hsm
  go_enter Tryd.func16, Tryd.ntmps16
  go_wp2_with (first | (go_at_call 27; refine (HSM.out _ HBA.out _ HPA.out (fun b hb => by have := HF.out b hb; omega)).mono ?_; intro e w1 hps; obtain ⟨rfl, _, ho1⟩ := postS_yes hps HOK.out.1 HOK.out.2; have HO1 := Lib.hid ho1; have HBS := Lib.hid (HBA.out.trans (ho1.below (by omega) HBA.out.size)); have HXS := Lib.hid (ho1.keep HXA.out (by omega)); obtain ⟨s0, s1, s2, s3, z0, z1, z2, z3⟩ := box4 HXS.out; clear ho1 hps))
  go_loopw [22] (fun i wr => ∃ q : Nat, i = .int .i64 q ∧ q ≤ ks.length ∧ stsOK (ks.take q) = true ∧ Below w.heap.size w wr ∧ wr.heap[w.heap.size]? = some (.cells #[.int .i64 1, .string ⟨#[]⟩, .slice a ks.length c, .int .i64 l] 32 (0, 0))) (fun i _ => ks.length - (intOf i).toNat)
  case atStart => exact ⟨0, rfl, Nat.zero_le _, by simp [stsOK_nil], HBS.out, HXS.out⟩
  case round =>
    obtain ⟨q, rfl, hq, hall, hb, hx⟩ := hrel
    have HB := Lib.hid hb
    have HX := Lib.hid hx
    have HALL := Lib.hid hall
    clear hb hx hall
    by_cases hlt : q < ks.length
    · obtain ⟨t', ht'⟩ : ∃ t', ks[q]? = some t' := ⟨_, List.getElem?_eq_getElem hlt⟩
      obtain ⟨b, off, cap, k0, x0, a0, m0, n0, l0, hv, c0, c1, c2, c3, hT⟩ := IsKids.at (HK.out.step HB.out) ht'
      simp only [Value.slice.injEq] at hv
      obtain ⟨rfl, _, rfl⟩ := hv
      obtain ⟨d0, d1, d2, d3, y0, y1, y2, y3⟩ := box4 HX.out
      have HT := Lib.hid hT
      have HZ := Lib.hid (stsOK_take ht')
      have HZN := Lib.hid (fun h => stsOK_bad ht' h)
      have h3 := depthT_at ht'
      have h4 := sizeT_at ht'
      have h5 := shortT_at HSH.out ht'
      have HCC := Lib.hid (fun W (hW : IsT W F t' (.agg #[.int .i64 k0, .string ⟨x0.toArray⟩, .slice a0 m0 n0, .int .i64 l0])) (hK : KW W) => HCall.out t' F W _ hW hK (by have := HD.out; omega) (by have := HSZ.out; omega) h5)
      have hlti : (q : Int) < (ks.length : Int) := by omega
      clear h3 h4 h5 hT ht'
      cases hone : stOK t' with
      | false =>
        have HQ := Lib.hid (HZN.out hone)
        have HC2 := Lib.hid (fun W hW hK => show Calls Tryd.prog 28 _ W fun e w' => e = .returned (.bool false) ∧ Below W.heap.size W w' by rw [← hone]; exact HCC.out W hW hK)
        clear hone
        go_wp2_with (first | (go_at_call 28; (with_reducible refine (HC2.out _ (HT.out.step (bel_new _ _)) ((HW.out.step HB.out).step (bel_new _ _))).mono ?_); rintro e w1 ⟨rfl, hb1⟩; have HB1 := Lib.hid hb1; clear hb1))
        go_ret
        exact ⟨by rw [← HRA.out, HQ.out] <;> rfl, (HB.out.trans ((bel_new wr _).mono HB.out.size)).trans (HB1.out.mono (by have := HB.out.size; simp; omega))⟩
      | true =>
        have HZ2 := Lib.hid (HZ.out.trans (by rw [HALL.out, hone] <;> rfl))
        have HC2 := Lib.hid (fun W hW hK => show Calls Tryd.prog 28 _ W fun e w' => e = .returned (.bool true) ∧ Below W.heap.size W w' by rw [← hone]; exact HCC.out W hW hK)
        clear hone
        go_wp2_with (first | (go_at_call 28; (with_reducible refine (HC2.out _ (HT.out.step (bel_new _ _)) ((HW.out.step HB.out).step (bel_new _ _))).mono ?_); rintro e w1 ⟨rfl, hb1⟩; have HB1 := Lib.hid hb1; clear hb1))
        go_roundw
        case rel => exact ⟨q + 1, by go_num, by omega, HZ2.out, (HB.out.trans ((bel_new wr _).mono HB.out.size)).trans (HB1.out.mono (by have := HB.out.size; simp; omega)), keep_blk HB1.out (new_blk HX.out)⟩
        case measure => simp [intOf]; omega
    · have hq2 : q = ks.length := by omega
      subst hq2
      have HQ := Lib.hid (by have := HALL.out; rwa [List.take_length] at this : stsOK ks = true)
      go_wp2_with fail
      go_ret
      exact ⟨by rw [← HRA.out, HQ.out] <;> rfl, HB.out⟩
end Go.Proofs.YtogkiifljdnjgaaDoor
