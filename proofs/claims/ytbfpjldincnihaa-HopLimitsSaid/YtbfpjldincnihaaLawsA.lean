/- The walks of the laws HopEncodes and HopBack: they return true. No condition. -/
import Derived.Test.YtbfpjldincnihaaHopLaw
import Derived.Test.YtbfpjldincnihaaOpenM
import Derived.Test.YtbfpjldincnihaaSameR
import Derived.Test.YtbfpjldincnihaaAwake
namespace Go.Proofs.Ytbfpjldincnihaa
open Go.RowKit
set_option linter.unusedVariables false
set_option linter.unusedSimpArgs false

theorem flat_lenT (ts : List (List UInt8)) (h : ∀ s ∈ ts, s.length ≤ 4611686018427387904) : (ts.flatMap textB).length ≤ 10 * ts.length + lenT ts := by
  induction ts with
  | nil => simp [lenT]
  | cons s r ih =>
    have := ih (fun x hx => h x (by simp [hx]))
    have hn := numB_len s.length
    rw [List.flatMap_cons, List.length_append, List.length_cons]
    unfold lenT at *
    rw [List.map_cons, List.sum_cons]
    rw [show textB s = numB s.length ++ s from rfl, List.length_append]
    omega
theorem code_same {m : Msg} (h : largeM m = true ∨ bigM m = false) : codeM m = codeR m := by
  unfold codeM codeR
  split
  · rfl
  · split
    · rfl
    · split
      · rfl
      · rename_i h1 h2 h3
        have hl : largeM m = false := by simpa using h3
        have hb : bigM m = false := by
          rcases h with h | h
          · exact absurd h h3
          · exact h
        have : (payM m (usesF m.kind)).length ≤ 131072 := by
          simp only [bigM, Bool.or_eq_false_iff, decide_eq_false_iff_not] at hb
          have e1 := numB_len (clampN m.num)
          have e2 := numB_len (clampN m.tot)
          have e3 := numB_len (clampN m.off)
          have e4 := numB_len m.txt.length
          have e5 := numB_len m.dat.length
          have e6 := numB_len m.lst.length
          have e7 := flat_lenT m.lst (fun s hs => by
            simp only [largeM, Bool.or_eq_false_iff, decide_eq_false_iff_not, List.any_eq_false, longT, decide_eq_true_eq] at hl
            have := hl.2 s hs
            omega)
          have q : ∀ (b : Bool) (l : List UInt8), (if b then l else []).length ≤ l.length := by intro b l; cases b <;> simp
          have q1 := q (usesF m.kind).num (numI m.num)
          have q2 := q (usesF m.kind).tot (numI m.tot)
          have q3 := q (usesF m.kind).off (numI m.off)
          have q4 := q (usesF m.kind).txt (textB m.txt)
          have q5 := q (usesF m.kind).lst (textsB m.lst)
          have q6 := q (usesF m.kind).dat (textB m.dat)
          have t4 : (textB m.txt).length = (numB m.txt.length).length + m.txt.length := by unfold textB; rw [List.length_append]
          have t6 : (textB m.dat).length = (numB m.dat.length).length + m.dat.length := by unfold textB; rw [List.length_append]
          have t5 : (textsB m.lst).length = (numB m.lst.length).length + (m.lst.flatMap textB).length := by unfold textsB; rw [List.length_append]
          unfold payM
          simp only [List.length_append]
          unfold numI at *
          omega
        rw [if_neg (by omega)]

set_option maxRecDepth 100000 in
set_option maxHeartbeats 8000000 in
theorem hopEncodes_walk (m : Msg) (la da : Option Addr) (lc dc : Nat) (w : World) (hT : IsT w (.slice la m.lst.length lc) m.lst) (hD : IsB w (.slice da m.dat.length dc) m.dat) :
    Calls Try.prog 3 #[m.val (.slice la m.lst.length lc) (.slice da m.dat.length dc)] w fun e w' => e = .returned (.bool true) ∧ Below w.heap.size w w' := by
  have HT := Lib.hid hT
  have HD := Lib.hid hD
  have HLG := Lib.hid (fun W h => lawlarge_all m la da lc dc W h)
  have HEN := Lib.hid (fun W h1 h2 => henc_any m la da lc dc W h1 h2)
  have HCO := Lib.hid (fun W h1 => code_any m la da lc dc W h1)
  have HPA := Lib.hid (fun W h1 h2 hS hR hl => refpay_any m la da lc dc W h1 h2 hS hR hl)
  have HCS := Lib.hid (fun h => code_same (m := m) h)
  have HOK := Lib.hid (fun h => codeM_ok (m := m) h)
  have HEO := Lib.hid (fun h => enc_of (m := m) h)
  have HEE := Lib.hid (show encM m = if codeM m = 0 then _ else [] from rfl)
  unfold EncPost at HEN
  have HB0 := Lib.hid (bel_new w (.cells #[.int .i64 m.kind, .int .i64 m.id, .int .i64 m.num, .int .i64 m.tot, .int .i64 m.off, .string ⟨m.txt.toArray⟩, .slice la m.lst.length lc, .slice da m.dat.length dc] 25))
  have hm0 := MCells.box w m.kind m.id m.num m.tot m.off m.txt (.slice la m.lst.length lc) (.slice da m.dat.length dc)
  have HM0 := Lib.hid hm0
  obtain ⟨c0, c1, c2, c3, c4, c5, c6, c7⟩ := hm0
  unfold Msg.val at *
  clear hT hD
  go_enter Try.func3, Try.ntmps3
  go_upto_region 1 with fail
  generalize w.alloc (.cells #[.int .i64 m.kind, .int .i64 m.id, .int .i64 m.num, .int .i64 m.tot, .int .i64 m.off, .string ⟨m.txt.toArray⟩, .slice la m.lst.length lc, .slice da m.dat.length dc] 25) = W1 at *
  go_upto_region 3 with (first | (go_at_call 12; refine (HLG.out _ (HT.out.step HB0.out)).mono ?_; rintro r W2 ⟨b, rfl, hb, hb2⟩; cases b) | (go_at_call 13; refine (awake_any _).mono ?_; rintro r W3 ⟨rfl, hb3⟩))
  rotate_left
  · go_ret
    exact ⟨rfl, bel_step (bel_step HB0.out hb2) hb3⟩
  · have hb9 := hb trivial
    have HL := Lib.hid hb9.1
    have HCC := Lib.hid (HCS.out hb9.2)
    have HB3 := Lib.hid (bel_step (bel_step HB0.out hb2) hb3)
    have HM3 := Lib.hid ((HM0.out.step hb2).step hb3)
    obtain ⟨d0, d1, d2, d3, d4, d5, d6, d7⟩ := HM3.out
    clear hb hb9 hb2 hb3 c0 c1 c2 c3 c4 c5 c6 c7 HM0 HB0 HLG HCS
    go_upto_region 4 with (go_at_call 14; refine (HEN.out _ (HT.out.step HB3.out) (HD.out.step HB3.out)).mono ?_; rintro r W4 ⟨u, rfl, hu, hb4⟩; obtain ⟨au, cu, rfl, _, _, _⟩ := hu.isB.shape; have HU := Lib.hid hu; clear hu)
    have HB4 := Lib.hid (bel_step HB3.out hb4)
    have HM4 := Lib.hid (HM3.out.step hb4)
    obtain ⟨e0, e1, e2, e3, e4, e5, e6, e7⟩ := HM4.out
    clear hb4 d0 d1 d2 d3 d4 d5 d6 d7 HM3 HB3 HEN
    go_upto_region 5 with (go_at_call 15; refine (HCO.out _ (HT.out.step HB4.out)).mono ?_; rintro r W5 ⟨rfl, hb5⟩)
    have HB5 := Lib.hid (bel_step HB4.out hb5)
    have HM5 := Lib.hid (HM4.out.step hb5)
    obtain ⟨d0, d1, d2, d3, d4, d5, d6, d7⟩ := HM5.out
    replace HU := Lib.hid (HU.out.isB.step hb5)
    clear hb5 e0 e1 e2 e3 e4 e5 e6 e7 HM4 HB4 HCO
    rw [← HCC.out]
    by_cases hc : codeM m = 0
    · obtain ⟨hk, hr, hg, hl, hp⟩ := HOK.out hc
      obtain ⟨he, ge1, ge2, ge3⟩ := HEO.out hc
      rw [hc, show errV 0 = .nilIface from rfl]
      have HP := Lib.hid (fun W h1 h2 => HPA.out W h1 h2 (small_of hl) hg (by simp only [largeM, Bool.or_eq_false_iff] at hl; exact hl.2))
      have HEN2 := Lib.hid (fun (v : Value) (W : World) (h : IsB W v (payM m (usesF m.kind))) => (show Calls Try.prog 17 #[.agg #[.int .i64 m.kind, .int .i64 m.id, v]] W fun e w' => ∃ x, e = .returned (.tuple #[x, .nilIface]) ∧ OwnB w' W.heap.size x (encM m) ∧ Below W.heap.size W w' from by
        have h9 := enc_ok m.kind.toNat m.id.toNat v (payM m (usesF m.kind)) W (by omega) (by omega) h ge3
        have hk2 : 1 ≤ m.kind ∧ m.kind ≤ 12 := by simpa [okK] using hk
        rw [show ((m.kind.toNat : Nat) : Int) = m.kind by omega, show ((m.id.toNat : Nat) : Int) = m.id by have := hg.1.1; omega, ← he] at h9
        exact h9))
      clear hc hk hr hg hl hp he ge1 ge2 ge3 HPA HOK HEO HEE
      go_upto_region 7 with fail
      go_cut [6, 7] (fun x y wx => IsB wx x (encM m) ∧ y = .nilIface ∧ Below W5.heap.size W5 wx)
      case first =>
        have HBC := Lib.hid (Below.refl W5.heap.size W5)
        go_region_held3 (fun w' => w'.cell? ⟨w.heap.size, 0, none⟩ = some (.int .i64 m.kind) ∧ w'.cell? ⟨w.heap.size, 1, none⟩ = some (.int .i64 m.id) ∧ w'.cell? ⟨w.heap.size, 2, none⟩ = some (.int .i64 m.num) ∧ w'.cell? ⟨w.heap.size, 3, none⟩ = some (.int .i64 m.tot) ∧ w'.cell? ⟨w.heap.size, 4, none⟩ = some (.int .i64 m.off) ∧ w'.cell? ⟨w.heap.size, 5, none⟩ = some (.string ⟨m.txt.toArray⟩) ∧ w'.cell? ⟨w.heap.size, 6, none⟩ = some (.slice la m.lst.length lc) ∧ w'.cell? ⟨w.heap.size, 7, none⟩ = some (.slice da m.dat.length dc))
          ((go_split_ands; refine ⟨?_, ?_, ?_, ?_, ?_, ?_, ?_, ?_⟩ <;> (repeat (with_reducible (first | assumption | refine keep_drew ?_ | refine keep_at hb6 ?_ | refine keep_at hb7 ?_)))))
          (first | (go_at_call 18; (refine (HP.out _ (HT.out.step (bel_drew HB5.out)) (HD.out.step (bel_drew HB5.out))).mono ?_); rintro r W6 ⟨v6, rfl, h6, hb6⟩; have H6 := Lib.hid h6.isB; obtain ⟨a6, c6, rfl, _, _, _⟩ := h6.isB.shape; clear h6) | (go_at_call 17; (refine (HEN2.out _ _ H6.out).mono ?_); rintro r W7 ⟨v7, rfl, h7, hb7⟩; have H7 := Lib.hid h7.isB; clear h7))
        go_wp2_with fail
        go_meet
        exact ⟨H7.out, rfl, bel_step (undrew hb6) hb7⟩
      case rest =>
        obtain ⟨hx, rfl, hbx⟩ := hcut
        have HX := Lib.hid hx
        obtain ⟨ax, cx, rfl, _, _, _⟩ := hx.shape
        have HU2 := Lib.hid (HU.out.step hbx)
        have HB6 := Lib.hid (bel_step HB5.out hbx)
        clear hx hbx
        go_wp2_with (go_at_call 19; refine (bytes_any _ _ _ _ _ HU2.out HX.out).mono ?_; rintro r W8 ⟨rfl, rfl⟩)
        go_ret
        exact ⟨ret_bool (by simp), HB6.out⟩
    · have he : encM m = [] := by rw [HEE.out, if_neg hc]
      have hv : errV (codeM m) = .iface 43 (.int .i64 (codeM m)) := by unfold errV; rw [if_neg hc]
      rw [hv, he]
      generalize codeM m = c at *
      go_wp2_with (go_at_call 16; refine (num_err _ _).mono ?_; rintro r W6 ⟨rfl, rfl⟩)
      go_ret
      exact ⟨ret_bool (by simp), HB5.out⟩
end Go.Proofs.Ytbfpjldincnihaa
