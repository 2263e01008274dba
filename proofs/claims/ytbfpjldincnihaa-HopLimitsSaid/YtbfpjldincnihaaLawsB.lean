/- The walk of the law HopBack: it returns true. No condition. -/
import Derived.Test.YtbfpjldincnihaaLawsA
import Derived.Test.YtbfpjldincnihaaHopDecA
namespace Go.Proofs.Ytbfpjldincnihaa
open Go.RowKit
set_option linter.unusedVariables false
set_option linter.unusedSimpArgs false

theorem encM_len {m : Msg} : (encM m).length ≤ 200000 := by
  by_cases h : codeM m = 0
  · obtain ⟨he, _, _, hp⟩ := enc_of h
    have h1 := numB_len m.id.toNat
    have h2 := numB_len (payM m (usesF m.kind)).length
    rw [he, encP_len]
    omega
  · unfold encM; rw [if_neg h]; simp
/-- What Decode returns of bytes that are a message's. -/
theorem hdec_some {b : List UInt8} {m : Msg} (hd : hdecP b = some m) (v : Value) (w : World) (h : IsB w v b) (hl : b.length ≤ 1000000) :
    Calls Try.prog 20 #[v] w fun e w' => ∃ la lc da dc, e = .returned (.tuple #[m.val (.slice la m.lst.length lc) (.slice da m.dat.length dc), .nilIface]) ∧ IsT w' (.slice la m.lst.length lc) m.lst ∧ IsB w' (.slice da m.dat.length dc) m.dat ∧ Below w.heap.size w w' := by
  have := hdec_any v b w h hl
  unfold HDecPost at this
  rw [hd] at this
  exact this
theorem hdec_none {b : List UInt8} (hd : hdecP b = none) (v : Value) (w : World) (h : IsB w v b) (hl : b.length ≤ 1000000) :
    Calls Try.prog 20 #[v] w fun e w' => e = .returned (.tuple #[zeroMsg, .iface 43 (.int .i64 2)]) ∧ Below w.heap.size w w' := by
  have := hdec_any v b w h hl
  unfold HDecPost at this
  rw [hd] at this
  exact this

set_option maxRecDepth 100000 in
set_option maxHeartbeats 8000000 in
theorem hopBack_walk (m : Msg) (la da : Option Addr) (lc dc : Nat) (w : World) (hT : IsT w (.slice la m.lst.length lc) m.lst) (hD : IsB w (.slice da m.dat.length dc) m.dat) :
    Calls Try.prog 4 #[m.val (.slice la m.lst.length lc) (.slice da m.dat.length dc)] w fun e w' => e = .returned (.bool true) ∧ Below w.heap.size w w' := by
  have HT := Lib.hid hT
  have HD := Lib.hid hD
  have HLG := Lib.hid (fun W h => lawlarge_all m la da lc dc W h)
  have HEN := Lib.hid (fun W h1 h2 => henc_any m la da lc dc W h1 h2)
  unfold EncPost at HEN
  have HB0 := Lib.hid (bel_new w (.cells #[.int .i64 m.kind, .int .i64 m.id, .int .i64 m.num, .int .i64 m.tot, .int .i64 m.off, .string ⟨m.txt.toArray⟩, .slice la m.lst.length lc, .slice da m.dat.length dc] 25))
  have hm0 := MCells.box w m.kind m.id m.num m.tot m.off m.txt (.slice la m.lst.length lc) (.slice da m.dat.length dc)
  have HM0 := Lib.hid hm0
  obtain ⟨c0, c1, c2, c3, c4, c5, c6, c7⟩ := hm0
  have HBK := Lib.hid (fun h v W hI => hdec_some (hdec_back (m := m) h) v W hI (Nat.le_trans encM_len (by decide)))
  have HSM := Lib.hid (fun (la2 da2 : Option Addr) (lc2 dc2 : Nat) W h1 h2 h3 h4 hl => rsame_any m m la2 da2 la da lc2 dc2 lc dc W h1 h2 h3 h4 hl)
  unfold Msg.val at *
  clear hT hD
  go_enter Try.func4, Try.ntmps4
  go_upto_region 1 with fail
  generalize w.alloc (.cells #[.int .i64 m.kind, .int .i64 m.id, .int .i64 m.num, .int .i64 m.tot, .int .i64 m.off, .string ⟨m.txt.toArray⟩, .slice la m.lst.length lc, .slice da m.dat.length dc] 25) = W1 at *
  go_upto_region 3 with (first | (go_at_call 12; refine (HLG.out _ (HT.out.step HB0.out)).mono ?_; rintro r W2 ⟨b, rfl, hb, hb2⟩; cases b) | (go_at_call 13; refine (awake_any _).mono ?_; rintro r W3 ⟨rfl, hb3⟩))
  rotate_left
  · go_ret
    exact ⟨rfl, bel_step (bel_step HB0.out hb2) hb3⟩
  · have hb9 := hb trivial
    have HL := Lib.hid hb9.1
    have HB3 := Lib.hid (bel_step (bel_step HB0.out hb2) hb3)
    have HM3 := Lib.hid ((HM0.out.step hb2).step hb3)
    obtain ⟨d0, d1, d2, d3, d4, d5, d6, d7⟩ := HM3.out
    clear hb hb9 hb2 hb3 c0 c1 c2 c3 c4 c5 c6 c7 HM0 HB0 HLG
    go_upto_region 4 with (go_at_call 14; refine (HEN.out _ (HT.out.step HB3.out) (HD.out.step HB3.out)).mono ?_; rintro r W4 ⟨u, rfl, hu, hb4⟩; obtain ⟨au, cu, rfl, _, _, _⟩ := hu.isB.shape; have HU := Lib.hid hu.isB; clear hu)
    have HB4 := Lib.hid (bel_step HB3.out hb4)
    have HM4 := Lib.hid (HM3.out.step hb4)
    obtain ⟨e0, e1, e2, e3, e4, e5, e6, e7⟩ := HM4.out
    clear hb4 d0 d1 d2 d3 d4 d5 d6 d7 HM3 HB3 HEN
    by_cases hc : codeM m = 0
    · have HBK2 := Lib.hid (fun v W hI => HBK.out hc v W hI)
      rw [hc, show errV 0 = .nilIface from rfl]
      clear hc HBK
      go_upto_region 7 with (go_at_call 20; (refine (HBK2.out _ _ HU.out).mono ?_); rintro r W5 ⟨la2, lc2, da2, dc2, rfl, ht5, hd5, hb5⟩; have HT5 := Lib.hid ht5; have HD5 := Lib.hid hd5; clear ht5 hd5)
      have hn := bel_new W5 (.cells #[.int .i64 m.kind, .int .i64 m.id, .int .i64 m.num, .int .i64 m.tot, .int .i64 m.off, .string ⟨m.txt.toArray⟩, .slice la2 m.lst.length lc2, .slice da2 m.dat.length dc2] 25)
      have HB6 := Lib.hid (bel_step (bel_step HB4.out hb5) hn)
      have HM6 := Lib.hid ((HM4.out.step hb5).step hn)
      obtain ⟨d0, d1, d2, d3, d4, d5, d6, d7⟩ := HM6.out
      have HT6 := Lib.hid (HT5.out.step hn)
      have HD6 := Lib.hid (HD5.out.step hn)
      clear hn hb5 e0 e1 e2 e3 e4 e5 e6 e7 HB4 HM4
      go_wp2_with (go_at_call 21; (refine (HSM.out _ _ _ _ _ HT6.out HD6.out (HT.out.step HB6.out) (HD.out.step HB6.out) (by have := HL.out; omega)).mono ?_); rintro r W8 ⟨b, rfl, hb, hb8⟩; obtain rfl := hb.2 trivial; clear hb)
      go_ret
      exact ⟨rfl, bel_step HB6.out hb8⟩
    · have hv : errV (codeM m) = .iface 43 (.int .i64 (codeM m)) := by unfold errV; rw [if_neg hc]
      rw [hv]
      generalize codeM m = c at *
      go_wp2_with fail
      go_ret
      exact ⟨rfl, HB4.out⟩
end Go.Proofs.Ytbfpjldincnihaa
