/- The walks of the laws HopDecodes and HopRecords: they return true. No condition. -/
import Derived.Test.YtbfpjldincnihaaLawsB
namespace Go.Proofs.Ytbfpjldincnihaa
open Go.RowKit
set_option linter.unusedVariables false
set_option linter.unusedSimpArgs false

theorem codeR_zero {m : Msg} (h : codeM m = 0) : codeR m = 0 := by
  obtain ⟨hk, hr, hg, hl, hp⟩ := codeM_ok h
  exact codeR_ok hk hr hg (by rw [hl]; simp)
/-- The zero message is empty. -/
theorem empty_zero (W : World) : Calls Try.prog 22 #[.agg #[.int .i64 0, .int .i64 0, .int .i64 0, .int .i64 0, .int .i64 0, .string ⟨#[]⟩, .slice none 0 0, .slice none 0 0]] W fun e w' => e = .returned (.bool true) ∧ Below W.heap.size W w' := by
  refine (empty_any zeroM none none 0 0 W (nil_T W) ((OwnB.nil W 0).isB) (by decide)).mono ?_
  rintro e w' ⟨b, rfl, hb, hB⟩
  exact ⟨ret_bool (hb.2 rfl), hB⟩

set_option maxRecDepth 100000 in
set_option maxHeartbeats 8000000 in
theorem hopDecodes_walk (v : Value) (l : List UInt8) (w : World) (h : IsB w v l) : Calls Try.prog 5 #[v] w fun e w' => e = .returned (.bool true) ∧ Below w.heap.size w w' := by
  obtain ⟨ab, cb, rfl, _, _, _⟩ := h.shape
  have H := Lib.hid h
  clear h
  go_enter Try.func5, Try.ntmps5
  by_cases hbig : 20000 < l.length
  · have hb1 : (20000 : Int) < (l.length : Int) := by omega
    go_wp2_with (go_at_call 13; refine (awake_any _).mono ?_; rintro r W3 ⟨rfl, hb3⟩)
    go_ret
    exact ⟨rfl, hb3⟩
  · have hb1 : ¬ (20000 : Int) < (l.length : Int) := by omega
    have hl9 : l.length ≤ 1000000 := by omega
    go_upto_region 3 with (go_at_call 13; refine (awake_any _).mono ?_; rintro r W3 ⟨rfl, hb3⟩)
    have HB3 := Lib.hid hb3
    clear hb3 hbig
    cases hd : hdecP l with
    | none =>
      have HDN := Lib.hid (fun v W hI => hdec_none hd v W hI hl9)
      clear hd
      unfold zeroMsg at HDN
      go_upto_region 4 with (go_at_call 20; (refine (HDN.out _ _ (H.out.step HB3.out)).mono ?_); rintro r W5 ⟨rfl, hb5⟩)
      have hn := bel_new W5 (.cells #[.int .i64 0, .int .i64 0, .int .i64 0, .int .i64 0, .int .i64 0, .string ⟨#[]⟩, .slice none 0 0, .slice none 0 0] 25)
      have HB6 := Lib.hid (bel_step (bel_step HB3.out hb5) hn)
      obtain ⟨d0, d1, d2, d3, d4, d5, d6, d7⟩ := MCells.box W5 0 0 0 0 0 [] (.slice none 0 0) (.slice none 0 0)
      clear hn hb5
      go_wp2_with (first | (go_at_call 22; (refine (empty_zero _).mono ?_); rintro r W6 ⟨rfl, hb6⟩) | (go_at_call 23; (refine (is_yes 2 (by decide) _).mono ?_); rintro r W7 ⟨rfl, rfl⟩))
      go_ret
      exact ⟨rfl, bel_step HB6.out hb6⟩
    | some m =>
      obtain ⟨hc, he, hll⟩ := hdec_enc hd
      have HDS := Lib.hid (fun v W hI => hdec_some hd v W hI hl9)
      have HEN := Lib.hid (fun (la da : Option Addr) (lc dc : Nat) W h1 h2 => henc_any m la da lc dc W h1 h2)
      have HCO := Lib.hid (fun (la da : Option Addr) (lc dc : Nat) W h1 => code_any m la da lc dc W h1)
      unfold EncPost at HEN
      rw [hc, he, show errV 0 = .nilIface from rfl] at HEN
      rw [codeR_zero hc] at HCO
      unfold Msg.val at *
      clear hd hc he
      go_upto_region 4 with (go_at_call 20; (refine (HDS.out _ _ (H.out.step HB3.out)).mono ?_); rintro r W5 ⟨la, lc, da, dc, rfl, ht5, hd5, hb5⟩; have HT5 := Lib.hid ht5; have HD5 := Lib.hid hd5; clear ht5 hd5)
      have hn := bel_new W5 (.cells #[.int .i64 m.kind, .int .i64 m.id, .int .i64 m.num, .int .i64 m.tot, .int .i64 m.off, .string ⟨m.txt.toArray⟩, .slice la m.lst.length lc, .slice da m.dat.length dc] 25)
      have HB6 := Lib.hid (bel_step (bel_step HB3.out hb5) hn)
      have HM6 := Lib.hid (MCells.box W5 m.kind m.id m.num m.tot m.off m.txt (.slice la m.lst.length lc) (.slice da m.dat.length dc))
      obtain ⟨d0, d1, d2, d3, d4, d5, d6, d7⟩ := HM6.out
      have HT6 := Lib.hid (HT5.out.step hn)
      have HD6 := Lib.hid (HD5.out.step hn)
      clear hn hb5
      go_upto_region 7 with (go_at_call 14; (refine (HEN.out _ _ _ _ _ HT6.out HD6.out).mono ?_); rintro r W7 ⟨u, rfl, hu, hb7⟩; have HU := Lib.hid hu.isB; obtain ⟨au, cu, rfl, _, _, _⟩ := hu.isB.shape; clear hu)
      have HB7 := Lib.hid (bel_step HB6.out hb7)
      have HM7 := Lib.hid (HM6.out.step hb7)
      have HT7 := Lib.hid (HT6.out.step hb7)
      clear d0 d1 d2 d3 d4 d5 d6 d7
      obtain ⟨d0, d1, d2, d3, d4, d5, d6, d7⟩ := HM7.out
      go_wp2_with (first | (go_at_call 15; (refine (HCO.out _ _ _ _ _ HT7.out).mono ?_); rintro r W8 ⟨rfl, hb8⟩) | (go_at_call 19; (refine (bytes_any _ _ _ _ _ (HU.out.step hb8) (H.out.step (bel_step HB7.out hb8))).mono ?_); rintro r W9 ⟨rfl, rfl⟩))
      go_ret
      exact ⟨ret_bool (by simp), bel_step HB7.out hb8⟩
end Go.Proofs.Ytbfpjldincnihaa
