/- The walk of the law HopSame: it returns true. No condition. -/
import Derived.Test.YtbfpjldincnihaaLawsC
namespace Go.Proofs.Ytbfpjldincnihaa
open Go.RowKit
set_option linter.unusedVariables false
set_option linter.unusedSimpArgs false

theorem rsame_yes (m : Msg) (la da la2 da2 : Option Addr) (lc dc lc2 dc2 : Nat) (w : World) (hT : IsT w (.slice la m.lst.length lc) m.lst) (hD : IsB w (.slice da m.dat.length dc) m.dat)
    (hT2 : IsT w (.slice la2 m.lst.length lc2) m.lst) (hD2 : IsB w (.slice da2 m.dat.length dc2) m.dat) (hl : m.lst.length ≤ 1000000) :
    Calls Try.prog 21 #[m.val (.slice la m.lst.length lc) (.slice da m.dat.length dc), m.val (.slice la2 m.lst.length lc2) (.slice da2 m.dat.length dc2)] w fun e w' => e = .returned (.bool true) ∧ Below w.heap.size w w' := by
  refine (rsame_any m m la da la2 da2 lc dc lc2 dc2 w hT hD hT2 hD2 hl).mono ?_
  rintro e w' ⟨b, rfl, hb, hB⟩
  exact ⟨ret_bool (hb.2 rfl), hB⟩
theorem rsame_no (m n : Msg) (hmn : m ≠ n) (la da la2 da2 : Option Addr) (lc dc lc2 dc2 : Nat) (w : World) (hT : IsT w (.slice la m.lst.length lc) m.lst) (hD : IsB w (.slice da m.dat.length dc) m.dat)
    (hT2 : IsT w (.slice la2 n.lst.length lc2) n.lst) (hD2 : IsB w (.slice da2 n.dat.length dc2) n.dat) (hl : m.lst.length ≤ 1000000) :
    Calls Try.prog 21 #[m.val (.slice la m.lst.length lc) (.slice da m.dat.length dc), n.val (.slice la2 n.lst.length lc2) (.slice da2 n.dat.length dc2)] w fun e w' => e = .returned (.bool false) ∧ Below w.heap.size w w' := by
  refine (rsame_any m n la da la2 da2 lc dc lc2 dc2 w hT hD hT2 hD2 hl).mono ?_
  rintro e w' ⟨b, rfl, hb, hB⟩
  refine ⟨ret_bool ?_, hB⟩
  cases b with
  | false => rfl
  | true => exact absurd (hb.1 rfl) hmn
theorem hsame_yes (m : Msg) (la da la2 da2 : Option Addr) (lc dc lc2 dc2 : Nat) (w : World) (hT : IsT w (.slice la m.lst.length lc) m.lst) (hD : IsB w (.slice da m.dat.length dc) m.dat)
    (hT2 : IsT w (.slice la2 m.lst.length lc2) m.lst) (hD2 : IsB w (.slice da2 m.dat.length dc2) m.dat) (hl : m.lst.length ≤ 1000000) :
    Calls Try.prog 26 #[m.val (.slice la m.lst.length lc) (.slice da m.dat.length dc), m.val (.slice la2 m.lst.length lc2) (.slice da2 m.dat.length dc2)] w fun e w' => e = .returned (.bool true) ∧ Below w.heap.size w w' := by
  refine (hsame_any m m la da la2 da2 lc dc lc2 dc2 w hT hD hT2 hD2 hl).mono ?_
  rintro e w' ⟨b, rfl, hb, hB⟩
  exact ⟨ret_bool (hb.2 rfl), hB⟩
theorem hsame_no (m n : Msg) (hmn : m ≠ n) (la da la2 da2 : Option Addr) (lc dc lc2 dc2 : Nat) (w : World) (hT : IsT w (.slice la m.lst.length lc) m.lst) (hD : IsB w (.slice da m.dat.length dc) m.dat)
    (hT2 : IsT w (.slice la2 n.lst.length lc2) n.lst) (hD2 : IsB w (.slice da2 n.dat.length dc2) n.dat) (hl : m.lst.length ≤ 1000000) :
    Calls Try.prog 26 #[m.val (.slice la m.lst.length lc) (.slice da m.dat.length dc), n.val (.slice la2 n.lst.length lc2) (.slice da2 n.dat.length dc2)] w fun e w' => e = .returned (.bool false) ∧ Below w.heap.size w w' := by
  refine (hsame_any m n la da la2 da2 lc dc lc2 dc2 w hT hD hT2 hD2 hl).mono ?_
  rintro e w' ⟨b, rfl, hb, hB⟩
  refine ⟨ret_bool ?_, hB⟩
  cases b with
  | false => rfl
  | true => exact absurd (hb.1 rfl) hmn

set_option maxRecDepth 100000 in
set_option maxHeartbeats 4000000 in
theorem hopSame_yes (m : Msg) (la da la2 da2 : Option Addr) (lc dc lc2 dc2 : Nat) (w : World) (hT : IsT w (.slice la m.lst.length lc) m.lst) (hD : IsB w (.slice da m.dat.length dc) m.dat)
    (hT2 : IsT w (.slice la2 m.lst.length lc2) m.lst) (hD2 : IsB w (.slice da2 m.dat.length dc2) m.dat) :
    Calls Try.prog 11 #[m.val (.slice la m.lst.length lc) (.slice da m.dat.length dc), m.val (.slice la2 m.lst.length lc2) (.slice da2 m.dat.length dc2)] w fun e w' => e = .returned (.bool true) ∧ Below w.heap.size w w' := by
  have HT := Lib.hid hT
  have HD := Lib.hid hD
  have HT2 := Lib.hid hT2
  have HD2 := Lib.hid hD2
  have HLGa := Lib.hid (fun W h => lawlarge_all m la da lc dc W h)
  have HLGb := Lib.hid (fun W h => lawlarge_all m la2 da2 lc2 dc2 W h)
  have HENa := Lib.hid (fun W h1 h2 => henc_any m la da lc dc W h1 h2)
  have HENb := Lib.hid (fun W h1 h2 => henc_any m la2 da2 lc2 dc2 W h1 h2)
  unfold EncPost at HENa HENb
  have HR := Lib.hid (fun W h1 h2 h3 h4 hl => rsame_yes m la da la2 da2 lc dc lc2 dc2 W h1 h2 h3 h4 hl)
  have HH := Lib.hid (fun W h1 h2 h3 h4 hl => hsame_yes m la da la2 da2 lc dc lc2 dc2 W h1 h2 h3 h4 hl)
  have HHa := Lib.hid (fun W h1 h2 h3 h4 hl => hsame_yes m la da la da lc dc lc dc W h1 h2 h3 h4 hl)
  have HB0 := Lib.hid (bel_alloc (x := (.cells #[.int .i64 m.kind, .int .i64 m.id, .int .i64 m.num, .int .i64 m.tot, .int .i64 m.off, .string ⟨m.txt.toArray⟩, .slice la2 m.lst.length lc2, .slice da2 m.dat.length dc2] 25)) (bel_new w (.cells #[.int .i64 m.kind, .int .i64 m.id, .int .i64 m.num, .int .i64 m.tot, .int .i64 m.off, .string ⟨m.txt.toArray⟩, .slice la m.lst.length lc, .slice da m.dat.length dc] 25)))
  have hb1 := bel_new (w.alloc (.cells #[.int .i64 m.kind, .int .i64 m.id, .int .i64 m.num, .int .i64 m.tot, .int .i64 m.off, .string ⟨m.txt.toArray⟩, .slice la m.lst.length lc, .slice da m.dat.length dc] 25)) (.cells #[.int .i64 m.kind, .int .i64 m.id, .int .i64 m.num, .int .i64 m.tot, .int .i64 m.off, .string ⟨m.txt.toArray⟩, .slice la2 m.lst.length lc2, .slice da2 m.dat.length dc2] 25)
  have hm0 := (MCells.box w m.kind m.id m.num m.tot m.off m.txt (.slice la m.lst.length lc) (.slice da m.dat.length dc)).step hb1
  have hm1 := MCells.box (w.alloc (.cells #[.int .i64 m.kind, .int .i64 m.id, .int .i64 m.num, .int .i64 m.tot, .int .i64 m.off, .string ⟨m.txt.toArray⟩, .slice la m.lst.length lc, .slice da m.dat.length dc] 25)) m.kind m.id m.num m.tot m.off m.txt (.slice la2 m.lst.length lc2) (.slice da2 m.dat.length dc2)
  clear hb1
  rw [show (w.alloc (.cells #[.int .i64 m.kind, .int .i64 m.id, .int .i64 m.num, .int .i64 m.tot, .int .i64 m.off, .string ⟨m.txt.toArray⟩, .slice la m.lst.length lc, .slice da m.dat.length dc] 25)).heap.size = w.heap.size + 1 by simp [go_sem]] at hm1
  have HM0 := Lib.hid hm0
  have HM1 := Lib.hid hm1
  obtain ⟨c0, c1, c2, c3, c4, c5, c6, c7⟩ := hm0
  obtain ⟨d0, d1, d2, d3, d4, d5, d6, d7⟩ := hm1
  unfold Msg.val at *
  clear hT hD hT2 hD2
  go_enter Try.func11, Try.ntmps11
  go_upto_region 1 with fail
  generalize (w.alloc (.cells #[.int .i64 m.kind, .int .i64 m.id, .int .i64 m.num, .int .i64 m.tot, .int .i64 m.off, .string ⟨m.txt.toArray⟩, .slice la m.lst.length lc, .slice da m.dat.length dc] 25)).alloc (.cells #[.int .i64 m.kind, .int .i64 m.id, .int .i64 m.num, .int .i64 m.tot, .int .i64 m.off, .string ⟨m.txt.toArray⟩, .slice la2 m.lst.length lc2, .slice da2 m.dat.length dc2] 25) = W1 at *
  go_upto_region 3 with (first | (go_at_call 12; (first | ((with_reducible refine (HLGa.out _ (HT.out.step HB0.out)).mono ?_); rintro r W2 ⟨b, rfl, hba, hb2⟩; replace HM0 := Lib.hid (HM0.out.step hb2); replace HM1 := Lib.hid (HM1.out.step hb2); obtain ⟨c0, c1, c2, c3, c4, c5, c6, c7⟩ := HM0.out; obtain ⟨d0, d1, d2, d3, d4, d5, d6, d7⟩ := HM1.out; cases b) | ((with_reducible refine (HLGb.out _ (HT2.out.step (bel_step HB0.out hb2))).mono ?_); rintro r W3 ⟨b, rfl, hbb, hb3⟩; cases b))) | (go_at_call 13; refine (awake_any _).mono ?_; rintro r W4 ⟨rfl, hb4⟩))
  any_goals
    go_ret
    first | exact ⟨rfl, bel_step (bel_step HB0.out hb2) hb4⟩ | exact ⟨rfl, bel_step (bel_step (bel_step HB0.out hb2) hb3) hb4⟩
  have ha9 := (hba trivial).1
  have HB := Lib.hid (bel_step (bel_step (bel_step HB0.out hb2) hb3) hb4)
  replace HM0 := Lib.hid ((HM0.out.step hb3).step hb4)
  replace HM1 := Lib.hid ((HM1.out.step hb3).step hb4)
  have hl9 : m.lst.length ≤ 1000000 := by omega
  clear hba hbb hb2 hb3 hb4 HLGa HLGb HB0 ha9 c0 c1 c2 c3 c4 c5 c6 c7 d0 d1 d2 d3 d4 d5 d6 d7
  obtain ⟨c0, c1, c2, c3, c4, c5, c6, c7⟩ := HM0.out
  obtain ⟨d0, d1, d2, d3, d4, d5, d6, d7⟩ := HM1.out
  have HRR := Lib.hid (fun W h1 h2 h3 h4 => HR.out W h1 h2 h3 h4 hl9)
  have HHH := Lib.hid (fun W h1 h2 h3 h4 => HH.out W h1 h2 h3 h4 hl9)
  have HHHa := Lib.hid (fun W h1 h2 h3 h4 => HHa.out W h1 h2 h3 h4 hl9)
  clear HR HH HHa hl9
  go_upto_region 4 with (go_at_call 21; (refine (HRR.out _ (HT.out.step HB.out) (HD.out.step HB.out) (HT2.out.step HB.out) (HD2.out.step HB.out)).mono ?_); rintro r W5 ⟨rfl, hb5⟩)
  replace HM0 := Lib.hid (HM0.out.step hb5)
  replace HM1 := Lib.hid (HM1.out.step hb5)
  obtain ⟨c0, c1, c2, c3, c4, c5, c6, c7⟩ := HM0.out
  obtain ⟨d0, d1, d2, d3, d4, d5, d6, d7⟩ := HM1.out
  replace HB := Lib.hid (bel_step HB.out hb5)
  clear hb5 HRR
  go_upto_region 6 with (go_at_call 26; (first | ((with_reducible refine (HHH.out _ (HT.out.step HB.out) (HD.out.step HB.out) (HT2.out.step HB.out) (HD2.out.step HB.out)).mono ?_); rintro r W6 ⟨rfl, hb6⟩; replace HM0 := Lib.hid (HM0.out.step hb6); replace HM1 := Lib.hid (HM1.out.step hb6); obtain ⟨c0, c1, c2, c3, c4, c5, c6, c7⟩ := HM0.out; obtain ⟨d0, d1, d2, d3, d4, d5, d6, d7⟩ := HM1.out; replace HB := Lib.hid (bel_step HB.out hb6)) | ((with_reducible refine (HHHa.out _ (HT.out.step HB.out) (HD.out.step HB.out) (HT.out.step HB.out) (HD.out.step HB.out)).mono ?_); rintro r W7 ⟨rfl, hb7⟩; replace HM0 := Lib.hid (HM0.out.step hb7); replace HM1 := Lib.hid (HM1.out.step hb7); obtain ⟨c0, c1, c2, c3, c4, c5, c6, c7⟩ := HM0.out; obtain ⟨d0, d1, d2, d3, d4, d5, d6, d7⟩ := HM1.out; replace HB := Lib.hid (bel_step HB.out hb7))))
  clear hb6 hb7 HHH HHHa
  go_upto_region 7 with (go_at_call 14; (with_reducible refine (HENa.out _ (HT.out.step HB.out) (HD.out.step HB.out)).mono ?_); rintro r W8 ⟨ua, rfl, hua, hb8⟩; obtain ⟨aa, ca, rfl, _, _, _⟩ := hua.isB.shape; have HUA := Lib.hid hua.isB; clear hua)
  replace HM0 := Lib.hid (HM0.out.step hb8)
  replace HM1 := Lib.hid (HM1.out.step hb8)
  obtain ⟨c0, c1, c2, c3, c4, c5, c6, c7⟩ := HM0.out
  obtain ⟨d0, d1, d2, d3, d4, d5, d6, d7⟩ := HM1.out
  replace HB := Lib.hid (bel_step HB.out hb8)
  go_upto_region 8 with (go_at_call 14; (with_reducible refine (HENb.out _ (HT2.out.step HB.out) (HD2.out.step HB.out)).mono ?_); rintro r W9 ⟨ub, rfl, hub, hb9⟩; obtain ⟨ab, cb, rfl, _, _, _⟩ := hub.isB.shape; have HUB := Lib.hid hub.isB; clear hub)
  replace HB := Lib.hid (bel_step HB.out hb9)
  replace HUA := Lib.hid (HUA.out.step hb9)
  clear hb8 hb9 HENa HENb c0 c1 c2 c3 c4 c5 c6 c7 d0 d1 d2 d3 d4 d5 d6 d7
  by_cases hca : codeM m = 0
  · rw [hca, show errV 0 = .nilIface from rfl]
    clear hca
    go_wp2_with (go_at_call 19; (refine (bytes_any _ _ _ _ _ HUA.out HUB.out).mono ?_); rintro r W10 ⟨rfl, rfl⟩)
    go_ret
    exact ⟨ret_bool (by simp), HB.out⟩
  · have hv : errV (codeM m) = .iface 43 (.int .i64 (codeM m)) := by unfold errV; rw [if_neg hca]
    rw [hv]
    generalize codeM m = cc at *
    go_wp2_with fail
    go_ret
    exact ⟨ret_bool (by simp), HB.out⟩

set_option maxRecDepth 100000 in
set_option maxHeartbeats 4000000 in
theorem hopSame_no (m n : Msg) (hmn : m ≠ n) (la da la2 da2 : Option Addr) (lc dc lc2 dc2 : Nat) (w : World) (hT : IsT w (.slice la m.lst.length lc) m.lst) (hD : IsB w (.slice da m.dat.length dc) m.dat)
    (hT2 : IsT w (.slice la2 n.lst.length lc2) n.lst) (hD2 : IsB w (.slice da2 n.dat.length dc2) n.dat) :
    Calls Try.prog 11 #[m.val (.slice la m.lst.length lc) (.slice da m.dat.length dc), n.val (.slice la2 n.lst.length lc2) (.slice da2 n.dat.length dc2)] w fun e w' => e = .returned (.bool true) ∧ Below w.heap.size w w' := by
  have HT := Lib.hid hT
  have HD := Lib.hid hD
  have HT2 := Lib.hid hT2
  have HD2 := Lib.hid hD2
  have HLGa := Lib.hid (fun W h => lawlarge_all m la da lc dc W h)
  have HLGb := Lib.hid (fun W h => lawlarge_all n la2 da2 lc2 dc2 W h)
  have HENa := Lib.hid (fun W h1 h2 => henc_any m la da lc dc W h1 h2)
  have HENb := Lib.hid (fun W h1 h2 => henc_any n la2 da2 lc2 dc2 W h1 h2)
  unfold EncPost at HENa HENb
  have HR := Lib.hid (fun W h1 h2 h3 h4 hl => rsame_no m n hmn la da la2 da2 lc dc lc2 dc2 W h1 h2 h3 h4 hl)
  have HH := Lib.hid (fun W h1 h2 h3 h4 hl => hsame_no m n hmn la da la2 da2 lc dc lc2 dc2 W h1 h2 h3 h4 hl)
  have HHa := Lib.hid (fun W h1 h2 h3 h4 hl => hsame_yes m la da la da lc dc lc dc W h1 h2 h3 h4 hl)
  have HB0 := Lib.hid (bel_alloc (x := (.cells #[.int .i64 n.kind, .int .i64 n.id, .int .i64 n.num, .int .i64 n.tot, .int .i64 n.off, .string ⟨n.txt.toArray⟩, .slice la2 n.lst.length lc2, .slice da2 n.dat.length dc2] 25)) (bel_new w (.cells #[.int .i64 m.kind, .int .i64 m.id, .int .i64 m.num, .int .i64 m.tot, .int .i64 m.off, .string ⟨m.txt.toArray⟩, .slice la m.lst.length lc, .slice da m.dat.length dc] 25)))
  have hb1 := bel_new (w.alloc (.cells #[.int .i64 m.kind, .int .i64 m.id, .int .i64 m.num, .int .i64 m.tot, .int .i64 m.off, .string ⟨m.txt.toArray⟩, .slice la m.lst.length lc, .slice da m.dat.length dc] 25)) (.cells #[.int .i64 n.kind, .int .i64 n.id, .int .i64 n.num, .int .i64 n.tot, .int .i64 n.off, .string ⟨n.txt.toArray⟩, .slice la2 n.lst.length lc2, .slice da2 n.dat.length dc2] 25)
  have hm0 := (MCells.box w m.kind m.id m.num m.tot m.off m.txt (.slice la m.lst.length lc) (.slice da m.dat.length dc)).step hb1
  have hm1 := MCells.box (w.alloc (.cells #[.int .i64 m.kind, .int .i64 m.id, .int .i64 m.num, .int .i64 m.tot, .int .i64 m.off, .string ⟨m.txt.toArray⟩, .slice la m.lst.length lc, .slice da m.dat.length dc] 25)) n.kind n.id n.num n.tot n.off n.txt (.slice la2 n.lst.length lc2) (.slice da2 n.dat.length dc2)
  clear hb1
  rw [show (w.alloc (.cells #[.int .i64 m.kind, .int .i64 m.id, .int .i64 m.num, .int .i64 m.tot, .int .i64 m.off, .string ⟨m.txt.toArray⟩, .slice la m.lst.length lc, .slice da m.dat.length dc] 25)).heap.size = w.heap.size + 1 by simp [go_sem]] at hm1
  have HM0 := Lib.hid hm0
  have HM1 := Lib.hid hm1
  obtain ⟨c0, c1, c2, c3, c4, c5, c6, c7⟩ := hm0
  obtain ⟨d0, d1, d2, d3, d4, d5, d6, d7⟩ := hm1
  unfold Msg.val at *
  clear hT hD hT2 hD2
  go_enter Try.func11, Try.ntmps11
  go_upto_region 1 with fail
  generalize (w.alloc (.cells #[.int .i64 m.kind, .int .i64 m.id, .int .i64 m.num, .int .i64 m.tot, .int .i64 m.off, .string ⟨m.txt.toArray⟩, .slice la m.lst.length lc, .slice da m.dat.length dc] 25)).alloc (.cells #[.int .i64 n.kind, .int .i64 n.id, .int .i64 n.num, .int .i64 n.tot, .int .i64 n.off, .string ⟨n.txt.toArray⟩, .slice la2 n.lst.length lc2, .slice da2 n.dat.length dc2] 25) = W1 at *
  go_upto_region 3 with (first | (go_at_call 12; (first | ((with_reducible refine (HLGa.out _ (HT.out.step HB0.out)).mono ?_); rintro r W2 ⟨b, rfl, hba, hb2⟩; replace HM0 := Lib.hid (HM0.out.step hb2); replace HM1 := Lib.hid (HM1.out.step hb2); obtain ⟨c0, c1, c2, c3, c4, c5, c6, c7⟩ := HM0.out; obtain ⟨d0, d1, d2, d3, d4, d5, d6, d7⟩ := HM1.out; cases b) | ((with_reducible refine (HLGb.out _ (HT2.out.step (bel_step HB0.out hb2))).mono ?_); rintro r W3 ⟨b, rfl, hbb, hb3⟩; cases b))) | (go_at_call 13; refine (awake_any _).mono ?_; rintro r W4 ⟨rfl, hb4⟩))
  any_goals
    go_ret
    first | exact ⟨rfl, bel_step (bel_step HB0.out hb2) hb4⟩ | exact ⟨rfl, bel_step (bel_step (bel_step HB0.out hb2) hb3) hb4⟩
  have ha9 := (hba trivial).1
  have HB := Lib.hid (bel_step (bel_step (bel_step HB0.out hb2) hb3) hb4)
  replace HM0 := Lib.hid ((HM0.out.step hb3).step hb4)
  replace HM1 := Lib.hid ((HM1.out.step hb3).step hb4)
  have hl9 : m.lst.length ≤ 1000000 := by omega
  clear hba hbb hb2 hb3 hb4 HLGa HLGb HB0 ha9 c0 c1 c2 c3 c4 c5 c6 c7 d0 d1 d2 d3 d4 d5 d6 d7
  obtain ⟨c0, c1, c2, c3, c4, c5, c6, c7⟩ := HM0.out
  obtain ⟨d0, d1, d2, d3, d4, d5, d6, d7⟩ := HM1.out
  have HRR := Lib.hid (fun W h1 h2 h3 h4 => HR.out W h1 h2 h3 h4 hl9)
  have HHH := Lib.hid (fun W h1 h2 h3 h4 => HH.out W h1 h2 h3 h4 hl9)
  have HHHa := Lib.hid (fun W h1 h2 h3 h4 => HHa.out W h1 h2 h3 h4 hl9)
  clear HR HH HHa hl9
  go_upto_region 4 with (go_at_call 21; (refine (HRR.out _ (HT.out.step HB.out) (HD.out.step HB.out) (HT2.out.step HB.out) (HD2.out.step HB.out)).mono ?_); rintro r W5 ⟨rfl, hb5⟩)
  replace HM0 := Lib.hid (HM0.out.step hb5)
  replace HM1 := Lib.hid (HM1.out.step hb5)
  obtain ⟨c0, c1, c2, c3, c4, c5, c6, c7⟩ := HM0.out
  obtain ⟨d0, d1, d2, d3, d4, d5, d6, d7⟩ := HM1.out
  replace HB := Lib.hid (bel_step HB.out hb5)
  clear hb5 HRR
  go_upto_region 6 with (go_at_call 26; (first | ((with_reducible refine (HHH.out _ (HT.out.step HB.out) (HD.out.step HB.out) (HT2.out.step HB.out) (HD2.out.step HB.out)).mono ?_); rintro r W6 ⟨rfl, hb6⟩; replace HM0 := Lib.hid (HM0.out.step hb6); replace HM1 := Lib.hid (HM1.out.step hb6); obtain ⟨c0, c1, c2, c3, c4, c5, c6, c7⟩ := HM0.out; obtain ⟨d0, d1, d2, d3, d4, d5, d6, d7⟩ := HM1.out; replace HB := Lib.hid (bel_step HB.out hb6)) | ((with_reducible refine (HHHa.out _ (HT.out.step HB.out) (HD.out.step HB.out) (HT.out.step HB.out) (HD.out.step HB.out)).mono ?_); rintro r W7 ⟨rfl, hb7⟩; replace HM0 := Lib.hid (HM0.out.step hb7); replace HM1 := Lib.hid (HM1.out.step hb7); obtain ⟨c0, c1, c2, c3, c4, c5, c6, c7⟩ := HM0.out; obtain ⟨d0, d1, d2, d3, d4, d5, d6, d7⟩ := HM1.out; replace HB := Lib.hid (bel_step HB.out hb7))))
  clear hb6 hb7 HHH HHHa
  go_upto_region 7 with (go_at_call 14; (with_reducible refine (HENa.out _ (HT.out.step HB.out) (HD.out.step HB.out)).mono ?_); rintro r W8 ⟨ua, rfl, hua, hb8⟩; obtain ⟨aa, ca, rfl, _, _, _⟩ := hua.isB.shape; have HUA := Lib.hid hua.isB; clear hua)
  replace HM0 := Lib.hid (HM0.out.step hb8)
  replace HM1 := Lib.hid (HM1.out.step hb8)
  obtain ⟨c0, c1, c2, c3, c4, c5, c6, c7⟩ := HM0.out
  obtain ⟨d0, d1, d2, d3, d4, d5, d6, d7⟩ := HM1.out
  replace HB := Lib.hid (bel_step HB.out hb8)
  go_upto_region 8 with (go_at_call 14; (with_reducible refine (HENb.out _ (HT2.out.step HB.out) (HD2.out.step HB.out)).mono ?_); rintro r W9 ⟨ub, rfl, hub, hb9⟩; obtain ⟨ab, cb, rfl, _, _, _⟩ := hub.isB.shape; have HUB := Lib.hid hub.isB; clear hub)
  replace HB := Lib.hid (bel_step HB.out hb9)
  replace HUA := Lib.hid (HUA.out.step hb9)
  clear hb8 hb9 HENa HENb c0 c1 c2 c3 c4 c5 c6 c7 d0 d1 d2 d3 d4 d5 d6 d7
  by_cases hca : codeM m = 0
  · by_cases hcb : codeM n = 0
    · have hne : (encM m == encM n) = false := by
        rw [beq_eq_false_iff_ne]
        exact fun h => hmn ((enc_inj hca hcb).1 h)
      have HBY := Lib.hid (fun a b W h1 h2 => bytes_any a b (encM m) (encM n) W h1 h2)
      rw [hne] at HBY
      rw [hca, hcb, show errV 0 = .nilIface from rfl]
      clear hca hcb hne
      go_wp2_with (go_at_call 19; (refine (HBY.out _ _ _ HUA.out HUB.out).mono ?_); rintro r W10 ⟨rfl, rfl⟩)
      go_ret
      exact ⟨ret_bool (by simp), HB.out⟩
    · have hv : errV (codeM n) = .iface 43 (.int .i64 (codeM n)) := by unfold errV; rw [if_neg hcb]
      rw [hca, hv, show errV 0 = .nilIface from rfl]
      generalize codeM n = cc at *
      clear hca
      go_wp2_with fail
      go_ret
      exact ⟨ret_bool (by simp), HB.out⟩
  · have hv : errV (codeM m) = .iface 43 (.int .i64 (codeM m)) := by unfold errV; rw [if_neg hca]
    rw [hv]
    generalize codeM m = cc at *
    go_wp2_with fail
    go_ret
    exact ⟨ret_bool (by simp), HB.out⟩

theorem hopSame_walk (m n : Msg) (la da la2 da2 : Option Addr) (lc dc lc2 dc2 : Nat) (w : World) (hT : IsT w (.slice la m.lst.length lc) m.lst) (hD : IsB w (.slice da m.dat.length dc) m.dat)
    (hT2 : IsT w (.slice la2 n.lst.length lc2) n.lst) (hD2 : IsB w (.slice da2 n.dat.length dc2) n.dat) :
    Calls Try.prog 11 #[m.val (.slice la m.lst.length lc) (.slice da m.dat.length dc), n.val (.slice la2 n.lst.length lc2) (.slice da2 n.dat.length dc2)] w fun e w' => e = .returned (.bool true) ∧ Below w.heap.size w w' := by
  by_cases h : m = n
  · subst h
    exact hopSame_yes m la da la2 da2 lc dc lc2 dc2 w hT hD hT2 hD2
  · exact hopSame_no m n h la da la2 da2 lc dc lc2 dc2 w hT hD hT2 hD2
end Go.Proofs.Ytbfpjldincnihaa
