/- The walk of the law HopSpoiled: it returns true. No condition. -/
import Derived.Test.YtbfpjldincnihaaLawsC
namespace Go.Proofs.Ytbfpjldincnihaa
open Go.RowKit
set_option linter.unusedVariables false
set_option linter.unusedSimpArgs false

theorem OwnB.at {w : World} {base g n cap : Nat} {L : List UInt8} (h : OwnB w base (.slice (some ⟨g, 0, none⟩) n cap) L) (hn : n = L.length) (j : Nat) (hj : j < L.length) : w.cell? ⟨g, j, none⟩ = some (.int .u8 ((L.getD j 0).toNat : Int)) ∧ w.frozen? ⟨g, j, none⟩ = false := by
  subst hn
  refine ⟨?_, World.ownsRow.frozenAt h j⟩
  rw [World.ownsRow.cellAt h j (by omega), List.getElem?_map]
  simp [List.getElem?_eq_getElem hj, List.getD, bcell]
theorem OwnB.put {w : World} {base g n cap : Nat} {L : List UInt8} (h : OwnB w base (.slice (some ⟨g, 0, none⟩) n cap) L) (hn : n = L.length) (j : Nat) (x : Int) (c : UInt8) (hx : x = (c.toNat : Int)) : OwnB (w.setCell ⟨g, j, none⟩ (.int .u8 x)) base (.slice (some ⟨g, 0, none⟩) n cap) (L.set j c) := by
  subst hx hn
  have h9 := World.ownsRow.stored h j (.int .u8 (c.toNat : Int))
  unfold OwnB
  rw [List.length_set, List.map_set]
  exact h9.1
theorem encM_ne {m : Msg} (h : codeM m = 0) : encM m ≠ [] := by
  rw [(enc_of h).1]
  intro e
  have := congrArg List.length e
  rw [encP_len] at this
  simp at this

set_option maxRecDepth 100000 in
set_option maxHeartbeats 2000000 in
theorem hopSpoiled_walk (m : Msg) (la da : Option Addr) (lc dc : Nat) (at' : Int) (c : UInt8) (w : World) (hT : IsT w (.slice la m.lst.length lc) m.lst) (hD : IsB w (.slice da m.dat.length dc) m.dat) :
    Calls Try.prog 7 #[m.val (.slice la m.lst.length lc) (.slice da m.dat.length dc), .int .i64 at', .int .u8 c.toNat] w fun e w' => e = .returned (.bool true) ∧ Below w.heap.size w w' := by
  have HT := Lib.hid hT
  have HD := Lib.hid hD
  have HLG := Lib.hid (fun W h => lawlarge_all m la da lc dc W h)
  have HEN := Lib.hid (fun W h1 h2 => henc_any m la da lc dc W h1 h2)
  unfold EncPost at HEN
  have HB0 := Lib.hid (bel_new w (.cells #[.int .i64 m.kind, .int .i64 m.id, .int .i64 m.num, .int .i64 m.tot, .int .i64 m.off, .string ⟨m.txt.toArray⟩, .slice la m.lst.length lc, .slice da m.dat.length dc] 25))
  have hm0 := MCells.box w m.kind m.id m.num m.tot m.off m.txt (.slice la m.lst.length lc) (.slice da m.dat.length dc)
  have HM0 := Lib.hid hm0
  obtain ⟨c0, c1, c2, c3, c4, c5, c6, c7⟩ := hm0
  have HSP := Lib.hid (fun h i d hd hne => hdec_spoil (m := m) h i c d hd hne)
  have HNE := Lib.hid (fun h => encM_ne (m := m) h)
  unfold Msg.val at *
  clear hT hD
  go_enter Try.func7, Try.ntmps7
  go_upto_region 1 with fail
  generalize w.alloc (.cells #[.int .i64 m.kind, .int .i64 m.id, .int .i64 m.num, .int .i64 m.tot, .int .i64 m.off, .string ⟨m.txt.toArray⟩, .slice la m.lst.length lc, .slice da m.dat.length dc] 25) = W1 at *
  go_upto_region 3 with (first | (go_at_call 12; refine (HLG.out _ (HT.out.step HB0.out)).mono ?_; rintro r W2 ⟨b, rfl, hb, hb2⟩; cases b) | (go_at_call 13; refine (awake_any _).mono ?_; rintro r W3 ⟨rfl, hb3⟩))
  rotate_left
  · go_ret
    exact ⟨rfl, bel_step (bel_step HB0.out hb2) hb3⟩
  · have HB3 := Lib.hid (bel_step (bel_step HB0.out hb2) hb3)
    have HM3 := Lib.hid ((HM0.out.step hb2).step hb3)
    obtain ⟨d0, d1, d2, d3, d4, d5, d6, d7⟩ := HM3.out
    clear hb hb2 hb3 c0 c1 c2 c3 c4 c5 c6 c7 HM0 HB0 HLG
    by_cases hc : codeM m = 0
    · have HNE2 := Lib.hid (HNE.out hc)
      have HSP2 := Lib.hid (HSP.out hc)
      have hel := encM_len (m := m)
      rw [hc, show errV 0 = .nilIface from rfl] at HEN
      clear hc HNE HSP
      generalize encM m = b at *
      have hbpos := List.length_pos_iff.2 HNE2.out
      obtain ⟨i, hi⟩ : ∃ i : Nat, max 0 (min at' ((b.length : Int) - 1)) = (i : Int) := ⟨(max 0 (min at' ((b.length : Int) - 1))).toNat, by omega⟩
      have HC := Lib.hid (fun W => clip_any at' 0 ((b.length : Int) - 1) W)
      rw [hi] at HC
      have hib : i < b.length := by omega
      have hib' : (i : Int) < (b.length : Int) := by omega
      have hi0 : (0 : Int) ≤ (i : Int) := by omega
      have hbz : ¬ b.length = 0 := by omega
      have hbzI : ((b.length : Int) == 0) = false := by simp; exact HNE2.out
      have hbzJ : ¬ (b.length : Int) = 0 := by omega
      have hB6 : (b.length : Int) ≤ 200000 := by omega
      have hb1I : (1 : Int) ≤ (b.length : Int) := by omega
      clear hi
      go_upto_region 4 with (go_at_call 14; refine (HEN.out _ (HT.out.step HB3.out) (HD.out.step HB3.out)).mono ?_; rintro r w3 ⟨u, rfl, ho3, hb3⟩; obtain ⟨g3, c3, rfl, hg3, hg3lt⟩ := OwnB.shape ho3 HNE2.out)
      have HB4 := Lib.hid (bel_step HB3.out hb3)
      have HO3 := Lib.hid ho3
      have hsh3 := ho3.isB.shape
      obtain ⟨_, _, hcv, hq3, _, _⟩ := hsh3
      simp only [Value.slice.injEq] at hcv
      obtain ⟨rfl, _, rfl⟩ := hcv
      have hq3' : (b.length : Int) ≤ (c3 : Int) := by omega
      obtain ⟨k0, k1⟩ := ho3.at rfl i hib
      have hput := ho3.put rfl i (c.toNat : Int) c rfl
      have HPUT := Lib.hid hput
      have hww : w.heap.size ≤ W3.heap.size := HB3.out.size
      clear hb3 ho3 hput d0 d1 d2 d3 d4 d5 d6 d7 HM3
      have HGD := Lib.hid (show b[i]? = some (b.getD i 0) by rw [List.getD, List.getElem?_eq_getElem hib]; rfl)
      generalize b.getD i 0 = d at *
      generalize hz : (d.toNat : Int) = z at *
      by_cases hzc : z = (c.toNat : Int)
      · subst hzc
        clear hz
        go_wp2_with (go_at_call 24; refine (HC.out _).mono ?_; rintro r w4 ⟨rfl, rfl⟩)
        go_ret
        exact ⟨rfl, HB4.out⟩
      · have hzb : (z == (c.toNat : Int)) = false := by simpa using hzc
        have HDN := Lib.hid (fun v W hI => hdec_none (HSP2.out i d HGD.out (fun h => hzc (by rw [← hz, h]))) v W hI (by rw [List.length_set]; omega))
        unfold zeroMsg at HDN
        clear hz
        go_upto_region 10 with (go_at_call 24; refine (HC.out _).mono ?_; rintro r w4 ⟨rfl, rfl⟩)
        have HB5 := Lib.hid (HB4.out.trans ((Only.set (b := g3) (k := i) (u := .int .u8 (c.toNat : Int)) (w := w3)).below (B := w.heap.size) (by omega) (by omega)))
        clear HB4 HO3 k0 k1
        generalize w3.setCell ⟨g3, i, none⟩ (.int .u8 (c.toNat : Int)) = w4 at *
        have hls : (b.set i c).length = b.length := List.length_set
        go_upto_region 11 with (go_at_call 20; (refine (HDN.out _ _ HPUT.out.isB).mono ?_); rintro r W5 ⟨rfl, hb5⟩)
        have hn := bel_new W5 (.cells #[.int .i64 0, .int .i64 0, .int .i64 0, .int .i64 0, .int .i64 0, .string ⟨#[]⟩, .slice none 0 0, .slice none 0 0] 25)
        have HB6 := Lib.hid (bel_step (bel_step HB5.out hb5) hn)
        obtain ⟨d0, d1, d2, d3, d4, d5, d6, d7⟩ := MCells.box W5 0 0 0 0 0 [] (.slice none 0 0) (.slice none 0 0)
        clear hn hb5
        go_wp2_with (first | (go_at_call 22; (refine (empty_zero _).mono ?_); rintro r W6 ⟨rfl, hb6⟩) | (go_at_call 23; (refine (is_yes 2 (by decide) _).mono ?_); rintro r W7 ⟨rfl, rfl⟩))
        go_ret
        exact ⟨rfl, bel_step HB6.out hb6⟩
    · have hv : errV (codeM m) = .iface 43 (.int .i64 (codeM m)) := by unfold errV; rw [if_neg hc]
      rw [hv] at HEN
      generalize codeM m = cc at *
      go_wp2_with (go_at_call 14; refine (HEN.out _ (HT.out.step HB3.out) (HD.out.step HB3.out)).mono ?_; rintro r W4 ⟨u, rfl, hu, hb4⟩; obtain ⟨au, cu, rfl, _, _, _⟩ := hu.isB.shape; clear hu)
      go_ret
      exact ⟨rfl, bel_step HB3.out hb4⟩
end Go.Proofs.Ytbfpjldincnihaa
