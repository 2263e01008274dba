/- The walk of hop.Decode where the record is whole and its kind is known (begun). No condition beyond that there are at most a million bytes. -/
import Derived.Test.YtbfpjldincnihaaConv
namespace Go.Proofs.Ytbfpjldincnihaa
open Go.RowKit
set_option linter.unusedVariables false
set_option linter.unusedSimpArgs false

theorem IsB.drew1 {w : World} {v : Value} {l : List UInt8} (h : IsB w v l) : IsB w.drew v l := h
theorem MBox.all {w : World} {b : Nat} (h : MBox w b 0 0 0 0 0 [] (.slice none 0 0) (.slice none 0 0)) :
    (w.cell? ⟨b, 0, none⟩ = some (.int .i64 0) ∧ w.cell? ⟨b, 1, none⟩ = some (.int .i64 0) ∧ w.cell? ⟨b, 2, none⟩ = some (.int .i64 0) ∧ w.cell? ⟨b, 3, none⟩ = some (.int .i64 0) ∧ w.cell? ⟨b, 4, none⟩ = some (.int .i64 0) ∧
      w.cell? ⟨b, 5, none⟩ = some (.string ⟨#[]⟩) ∧ w.cell? ⟨b, 6, none⟩ = some (.slice none 0 0) ∧ w.cell? ⟨b, 7, none⟩ = some (.slice none 0 0)) ∧
    w.frozen? ⟨b, 0, none⟩ = false ∧ w.frozen? ⟨b, 1, none⟩ = false ∧ w.frozen? ⟨b, 2, none⟩ = false ∧ w.frozen? ⟨b, 3, none⟩ = false ∧ w.frozen? ⟨b, 4, none⟩ = false ∧ w.frozen? ⟨b, 5, none⟩ = false ∧ w.frozen? ⟨b, 6, none⟩ = false ∧ w.frozen? ⟨b, 7, none⟩ = false :=
  ⟨h.cells, h.frozen 0, h.frozen 1, h.frozen 2, h.frozen 3, h.frozen 4, h.frozen 5, h.frozen 6, h.frozen 7⟩
theorem MBox.at_num {w : World} {b : Nat} {k id nm tt of : Int} {tx : List UInt8} {lv dv : Value} (h : MBox w b k id nm tt of tx lv dv) : w.cell? ⟨b, 2, none⟩ = some (.int .i64 nm) := by
  unfold MBox at h
  simp [World.cell?, h, mrow]
theorem MBox.at_tot {w : World} {b : Nat} {k id nm tt of : Int} {tx : List UInt8} {lv dv : Value} (h : MBox w b k id nm tt of tx lv dv) : w.cell? ⟨b, 3, none⟩ = some (.int .i64 tt) := by
  unfold MBox at h
  simp [World.cell?, h, mrow]
theorem MBox.at_off {w : World} {b : Nat} {k id nm tt of : Int} {tx : List UInt8} {lv dv : Value} (h : MBox w b k id nm tt of tx lv dv) : w.cell? ⟨b, 4, none⟩ = some (.int .i64 of) := by
  unfold MBox at h
  simp [World.cell?, h, mrow]
theorem MBox.at_txt {w : World} {b : Nat} {k id nm tt of : Int} {tx : List UInt8} {lv dv : Value} (h : MBox w b k id nm tt of tx lv dv) : w.cell? ⟨b, 5, none⟩ = some (.string ⟨tx.toArray⟩) := by
  unfold MBox at h
  simp [World.cell?, h, mrow]
theorem MBox.at_lst {w : World} {b : Nat} {k id nm tt of : Int} {tx : List UInt8} {lv dv : Value} (h : MBox w b k id nm tt of tx lv dv) : w.cell? ⟨b, 6, none⟩ = some (lv) := by
  unfold MBox at h
  simp [World.cell?, h, mrow]
theorem MBox.at_dat {w : World} {b : Nat} {k id nm tt of : Int} {tx : List UInt8} {lv dv : Value} (h : MBox w b k id nm tt of tx lv dv) : w.cell? ⟨b, 7, none⟩ = some (dv) := by
  unfold MBox at h
  simp [World.cell?, h, mrow]
theorem wordV_short {o : Option (List UInt8)} (h : shortO o) : (wordV o).length ≤ 1000000 := by
  cases o with
  | none => simp [wordV]
  | some l =>
    have h9 := h l rfl
    unfold wordV
    simp only [Option.bind_some]
    cases hw : wordR l with
    | none => simp
    | some x =>
      obtain ⟨s, r⟩ := x
      have := wordR_canon hw
      simp only []
      rw [this] at h9
      unfold textB at h9
      simp only [List.length_append] at h9
      omega
theorem hdecP_bad {b p : List UInt8} {k n : Nat} {M : Msg} {o : Option (List UInt8)} (hd : decP b = .inr (k, n, p, b.length)) (hpm : parseM (usesF (k : Int)) k n p = (M, o)) (h : o = none ∨ codeM M ≠ 0 ∨ encM M ≠ b) : hdecP b = none := by
  unfold hdecP
  rw [hd]
  simp only []
  rw [hpm]
  rw [if_neg]
  rintro ⟨_, _, h1, h2, h3⟩
  rcases h with h | h | h
  · exact h1 h
  · exact h h2
  · exact h h3
theorem hdecP_good {b p r : List UInt8} {k n : Nat} {M : Msg} (hd : decP b = .inr (k, n, p, b.length)) (hok : okK (k : Int) = true) (hpm : parseM (usesF (k : Int)) k n p = (M, some r)) (h1 : codeM M = 0) (h2 : encM M = b) : hdecP b = some M := by
  unfold hdecP
  rw [hd]
  simp only []
  rw [hpm]
  rw [if_pos ⟨trivial, hok, by simp, h1, h2⟩]
theorem HDecPost.good {w w' : World} {b : List UInt8} {M : Msg} (h : hdecP b = some M) (la : Option Addr) (lc : Nat) (da : Option Addr) (dc : Nat) (hT : IsT w' (.slice la M.lst.length lc) M.lst) (hD : IsB w' (.slice da M.dat.length dc) M.dat) (hb : Below w.heap.size w w') :
    HDecPost w b (.returned (.tuple #[M.val (.slice la M.lst.length lc) (.slice da M.dat.length dc), .nilIface])) w' := by
  unfold HDecPost
  rw [h]
  exact ⟨la, lc, da, dc, rfl, hT, hD, hb⟩
theorem enc_good {args : Array Value} {W : World} {M : Msg} (h : Calls Try.prog 14 args W (EncPost W M)) (hc : codeM M = 0) :
    Calls Try.prog 14 args W fun e w' => ∃ a n c, e = .returned (.tuple #[.slice a n c, .nilIface]) ∧ IsB w' (.slice a n c) (encM M) ∧ Below W.heap.size W w' := by
  refine h.mono ?_
  rintro e w' ⟨u, rfl, ho, hb⟩
  obtain ⟨a, c, rfl, _, _, _⟩ := ho.isB.shape
  rw [hc]
  exact ⟨a, _, c, rfl, ho.isB, hb⟩
theorem enc_bad {args : Array Value} {W : World} {M : Msg} (h : Calls Try.prog 14 args W (EncPost W M)) (hc : codeM M ≠ 0) :
    Calls Try.prog 14 args W fun e w' => ∃ a n c, e = .returned (.tuple #[.slice a n c, .iface 43 (.int .i64 (codeM M))]) ∧ IsB w' (.slice a n c) (encM M) ∧ Below W.heap.size W w' := by
  refine h.mono ?_
  rintro e w' ⟨u, rfl, ho, hb⟩
  obtain ⟨a, c, rfl, _, _, _⟩ := ho.isB.shape
  refine ⟨a, _, c, ?_, ho.isB, hb⟩
  unfold errV
  rw [if_neg hc]
theorem enc_some {args : Array Value} {W : World} {M : Msg} (h : Calls Try.prog 14 args W (EncPost W M)) :
    Calls Try.prog 14 args W fun e w' => ∃ a n c, e = .returned (.tuple #[.slice a n c, errV (codeM M)]) ∧ IsB w' (.slice a n c) (encM M) ∧ Below W.heap.size W w' := by
  refine h.mono ?_
  rintro e w' ⟨u, rfl, ho, hb⟩
  obtain ⟨a, c, rfl, _, _, _⟩ := ho.isB.shape
  exact ⟨a, _, c, rfl, ho.isB, hb⟩
/-- What is known behind the region that reads the payload and makes the message's block. -/
def Begun (W : World) (wx : World) (bm bc : Nat) (k n : Int) (p : List UInt8) : Prop :=
  MBox wx bm k n 0 0 0 [] (.slice none 0 0) (.slice none 0 0) ∧ (∃ B, CurO B wx bc (some p) ∧ B ≤ wx.heap.size) ∧ Below W.heap.size W wx ∧ W.heap.size ≤ bm ∧ W.heap.size ≤ bc ∧ bm ≠ bc
theorem begun_one {W W6 : World} {bc : Nat} {k n : Int} {p : List UInt8} (hbc : W.drew.heap.size ≤ bc) (hC : CurO W6.heap.size W6 bc (some p)) (hb : Below W.drew.heap.size W.drew W6) :
    Begun W (W6.alloc (.cells #[.int .i64 k, .int .i64 n, .int .i64 0, .int .i64 0, .int .i64 0, .string ⟨([] : List UInt8).toArray⟩, .slice none 0 0, .slice none 0 0] 25)) W6.heap.size bc k n p := by
  have hlt := hC.lt
  have hz : W.heap.size ≤ W6.heap.size := hb.size
  refine ⟨MBox.new W6 k n 0 0 0 [] _ _, ⟨W6.heap.size, hC.step (bel_new _ _), by simp [go_sem]⟩, ?_, hz, hbc, by omega⟩
  exact ((Below.refl W.heap.size W).drew.trans hb).alloc hz _
theorem begun_two {W W6 : World} {x : Obj} {bc : Nat} {k n : Int} {p : List UInt8} (hbc : (W.alloc x).drew.heap.size ≤ bc) (hC : CurO W6.heap.size W6 bc (some p)) (hb : Below (W.alloc x).drew.heap.size (W.alloc x).drew W6)
    (hX : MBox W6 W.heap.size 0 0 0 0 0 [] (.slice none 0 0) (.slice none 0 0)) :
    Begun W ((((((((W6.setCell ⟨W.heap.size, 0, none⟩ (.int .i64 k)).setCell ⟨W.heap.size, 1, none⟩ (.int .i64 n)).setCell ⟨W.heap.size, 2, none⟩ (.int .i64 0)).setCell ⟨W.heap.size, 3, none⟩ (.int .i64 0)).setCell ⟨W.heap.size, 4, none⟩ (.int .i64 0)).setCell ⟨W.heap.size, 5, none⟩ (.string ⟨([] : List UInt8).toArray⟩)).setCell ⟨W.heap.size, 6, none⟩ (.slice none 0 0)).setCell ⟨W.heap.size, 7, none⟩ (.slice none 0 0)) W.heap.size bc k n p := by
  have hsz : (W.alloc x).drew.heap.size = W.heap.size + 1 := by simp [go_sem]
  rw [hsz] at hbc
  have ho := Only.sets8 W6 W.heap.size (.int .i64 k) (.int .i64 n) (.int .i64 0) (.int .i64 0) (.int .i64 0) (.string ⟨([] : List UInt8).toArray⟩) (.slice none 0 0) (.slice none 0 0)
  have hz : W.heap.size ≤ W6.heap.size := by have := hb.size; rw [hsz] at this; omega
  have h1 : Below W.heap.size W (W.alloc x).drew := ((Below.refl W.heap.size W).alloc (Nat.le_refl _) x).drew
  refine ⟨hX.sets k n 0 0 0 [] _ _, ⟨W6.heap.size, hC.onlyN ho (by omega) hX.noB, ho.size⟩, ?_, Nat.le_refl _, by omega, by omega⟩
  exact (h1.trans (hb.mono (by rw [hsz]; omega))).trans (ho.below (Nat.le_refl _) hz)

set_option maxRecDepth 100000 in
set_option maxHeartbeats 4000000 in
theorem hdec_main (v : Value) (b : List UInt8) (w : World) (h : IsB w v b) (hl : b.length ≤ 1000000) (k n : Nat) (p : List UInt8) (hd : decP b = .inr (k, n, p, b.length)) (hok : okK k = true) :
    Calls Try.prog 20 #[v] w (HDecPost w b) := by
  obtain ⟨a, cap, rfl, hc1, hc2, hc3⟩ := h.shape
  have H := Lib.hid h
  have HZ0 := Lib.hid (MBox.new w 0 0 0 0 0 [] (.slice none 0 0) (.slice none 0 0))
  have HB0 := Lib.hid (bel_new w (.cells #[.int .i64 0, .int .i64 0, .int .i64 0, .int .i64 0, .int .i64 0, .string ⟨#[]⟩, .slice none 0 0, .slice none 0 0] 25))
  have hl9 : (b.length : Int) ≤ 1000000 := by omega
  clear h hc2 hc3
  have HT := Lib.hid (fun (W : World) (h : IsB W (.slice a b.length cap) b) => (show Calls Try.prog 37 #[.slice a b.length cap] W fun e w' => ∃ u, e = .returned (.tuple #[.agg #[.int .i64 k, .int .i64 n, u], .int .i64 b.length, .nilIface]) ∧ OwnB w' W.heap.size u p ∧ Below W.heap.size W w' from by
    have h9 := dec_any _ b W h (by omega)
    rw [hd] at h9
    exact h9))
  have HU := Lib.hid (fun W => uses_any (k : Int) W)
  unfold Flds.val at HU
  have HOK := Lib.hid hok
  have HDE := Lib.hid hd
  have hpl := (dec_canon hd).2.2.2.1
  have HPL := Lib.hid hpl
  rw [hok] at HU
  clear hd hl hok hpl
  go_enter Try.func20, Try.ntmps20
  go_upto_region 1 with fail
  change Code.wp _ _ _ _ (w.alloc (.cells #[.int .i64 0, .int .i64 0, .int .i64 0, .int .i64 0, .int .i64 0, .string ⟨([] : List UInt8).toArray⟩, .slice none 0 0, .slice none 0 0] 25))
  change Hid (Below w.heap.size w (w.alloc (.cells #[.int .i64 0, .int .i64 0, .int .i64 0, .int .i64 0, .int .i64 0, .string ⟨([] : List UInt8).toArray⟩, .slice none 0 0, .slice none 0 0] 25))) at HB0
  generalize w.alloc (.cells #[.int .i64 0, .int .i64 0, .int .i64 0, .int .i64 0, .int .i64 0, .string ⟨([] : List UInt8).toArray⟩, .slice none 0 0, .slice none 0 0] 25) = W1 at *
  go_upto_region 4 with (go_at_call 37; refine (HT.out _ (H.out.step HB0.out)).mono ?_; rintro r W2 ⟨u, rfl, ho2, hb2⟩; obtain ⟨au, nu, cu, rfl⟩ : ∃ a n c, u = .slice a n c := (by obtain ⟨a, c, h, _⟩ := ho2.isB.shape; exact ⟨a, _, c, h⟩))
  have hn3 := bel_new W2 (.cells #[.int .i64 k, .int .i64 n, .slice au nu cu] 37)
  have HZ3 := Lib.hid ((HZ0.out.step hb2).step hn3)
  have HB3 := Lib.hid (bel_step (bel_step HB0.out hb2) hn3)
  have HP3 := Lib.hid (ho2.isB.step hn3)
  have r0 : (W2.alloc (.cells #[.int .i64 k, .int .i64 n, .slice au nu cu] 37)).cell? ⟨W2.heap.size, 0, none⟩ = some (.int .i64 k) := by simp [go_sem]
  have r1 : (W2.alloc (.cells #[.int .i64 k, .int .i64 n, .slice au nu cu] 37)).cell? ⟨W2.heap.size, 1, none⟩ = some (.int .i64 n) := by simp [go_sem]
  have r2 : (W2.alloc (.cells #[.int .i64 k, .int .i64 n, .slice au nu cu] 37)).cell? ⟨W2.heap.size, 2, none⟩ = some (.slice au nu cu) := by simp [go_sem]
  have hz2 : w.heap.size < W2.heap.size := Nat.lt_of_lt_of_le HZ0.out.lt hb2.size
  have hz3 : W2.heap.size < (W2.alloc (.cells #[.int .i64 k, .int .i64 n, .slice au nu cu] 37)).heap.size := by simp [go_sem]
  clear hb2 hn3 ho2 HZ0 HB0
  generalize W2.alloc (.cells #[.int .i64 k, .int .i64 n, .slice au nu cu] 37) = W3 at *
  have HVC := Lib.hid (vec_cases (k : Int) HOK.out)
  generalize huu : usesF (k : Int) = uu at *
  have HUU := Lib.hid huu
  clear huu
  go_upto_region 7 with (go_at_call 27; refine (HU.out _).mono ?_; rintro r W4 ⟨rfl, hb4⟩)
  have hn5 := bel_new W4 (.cells #[.bool uu.id, .bool uu.num, .bool uu.tot, .bool uu.off, .bool uu.txt, .bool uu.lst, .bool uu.dat] 56)
  have HF5 := Lib.hid (FCells.box W4 uu)
  have HZ5 := Lib.hid ((HZ3.out.step hb4).step hn5)
  have HB5 := Lib.hid (bel_step (bel_step HB3.out hb4) hn5)
  have HP5 := Lib.hid ((HP3.out.step hb4).step hn5)
  have q0 := keep_at hn5 (keep_at hb4 r0)
  have q1 := keep_at hn5 (keep_at hb4 r1)
  have q2 := keep_at hn5 (keep_at hb4 r2)
  have hz4 : W2.heap.size < W4.heap.size := Nat.lt_of_lt_of_le hz3 hb4.size
  have hz5 : W4.heap.size < (W4.alloc (.cells #[.bool uu.id, .bool uu.num, .bool uu.tot, .bool uu.off, .bool uu.txt, .bool uu.lst, .bool uu.dat] 56)).heap.size := by simp [go_sem]
  clear hb4 hn5 HZ3 HB3 HP3 r0 r1 r2
  generalize W4.alloc (.cells #[.bool uu.id, .bool uu.num, .bool uu.tot, .bool uu.off, .bool uu.txt, .bool uu.lst, .bool uu.dat] 56) = W5 at *
  have HRD := Lib.hid (fun W (h : IsB W (.slice au nu cu) p) => readc_any (.slice au nu cu) p W h (by have := HPL.out; omega))
  have hrw : W2.heap.size ≠ W5.heap.size := by omega
  go_cut [9, 10] (fun p9 p10 wx => ∃ bm bc, p9 = .pointer (some ⟨bm, 0, none⟩) ∧ p10 = .pointer (some ⟨bc, 0, none⟩) ∧ Begun W5 wx bm bc k n p)
  case first =>
    go_region_held3 (fun w' => w'.cell? ⟨W2.heap.size, 0, none⟩ = some (.int .i64 k) ∧ w'.cell? ⟨W2.heap.size, 1, none⟩ = some (.int .i64 n) ∧ w'.cell? ⟨W2.heap.size, 2, none⟩ = some (.slice au nu cu))
      ((go_split_ands; refine ⟨?_, ?_, ?_⟩ <;> (repeat (with_reducible (first | assumption | refine keep_set hrw ?_ | refine keep_drew ?_ | refine keep_alloc ?_ | refine keep_at hb6 ?_)))))
      ((go_at_call 38; first
        | (with_reducible refine (HRD.out _ (IsB.drew1 HP5.out)).mono ?_; rintro e W6 ⟨bc, rfl, hbc, hC, hb6⟩)
        | (with_reducible refine (HRD.out _ (IsB.drew1 (HP5.out.step (bel_new _ _)))).mono ?_; rintro e W6 ⟨bc, rfl, hbc, hC, hb6⟩; have hX := (MBox.drew (MBox.new W5 0 0 0 0 0 [] (.slice none 0 0) (.slice none 0 0))).step hb6; have HX := Lib.hid hX; obtain ⟨⟨x0, x1, x2, x3, x4, x5, x6, x7⟩, f0, f1, f2, f3, f4, f5, f6, f7⟩ := MBox.all hX; clear hX)))
    · go_wp2_with fail
      go_meet
      exact ⟨_, _, rfl, rfl, begun_one hbc hC hb6⟩
    · go_wp2_with fail
      go_meet
      exact ⟨_, _, rfl, rfl, begun_two hbc hC hb6 HX.out⟩
  case rest =>
    obtain ⟨bm, bc, rfl, rfl, hX, ⟨B, hC, hBz⟩, hBW, hbm, hbc, hne⟩ := hcut
    have HX := Lib.hid hX
    have HC := Lib.hid hC
    have HBW := Lib.hid hBW
    have hzw : W5.heap.size ≤ wc.heap.size := hBW.size
    have HSH := Lib.hid (show shortO (some p) from fun l h => by injection h with h; subst h; have := HPL.out; omega)
    have hne2 : bc ≠ bm := fun e => hne e.symm
    have hwW5 : w.heap.size < W5.heap.size := by omega
    clear hX hC hBW q0 q1 q2
    rcases HVC.out with rfl | rfl | rfl | rfl | rfl | rfl | rfl | rfl | rfl
    · obtain ⟨f0, f1, f2, f3, f4, f5, f6⟩ := HF5.out.step HBW.out
      dsimp only at f0 f1 f2 f3 f4 f5 f6
      go_upto_region 10 with (go_at_call 39; refine (uintc_any B bc _ _ HC.out).mono ?_; rintro e WA1 ⟨rfl, hCA, hoA⟩; have hXA := HX.out.only hoA hne; have xc := hXA.at_num; have xf := hXA.frozen 2)
      have hsA := Only.set (b := bm) (k := 2) (u := .int .i64 (numV (some p))) (w := WA1)
      have HX1 := Lib.hid (hXA.set_num (numV (some p)))
      have HC1 := Lib.hid (hCA.onlyN hsA hne2 hXA.noB)
      have hzA1 := Nat.le_trans hzw hoA.size
      have HBW1 := Lib.hid (HBW.out.trans ((hoA.below hbc hzw).trans (hsA.below hbm hzA1)))
      have hzB1 := Nat.le_trans hzA1 hsA.size
      have hBz1 := Nat.le_trans hBz (Nat.le_trans hoA.size hsA.size)
      have HSH1 := Lib.hid HSH.out.num
      clear hsA hXA hCA hoA xc xf f0 f1 f2 f3 f4 f5 f6 HX HC HBW HSH hzw hzA1 hBz
      have HX := HX1; have HC := HC1; have HBW := HBW1; have HSH := HSH1; have hzw := hzB1; have hBz := hBz1
      clear HX1 HC1 HBW1 HSH1 hzB1 hBz1
      generalize WA1.setCell ⟨bm, 2, none⟩ (.int .i64 (numV (some p))) = WB1 at *
      obtain ⟨f0, f1, f2, f3, f4, f5, f6⟩ := HF5.out.step HBW.out
      dsimp only at f0 f1 f2 f3 f4 f5 f6
      go_upto_region 16 with (go_at_call 40; refine (textc_any B bc _ _ HC.out HSH.out).mono ?_; rintro e WA2 ⟨rfl, hCA, hoA⟩; have hXA := HX.out.only hoA hne; have xc := hXA.at_txt; have xf := hXA.frozen 5)
      have hsA := Only.set (b := bm) (k := 5) (u := .string ⟨(wordV (numO (some p))).toArray⟩) (w := WA2)
      have HX2 := Lib.hid (hXA.set_txt (wordV (numO (some p))))
      have HC2 := Lib.hid (hCA.onlyN hsA hne2 hXA.noB)
      have hzA2 := Nat.le_trans hzw hoA.size
      have HBW2 := Lib.hid (HBW.out.trans ((hoA.below hbc hzw).trans (hsA.below hbm hzA2)))
      have hzB2 := Nat.le_trans hzA2 hsA.size
      have hBz2 := Nat.le_trans hBz (Nat.le_trans hoA.size hsA.size)
      have HSH2 := Lib.hid HSH.out.next
      clear hsA hXA hCA hoA xc xf f0 f1 f2 f3 f4 f5 f6 HX HC HBW HSH hzw hzA2 hBz
      have HX := HX2; have HC := HC2; have HBW := HBW2; have HSH := HSH2; have hzw := hzB2; have hBz := hBz2
      clear HX2 HC2 HBW2 HSH2 hzB2 hBz2
      generalize WA2.setCell ⟨bm, 5, none⟩ (.string ⟨(wordV (numO (some p))).toArray⟩) = WB2 at *
      obtain ⟨f0, f1, f2, f3, f4, f5, f6⟩ := HF5.out.step HBW.out
      dsimp only at f0 f1 f2 f3 f4 f5 f6
      have hbml := HX.out.lt
      go_upto_region 18 with (go_at_call 41; refine (textsc_any B bc _ _ HC.out HSH.out hBz).mono ?_; rintro e WA3 ⟨ul, rfl, hOT, _, hCA, hoA⟩; obtain ⟨al, cl, rfl⟩ : ∃ a c, ul = .slice a (wordsV (wordO (numO (some p)))).length c := OwnT.shape hOT; have hXA := HX.out.only hoA hne; have xc := hXA.at_lst; have xf := hXA.frozen 6)
      have hsA := Only.set (b := bm) (k := 6) (u := .slice al (wordsV (wordO (numO (some p)))).length cl) (w := WA3)
      have HX3 := Lib.hid (hXA.set_lst (.slice al (wordsV (wordO (numO (some p)))).length cl))
      have HC3 := Lib.hid (show CurO B _ bc (wordsO (wordO (numO (some p)))) from hCA.onlyN hsA hne2 hXA.noB)
      have hb0 : w.heap.size < WB2.heap.size := Nat.lt_of_lt_of_le hwW5 hzw
      have HTO := Lib.hid (show OwnT _ WB2.heap.size (.slice al (wordsV (wordO (numO (some p)))).length cl) (wordsV (wordO (numO (some p)))) from OwnT.only hOT hsA hbml)
      have hzA3 := Nat.le_trans hzw hoA.size
      have HBW3 := Lib.hid (HBW.out.trans ((hoA.below hbc hzw).trans (hsA.below hbm hzA3)))
      have hzB3 := Nat.le_trans hzA3 hsA.size
      have HSH3 := Lib.hid HSH.out.words
      clear hsA hXA hCA hoA hOT xc xf f0 f1 f2 f3 f4 f5 f6 HX HC HBW HSH hzw hzA3 hBz hbml
      have HX := HX3; have HC := HC3; have HBW := HBW3; have HSH := HSH3; have hzw := hzB3
      clear HX3 HC3 HBW3 HSH3 hzB3
      generalize WA3.setCell ⟨bm, 6, none⟩ (.slice al (wordsV (wordO (numO (some p)))).length cl) = WB3 at *
      obtain ⟨f0, f1, f2, f3, f4, f5, f6⟩ := HF5.out.step HBW.out
      dsimp only at f0 f1 f2 f3 f4 f5 f6
      go_upto_region 20 with fail
      have HDT := Lib.hid (IsB.nil WB3)
      obtain ⟨m0, m1, m2, m3, m4, m5, m6, m7⟩ := HX.out.cells
      obtain ⟨M, hM⟩ : ∃ M : Msg, M = Msg.mk k n (numV (some p)) (0) (0) (wordV (numO (some p))) (wordsV (wordO (numO (some p)))) ([]) := ⟨_, rfl⟩
      have HPM := Lib.hid (show parseM ⟨true, true, false, false, true, true, false⟩ k n p = (M, (wordsO (wordO (numO (some p))))) from by rw [hM]; rfl)
      have HEN := Lib.hid (show Calls Try.prog 14 #[.agg #[.int .i64 k, .int .i64 n, .int .i64 (numV (some p)), .int .i64 (0), .int .i64 (0), .string ⟨(wordV (numO (some p)) : List UInt8).toArray⟩, .slice al (wordsV (wordO (numO (some p)))).length cl, .slice none 0 0]] WB3 (EncPost WB3 M) from by rw [hM]; exact henc_any (Msg.mk k n (numV (some p)) (0) (0) (wordV (numO (some p))) (wordsV (wordO (numO (some p)))) ([])) al none cl 0 WB3 HTO.out.isT HDT.out)
      have HMV := Lib.hid (show ∃ la lc da dc, .agg #[.int .i64 k, .int .i64 n, .int .i64 (numV (some p)), .int .i64 (0), .int .i64 (0), .string ⟨(wordV (numO (some p)) : List UInt8).toArray⟩, .slice al (wordsV (wordO (numO (some p)))).length cl, .slice none 0 0] = M.val (.slice la M.lst.length lc) (.slice da M.dat.length dc) ∧ (.slice la M.lst.length lc = (.slice al (wordsV (wordO (numO (some p)))).length cl : Value) ∧ M.lst = wordsV (wordO (numO (some p)))) ∧ (.slice da M.dat.length dc = (.slice none 0 0 : Value) ∧ M.dat = []) from by rw [hM]; exact ⟨al, cl, none, 0, rfl, ⟨rfl, rfl⟩, rfl, rfl⟩)
      obtain ⟨oF, hoF⟩ : ∃ o, o = (wordsO (wordO (numO (some p)))) := ⟨_, rfl⟩
      rw [← hoF] at HPM HC
      clear f0 f1 f2 f3 f4 f5 f6
      clear hM hoF
      have HDP := Lib.hid (fun h => hdecP_bad (M := M) (o := oF) HDE.out (by rw [HUU.out]; exact HPM.out) h)
      cases oF with
      | none =>
        go_upto_region 21 with (go_at_call 14; refine (enc_some HEN.out).mono ?_; rintro e WE ⟨ae, ne, ce, rfl, hOE, hbE⟩)
        have HZE := Lib.hid ((HZ5.out.step HBW.out).step hbE)
        have HBE := Lib.hid (bel_step (bel_step HB5.out HBW.out) hbE)
        have HCE := Lib.hid (HC.out.step hbE)
        have HER := Lib.hid (errc_any B bc none WE HCE.out)
        simp only [ErrV] at HER
        clear hOE hbE m0 m1 m2 m3 m4 m5 m6 m7
        have HNONE := Lib.hid (HDP.out (.inl (by first | rfl | trivial)))
        obtain ⟨c0, c1, c2, c3, c4, c5, c6, c7⟩ := HZE.out.cells
        have g0 := HZE.out.frozen 0
        have g1 := HZE.out.frozen 1
        have g2 := HZE.out.frozen 2
        have g3 := HZE.out.frozen 3
        have g4 := HZE.out.frozen 4
        have g5 := HZE.out.frozen 5
        have g6 := HZE.out.frozen 6
        have g7 := HZE.out.frozen 7
        go_wp2_with (first | (go_at_call 42; refine (HER.out).mono ?_; rintro e Wq ⟨rfl, rfl⟩) | (go_at_call 43; refine (HEQ.out).mono ?_; rintro e Wr ⟨rfl, rfl⟩))
        have HBF := Lib.hid (HBE.out.trans ((Only.sets8 WE w.heap.size (.int .i64 0) (.int .i64 0) (.int .i64 0) (.int .i64 0) (.int .i64 0) (.string ⟨#[]⟩) (.slice none 0 0) (.slice none 0 0)).below (Nat.le_refl _) HBE.out.size))
        exact bodyPost_ret (v := .tuple #[zeroMsg, .iface 43 (.int .i64 2)]) (by simp [results, Try.results20, asAddr, go_sem, zeroMsg, c0, c1, c2, c3, c4, c5, c6, c7]) rfl (HDecPost.bad HNONE.out HBF.out)
      | some rr =>
        by_cases hcm : codeM M = 0
        · have HCM := Lib.hid hcm
          go_upto_region 21 with (go_at_call 14; refine (enc_good HEN.out hcm).mono ?_; rintro e WE ⟨ae, ne, ce, rfl, hOE, hbE⟩)
          have HZE := Lib.hid ((HZ5.out.step HBW.out).step hbE)
          have HBE := Lib.hid (bel_step (bel_step HB5.out HBW.out) hbE)
          have HCE := Lib.hid (HC.out.step hbE)
          have HER := Lib.hid (errc_any B bc (some rr) WE HCE.out)
          simp only [ErrV] at HER
          have HEQ := Lib.hid (equal_any _ _ _ _ WE hOE (H.out.step HBE.out))
          by_cases heb : encM M = b
          · have HEB := Lib.hid heb
            have hbq : (encM M == b) = true := by simpa using heb
            rw [hbq] at HEQ
            have HTE := Lib.hid (HTO.out.step hbE)
            have HDB := Lib.hid (HDT.out.step hbE)
            have HG := Lib.hid (hdecP_good (M := M) (r := rr) HDE.out HOK.out (by rw [HUU.out]; exact HPM.out) HCM.out HEB.out)
            obtain ⟨n0, n1, n2, n3, n4, n5, n6, n7⟩ := (HX.out.step hbE).cells
            obtain ⟨c0, c1, c2, c3, c4, c5, c6, c7⟩ := HZE.out.cells
            have g0 := HZE.out.frozen 0
            have g1 := HZE.out.frozen 1
            have g2 := HZE.out.frozen 2
            have g3 := HZE.out.frozen 3
            have g4 := HZE.out.frozen 4
            have g5 := HZE.out.frozen 5
            have g6 := HZE.out.frozen 6
            have g7 := HZE.out.frozen 7
            clear hOE hbE m0 m1 m2 m3 m4 m5 m6 m7 hcm heb hbq
            go_wp2_with (first | (go_at_call 42; refine (HER.out).mono ?_; rintro e Wq ⟨rfl, rfl⟩) | (go_at_call 43; refine (HEQ.out).mono ?_; rintro e Wr ⟨rfl, rfl⟩))
            have hsF := Only.sets8 WE w.heap.size (.int .i64 k) (.int .i64 n) (.int .i64 (numV (some p))) (.int .i64 (0)) (.int .i64 (0)) (.string ⟨(wordV (numO (some p)) : List UInt8).toArray⟩) (.slice al (wordsV (wordO (numO (some p)))).length cl) (.slice none 0 0)
            have hBF := HBE.out.trans (hsF.below (Nat.le_refl _) HBE.out.size)
            have hTF := (OwnT.only HTE.out hsF hb0).isT
            have hDF := HDB.out.onlyN hsF HZE.out.noB
            obtain ⟨la', lc', da', dc', hv, ⟨hl1, hl2⟩, hd1, hd2⟩ := HMV.out
            refine bodyPost_ret (v := .tuple #[.agg #[.int .i64 k, .int .i64 n, .int .i64 (numV (some p)), .int .i64 (0), .int .i64 (0), .string ⟨(wordV (numO (some p)) : List UInt8).toArray⟩, .slice al (wordsV (wordO (numO (some p)))).length cl, .slice none 0 0], .nilIface]) (by simp [results, Try.results20, asAddr, go_sem, c0, c1, c2, c3, c4, c5, c6, c7]) rfl ?_
            rw [hv]
            exact HDecPost.good HG.out la' lc' da' dc' (by rw [hl1, hl2]; exact hTF) (by rw [hd1, hd2]; exact hDF) hBF
          · have hbq : (encM M == b) = false := by simpa using heb
            rw [hbq] at HEQ
            have HNB := Lib.hid heb
            clear hOE hbE m0 m1 m2 m3 m4 m5 m6 m7 hcm heb hbq
            have HNONE := Lib.hid (HDP.out (.inr (.inr HNB.out)))
            obtain ⟨c0, c1, c2, c3, c4, c5, c6, c7⟩ := HZE.out.cells
            have g0 := HZE.out.frozen 0
            have g1 := HZE.out.frozen 1
            have g2 := HZE.out.frozen 2
            have g3 := HZE.out.frozen 3
            have g4 := HZE.out.frozen 4
            have g5 := HZE.out.frozen 5
            have g6 := HZE.out.frozen 6
            have g7 := HZE.out.frozen 7
            go_wp2_with (first | (go_at_call 42; refine (HER.out).mono ?_; rintro e Wq ⟨rfl, rfl⟩) | (go_at_call 43; refine (HEQ.out).mono ?_; rintro e Wr ⟨rfl, rfl⟩))
            have HBF := Lib.hid (HBE.out.trans ((Only.sets8 WE w.heap.size (.int .i64 0) (.int .i64 0) (.int .i64 0) (.int .i64 0) (.int .i64 0) (.string ⟨#[]⟩) (.slice none 0 0) (.slice none 0 0)).below (Nat.le_refl _) HBE.out.size))
            exact bodyPost_ret (v := .tuple #[zeroMsg, .iface 43 (.int .i64 2)]) (by simp [results, Try.results20, asAddr, go_sem, zeroMsg, c0, c1, c2, c3, c4, c5, c6, c7]) rfl (HDecPost.bad HNONE.out HBF.out)
        · have HCM := Lib.hid hcm
          go_upto_region 21 with (go_at_call 14; refine (enc_bad HEN.out hcm).mono ?_; rintro e WE ⟨ae, ne, ce, rfl, hOE, hbE⟩)
          have HZE := Lib.hid ((HZ5.out.step HBW.out).step hbE)
          have HBE := Lib.hid (bel_step (bel_step HB5.out HBW.out) hbE)
          have HCE := Lib.hid (HC.out.step hbE)
          have HER := Lib.hid (errc_any B bc (some rr) WE HCE.out)
          simp only [ErrV] at HER
          clear hOE hbE m0 m1 m2 m3 m4 m5 m6 m7 hcm
          have HNONE := Lib.hid (HDP.out (.inr (.inl HCM.out)))
          obtain ⟨c0, c1, c2, c3, c4, c5, c6, c7⟩ := HZE.out.cells
          have g0 := HZE.out.frozen 0
          have g1 := HZE.out.frozen 1
          have g2 := HZE.out.frozen 2
          have g3 := HZE.out.frozen 3
          have g4 := HZE.out.frozen 4
          have g5 := HZE.out.frozen 5
          have g6 := HZE.out.frozen 6
          have g7 := HZE.out.frozen 7
          go_wp2_with (first | (go_at_call 42; refine (HER.out).mono ?_; rintro e Wq ⟨rfl, rfl⟩) | (go_at_call 43; refine (HEQ.out).mono ?_; rintro e Wr ⟨rfl, rfl⟩))
          have HBF := Lib.hid (HBE.out.trans ((Only.sets8 WE w.heap.size (.int .i64 0) (.int .i64 0) (.int .i64 0) (.int .i64 0) (.int .i64 0) (.string ⟨#[]⟩) (.slice none 0 0) (.slice none 0 0)).below (Nat.le_refl _) HBE.out.size))
          exact bodyPost_ret (v := .tuple #[zeroMsg, .iface 43 (.int .i64 2)]) (by simp [results, Try.results20, asAddr, go_sem, zeroMsg, c0, c1, c2, c3, c4, c5, c6, c7]) rfl (HDecPost.bad HNONE.out HBF.out)
    · obtain ⟨f0, f1, f2, f3, f4, f5, f6⟩ := HF5.out.step HBW.out
      dsimp only at f0 f1 f2 f3 f4 f5 f6
      go_upto_region 10 with (go_at_call 39; refine (uintc_any B bc _ _ HC.out).mono ?_; rintro e WA1 ⟨rfl, hCA, hoA⟩; have hXA := HX.out.only hoA hne; have xc := hXA.at_num; have xf := hXA.frozen 2)
      have hsA := Only.set (b := bm) (k := 2) (u := .int .i64 (numV (some p))) (w := WA1)
      have HX1 := Lib.hid (hXA.set_num (numV (some p)))
      have HC1 := Lib.hid (hCA.onlyN hsA hne2 hXA.noB)
      have hzA1 := Nat.le_trans hzw hoA.size
      have HBW1 := Lib.hid (HBW.out.trans ((hoA.below hbc hzw).trans (hsA.below hbm hzA1)))
      have hzB1 := Nat.le_trans hzA1 hsA.size
      have hBz1 := Nat.le_trans hBz (Nat.le_trans hoA.size hsA.size)
      have HSH1 := Lib.hid HSH.out.num
      clear hsA hXA hCA hoA xc xf f0 f1 f2 f3 f4 f5 f6 HX HC HBW HSH hzw hzA1 hBz
      have HX := HX1; have HC := HC1; have HBW := HBW1; have HSH := HSH1; have hzw := hzB1; have hBz := hBz1
      clear HX1 HC1 HBW1 HSH1 hzB1 hBz1
      generalize WA1.setCell ⟨bm, 2, none⟩ (.int .i64 (numV (some p))) = WB1 at *
      obtain ⟨f0, f1, f2, f3, f4, f5, f6⟩ := HF5.out.step HBW.out
      dsimp only at f0 f1 f2 f3 f4 f5 f6
      go_upto_region 12 with (go_at_call 39; refine (uintc_any B bc _ _ HC.out).mono ?_; rintro e WA2 ⟨rfl, hCA, hoA⟩; have hXA := HX.out.only hoA hne; have xc := hXA.at_tot; have xf := hXA.frozen 3)
      have hsA := Only.set (b := bm) (k := 3) (u := .int .i64 (numV (numO (some p)))) (w := WA2)
      have HX2 := Lib.hid (hXA.set_tot (numV (numO (some p))))
      have HC2 := Lib.hid (hCA.onlyN hsA hne2 hXA.noB)
      have hzA2 := Nat.le_trans hzw hoA.size
      have HBW2 := Lib.hid (HBW.out.trans ((hoA.below hbc hzw).trans (hsA.below hbm hzA2)))
      have hzB2 := Nat.le_trans hzA2 hsA.size
      have hBz2 := Nat.le_trans hBz (Nat.le_trans hoA.size hsA.size)
      have HSH2 := Lib.hid HSH.out.num
      clear hsA hXA hCA hoA xc xf f0 f1 f2 f3 f4 f5 f6 HX HC HBW HSH hzw hzA2 hBz
      have HX := HX2; have HC := HC2; have HBW := HBW2; have HSH := HSH2; have hzw := hzB2; have hBz := hBz2
      clear HX2 HC2 HBW2 HSH2 hzB2 hBz2
      generalize WA2.setCell ⟨bm, 3, none⟩ (.int .i64 (numV (numO (some p)))) = WB2 at *
      obtain ⟨f0, f1, f2, f3, f4, f5, f6⟩ := HF5.out.step HBW.out
      dsimp only at f0 f1 f2 f3 f4 f5 f6
      go_upto_region 16 with (go_at_call 40; refine (textc_any B bc _ _ HC.out HSH.out).mono ?_; rintro e WA3 ⟨rfl, hCA, hoA⟩; have hXA := HX.out.only hoA hne; have xc := hXA.at_txt; have xf := hXA.frozen 5)
      have hsA := Only.set (b := bm) (k := 5) (u := .string ⟨(wordV (numO (numO (some p)))).toArray⟩) (w := WA3)
      have HX3 := Lib.hid (hXA.set_txt (wordV (numO (numO (some p)))))
      have HC3 := Lib.hid (hCA.onlyN hsA hne2 hXA.noB)
      have hzA3 := Nat.le_trans hzw hoA.size
      have HBW3 := Lib.hid (HBW.out.trans ((hoA.below hbc hzw).trans (hsA.below hbm hzA3)))
      have hzB3 := Nat.le_trans hzA3 hsA.size
      have hBz3 := Nat.le_trans hBz (Nat.le_trans hoA.size hsA.size)
      have HSH3 := Lib.hid HSH.out.next
      clear hsA hXA hCA hoA xc xf f0 f1 f2 f3 f4 f5 f6 HX HC HBW HSH hzw hzA3 hBz
      have HX := HX3; have HC := HC3; have HBW := HBW3; have HSH := HSH3; have hzw := hzB3; have hBz := hBz3
      clear HX3 HC3 HBW3 HSH3 hzB3 hBz3
      generalize WA3.setCell ⟨bm, 5, none⟩ (.string ⟨(wordV (numO (numO (some p)))).toArray⟩) = WB3 at *
      obtain ⟨f0, f1, f2, f3, f4, f5, f6⟩ := HF5.out.step HBW.out
      dsimp only at f0 f1 f2 f3 f4 f5 f6
      go_upto_region 20 with fail
      have hb0 : w.heap.size < w.heap.size + 1 := Nat.lt_succ_self _
      have HTO := Lib.hid (OwnT.nil WB3 (w.heap.size + 1))
      have HDT := Lib.hid (IsB.nil WB3)
      obtain ⟨m0, m1, m2, m3, m4, m5, m6, m7⟩ := HX.out.cells
      obtain ⟨M, hM⟩ : ∃ M : Msg, M = Msg.mk k n (numV (some p)) (numV (numO (some p))) (0) (wordV (numO (numO (some p)))) ([]) ([]) := ⟨_, rfl⟩
      have HPM := Lib.hid (show parseM ⟨true, true, true, false, true, false, false⟩ k n p = (M, (wordO (numO (numO (some p))))) from by rw [hM]; rfl)
      have HEN := Lib.hid (show Calls Try.prog 14 #[.agg #[.int .i64 k, .int .i64 n, .int .i64 (numV (some p)), .int .i64 (numV (numO (some p))), .int .i64 (0), .string ⟨(wordV (numO (numO (some p))) : List UInt8).toArray⟩, .slice none 0 0, .slice none 0 0]] WB3 (EncPost WB3 M) from by rw [hM]; exact henc_any (Msg.mk k n (numV (some p)) (numV (numO (some p))) (0) (wordV (numO (numO (some p)))) ([]) ([])) none none 0 0 WB3 HTO.out.isT HDT.out)
      have HMV := Lib.hid (show ∃ la lc da dc, .agg #[.int .i64 k, .int .i64 n, .int .i64 (numV (some p)), .int .i64 (numV (numO (some p))), .int .i64 (0), .string ⟨(wordV (numO (numO (some p))) : List UInt8).toArray⟩, .slice none 0 0, .slice none 0 0] = M.val (.slice la M.lst.length lc) (.slice da M.dat.length dc) ∧ (.slice la M.lst.length lc = (.slice none 0 0 : Value) ∧ M.lst = []) ∧ (.slice da M.dat.length dc = (.slice none 0 0 : Value) ∧ M.dat = []) from by rw [hM]; exact ⟨none, 0, none, 0, rfl, ⟨rfl, rfl⟩, rfl, rfl⟩)
      obtain ⟨oF, hoF⟩ : ∃ o, o = (wordO (numO (numO (some p)))) := ⟨_, rfl⟩
      rw [← hoF] at HPM HC
      clear f0 f1 f2 f3 f4 f5 f6
      clear hM hoF
      have HDP := Lib.hid (fun h => hdecP_bad (M := M) (o := oF) HDE.out (by rw [HUU.out]; exact HPM.out) h)
      cases oF with
      | none =>
        go_upto_region 21 with (go_at_call 14; refine (enc_some HEN.out).mono ?_; rintro e WE ⟨ae, ne, ce, rfl, hOE, hbE⟩)
        have HZE := Lib.hid ((HZ5.out.step HBW.out).step hbE)
        have HBE := Lib.hid (bel_step (bel_step HB5.out HBW.out) hbE)
        have HCE := Lib.hid (HC.out.step hbE)
        have HER := Lib.hid (errc_any B bc none WE HCE.out)
        simp only [ErrV] at HER
        clear hOE hbE m0 m1 m2 m3 m4 m5 m6 m7
        have HNONE := Lib.hid (HDP.out (.inl (by first | rfl | trivial)))
        obtain ⟨c0, c1, c2, c3, c4, c5, c6, c7⟩ := HZE.out.cells
        have g0 := HZE.out.frozen 0
        have g1 := HZE.out.frozen 1
        have g2 := HZE.out.frozen 2
        have g3 := HZE.out.frozen 3
        have g4 := HZE.out.frozen 4
        have g5 := HZE.out.frozen 5
        have g6 := HZE.out.frozen 6
        have g7 := HZE.out.frozen 7
        go_wp2_with (first | (go_at_call 42; refine (HER.out).mono ?_; rintro e Wq ⟨rfl, rfl⟩) | (go_at_call 43; refine (HEQ.out).mono ?_; rintro e Wr ⟨rfl, rfl⟩))
        have HBF := Lib.hid (HBE.out.trans ((Only.sets8 WE w.heap.size (.int .i64 0) (.int .i64 0) (.int .i64 0) (.int .i64 0) (.int .i64 0) (.string ⟨#[]⟩) (.slice none 0 0) (.slice none 0 0)).below (Nat.le_refl _) HBE.out.size))
        exact bodyPost_ret (v := .tuple #[zeroMsg, .iface 43 (.int .i64 2)]) (by simp [results, Try.results20, asAddr, go_sem, zeroMsg, c0, c1, c2, c3, c4, c5, c6, c7]) rfl (HDecPost.bad HNONE.out HBF.out)
      | some rr =>
        by_cases hcm : codeM M = 0
        · have HCM := Lib.hid hcm
          go_upto_region 21 with (go_at_call 14; refine (enc_good HEN.out hcm).mono ?_; rintro e WE ⟨ae, ne, ce, rfl, hOE, hbE⟩)
          have HZE := Lib.hid ((HZ5.out.step HBW.out).step hbE)
          have HBE := Lib.hid (bel_step (bel_step HB5.out HBW.out) hbE)
          have HCE := Lib.hid (HC.out.step hbE)
          have HER := Lib.hid (errc_any B bc (some rr) WE HCE.out)
          simp only [ErrV] at HER
          have HEQ := Lib.hid (equal_any _ _ _ _ WE hOE (H.out.step HBE.out))
          by_cases heb : encM M = b
          · have HEB := Lib.hid heb
            have hbq : (encM M == b) = true := by simpa using heb
            rw [hbq] at HEQ
            have HTE := Lib.hid (HTO.out.step hbE)
            have HDB := Lib.hid (HDT.out.step hbE)
            have HG := Lib.hid (hdecP_good (M := M) (r := rr) HDE.out HOK.out (by rw [HUU.out]; exact HPM.out) HCM.out HEB.out)
            obtain ⟨n0, n1, n2, n3, n4, n5, n6, n7⟩ := (HX.out.step hbE).cells
            obtain ⟨c0, c1, c2, c3, c4, c5, c6, c7⟩ := HZE.out.cells
            have g0 := HZE.out.frozen 0
            have g1 := HZE.out.frozen 1
            have g2 := HZE.out.frozen 2
            have g3 := HZE.out.frozen 3
            have g4 := HZE.out.frozen 4
            have g5 := HZE.out.frozen 5
            have g6 := HZE.out.frozen 6
            have g7 := HZE.out.frozen 7
            clear hOE hbE m0 m1 m2 m3 m4 m5 m6 m7 hcm heb hbq
            go_wp2_with (first | (go_at_call 42; refine (HER.out).mono ?_; rintro e Wq ⟨rfl, rfl⟩) | (go_at_call 43; refine (HEQ.out).mono ?_; rintro e Wr ⟨rfl, rfl⟩))
            have hsF := Only.sets8 WE w.heap.size (.int .i64 k) (.int .i64 n) (.int .i64 (numV (some p))) (.int .i64 (numV (numO (some p)))) (.int .i64 (0)) (.string ⟨(wordV (numO (numO (some p))) : List UInt8).toArray⟩) (.slice none 0 0) (.slice none 0 0)
            have hBF := HBE.out.trans (hsF.below (Nat.le_refl _) HBE.out.size)
            have hTF := (OwnT.only HTE.out hsF hb0).isT
            have hDF := HDB.out.onlyN hsF HZE.out.noB
            obtain ⟨la', lc', da', dc', hv, ⟨hl1, hl2⟩, hd1, hd2⟩ := HMV.out
            refine bodyPost_ret (v := .tuple #[.agg #[.int .i64 k, .int .i64 n, .int .i64 (numV (some p)), .int .i64 (numV (numO (some p))), .int .i64 (0), .string ⟨(wordV (numO (numO (some p))) : List UInt8).toArray⟩, .slice none 0 0, .slice none 0 0], .nilIface]) (by simp [results, Try.results20, asAddr, go_sem, c0, c1, c2, c3, c4, c5, c6, c7]) rfl ?_
            rw [hv]
            exact HDecPost.good HG.out la' lc' da' dc' (by rw [hl1, hl2]; exact hTF) (by rw [hd1, hd2]; exact hDF) hBF
          · have hbq : (encM M == b) = false := by simpa using heb
            rw [hbq] at HEQ
            have HNB := Lib.hid heb
            clear hOE hbE m0 m1 m2 m3 m4 m5 m6 m7 hcm heb hbq
            have HNONE := Lib.hid (HDP.out (.inr (.inr HNB.out)))
            obtain ⟨c0, c1, c2, c3, c4, c5, c6, c7⟩ := HZE.out.cells
            have g0 := HZE.out.frozen 0
            have g1 := HZE.out.frozen 1
            have g2 := HZE.out.frozen 2
            have g3 := HZE.out.frozen 3
            have g4 := HZE.out.frozen 4
            have g5 := HZE.out.frozen 5
            have g6 := HZE.out.frozen 6
            have g7 := HZE.out.frozen 7
            go_wp2_with (first | (go_at_call 42; refine (HER.out).mono ?_; rintro e Wq ⟨rfl, rfl⟩) | (go_at_call 43; refine (HEQ.out).mono ?_; rintro e Wr ⟨rfl, rfl⟩))
            have HBF := Lib.hid (HBE.out.trans ((Only.sets8 WE w.heap.size (.int .i64 0) (.int .i64 0) (.int .i64 0) (.int .i64 0) (.int .i64 0) (.string ⟨#[]⟩) (.slice none 0 0) (.slice none 0 0)).below (Nat.le_refl _) HBE.out.size))
            exact bodyPost_ret (v := .tuple #[zeroMsg, .iface 43 (.int .i64 2)]) (by simp [results, Try.results20, asAddr, go_sem, zeroMsg, c0, c1, c2, c3, c4, c5, c6, c7]) rfl (HDecPost.bad HNONE.out HBF.out)
        · have HCM := Lib.hid hcm
          go_upto_region 21 with (go_at_call 14; refine (enc_bad HEN.out hcm).mono ?_; rintro e WE ⟨ae, ne, ce, rfl, hOE, hbE⟩)
          have HZE := Lib.hid ((HZ5.out.step HBW.out).step hbE)
          have HBE := Lib.hid (bel_step (bel_step HB5.out HBW.out) hbE)
          have HCE := Lib.hid (HC.out.step hbE)
          have HER := Lib.hid (errc_any B bc (some rr) WE HCE.out)
          simp only [ErrV] at HER
          clear hOE hbE m0 m1 m2 m3 m4 m5 m6 m7 hcm
          have HNONE := Lib.hid (HDP.out (.inr (.inl HCM.out)))
          obtain ⟨c0, c1, c2, c3, c4, c5, c6, c7⟩ := HZE.out.cells
          have g0 := HZE.out.frozen 0
          have g1 := HZE.out.frozen 1
          have g2 := HZE.out.frozen 2
          have g3 := HZE.out.frozen 3
          have g4 := HZE.out.frozen 4
          have g5 := HZE.out.frozen 5
          have g6 := HZE.out.frozen 6
          have g7 := HZE.out.frozen 7
          go_wp2_with (first | (go_at_call 42; refine (HER.out).mono ?_; rintro e Wq ⟨rfl, rfl⟩) | (go_at_call 43; refine (HEQ.out).mono ?_; rintro e Wr ⟨rfl, rfl⟩))
          have HBF := Lib.hid (HBE.out.trans ((Only.sets8 WE w.heap.size (.int .i64 0) (.int .i64 0) (.int .i64 0) (.int .i64 0) (.int .i64 0) (.string ⟨#[]⟩) (.slice none 0 0) (.slice none 0 0)).below (Nat.le_refl _) HBE.out.size))
          exact bodyPost_ret (v := .tuple #[zeroMsg, .iface 43 (.int .i64 2)]) (by simp [results, Try.results20, asAddr, go_sem, zeroMsg, c0, c1, c2, c3, c4, c5, c6, c7]) rfl (HDecPost.bad HNONE.out HBF.out)
    · obtain ⟨f0, f1, f2, f3, f4, f5, f6⟩ := HF5.out.step HBW.out
      dsimp only at f0 f1 f2 f3 f4 f5 f6
      go_upto_region 14 with (go_at_call 39; refine (uintc_any B bc _ _ HC.out).mono ?_; rintro e WA1 ⟨rfl, hCA, hoA⟩; have hXA := HX.out.only hoA hne; have xc := hXA.at_off; have xf := hXA.frozen 4)
      have hsA := Only.set (b := bm) (k := 4) (u := .int .i64 (numV (some p))) (w := WA1)
      have HX1 := Lib.hid (hXA.set_off (numV (some p)))
      have HC1 := Lib.hid (hCA.onlyN hsA hne2 hXA.noB)
      have hzA1 := Nat.le_trans hzw hoA.size
      have HBW1 := Lib.hid (HBW.out.trans ((hoA.below hbc hzw).trans (hsA.below hbm hzA1)))
      have hzB1 := Nat.le_trans hzA1 hsA.size
      have hBz1 := Nat.le_trans hBz (Nat.le_trans hoA.size hsA.size)
      have HSH1 := Lib.hid HSH.out.num
      clear hsA hXA hCA hoA xc xf f0 f1 f2 f3 f4 f5 f6 HX HC HBW HSH hzw hzA1 hBz
      have HX := HX1; have HC := HC1; have HBW := HBW1; have HSH := HSH1; have hzw := hzB1; have hBz := hBz1
      clear HX1 HC1 HBW1 HSH1 hzB1 hBz1
      generalize WA1.setCell ⟨bm, 4, none⟩ (.int .i64 (numV (some p))) = WB1 at *
      obtain ⟨f0, f1, f2, f3, f4, f5, f6⟩ := HF5.out.step HBW.out
      dsimp only at f0 f1 f2 f3 f4 f5 f6
      have HWL := Lib.hid (wordV_short HSH.out)
      go_upto_region 20 with (go_at_call 40; refine (textc_any B bc _ _ HC.out HSH.out).mono ?_; rintro e WA2 ⟨rfl, hCA, hoA⟩; have hXA := HX.out.only hoA hne; obtain ⟨cd, WC, hrun, hIB, hbC, hzC⟩ := conv_run (wordV (numO (some p))) WA2 HWL.out; have hXC := hXA.step hbC; have xc := hXC.at_dat; have xf := hXC.frozen 7)
      have hsA := Only.set (b := bm) (k := 7) (u := .slice (some ⟨WA2.heap.size, 0, none⟩) (wordV (numO (some p))).length cd) (w := WC)
      have HX2 := Lib.hid (hXC.set_dat (.slice (some ⟨WA2.heap.size, 0, none⟩) (wordV (numO (some p))).length cd))
      have HC2 := Lib.hid ((hCA.step hbC).onlyN hsA hne2 hXC.noB)
      have HDT := Lib.hid (hIB.onlyN hsA hXC.noB)
      have hzA2 := Nat.le_trans hzw (Nat.le_trans hoA.size hbC.size)
      have HBW2 := Lib.hid (HBW.out.trans ((hoA.below hbc hzw).trans ((hbC.mono (Nat.le_trans hzw hoA.size)).trans (hsA.below hbm hzA2))))
      have hzB2 := Nat.le_trans hzA2 hsA.size
      clear hsA hXA hXC hCA hoA hIB hbC hzC hrun xc xf f0 f1 f2 f3 f4 f5 f6 HX HC HBW HSH hzw hzA2 hBz
      have HX := HX2; have HC := HC2; have HBW := HBW2; have hzw := hzB2
      clear HX2 HC2 HBW2 hzB2
      generalize WC.setCell ⟨bm, 7, none⟩ (.slice (some ⟨WA2.heap.size, 0, none⟩) (wordV (numO (some p))).length cd) = WB2 at *
      have hb0 : w.heap.size < w.heap.size + 1 := Nat.lt_succ_self _
      have HTO := Lib.hid (OwnT.nil WB2 (w.heap.size + 1))
      obtain ⟨m0, m1, m2, m3, m4, m5, m6, m7⟩ := HX.out.cells
      obtain ⟨M, hM⟩ : ∃ M : Msg, M = Msg.mk k n (0) (0) (numV (some p)) ([]) ([]) (wordV (numO (some p))) := ⟨_, rfl⟩
      have HPM := Lib.hid (show parseM ⟨true, false, false, true, false, false, true⟩ k n p = (M, (wordO (numO (some p)))) from by rw [hM]; rfl)
      have HEN := Lib.hid (show Calls Try.prog 14 #[.agg #[.int .i64 k, .int .i64 n, .int .i64 (0), .int .i64 (0), .int .i64 (numV (some p)), .string ⟨([] : List UInt8).toArray⟩, .slice none 0 0, .slice (some ⟨WA2.heap.size, 0, none⟩) (wordV (numO (some p))).length cd]] WB2 (EncPost WB2 M) from by rw [hM]; exact henc_any (Msg.mk k n (0) (0) (numV (some p)) ([]) ([]) (wordV (numO (some p)))) none (some ⟨WA2.heap.size, 0, none⟩) 0 cd WB2 HTO.out.isT HDT.out)
      have HMV := Lib.hid (show ∃ la lc da dc, .agg #[.int .i64 k, .int .i64 n, .int .i64 (0), .int .i64 (0), .int .i64 (numV (some p)), .string ⟨([] : List UInt8).toArray⟩, .slice none 0 0, .slice (some ⟨WA2.heap.size, 0, none⟩) (wordV (numO (some p))).length cd] = M.val (.slice la M.lst.length lc) (.slice da M.dat.length dc) ∧ (.slice la M.lst.length lc = (.slice none 0 0 : Value) ∧ M.lst = []) ∧ (.slice da M.dat.length dc = (.slice (some ⟨WA2.heap.size, 0, none⟩) (wordV (numO (some p))).length cd : Value) ∧ M.dat = wordV (numO (some p))) from by rw [hM]; exact ⟨none, 0, (some ⟨WA2.heap.size, 0, none⟩), cd, rfl, ⟨rfl, rfl⟩, rfl, rfl⟩)
      obtain ⟨oF, hoF⟩ : ∃ o, o = (wordO (numO (some p))) := ⟨_, rfl⟩
      rw [← hoF] at HPM HC
      clear hM hoF
      have HDP := Lib.hid (fun h => hdecP_bad (M := M) (o := oF) HDE.out (by rw [HUU.out]; exact HPM.out) h)
      cases oF with
      | none =>
        go_upto_region 21 with (go_at_call 14; refine (enc_some HEN.out).mono ?_; rintro e WE ⟨ae, ne, ce, rfl, hOE, hbE⟩)
        have HZE := Lib.hid ((HZ5.out.step HBW.out).step hbE)
        have HBE := Lib.hid (bel_step (bel_step HB5.out HBW.out) hbE)
        have HCE := Lib.hid (HC.out.step hbE)
        have HER := Lib.hid (errc_any B bc none WE HCE.out)
        simp only [ErrV] at HER
        clear hOE hbE m0 m1 m2 m3 m4 m5 m6 m7
        have HNONE := Lib.hid (HDP.out (.inl (by first | rfl | trivial)))
        obtain ⟨c0, c1, c2, c3, c4, c5, c6, c7⟩ := HZE.out.cells
        have g0 := HZE.out.frozen 0
        have g1 := HZE.out.frozen 1
        have g2 := HZE.out.frozen 2
        have g3 := HZE.out.frozen 3
        have g4 := HZE.out.frozen 4
        have g5 := HZE.out.frozen 5
        have g6 := HZE.out.frozen 6
        have g7 := HZE.out.frozen 7
        go_wp2_with (first | (go_at_call 42; refine (HER.out).mono ?_; rintro e Wq ⟨rfl, rfl⟩) | (go_at_call 43; refine (HEQ.out).mono ?_; rintro e Wr ⟨rfl, rfl⟩))
        have HBF := Lib.hid (HBE.out.trans ((Only.sets8 WE w.heap.size (.int .i64 0) (.int .i64 0) (.int .i64 0) (.int .i64 0) (.int .i64 0) (.string ⟨#[]⟩) (.slice none 0 0) (.slice none 0 0)).below (Nat.le_refl _) HBE.out.size))
        exact bodyPost_ret (v := .tuple #[zeroMsg, .iface 43 (.int .i64 2)]) (by simp [results, Try.results20, asAddr, go_sem, zeroMsg, c0, c1, c2, c3, c4, c5, c6, c7]) rfl (HDecPost.bad HNONE.out HBF.out)
      | some rr =>
        by_cases hcm : codeM M = 0
        · have HCM := Lib.hid hcm
          go_upto_region 21 with (go_at_call 14; refine (enc_good HEN.out hcm).mono ?_; rintro e WE ⟨ae, ne, ce, rfl, hOE, hbE⟩)
          have HZE := Lib.hid ((HZ5.out.step HBW.out).step hbE)
          have HBE := Lib.hid (bel_step (bel_step HB5.out HBW.out) hbE)
          have HCE := Lib.hid (HC.out.step hbE)
          have HER := Lib.hid (errc_any B bc (some rr) WE HCE.out)
          simp only [ErrV] at HER
          have HEQ := Lib.hid (equal_any _ _ _ _ WE hOE (H.out.step HBE.out))
          by_cases heb : encM M = b
          · have HEB := Lib.hid heb
            have hbq : (encM M == b) = true := by simpa using heb
            rw [hbq] at HEQ
            have HTE := Lib.hid (HTO.out.step hbE)
            have HDB := Lib.hid (HDT.out.step hbE)
            have HG := Lib.hid (hdecP_good (M := M) (r := rr) HDE.out HOK.out (by rw [HUU.out]; exact HPM.out) HCM.out HEB.out)
            obtain ⟨n0, n1, n2, n3, n4, n5, n6, n7⟩ := (HX.out.step hbE).cells
            obtain ⟨c0, c1, c2, c3, c4, c5, c6, c7⟩ := HZE.out.cells
            have g0 := HZE.out.frozen 0
            have g1 := HZE.out.frozen 1
            have g2 := HZE.out.frozen 2
            have g3 := HZE.out.frozen 3
            have g4 := HZE.out.frozen 4
            have g5 := HZE.out.frozen 5
            have g6 := HZE.out.frozen 6
            have g7 := HZE.out.frozen 7
            clear hOE hbE m0 m1 m2 m3 m4 m5 m6 m7 hcm heb hbq
            go_wp2_with (first | (go_at_call 42; refine (HER.out).mono ?_; rintro e Wq ⟨rfl, rfl⟩) | (go_at_call 43; refine (HEQ.out).mono ?_; rintro e Wr ⟨rfl, rfl⟩))
            have hsF := Only.sets8 WE w.heap.size (.int .i64 k) (.int .i64 n) (.int .i64 (0)) (.int .i64 (0)) (.int .i64 (numV (some p))) (.string ⟨([] : List UInt8).toArray⟩) (.slice none 0 0) (.slice (some ⟨WA2.heap.size, 0, none⟩) (wordV (numO (some p))).length cd)
            have hBF := HBE.out.trans (hsF.below (Nat.le_refl _) HBE.out.size)
            have hTF := (OwnT.only HTE.out hsF hb0).isT
            have hDF := HDB.out.onlyN hsF HZE.out.noB
            obtain ⟨la', lc', da', dc', hv, ⟨hl1, hl2⟩, hd1, hd2⟩ := HMV.out
            refine bodyPost_ret (v := .tuple #[.agg #[.int .i64 k, .int .i64 n, .int .i64 (0), .int .i64 (0), .int .i64 (numV (some p)), .string ⟨([] : List UInt8).toArray⟩, .slice none 0 0, .slice (some ⟨WA2.heap.size, 0, none⟩) (wordV (numO (some p))).length cd], .nilIface]) (by simp [results, Try.results20, asAddr, go_sem, c0, c1, c2, c3, c4, c5, c6, c7]) rfl ?_
            rw [hv]
            exact HDecPost.good HG.out la' lc' da' dc' (by rw [hl1, hl2]; exact hTF) (by rw [hd1, hd2]; exact hDF) hBF
          · have hbq : (encM M == b) = false := by simpa using heb
            rw [hbq] at HEQ
            have HNB := Lib.hid heb
            clear hOE hbE m0 m1 m2 m3 m4 m5 m6 m7 hcm heb hbq
            have HNONE := Lib.hid (HDP.out (.inr (.inr HNB.out)))
            obtain ⟨c0, c1, c2, c3, c4, c5, c6, c7⟩ := HZE.out.cells
            have g0 := HZE.out.frozen 0
            have g1 := HZE.out.frozen 1
            have g2 := HZE.out.frozen 2
            have g3 := HZE.out.frozen 3
            have g4 := HZE.out.frozen 4
            have g5 := HZE.out.frozen 5
            have g6 := HZE.out.frozen 6
            have g7 := HZE.out.frozen 7
            go_wp2_with (first | (go_at_call 42; refine (HER.out).mono ?_; rintro e Wq ⟨rfl, rfl⟩) | (go_at_call 43; refine (HEQ.out).mono ?_; rintro e Wr ⟨rfl, rfl⟩))
            have HBF := Lib.hid (HBE.out.trans ((Only.sets8 WE w.heap.size (.int .i64 0) (.int .i64 0) (.int .i64 0) (.int .i64 0) (.int .i64 0) (.string ⟨#[]⟩) (.slice none 0 0) (.slice none 0 0)).below (Nat.le_refl _) HBE.out.size))
            exact bodyPost_ret (v := .tuple #[zeroMsg, .iface 43 (.int .i64 2)]) (by simp [results, Try.results20, asAddr, go_sem, zeroMsg, c0, c1, c2, c3, c4, c5, c6, c7]) rfl (HDecPost.bad HNONE.out HBF.out)
        · have HCM := Lib.hid hcm
          go_upto_region 21 with (go_at_call 14; refine (enc_bad HEN.out hcm).mono ?_; rintro e WE ⟨ae, ne, ce, rfl, hOE, hbE⟩)
          have HZE := Lib.hid ((HZ5.out.step HBW.out).step hbE)
          have HBE := Lib.hid (bel_step (bel_step HB5.out HBW.out) hbE)
          have HCE := Lib.hid (HC.out.step hbE)
          have HER := Lib.hid (errc_any B bc (some rr) WE HCE.out)
          simp only [ErrV] at HER
          clear hOE hbE m0 m1 m2 m3 m4 m5 m6 m7 hcm
          have HNONE := Lib.hid (HDP.out (.inr (.inl HCM.out)))
          obtain ⟨c0, c1, c2, c3, c4, c5, c6, c7⟩ := HZE.out.cells
          have g0 := HZE.out.frozen 0
          have g1 := HZE.out.frozen 1
          have g2 := HZE.out.frozen 2
          have g3 := HZE.out.frozen 3
          have g4 := HZE.out.frozen 4
          have g5 := HZE.out.frozen 5
          have g6 := HZE.out.frozen 6
          have g7 := HZE.out.frozen 7
          go_wp2_with (first | (go_at_call 42; refine (HER.out).mono ?_; rintro e Wq ⟨rfl, rfl⟩) | (go_at_call 43; refine (HEQ.out).mono ?_; rintro e Wr ⟨rfl, rfl⟩))
          have HBF := Lib.hid (HBE.out.trans ((Only.sets8 WE w.heap.size (.int .i64 0) (.int .i64 0) (.int .i64 0) (.int .i64 0) (.int .i64 0) (.string ⟨#[]⟩) (.slice none 0 0) (.slice none 0 0)).below (Nat.le_refl _) HBE.out.size))
          exact bodyPost_ret (v := .tuple #[zeroMsg, .iface 43 (.int .i64 2)]) (by simp [results, Try.results20, asAddr, go_sem, zeroMsg, c0, c1, c2, c3, c4, c5, c6, c7]) rfl (HDecPost.bad HNONE.out HBF.out)
    · obtain ⟨f0, f1, f2, f3, f4, f5, f6⟩ := HF5.out.step HBW.out
      dsimp only at f0 f1 f2 f3 f4 f5 f6
      go_upto_region 20 with fail
      have hb0 : w.heap.size < w.heap.size + 1 := Nat.lt_succ_self _
      have HTO := Lib.hid (OwnT.nil wc (w.heap.size + 1))
      have HDT := Lib.hid (IsB.nil wc)
      obtain ⟨m0, m1, m2, m3, m4, m5, m6, m7⟩ := HX.out.cells
      obtain ⟨M, hM⟩ : ∃ M : Msg, M = Msg.mk k n (0) (0) (0) ([]) ([]) ([]) := ⟨_, rfl⟩
      have HPM := Lib.hid (show parseM ⟨true, false, false, false, false, false, false⟩ k n p = (M, (some p)) from by rw [hM]; rfl)
      have HEN := Lib.hid (show Calls Try.prog 14 #[.agg #[.int .i64 k, .int .i64 n, .int .i64 (0), .int .i64 (0), .int .i64 (0), .string ⟨([] : List UInt8).toArray⟩, .slice none 0 0, .slice none 0 0]] wc (EncPost wc M) from by rw [hM]; exact henc_any (Msg.mk k n (0) (0) (0) ([]) ([]) ([])) none none 0 0 wc HTO.out.isT HDT.out)
      have HMV := Lib.hid (show ∃ la lc da dc, .agg #[.int .i64 k, .int .i64 n, .int .i64 (0), .int .i64 (0), .int .i64 (0), .string ⟨([] : List UInt8).toArray⟩, .slice none 0 0, .slice none 0 0] = M.val (.slice la M.lst.length lc) (.slice da M.dat.length dc) ∧ (.slice la M.lst.length lc = (.slice none 0 0 : Value) ∧ M.lst = []) ∧ (.slice da M.dat.length dc = (.slice none 0 0 : Value) ∧ M.dat = []) from by rw [hM]; exact ⟨none, 0, none, 0, rfl, ⟨rfl, rfl⟩, rfl, rfl⟩)
      obtain ⟨oF, hoF⟩ : ∃ o, o = (some p) := ⟨_, rfl⟩
      rw [← hoF] at HPM HC
      clear f0 f1 f2 f3 f4 f5 f6
      clear hM hoF
      have HDP := Lib.hid (fun h => hdecP_bad (M := M) (o := oF) HDE.out (by rw [HUU.out]; exact HPM.out) h)
      cases oF with
      | none =>
        go_upto_region 21 with (go_at_call 14; refine (enc_some HEN.out).mono ?_; rintro e WE ⟨ae, ne, ce, rfl, hOE, hbE⟩)
        have HZE := Lib.hid ((HZ5.out.step HBW.out).step hbE)
        have HBE := Lib.hid (bel_step (bel_step HB5.out HBW.out) hbE)
        have HCE := Lib.hid (HC.out.step hbE)
        have HER := Lib.hid (errc_any B bc none WE HCE.out)
        simp only [ErrV] at HER
        clear hOE hbE m0 m1 m2 m3 m4 m5 m6 m7
        have HNONE := Lib.hid (HDP.out (.inl (by first | rfl | trivial)))
        obtain ⟨c0, c1, c2, c3, c4, c5, c6, c7⟩ := HZE.out.cells
        have g0 := HZE.out.frozen 0
        have g1 := HZE.out.frozen 1
        have g2 := HZE.out.frozen 2
        have g3 := HZE.out.frozen 3
        have g4 := HZE.out.frozen 4
        have g5 := HZE.out.frozen 5
        have g6 := HZE.out.frozen 6
        have g7 := HZE.out.frozen 7
        go_wp2_with (first | (go_at_call 42; refine (HER.out).mono ?_; rintro e Wq ⟨rfl, rfl⟩) | (go_at_call 43; refine (HEQ.out).mono ?_; rintro e Wr ⟨rfl, rfl⟩))
        have HBF := Lib.hid (HBE.out.trans ((Only.sets8 WE w.heap.size (.int .i64 0) (.int .i64 0) (.int .i64 0) (.int .i64 0) (.int .i64 0) (.string ⟨#[]⟩) (.slice none 0 0) (.slice none 0 0)).below (Nat.le_refl _) HBE.out.size))
        exact bodyPost_ret (v := .tuple #[zeroMsg, .iface 43 (.int .i64 2)]) (by simp [results, Try.results20, asAddr, go_sem, zeroMsg, c0, c1, c2, c3, c4, c5, c6, c7]) rfl (HDecPost.bad HNONE.out HBF.out)
      | some rr =>
        by_cases hcm : codeM M = 0
        · have HCM := Lib.hid hcm
          go_upto_region 21 with (go_at_call 14; refine (enc_good HEN.out hcm).mono ?_; rintro e WE ⟨ae, ne, ce, rfl, hOE, hbE⟩)
          have HZE := Lib.hid ((HZ5.out.step HBW.out).step hbE)
          have HBE := Lib.hid (bel_step (bel_step HB5.out HBW.out) hbE)
          have HCE := Lib.hid (HC.out.step hbE)
          have HER := Lib.hid (errc_any B bc (some rr) WE HCE.out)
          simp only [ErrV] at HER
          have HEQ := Lib.hid (equal_any _ _ _ _ WE hOE (H.out.step HBE.out))
          by_cases heb : encM M = b
          · have HEB := Lib.hid heb
            have hbq : (encM M == b) = true := by simpa using heb
            rw [hbq] at HEQ
            have HTE := Lib.hid (HTO.out.step hbE)
            have HDB := Lib.hid (HDT.out.step hbE)
            have HG := Lib.hid (hdecP_good (M := M) (r := rr) HDE.out HOK.out (by rw [HUU.out]; exact HPM.out) HCM.out HEB.out)
            obtain ⟨n0, n1, n2, n3, n4, n5, n6, n7⟩ := (HX.out.step hbE).cells
            obtain ⟨c0, c1, c2, c3, c4, c5, c6, c7⟩ := HZE.out.cells
            have g0 := HZE.out.frozen 0
            have g1 := HZE.out.frozen 1
            have g2 := HZE.out.frozen 2
            have g3 := HZE.out.frozen 3
            have g4 := HZE.out.frozen 4
            have g5 := HZE.out.frozen 5
            have g6 := HZE.out.frozen 6
            have g7 := HZE.out.frozen 7
            clear hOE hbE m0 m1 m2 m3 m4 m5 m6 m7 hcm heb hbq
            go_wp2_with (first | (go_at_call 42; refine (HER.out).mono ?_; rintro e Wq ⟨rfl, rfl⟩) | (go_at_call 43; refine (HEQ.out).mono ?_; rintro e Wr ⟨rfl, rfl⟩))
            have hsF := Only.sets8 WE w.heap.size (.int .i64 k) (.int .i64 n) (.int .i64 (0)) (.int .i64 (0)) (.int .i64 (0)) (.string ⟨([] : List UInt8).toArray⟩) (.slice none 0 0) (.slice none 0 0)
            have hBF := HBE.out.trans (hsF.below (Nat.le_refl _) HBE.out.size)
            have hTF := (OwnT.only HTE.out hsF hb0).isT
            have hDF := HDB.out.onlyN hsF HZE.out.noB
            obtain ⟨la', lc', da', dc', hv, ⟨hl1, hl2⟩, hd1, hd2⟩ := HMV.out
            refine bodyPost_ret (v := .tuple #[.agg #[.int .i64 k, .int .i64 n, .int .i64 (0), .int .i64 (0), .int .i64 (0), .string ⟨([] : List UInt8).toArray⟩, .slice none 0 0, .slice none 0 0], .nilIface]) (by simp [results, Try.results20, asAddr, go_sem, c0, c1, c2, c3, c4, c5, c6, c7]) rfl ?_
            rw [hv]
            exact HDecPost.good HG.out la' lc' da' dc' (by rw [hl1, hl2]; exact hTF) (by rw [hd1, hd2]; exact hDF) hBF
          · have hbq : (encM M == b) = false := by simpa using heb
            rw [hbq] at HEQ
            have HNB := Lib.hid heb
            clear hOE hbE m0 m1 m2 m3 m4 m5 m6 m7 hcm heb hbq
            have HNONE := Lib.hid (HDP.out (.inr (.inr HNB.out)))
            obtain ⟨c0, c1, c2, c3, c4, c5, c6, c7⟩ := HZE.out.cells
            have g0 := HZE.out.frozen 0
            have g1 := HZE.out.frozen 1
            have g2 := HZE.out.frozen 2
            have g3 := HZE.out.frozen 3
            have g4 := HZE.out.frozen 4
            have g5 := HZE.out.frozen 5
            have g6 := HZE.out.frozen 6
            have g7 := HZE.out.frozen 7
            go_wp2_with (first | (go_at_call 42; refine (HER.out).mono ?_; rintro e Wq ⟨rfl, rfl⟩) | (go_at_call 43; refine (HEQ.out).mono ?_; rintro e Wr ⟨rfl, rfl⟩))
            have HBF := Lib.hid (HBE.out.trans ((Only.sets8 WE w.heap.size (.int .i64 0) (.int .i64 0) (.int .i64 0) (.int .i64 0) (.int .i64 0) (.string ⟨#[]⟩) (.slice none 0 0) (.slice none 0 0)).below (Nat.le_refl _) HBE.out.size))
            exact bodyPost_ret (v := .tuple #[zeroMsg, .iface 43 (.int .i64 2)]) (by simp [results, Try.results20, asAddr, go_sem, zeroMsg, c0, c1, c2, c3, c4, c5, c6, c7]) rfl (HDecPost.bad HNONE.out HBF.out)
        · have HCM := Lib.hid hcm
          go_upto_region 21 with (go_at_call 14; refine (enc_bad HEN.out hcm).mono ?_; rintro e WE ⟨ae, ne, ce, rfl, hOE, hbE⟩)
          have HZE := Lib.hid ((HZ5.out.step HBW.out).step hbE)
          have HBE := Lib.hid (bel_step (bel_step HB5.out HBW.out) hbE)
          have HCE := Lib.hid (HC.out.step hbE)
          have HER := Lib.hid (errc_any B bc (some rr) WE HCE.out)
          simp only [ErrV] at HER
          clear hOE hbE m0 m1 m2 m3 m4 m5 m6 m7 hcm
          have HNONE := Lib.hid (HDP.out (.inr (.inl HCM.out)))
          obtain ⟨c0, c1, c2, c3, c4, c5, c6, c7⟩ := HZE.out.cells
          have g0 := HZE.out.frozen 0
          have g1 := HZE.out.frozen 1
          have g2 := HZE.out.frozen 2
          have g3 := HZE.out.frozen 3
          have g4 := HZE.out.frozen 4
          have g5 := HZE.out.frozen 5
          have g6 := HZE.out.frozen 6
          have g7 := HZE.out.frozen 7
          go_wp2_with (first | (go_at_call 42; refine (HER.out).mono ?_; rintro e Wq ⟨rfl, rfl⟩) | (go_at_call 43; refine (HEQ.out).mono ?_; rintro e Wr ⟨rfl, rfl⟩))
          have HBF := Lib.hid (HBE.out.trans ((Only.sets8 WE w.heap.size (.int .i64 0) (.int .i64 0) (.int .i64 0) (.int .i64 0) (.int .i64 0) (.string ⟨#[]⟩) (.slice none 0 0) (.slice none 0 0)).below (Nat.le_refl _) HBE.out.size))
          exact bodyPost_ret (v := .tuple #[zeroMsg, .iface 43 (.int .i64 2)]) (by simp [results, Try.results20, asAddr, go_sem, zeroMsg, c0, c1, c2, c3, c4, c5, c6, c7]) rfl (HDecPost.bad HNONE.out HBF.out)
    · obtain ⟨f0, f1, f2, f3, f4, f5, f6⟩ := HF5.out.step HBW.out
      dsimp only at f0 f1 f2 f3 f4 f5 f6
      go_upto_region 10 with (go_at_call 39; refine (uintc_any B bc _ _ HC.out).mono ?_; rintro e WA1 ⟨rfl, hCA, hoA⟩; have hXA := HX.out.only hoA hne; have xc := hXA.at_num; have xf := hXA.frozen 2)
      have hsA := Only.set (b := bm) (k := 2) (u := .int .i64 (numV (some p))) (w := WA1)
      have HX1 := Lib.hid (hXA.set_num (numV (some p)))
      have HC1 := Lib.hid (hCA.onlyN hsA hne2 hXA.noB)
      have hzA1 := Nat.le_trans hzw hoA.size
      have HBW1 := Lib.hid (HBW.out.trans ((hoA.below hbc hzw).trans (hsA.below hbm hzA1)))
      have hzB1 := Nat.le_trans hzA1 hsA.size
      have hBz1 := Nat.le_trans hBz (Nat.le_trans hoA.size hsA.size)
      have HSH1 := Lib.hid HSH.out.num
      clear hsA hXA hCA hoA xc xf f0 f1 f2 f3 f4 f5 f6 HX HC HBW HSH hzw hzA1 hBz
      have HX := HX1; have HC := HC1; have HBW := HBW1; have HSH := HSH1; have hzw := hzB1; have hBz := hBz1
      clear HX1 HC1 HBW1 HSH1 hzB1 hBz1
      generalize WA1.setCell ⟨bm, 2, none⟩ (.int .i64 (numV (some p))) = WB1 at *
      obtain ⟨f0, f1, f2, f3, f4, f5, f6⟩ := HF5.out.step HBW.out
      dsimp only at f0 f1 f2 f3 f4 f5 f6
      go_upto_region 20 with fail
      have hb0 : w.heap.size < w.heap.size + 1 := Nat.lt_succ_self _
      have HTO := Lib.hid (OwnT.nil WB1 (w.heap.size + 1))
      have HDT := Lib.hid (IsB.nil WB1)
      obtain ⟨m0, m1, m2, m3, m4, m5, m6, m7⟩ := HX.out.cells
      obtain ⟨M, hM⟩ : ∃ M : Msg, M = Msg.mk k n (numV (some p)) (0) (0) ([]) ([]) ([]) := ⟨_, rfl⟩
      have HPM := Lib.hid (show parseM ⟨true, true, false, false, false, false, false⟩ k n p = (M, (numO (some p))) from by rw [hM]; rfl)
      have HEN := Lib.hid (show Calls Try.prog 14 #[.agg #[.int .i64 k, .int .i64 n, .int .i64 (numV (some p)), .int .i64 (0), .int .i64 (0), .string ⟨([] : List UInt8).toArray⟩, .slice none 0 0, .slice none 0 0]] WB1 (EncPost WB1 M) from by rw [hM]; exact henc_any (Msg.mk k n (numV (some p)) (0) (0) ([]) ([]) ([])) none none 0 0 WB1 HTO.out.isT HDT.out)
      have HMV := Lib.hid (show ∃ la lc da dc, .agg #[.int .i64 k, .int .i64 n, .int .i64 (numV (some p)), .int .i64 (0), .int .i64 (0), .string ⟨([] : List UInt8).toArray⟩, .slice none 0 0, .slice none 0 0] = M.val (.slice la M.lst.length lc) (.slice da M.dat.length dc) ∧ (.slice la M.lst.length lc = (.slice none 0 0 : Value) ∧ M.lst = []) ∧ (.slice da M.dat.length dc = (.slice none 0 0 : Value) ∧ M.dat = []) from by rw [hM]; exact ⟨none, 0, none, 0, rfl, ⟨rfl, rfl⟩, rfl, rfl⟩)
      obtain ⟨oF, hoF⟩ : ∃ o, o = (numO (some p)) := ⟨_, rfl⟩
      rw [← hoF] at HPM HC
      clear f0 f1 f2 f3 f4 f5 f6
      clear hM hoF
      have HDP := Lib.hid (fun h => hdecP_bad (M := M) (o := oF) HDE.out (by rw [HUU.out]; exact HPM.out) h)
      cases oF with
      | none =>
        go_upto_region 21 with (go_at_call 14; refine (enc_some HEN.out).mono ?_; rintro e WE ⟨ae, ne, ce, rfl, hOE, hbE⟩)
        have HZE := Lib.hid ((HZ5.out.step HBW.out).step hbE)
        have HBE := Lib.hid (bel_step (bel_step HB5.out HBW.out) hbE)
        have HCE := Lib.hid (HC.out.step hbE)
        have HER := Lib.hid (errc_any B bc none WE HCE.out)
        simp only [ErrV] at HER
        clear hOE hbE m0 m1 m2 m3 m4 m5 m6 m7
        have HNONE := Lib.hid (HDP.out (.inl (by first | rfl | trivial)))
        obtain ⟨c0, c1, c2, c3, c4, c5, c6, c7⟩ := HZE.out.cells
        have g0 := HZE.out.frozen 0
        have g1 := HZE.out.frozen 1
        have g2 := HZE.out.frozen 2
        have g3 := HZE.out.frozen 3
        have g4 := HZE.out.frozen 4
        have g5 := HZE.out.frozen 5
        have g6 := HZE.out.frozen 6
        have g7 := HZE.out.frozen 7
        go_wp2_with (first | (go_at_call 42; refine (HER.out).mono ?_; rintro e Wq ⟨rfl, rfl⟩) | (go_at_call 43; refine (HEQ.out).mono ?_; rintro e Wr ⟨rfl, rfl⟩))
        have HBF := Lib.hid (HBE.out.trans ((Only.sets8 WE w.heap.size (.int .i64 0) (.int .i64 0) (.int .i64 0) (.int .i64 0) (.int .i64 0) (.string ⟨#[]⟩) (.slice none 0 0) (.slice none 0 0)).below (Nat.le_refl _) HBE.out.size))
        exact bodyPost_ret (v := .tuple #[zeroMsg, .iface 43 (.int .i64 2)]) (by simp [results, Try.results20, asAddr, go_sem, zeroMsg, c0, c1, c2, c3, c4, c5, c6, c7]) rfl (HDecPost.bad HNONE.out HBF.out)
      | some rr =>
        by_cases hcm : codeM M = 0
        · have HCM := Lib.hid hcm
          go_upto_region 21 with (go_at_call 14; refine (enc_good HEN.out hcm).mono ?_; rintro e WE ⟨ae, ne, ce, rfl, hOE, hbE⟩)
          have HZE := Lib.hid ((HZ5.out.step HBW.out).step hbE)
          have HBE := Lib.hid (bel_step (bel_step HB5.out HBW.out) hbE)
          have HCE := Lib.hid (HC.out.step hbE)
          have HER := Lib.hid (errc_any B bc (some rr) WE HCE.out)
          simp only [ErrV] at HER
          have HEQ := Lib.hid (equal_any _ _ _ _ WE hOE (H.out.step HBE.out))
          by_cases heb : encM M = b
          · have HEB := Lib.hid heb
            have hbq : (encM M == b) = true := by simpa using heb
            rw [hbq] at HEQ
            have HTE := Lib.hid (HTO.out.step hbE)
            have HDB := Lib.hid (HDT.out.step hbE)
            have HG := Lib.hid (hdecP_good (M := M) (r := rr) HDE.out HOK.out (by rw [HUU.out]; exact HPM.out) HCM.out HEB.out)
            obtain ⟨n0, n1, n2, n3, n4, n5, n6, n7⟩ := (HX.out.step hbE).cells
            obtain ⟨c0, c1, c2, c3, c4, c5, c6, c7⟩ := HZE.out.cells
            have g0 := HZE.out.frozen 0
            have g1 := HZE.out.frozen 1
            have g2 := HZE.out.frozen 2
            have g3 := HZE.out.frozen 3
            have g4 := HZE.out.frozen 4
            have g5 := HZE.out.frozen 5
            have g6 := HZE.out.frozen 6
            have g7 := HZE.out.frozen 7
            clear hOE hbE m0 m1 m2 m3 m4 m5 m6 m7 hcm heb hbq
            go_wp2_with (first | (go_at_call 42; refine (HER.out).mono ?_; rintro e Wq ⟨rfl, rfl⟩) | (go_at_call 43; refine (HEQ.out).mono ?_; rintro e Wr ⟨rfl, rfl⟩))
            have hsF := Only.sets8 WE w.heap.size (.int .i64 k) (.int .i64 n) (.int .i64 (numV (some p))) (.int .i64 (0)) (.int .i64 (0)) (.string ⟨([] : List UInt8).toArray⟩) (.slice none 0 0) (.slice none 0 0)
            have hBF := HBE.out.trans (hsF.below (Nat.le_refl _) HBE.out.size)
            have hTF := (OwnT.only HTE.out hsF hb0).isT
            have hDF := HDB.out.onlyN hsF HZE.out.noB
            obtain ⟨la', lc', da', dc', hv, ⟨hl1, hl2⟩, hd1, hd2⟩ := HMV.out
            refine bodyPost_ret (v := .tuple #[.agg #[.int .i64 k, .int .i64 n, .int .i64 (numV (some p)), .int .i64 (0), .int .i64 (0), .string ⟨([] : List UInt8).toArray⟩, .slice none 0 0, .slice none 0 0], .nilIface]) (by simp [results, Try.results20, asAddr, go_sem, c0, c1, c2, c3, c4, c5, c6, c7]) rfl ?_
            rw [hv]
            exact HDecPost.good HG.out la' lc' da' dc' (by rw [hl1, hl2]; exact hTF) (by rw [hd1, hd2]; exact hDF) hBF
          · have hbq : (encM M == b) = false := by simpa using heb
            rw [hbq] at HEQ
            have HNB := Lib.hid heb
            clear hOE hbE m0 m1 m2 m3 m4 m5 m6 m7 hcm heb hbq
            have HNONE := Lib.hid (HDP.out (.inr (.inr HNB.out)))
            obtain ⟨c0, c1, c2, c3, c4, c5, c6, c7⟩ := HZE.out.cells
            have g0 := HZE.out.frozen 0
            have g1 := HZE.out.frozen 1
            have g2 := HZE.out.frozen 2
            have g3 := HZE.out.frozen 3
            have g4 := HZE.out.frozen 4
            have g5 := HZE.out.frozen 5
            have g6 := HZE.out.frozen 6
            have g7 := HZE.out.frozen 7
            go_wp2_with (first | (go_at_call 42; refine (HER.out).mono ?_; rintro e Wq ⟨rfl, rfl⟩) | (go_at_call 43; refine (HEQ.out).mono ?_; rintro e Wr ⟨rfl, rfl⟩))
            have HBF := Lib.hid (HBE.out.trans ((Only.sets8 WE w.heap.size (.int .i64 0) (.int .i64 0) (.int .i64 0) (.int .i64 0) (.int .i64 0) (.string ⟨#[]⟩) (.slice none 0 0) (.slice none 0 0)).below (Nat.le_refl _) HBE.out.size))
            exact bodyPost_ret (v := .tuple #[zeroMsg, .iface 43 (.int .i64 2)]) (by simp [results, Try.results20, asAddr, go_sem, zeroMsg, c0, c1, c2, c3, c4, c5, c6, c7]) rfl (HDecPost.bad HNONE.out HBF.out)
        · have HCM := Lib.hid hcm
          go_upto_region 21 with (go_at_call 14; refine (enc_bad HEN.out hcm).mono ?_; rintro e WE ⟨ae, ne, ce, rfl, hOE, hbE⟩)
          have HZE := Lib.hid ((HZ5.out.step HBW.out).step hbE)
          have HBE := Lib.hid (bel_step (bel_step HB5.out HBW.out) hbE)
          have HCE := Lib.hid (HC.out.step hbE)
          have HER := Lib.hid (errc_any B bc (some rr) WE HCE.out)
          simp only [ErrV] at HER
          clear hOE hbE m0 m1 m2 m3 m4 m5 m6 m7 hcm
          have HNONE := Lib.hid (HDP.out (.inr (.inl HCM.out)))
          obtain ⟨c0, c1, c2, c3, c4, c5, c6, c7⟩ := HZE.out.cells
          have g0 := HZE.out.frozen 0
          have g1 := HZE.out.frozen 1
          have g2 := HZE.out.frozen 2
          have g3 := HZE.out.frozen 3
          have g4 := HZE.out.frozen 4
          have g5 := HZE.out.frozen 5
          have g6 := HZE.out.frozen 6
          have g7 := HZE.out.frozen 7
          go_wp2_with (first | (go_at_call 42; refine (HER.out).mono ?_; rintro e Wq ⟨rfl, rfl⟩) | (go_at_call 43; refine (HEQ.out).mono ?_; rintro e Wr ⟨rfl, rfl⟩))
          have HBF := Lib.hid (HBE.out.trans ((Only.sets8 WE w.heap.size (.int .i64 0) (.int .i64 0) (.int .i64 0) (.int .i64 0) (.int .i64 0) (.string ⟨#[]⟩) (.slice none 0 0) (.slice none 0 0)).below (Nat.le_refl _) HBE.out.size))
          exact bodyPost_ret (v := .tuple #[zeroMsg, .iface 43 (.int .i64 2)]) (by simp [results, Try.results20, asAddr, go_sem, zeroMsg, c0, c1, c2, c3, c4, c5, c6, c7]) rfl (HDecPost.bad HNONE.out HBF.out)
    · obtain ⟨f0, f1, f2, f3, f4, f5, f6⟩ := HF5.out.step HBW.out
      dsimp only at f0 f1 f2 f3 f4 f5 f6
      go_upto_region 16 with (go_at_call 40; refine (textc_any B bc _ _ HC.out HSH.out).mono ?_; rintro e WA1 ⟨rfl, hCA, hoA⟩; have hXA := HX.out.only hoA hne; have xc := hXA.at_txt; have xf := hXA.frozen 5)
      have hsA := Only.set (b := bm) (k := 5) (u := .string ⟨(wordV (some p)).toArray⟩) (w := WA1)
      have HX1 := Lib.hid (hXA.set_txt (wordV (some p)))
      have HC1 := Lib.hid (hCA.onlyN hsA hne2 hXA.noB)
      have hzA1 := Nat.le_trans hzw hoA.size
      have HBW1 := Lib.hid (HBW.out.trans ((hoA.below hbc hzw).trans (hsA.below hbm hzA1)))
      have hzB1 := Nat.le_trans hzA1 hsA.size
      have hBz1 := Nat.le_trans hBz (Nat.le_trans hoA.size hsA.size)
      have HSH1 := Lib.hid HSH.out.next
      clear hsA hXA hCA hoA xc xf f0 f1 f2 f3 f4 f5 f6 HX HC HBW HSH hzw hzA1 hBz
      have HX := HX1; have HC := HC1; have HBW := HBW1; have HSH := HSH1; have hzw := hzB1; have hBz := hBz1
      clear HX1 HC1 HBW1 HSH1 hzB1 hBz1
      generalize WA1.setCell ⟨bm, 5, none⟩ (.string ⟨(wordV (some p)).toArray⟩) = WB1 at *
      obtain ⟨f0, f1, f2, f3, f4, f5, f6⟩ := HF5.out.step HBW.out
      dsimp only at f0 f1 f2 f3 f4 f5 f6
      go_upto_region 20 with fail
      have hb0 : w.heap.size < w.heap.size + 1 := Nat.lt_succ_self _
      have HTO := Lib.hid (OwnT.nil WB1 (w.heap.size + 1))
      have HDT := Lib.hid (IsB.nil WB1)
      obtain ⟨m0, m1, m2, m3, m4, m5, m6, m7⟩ := HX.out.cells
      obtain ⟨M, hM⟩ : ∃ M : Msg, M = Msg.mk k n (0) (0) (0) (wordV (some p)) ([]) ([]) := ⟨_, rfl⟩
      have HPM := Lib.hid (show parseM ⟨true, false, false, false, true, false, false⟩ k n p = (M, (wordO (some p))) from by rw [hM]; rfl)
      have HEN := Lib.hid (show Calls Try.prog 14 #[.agg #[.int .i64 k, .int .i64 n, .int .i64 (0), .int .i64 (0), .int .i64 (0), .string ⟨(wordV (some p) : List UInt8).toArray⟩, .slice none 0 0, .slice none 0 0]] WB1 (EncPost WB1 M) from by rw [hM]; exact henc_any (Msg.mk k n (0) (0) (0) (wordV (some p)) ([]) ([])) none none 0 0 WB1 HTO.out.isT HDT.out)
      have HMV := Lib.hid (show ∃ la lc da dc, .agg #[.int .i64 k, .int .i64 n, .int .i64 (0), .int .i64 (0), .int .i64 (0), .string ⟨(wordV (some p) : List UInt8).toArray⟩, .slice none 0 0, .slice none 0 0] = M.val (.slice la M.lst.length lc) (.slice da M.dat.length dc) ∧ (.slice la M.lst.length lc = (.slice none 0 0 : Value) ∧ M.lst = []) ∧ (.slice da M.dat.length dc = (.slice none 0 0 : Value) ∧ M.dat = []) from by rw [hM]; exact ⟨none, 0, none, 0, rfl, ⟨rfl, rfl⟩, rfl, rfl⟩)
      obtain ⟨oF, hoF⟩ : ∃ o, o = (wordO (some p)) := ⟨_, rfl⟩
      rw [← hoF] at HPM HC
      clear f0 f1 f2 f3 f4 f5 f6
      clear hM hoF
      have HDP := Lib.hid (fun h => hdecP_bad (M := M) (o := oF) HDE.out (by rw [HUU.out]; exact HPM.out) h)
      cases oF with
      | none =>
        go_upto_region 21 with (go_at_call 14; refine (enc_some HEN.out).mono ?_; rintro e WE ⟨ae, ne, ce, rfl, hOE, hbE⟩)
        have HZE := Lib.hid ((HZ5.out.step HBW.out).step hbE)
        have HBE := Lib.hid (bel_step (bel_step HB5.out HBW.out) hbE)
        have HCE := Lib.hid (HC.out.step hbE)
        have HER := Lib.hid (errc_any B bc none WE HCE.out)
        simp only [ErrV] at HER
        clear hOE hbE m0 m1 m2 m3 m4 m5 m6 m7
        have HNONE := Lib.hid (HDP.out (.inl (by first | rfl | trivial)))
        obtain ⟨c0, c1, c2, c3, c4, c5, c6, c7⟩ := HZE.out.cells
        have g0 := HZE.out.frozen 0
        have g1 := HZE.out.frozen 1
        have g2 := HZE.out.frozen 2
        have g3 := HZE.out.frozen 3
        have g4 := HZE.out.frozen 4
        have g5 := HZE.out.frozen 5
        have g6 := HZE.out.frozen 6
        have g7 := HZE.out.frozen 7
        go_wp2_with (first | (go_at_call 42; refine (HER.out).mono ?_; rintro e Wq ⟨rfl, rfl⟩) | (go_at_call 43; refine (HEQ.out).mono ?_; rintro e Wr ⟨rfl, rfl⟩))
        have HBF := Lib.hid (HBE.out.trans ((Only.sets8 WE w.heap.size (.int .i64 0) (.int .i64 0) (.int .i64 0) (.int .i64 0) (.int .i64 0) (.string ⟨#[]⟩) (.slice none 0 0) (.slice none 0 0)).below (Nat.le_refl _) HBE.out.size))
        exact bodyPost_ret (v := .tuple #[zeroMsg, .iface 43 (.int .i64 2)]) (by simp [results, Try.results20, asAddr, go_sem, zeroMsg, c0, c1, c2, c3, c4, c5, c6, c7]) rfl (HDecPost.bad HNONE.out HBF.out)
      | some rr =>
        by_cases hcm : codeM M = 0
        · have HCM := Lib.hid hcm
          go_upto_region 21 with (go_at_call 14; refine (enc_good HEN.out hcm).mono ?_; rintro e WE ⟨ae, ne, ce, rfl, hOE, hbE⟩)
          have HZE := Lib.hid ((HZ5.out.step HBW.out).step hbE)
          have HBE := Lib.hid (bel_step (bel_step HB5.out HBW.out) hbE)
          have HCE := Lib.hid (HC.out.step hbE)
          have HER := Lib.hid (errc_any B bc (some rr) WE HCE.out)
          simp only [ErrV] at HER
          have HEQ := Lib.hid (equal_any _ _ _ _ WE hOE (H.out.step HBE.out))
          by_cases heb : encM M = b
          · have HEB := Lib.hid heb
            have hbq : (encM M == b) = true := by simpa using heb
            rw [hbq] at HEQ
            have HTE := Lib.hid (HTO.out.step hbE)
            have HDB := Lib.hid (HDT.out.step hbE)
            have HG := Lib.hid (hdecP_good (M := M) (r := rr) HDE.out HOK.out (by rw [HUU.out]; exact HPM.out) HCM.out HEB.out)
            obtain ⟨n0, n1, n2, n3, n4, n5, n6, n7⟩ := (HX.out.step hbE).cells
            obtain ⟨c0, c1, c2, c3, c4, c5, c6, c7⟩ := HZE.out.cells
            have g0 := HZE.out.frozen 0
            have g1 := HZE.out.frozen 1
            have g2 := HZE.out.frozen 2
            have g3 := HZE.out.frozen 3
            have g4 := HZE.out.frozen 4
            have g5 := HZE.out.frozen 5
            have g6 := HZE.out.frozen 6
            have g7 := HZE.out.frozen 7
            clear hOE hbE m0 m1 m2 m3 m4 m5 m6 m7 hcm heb hbq
            go_wp2_with (first | (go_at_call 42; refine (HER.out).mono ?_; rintro e Wq ⟨rfl, rfl⟩) | (go_at_call 43; refine (HEQ.out).mono ?_; rintro e Wr ⟨rfl, rfl⟩))
            have hsF := Only.sets8 WE w.heap.size (.int .i64 k) (.int .i64 n) (.int .i64 (0)) (.int .i64 (0)) (.int .i64 (0)) (.string ⟨(wordV (some p) : List UInt8).toArray⟩) (.slice none 0 0) (.slice none 0 0)
            have hBF := HBE.out.trans (hsF.below (Nat.le_refl _) HBE.out.size)
            have hTF := (OwnT.only HTE.out hsF hb0).isT
            have hDF := HDB.out.onlyN hsF HZE.out.noB
            obtain ⟨la', lc', da', dc', hv, ⟨hl1, hl2⟩, hd1, hd2⟩ := HMV.out
            refine bodyPost_ret (v := .tuple #[.agg #[.int .i64 k, .int .i64 n, .int .i64 (0), .int .i64 (0), .int .i64 (0), .string ⟨(wordV (some p) : List UInt8).toArray⟩, .slice none 0 0, .slice none 0 0], .nilIface]) (by simp [results, Try.results20, asAddr, go_sem, c0, c1, c2, c3, c4, c5, c6, c7]) rfl ?_
            rw [hv]
            exact HDecPost.good HG.out la' lc' da' dc' (by rw [hl1, hl2]; exact hTF) (by rw [hd1, hd2]; exact hDF) hBF
          · have hbq : (encM M == b) = false := by simpa using heb
            rw [hbq] at HEQ
            have HNB := Lib.hid heb
            clear hOE hbE m0 m1 m2 m3 m4 m5 m6 m7 hcm heb hbq
            have HNONE := Lib.hid (HDP.out (.inr (.inr HNB.out)))
            obtain ⟨c0, c1, c2, c3, c4, c5, c6, c7⟩ := HZE.out.cells
            have g0 := HZE.out.frozen 0
            have g1 := HZE.out.frozen 1
            have g2 := HZE.out.frozen 2
            have g3 := HZE.out.frozen 3
            have g4 := HZE.out.frozen 4
            have g5 := HZE.out.frozen 5
            have g6 := HZE.out.frozen 6
            have g7 := HZE.out.frozen 7
            go_wp2_with (first | (go_at_call 42; refine (HER.out).mono ?_; rintro e Wq ⟨rfl, rfl⟩) | (go_at_call 43; refine (HEQ.out).mono ?_; rintro e Wr ⟨rfl, rfl⟩))
            have HBF := Lib.hid (HBE.out.trans ((Only.sets8 WE w.heap.size (.int .i64 0) (.int .i64 0) (.int .i64 0) (.int .i64 0) (.int .i64 0) (.string ⟨#[]⟩) (.slice none 0 0) (.slice none 0 0)).below (Nat.le_refl _) HBE.out.size))
            exact bodyPost_ret (v := .tuple #[zeroMsg, .iface 43 (.int .i64 2)]) (by simp [results, Try.results20, asAddr, go_sem, zeroMsg, c0, c1, c2, c3, c4, c5, c6, c7]) rfl (HDecPost.bad HNONE.out HBF.out)
        · have HCM := Lib.hid hcm
          go_upto_region 21 with (go_at_call 14; refine (enc_bad HEN.out hcm).mono ?_; rintro e WE ⟨ae, ne, ce, rfl, hOE, hbE⟩)
          have HZE := Lib.hid ((HZ5.out.step HBW.out).step hbE)
          have HBE := Lib.hid (bel_step (bel_step HB5.out HBW.out) hbE)
          have HCE := Lib.hid (HC.out.step hbE)
          have HER := Lib.hid (errc_any B bc (some rr) WE HCE.out)
          simp only [ErrV] at HER
          clear hOE hbE m0 m1 m2 m3 m4 m5 m6 m7 hcm
          have HNONE := Lib.hid (HDP.out (.inr (.inl HCM.out)))
          obtain ⟨c0, c1, c2, c3, c4, c5, c6, c7⟩ := HZE.out.cells
          have g0 := HZE.out.frozen 0
          have g1 := HZE.out.frozen 1
          have g2 := HZE.out.frozen 2
          have g3 := HZE.out.frozen 3
          have g4 := HZE.out.frozen 4
          have g5 := HZE.out.frozen 5
          have g6 := HZE.out.frozen 6
          have g7 := HZE.out.frozen 7
          go_wp2_with (first | (go_at_call 42; refine (HER.out).mono ?_; rintro e Wq ⟨rfl, rfl⟩) | (go_at_call 43; refine (HEQ.out).mono ?_; rintro e Wr ⟨rfl, rfl⟩))
          have HBF := Lib.hid (HBE.out.trans ((Only.sets8 WE w.heap.size (.int .i64 0) (.int .i64 0) (.int .i64 0) (.int .i64 0) (.int .i64 0) (.string ⟨#[]⟩) (.slice none 0 0) (.slice none 0 0)).below (Nat.le_refl _) HBE.out.size))
          exact bodyPost_ret (v := .tuple #[zeroMsg, .iface 43 (.int .i64 2)]) (by simp [results, Try.results20, asAddr, go_sem, zeroMsg, c0, c1, c2, c3, c4, c5, c6, c7]) rfl (HDecPost.bad HNONE.out HBF.out)
    · obtain ⟨f0, f1, f2, f3, f4, f5, f6⟩ := HF5.out.step HBW.out
      dsimp only at f0 f1 f2 f3 f4 f5 f6
      go_upto_region 10 with (go_at_call 39; refine (uintc_any B bc _ _ HC.out).mono ?_; rintro e WA1 ⟨rfl, hCA, hoA⟩; have hXA := HX.out.only hoA hne; have xc := hXA.at_num; have xf := hXA.frozen 2)
      have hsA := Only.set (b := bm) (k := 2) (u := .int .i64 (numV (some p))) (w := WA1)
      have HX1 := Lib.hid (hXA.set_num (numV (some p)))
      have HC1 := Lib.hid (hCA.onlyN hsA hne2 hXA.noB)
      have hzA1 := Nat.le_trans hzw hoA.size
      have HBW1 := Lib.hid (HBW.out.trans ((hoA.below hbc hzw).trans (hsA.below hbm hzA1)))
      have hzB1 := Nat.le_trans hzA1 hsA.size
      have hBz1 := Nat.le_trans hBz (Nat.le_trans hoA.size hsA.size)
      have HSH1 := Lib.hid HSH.out.num
      clear hsA hXA hCA hoA xc xf f0 f1 f2 f3 f4 f5 f6 HX HC HBW HSH hzw hzA1 hBz
      have HX := HX1; have HC := HC1; have HBW := HBW1; have HSH := HSH1; have hzw := hzB1; have hBz := hBz1
      clear HX1 HC1 HBW1 HSH1 hzB1 hBz1
      generalize WA1.setCell ⟨bm, 2, none⟩ (.int .i64 (numV (some p))) = WB1 at *
      obtain ⟨f0, f1, f2, f3, f4, f5, f6⟩ := HF5.out.step HBW.out
      dsimp only at f0 f1 f2 f3 f4 f5 f6
      go_upto_region 12 with (go_at_call 39; refine (uintc_any B bc _ _ HC.out).mono ?_; rintro e WA2 ⟨rfl, hCA, hoA⟩; have hXA := HX.out.only hoA hne; have xc := hXA.at_tot; have xf := hXA.frozen 3)
      have hsA := Only.set (b := bm) (k := 3) (u := .int .i64 (numV (numO (some p)))) (w := WA2)
      have HX2 := Lib.hid (hXA.set_tot (numV (numO (some p))))
      have HC2 := Lib.hid (hCA.onlyN hsA hne2 hXA.noB)
      have hzA2 := Nat.le_trans hzw hoA.size
      have HBW2 := Lib.hid (HBW.out.trans ((hoA.below hbc hzw).trans (hsA.below hbm hzA2)))
      have hzB2 := Nat.le_trans hzA2 hsA.size
      have hBz2 := Nat.le_trans hBz (Nat.le_trans hoA.size hsA.size)
      have HSH2 := Lib.hid HSH.out.num
      clear hsA hXA hCA hoA xc xf f0 f1 f2 f3 f4 f5 f6 HX HC HBW HSH hzw hzA2 hBz
      have HX := HX2; have HC := HC2; have HBW := HBW2; have HSH := HSH2; have hzw := hzB2; have hBz := hBz2
      clear HX2 HC2 HBW2 HSH2 hzB2 hBz2
      generalize WA2.setCell ⟨bm, 3, none⟩ (.int .i64 (numV (numO (some p)))) = WB2 at *
      obtain ⟨f0, f1, f2, f3, f4, f5, f6⟩ := HF5.out.step HBW.out
      dsimp only at f0 f1 f2 f3 f4 f5 f6
      have hbml := HX.out.lt
      go_upto_region 18 with (go_at_call 41; refine (textsc_any B bc _ _ HC.out HSH.out hBz).mono ?_; rintro e WA3 ⟨ul, rfl, hOT, _, hCA, hoA⟩; obtain ⟨al, cl, rfl⟩ : ∃ a c, ul = .slice a (wordsV (numO (numO (some p)))).length c := OwnT.shape hOT; have hXA := HX.out.only hoA hne; have xc := hXA.at_lst; have xf := hXA.frozen 6)
      have hsA := Only.set (b := bm) (k := 6) (u := .slice al (wordsV (numO (numO (some p)))).length cl) (w := WA3)
      have HX3 := Lib.hid (hXA.set_lst (.slice al (wordsV (numO (numO (some p)))).length cl))
      have HC3 := Lib.hid (show CurO B _ bc (wordsO (numO (numO (some p)))) from hCA.onlyN hsA hne2 hXA.noB)
      have hb0 : w.heap.size < WB2.heap.size := Nat.lt_of_lt_of_le hwW5 hzw
      have HTO := Lib.hid (show OwnT _ WB2.heap.size (.slice al (wordsV (numO (numO (some p)))).length cl) (wordsV (numO (numO (some p)))) from OwnT.only hOT hsA hbml)
      have hzA3 := Nat.le_trans hzw hoA.size
      have HBW3 := Lib.hid (HBW.out.trans ((hoA.below hbc hzw).trans (hsA.below hbm hzA3)))
      have hzB3 := Nat.le_trans hzA3 hsA.size
      have HSH3 := Lib.hid HSH.out.words
      clear hsA hXA hCA hoA hOT xc xf f0 f1 f2 f3 f4 f5 f6 HX HC HBW HSH hzw hzA3 hBz hbml
      have HX := HX3; have HC := HC3; have HBW := HBW3; have HSH := HSH3; have hzw := hzB3
      clear HX3 HC3 HBW3 HSH3 hzB3
      generalize WA3.setCell ⟨bm, 6, none⟩ (.slice al (wordsV (numO (numO (some p)))).length cl) = WB3 at *
      obtain ⟨f0, f1, f2, f3, f4, f5, f6⟩ := HF5.out.step HBW.out
      dsimp only at f0 f1 f2 f3 f4 f5 f6
      go_upto_region 20 with fail
      have HDT := Lib.hid (IsB.nil WB3)
      obtain ⟨m0, m1, m2, m3, m4, m5, m6, m7⟩ := HX.out.cells
      obtain ⟨M, hM⟩ : ∃ M : Msg, M = Msg.mk k n (numV (some p)) (numV (numO (some p))) (0) ([]) (wordsV (numO (numO (some p)))) ([]) := ⟨_, rfl⟩
      have HPM := Lib.hid (show parseM ⟨false, true, true, false, false, true, false⟩ k n p = (M, (wordsO (numO (numO (some p))))) from by rw [hM]; rfl)
      have HEN := Lib.hid (show Calls Try.prog 14 #[.agg #[.int .i64 k, .int .i64 n, .int .i64 (numV (some p)), .int .i64 (numV (numO (some p))), .int .i64 (0), .string ⟨([] : List UInt8).toArray⟩, .slice al (wordsV (numO (numO (some p)))).length cl, .slice none 0 0]] WB3 (EncPost WB3 M) from by rw [hM]; exact henc_any (Msg.mk k n (numV (some p)) (numV (numO (some p))) (0) ([]) (wordsV (numO (numO (some p)))) ([])) al none cl 0 WB3 HTO.out.isT HDT.out)
      have HMV := Lib.hid (show ∃ la lc da dc, .agg #[.int .i64 k, .int .i64 n, .int .i64 (numV (some p)), .int .i64 (numV (numO (some p))), .int .i64 (0), .string ⟨([] : List UInt8).toArray⟩, .slice al (wordsV (numO (numO (some p)))).length cl, .slice none 0 0] = M.val (.slice la M.lst.length lc) (.slice da M.dat.length dc) ∧ (.slice la M.lst.length lc = (.slice al (wordsV (numO (numO (some p)))).length cl : Value) ∧ M.lst = wordsV (numO (numO (some p)))) ∧ (.slice da M.dat.length dc = (.slice none 0 0 : Value) ∧ M.dat = []) from by rw [hM]; exact ⟨al, cl, none, 0, rfl, ⟨rfl, rfl⟩, rfl, rfl⟩)
      obtain ⟨oF, hoF⟩ : ∃ o, o = (wordsO (numO (numO (some p)))) := ⟨_, rfl⟩
      rw [← hoF] at HPM HC
      clear f0 f1 f2 f3 f4 f5 f6
      clear hM hoF
      have HDP := Lib.hid (fun h => hdecP_bad (M := M) (o := oF) HDE.out (by rw [HUU.out]; exact HPM.out) h)
      cases oF with
      | none =>
        go_upto_region 21 with (go_at_call 14; refine (enc_some HEN.out).mono ?_; rintro e WE ⟨ae, ne, ce, rfl, hOE, hbE⟩)
        have HZE := Lib.hid ((HZ5.out.step HBW.out).step hbE)
        have HBE := Lib.hid (bel_step (bel_step HB5.out HBW.out) hbE)
        have HCE := Lib.hid (HC.out.step hbE)
        have HER := Lib.hid (errc_any B bc none WE HCE.out)
        simp only [ErrV] at HER
        clear hOE hbE m0 m1 m2 m3 m4 m5 m6 m7
        have HNONE := Lib.hid (HDP.out (.inl (by first | rfl | trivial)))
        obtain ⟨c0, c1, c2, c3, c4, c5, c6, c7⟩ := HZE.out.cells
        have g0 := HZE.out.frozen 0
        have g1 := HZE.out.frozen 1
        have g2 := HZE.out.frozen 2
        have g3 := HZE.out.frozen 3
        have g4 := HZE.out.frozen 4
        have g5 := HZE.out.frozen 5
        have g6 := HZE.out.frozen 6
        have g7 := HZE.out.frozen 7
        go_wp2_with (first | (go_at_call 42; refine (HER.out).mono ?_; rintro e Wq ⟨rfl, rfl⟩) | (go_at_call 43; refine (HEQ.out).mono ?_; rintro e Wr ⟨rfl, rfl⟩))
        have HBF := Lib.hid (HBE.out.trans ((Only.sets8 WE w.heap.size (.int .i64 0) (.int .i64 0) (.int .i64 0) (.int .i64 0) (.int .i64 0) (.string ⟨#[]⟩) (.slice none 0 0) (.slice none 0 0)).below (Nat.le_refl _) HBE.out.size))
        exact bodyPost_ret (v := .tuple #[zeroMsg, .iface 43 (.int .i64 2)]) (by simp [results, Try.results20, asAddr, go_sem, zeroMsg, c0, c1, c2, c3, c4, c5, c6, c7]) rfl (HDecPost.bad HNONE.out HBF.out)
      | some rr =>
        by_cases hcm : codeM M = 0
        · have HCM := Lib.hid hcm
          go_upto_region 21 with (go_at_call 14; refine (enc_good HEN.out hcm).mono ?_; rintro e WE ⟨ae, ne, ce, rfl, hOE, hbE⟩)
          have HZE := Lib.hid ((HZ5.out.step HBW.out).step hbE)
          have HBE := Lib.hid (bel_step (bel_step HB5.out HBW.out) hbE)
          have HCE := Lib.hid (HC.out.step hbE)
          have HER := Lib.hid (errc_any B bc (some rr) WE HCE.out)
          simp only [ErrV] at HER
          have HEQ := Lib.hid (equal_any _ _ _ _ WE hOE (H.out.step HBE.out))
          by_cases heb : encM M = b
          · have HEB := Lib.hid heb
            have hbq : (encM M == b) = true := by simpa using heb
            rw [hbq] at HEQ
            have HTE := Lib.hid (HTO.out.step hbE)
            have HDB := Lib.hid (HDT.out.step hbE)
            have HG := Lib.hid (hdecP_good (M := M) (r := rr) HDE.out HOK.out (by rw [HUU.out]; exact HPM.out) HCM.out HEB.out)
            obtain ⟨n0, n1, n2, n3, n4, n5, n6, n7⟩ := (HX.out.step hbE).cells
            obtain ⟨c0, c1, c2, c3, c4, c5, c6, c7⟩ := HZE.out.cells
            have g0 := HZE.out.frozen 0
            have g1 := HZE.out.frozen 1
            have g2 := HZE.out.frozen 2
            have g3 := HZE.out.frozen 3
            have g4 := HZE.out.frozen 4
            have g5 := HZE.out.frozen 5
            have g6 := HZE.out.frozen 6
            have g7 := HZE.out.frozen 7
            clear hOE hbE m0 m1 m2 m3 m4 m5 m6 m7 hcm heb hbq
            go_wp2_with (first | (go_at_call 42; refine (HER.out).mono ?_; rintro e Wq ⟨rfl, rfl⟩) | (go_at_call 43; refine (HEQ.out).mono ?_; rintro e Wr ⟨rfl, rfl⟩))
            have hsF := Only.sets8 WE w.heap.size (.int .i64 k) (.int .i64 n) (.int .i64 (numV (some p))) (.int .i64 (numV (numO (some p)))) (.int .i64 (0)) (.string ⟨([] : List UInt8).toArray⟩) (.slice al (wordsV (numO (numO (some p)))).length cl) (.slice none 0 0)
            have hBF := HBE.out.trans (hsF.below (Nat.le_refl _) HBE.out.size)
            have hTF := (OwnT.only HTE.out hsF hb0).isT
            have hDF := HDB.out.onlyN hsF HZE.out.noB
            obtain ⟨la', lc', da', dc', hv, ⟨hl1, hl2⟩, hd1, hd2⟩ := HMV.out
            refine bodyPost_ret (v := .tuple #[.agg #[.int .i64 k, .int .i64 n, .int .i64 (numV (some p)), .int .i64 (numV (numO (some p))), .int .i64 (0), .string ⟨([] : List UInt8).toArray⟩, .slice al (wordsV (numO (numO (some p)))).length cl, .slice none 0 0], .nilIface]) (by simp [results, Try.results20, asAddr, go_sem, c0, c1, c2, c3, c4, c5, c6, c7]) rfl ?_
            rw [hv]
            exact HDecPost.good HG.out la' lc' da' dc' (by rw [hl1, hl2]; exact hTF) (by rw [hd1, hd2]; exact hDF) hBF
          · have hbq : (encM M == b) = false := by simpa using heb
            rw [hbq] at HEQ
            have HNB := Lib.hid heb
            clear hOE hbE m0 m1 m2 m3 m4 m5 m6 m7 hcm heb hbq
            have HNONE := Lib.hid (HDP.out (.inr (.inr HNB.out)))
            obtain ⟨c0, c1, c2, c3, c4, c5, c6, c7⟩ := HZE.out.cells
            have g0 := HZE.out.frozen 0
            have g1 := HZE.out.frozen 1
            have g2 := HZE.out.frozen 2
            have g3 := HZE.out.frozen 3
            have g4 := HZE.out.frozen 4
            have g5 := HZE.out.frozen 5
            have g6 := HZE.out.frozen 6
            have g7 := HZE.out.frozen 7
            go_wp2_with (first | (go_at_call 42; refine (HER.out).mono ?_; rintro e Wq ⟨rfl, rfl⟩) | (go_at_call 43; refine (HEQ.out).mono ?_; rintro e Wr ⟨rfl, rfl⟩))
            have HBF := Lib.hid (HBE.out.trans ((Only.sets8 WE w.heap.size (.int .i64 0) (.int .i64 0) (.int .i64 0) (.int .i64 0) (.int .i64 0) (.string ⟨#[]⟩) (.slice none 0 0) (.slice none 0 0)).below (Nat.le_refl _) HBE.out.size))
            exact bodyPost_ret (v := .tuple #[zeroMsg, .iface 43 (.int .i64 2)]) (by simp [results, Try.results20, asAddr, go_sem, zeroMsg, c0, c1, c2, c3, c4, c5, c6, c7]) rfl (HDecPost.bad HNONE.out HBF.out)
        · have HCM := Lib.hid hcm
          go_upto_region 21 with (go_at_call 14; refine (enc_bad HEN.out hcm).mono ?_; rintro e WE ⟨ae, ne, ce, rfl, hOE, hbE⟩)
          have HZE := Lib.hid ((HZ5.out.step HBW.out).step hbE)
          have HBE := Lib.hid (bel_step (bel_step HB5.out HBW.out) hbE)
          have HCE := Lib.hid (HC.out.step hbE)
          have HER := Lib.hid (errc_any B bc (some rr) WE HCE.out)
          simp only [ErrV] at HER
          clear hOE hbE m0 m1 m2 m3 m4 m5 m6 m7 hcm
          have HNONE := Lib.hid (HDP.out (.inr (.inl HCM.out)))
          obtain ⟨c0, c1, c2, c3, c4, c5, c6, c7⟩ := HZE.out.cells
          have g0 := HZE.out.frozen 0
          have g1 := HZE.out.frozen 1
          have g2 := HZE.out.frozen 2
          have g3 := HZE.out.frozen 3
          have g4 := HZE.out.frozen 4
          have g5 := HZE.out.frozen 5
          have g6 := HZE.out.frozen 6
          have g7 := HZE.out.frozen 7
          go_wp2_with (first | (go_at_call 42; refine (HER.out).mono ?_; rintro e Wq ⟨rfl, rfl⟩) | (go_at_call 43; refine (HEQ.out).mono ?_; rintro e Wr ⟨rfl, rfl⟩))
          have HBF := Lib.hid (HBE.out.trans ((Only.sets8 WE w.heap.size (.int .i64 0) (.int .i64 0) (.int .i64 0) (.int .i64 0) (.int .i64 0) (.string ⟨#[]⟩) (.slice none 0 0) (.slice none 0 0)).below (Nat.le_refl _) HBE.out.size))
          exact bodyPost_ret (v := .tuple #[zeroMsg, .iface 43 (.int .i64 2)]) (by simp [results, Try.results20, asAddr, go_sem, zeroMsg, c0, c1, c2, c3, c4, c5, c6, c7]) rfl (HDecPost.bad HNONE.out HBF.out)
    · obtain ⟨f0, f1, f2, f3, f4, f5, f6⟩ := HF5.out.step HBW.out
      dsimp only at f0 f1 f2 f3 f4 f5 f6
      go_upto_region 10 with (go_at_call 39; refine (uintc_any B bc _ _ HC.out).mono ?_; rintro e WA1 ⟨rfl, hCA, hoA⟩; have hXA := HX.out.only hoA hne; have xc := hXA.at_num; have xf := hXA.frozen 2)
      have hsA := Only.set (b := bm) (k := 2) (u := .int .i64 (numV (some p))) (w := WA1)
      have HX1 := Lib.hid (hXA.set_num (numV (some p)))
      have HC1 := Lib.hid (hCA.onlyN hsA hne2 hXA.noB)
      have hzA1 := Nat.le_trans hzw hoA.size
      have HBW1 := Lib.hid (HBW.out.trans ((hoA.below hbc hzw).trans (hsA.below hbm hzA1)))
      have hzB1 := Nat.le_trans hzA1 hsA.size
      have hBz1 := Nat.le_trans hBz (Nat.le_trans hoA.size hsA.size)
      have HSH1 := Lib.hid HSH.out.num
      clear hsA hXA hCA hoA xc xf f0 f1 f2 f3 f4 f5 f6 HX HC HBW HSH hzw hzA1 hBz
      have HX := HX1; have HC := HC1; have HBW := HBW1; have HSH := HSH1; have hzw := hzB1; have hBz := hBz1
      clear HX1 HC1 HBW1 HSH1 hzB1 hBz1
      generalize WA1.setCell ⟨bm, 2, none⟩ (.int .i64 (numV (some p))) = WB1 at *
      obtain ⟨f0, f1, f2, f3, f4, f5, f6⟩ := HF5.out.step HBW.out
      dsimp only at f0 f1 f2 f3 f4 f5 f6
      go_upto_region 20 with fail
      have hb0 : w.heap.size < w.heap.size + 1 := Nat.lt_succ_self _
      have HTO := Lib.hid (OwnT.nil WB1 (w.heap.size + 1))
      have HDT := Lib.hid (IsB.nil WB1)
      obtain ⟨m0, m1, m2, m3, m4, m5, m6, m7⟩ := HX.out.cells
      obtain ⟨M, hM⟩ : ∃ M : Msg, M = Msg.mk k n (numV (some p)) (0) (0) ([]) ([]) ([]) := ⟨_, rfl⟩
      have HPM := Lib.hid (show parseM ⟨false, true, false, false, false, false, false⟩ k n p = (M, (numO (some p))) from by rw [hM]; rfl)
      have HEN := Lib.hid (show Calls Try.prog 14 #[.agg #[.int .i64 k, .int .i64 n, .int .i64 (numV (some p)), .int .i64 (0), .int .i64 (0), .string ⟨([] : List UInt8).toArray⟩, .slice none 0 0, .slice none 0 0]] WB1 (EncPost WB1 M) from by rw [hM]; exact henc_any (Msg.mk k n (numV (some p)) (0) (0) ([]) ([]) ([])) none none 0 0 WB1 HTO.out.isT HDT.out)
      have HMV := Lib.hid (show ∃ la lc da dc, .agg #[.int .i64 k, .int .i64 n, .int .i64 (numV (some p)), .int .i64 (0), .int .i64 (0), .string ⟨([] : List UInt8).toArray⟩, .slice none 0 0, .slice none 0 0] = M.val (.slice la M.lst.length lc) (.slice da M.dat.length dc) ∧ (.slice la M.lst.length lc = (.slice none 0 0 : Value) ∧ M.lst = []) ∧ (.slice da M.dat.length dc = (.slice none 0 0 : Value) ∧ M.dat = []) from by rw [hM]; exact ⟨none, 0, none, 0, rfl, ⟨rfl, rfl⟩, rfl, rfl⟩)
      obtain ⟨oF, hoF⟩ : ∃ o, o = (numO (some p)) := ⟨_, rfl⟩
      rw [← hoF] at HPM HC
      clear f0 f1 f2 f3 f4 f5 f6
      clear hM hoF
      have HDP := Lib.hid (fun h => hdecP_bad (M := M) (o := oF) HDE.out (by rw [HUU.out]; exact HPM.out) h)
      cases oF with
      | none =>
        go_upto_region 21 with (go_at_call 14; refine (enc_some HEN.out).mono ?_; rintro e WE ⟨ae, ne, ce, rfl, hOE, hbE⟩)
        have HZE := Lib.hid ((HZ5.out.step HBW.out).step hbE)
        have HBE := Lib.hid (bel_step (bel_step HB5.out HBW.out) hbE)
        have HCE := Lib.hid (HC.out.step hbE)
        have HER := Lib.hid (errc_any B bc none WE HCE.out)
        simp only [ErrV] at HER
        clear hOE hbE m0 m1 m2 m3 m4 m5 m6 m7
        have HNONE := Lib.hid (HDP.out (.inl (by first | rfl | trivial)))
        obtain ⟨c0, c1, c2, c3, c4, c5, c6, c7⟩ := HZE.out.cells
        have g0 := HZE.out.frozen 0
        have g1 := HZE.out.frozen 1
        have g2 := HZE.out.frozen 2
        have g3 := HZE.out.frozen 3
        have g4 := HZE.out.frozen 4
        have g5 := HZE.out.frozen 5
        have g6 := HZE.out.frozen 6
        have g7 := HZE.out.frozen 7
        go_wp2_with (first | (go_at_call 42; refine (HER.out).mono ?_; rintro e Wq ⟨rfl, rfl⟩) | (go_at_call 43; refine (HEQ.out).mono ?_; rintro e Wr ⟨rfl, rfl⟩))
        have HBF := Lib.hid (HBE.out.trans ((Only.sets8 WE w.heap.size (.int .i64 0) (.int .i64 0) (.int .i64 0) (.int .i64 0) (.int .i64 0) (.string ⟨#[]⟩) (.slice none 0 0) (.slice none 0 0)).below (Nat.le_refl _) HBE.out.size))
        exact bodyPost_ret (v := .tuple #[zeroMsg, .iface 43 (.int .i64 2)]) (by simp [results, Try.results20, asAddr, go_sem, zeroMsg, c0, c1, c2, c3, c4, c5, c6, c7]) rfl (HDecPost.bad HNONE.out HBF.out)
      | some rr =>
        by_cases hcm : codeM M = 0
        · have HCM := Lib.hid hcm
          go_upto_region 21 with (go_at_call 14; refine (enc_good HEN.out hcm).mono ?_; rintro e WE ⟨ae, ne, ce, rfl, hOE, hbE⟩)
          have HZE := Lib.hid ((HZ5.out.step HBW.out).step hbE)
          have HBE := Lib.hid (bel_step (bel_step HB5.out HBW.out) hbE)
          have HCE := Lib.hid (HC.out.step hbE)
          have HER := Lib.hid (errc_any B bc (some rr) WE HCE.out)
          simp only [ErrV] at HER
          have HEQ := Lib.hid (equal_any _ _ _ _ WE hOE (H.out.step HBE.out))
          by_cases heb : encM M = b
          · have HEB := Lib.hid heb
            have hbq : (encM M == b) = true := by simpa using heb
            rw [hbq] at HEQ
            have HTE := Lib.hid (HTO.out.step hbE)
            have HDB := Lib.hid (HDT.out.step hbE)
            have HG := Lib.hid (hdecP_good (M := M) (r := rr) HDE.out HOK.out (by rw [HUU.out]; exact HPM.out) HCM.out HEB.out)
            obtain ⟨n0, n1, n2, n3, n4, n5, n6, n7⟩ := (HX.out.step hbE).cells
            obtain ⟨c0, c1, c2, c3, c4, c5, c6, c7⟩ := HZE.out.cells
            have g0 := HZE.out.frozen 0
            have g1 := HZE.out.frozen 1
            have g2 := HZE.out.frozen 2
            have g3 := HZE.out.frozen 3
            have g4 := HZE.out.frozen 4
            have g5 := HZE.out.frozen 5
            have g6 := HZE.out.frozen 6
            have g7 := HZE.out.frozen 7
            clear hOE hbE m0 m1 m2 m3 m4 m5 m6 m7 hcm heb hbq
            go_wp2_with (first | (go_at_call 42; refine (HER.out).mono ?_; rintro e Wq ⟨rfl, rfl⟩) | (go_at_call 43; refine (HEQ.out).mono ?_; rintro e Wr ⟨rfl, rfl⟩))
            have hsF := Only.sets8 WE w.heap.size (.int .i64 k) (.int .i64 n) (.int .i64 (numV (some p))) (.int .i64 (0)) (.int .i64 (0)) (.string ⟨([] : List UInt8).toArray⟩) (.slice none 0 0) (.slice none 0 0)
            have hBF := HBE.out.trans (hsF.below (Nat.le_refl _) HBE.out.size)
            have hTF := (OwnT.only HTE.out hsF hb0).isT
            have hDF := HDB.out.onlyN hsF HZE.out.noB
            obtain ⟨la', lc', da', dc', hv, ⟨hl1, hl2⟩, hd1, hd2⟩ := HMV.out
            refine bodyPost_ret (v := .tuple #[.agg #[.int .i64 k, .int .i64 n, .int .i64 (numV (some p)), .int .i64 (0), .int .i64 (0), .string ⟨([] : List UInt8).toArray⟩, .slice none 0 0, .slice none 0 0], .nilIface]) (by simp [results, Try.results20, asAddr, go_sem, c0, c1, c2, c3, c4, c5, c6, c7]) rfl ?_
            rw [hv]
            exact HDecPost.good HG.out la' lc' da' dc' (by rw [hl1, hl2]; exact hTF) (by rw [hd1, hd2]; exact hDF) hBF
          · have hbq : (encM M == b) = false := by simpa using heb
            rw [hbq] at HEQ
            have HNB := Lib.hid heb
            clear hOE hbE m0 m1 m2 m3 m4 m5 m6 m7 hcm heb hbq
            have HNONE := Lib.hid (HDP.out (.inr (.inr HNB.out)))
            obtain ⟨c0, c1, c2, c3, c4, c5, c6, c7⟩ := HZE.out.cells
            have g0 := HZE.out.frozen 0
            have g1 := HZE.out.frozen 1
            have g2 := HZE.out.frozen 2
            have g3 := HZE.out.frozen 3
            have g4 := HZE.out.frozen 4
            have g5 := HZE.out.frozen 5
            have g6 := HZE.out.frozen 6
            have g7 := HZE.out.frozen 7
            go_wp2_with (first | (go_at_call 42; refine (HER.out).mono ?_; rintro e Wq ⟨rfl, rfl⟩) | (go_at_call 43; refine (HEQ.out).mono ?_; rintro e Wr ⟨rfl, rfl⟩))
            have HBF := Lib.hid (HBE.out.trans ((Only.sets8 WE w.heap.size (.int .i64 0) (.int .i64 0) (.int .i64 0) (.int .i64 0) (.int .i64 0) (.string ⟨#[]⟩) (.slice none 0 0) (.slice none 0 0)).below (Nat.le_refl _) HBE.out.size))
            exact bodyPost_ret (v := .tuple #[zeroMsg, .iface 43 (.int .i64 2)]) (by simp [results, Try.results20, asAddr, go_sem, zeroMsg, c0, c1, c2, c3, c4, c5, c6, c7]) rfl (HDecPost.bad HNONE.out HBF.out)
        · have HCM := Lib.hid hcm
          go_upto_region 21 with (go_at_call 14; refine (enc_bad HEN.out hcm).mono ?_; rintro e WE ⟨ae, ne, ce, rfl, hOE, hbE⟩)
          have HZE := Lib.hid ((HZ5.out.step HBW.out).step hbE)
          have HBE := Lib.hid (bel_step (bel_step HB5.out HBW.out) hbE)
          have HCE := Lib.hid (HC.out.step hbE)
          have HER := Lib.hid (errc_any B bc (some rr) WE HCE.out)
          simp only [ErrV] at HER
          clear hOE hbE m0 m1 m2 m3 m4 m5 m6 m7 hcm
          have HNONE := Lib.hid (HDP.out (.inr (.inl HCM.out)))
          obtain ⟨c0, c1, c2, c3, c4, c5, c6, c7⟩ := HZE.out.cells
          have g0 := HZE.out.frozen 0
          have g1 := HZE.out.frozen 1
          have g2 := HZE.out.frozen 2
          have g3 := HZE.out.frozen 3
          have g4 := HZE.out.frozen 4
          have g5 := HZE.out.frozen 5
          have g6 := HZE.out.frozen 6
          have g7 := HZE.out.frozen 7
          go_wp2_with (first | (go_at_call 42; refine (HER.out).mono ?_; rintro e Wq ⟨rfl, rfl⟩) | (go_at_call 43; refine (HEQ.out).mono ?_; rintro e Wr ⟨rfl, rfl⟩))
          have HBF := Lib.hid (HBE.out.trans ((Only.sets8 WE w.heap.size (.int .i64 0) (.int .i64 0) (.int .i64 0) (.int .i64 0) (.int .i64 0) (.string ⟨#[]⟩) (.slice none 0 0) (.slice none 0 0)).below (Nat.le_refl _) HBE.out.size))
          exact bodyPost_ret (v := .tuple #[zeroMsg, .iface 43 (.int .i64 2)]) (by simp [results, Try.results20, asAddr, go_sem, zeroMsg, c0, c1, c2, c3, c4, c5, c6, c7]) rfl (HDecPost.bad HNONE.out HBF.out)
    · obtain ⟨f0, f1, f2, f3, f4, f5, f6⟩ := HF5.out.step HBW.out
      dsimp only at f0 f1 f2 f3 f4 f5 f6
      go_upto_region 10 with (go_at_call 39; refine (uintc_any B bc _ _ HC.out).mono ?_; rintro e WA1 ⟨rfl, hCA, hoA⟩; have hXA := HX.out.only hoA hne; have xc := hXA.at_num; have xf := hXA.frozen 2)
      have hsA := Only.set (b := bm) (k := 2) (u := .int .i64 (numV (some p))) (w := WA1)
      have HX1 := Lib.hid (hXA.set_num (numV (some p)))
      have HC1 := Lib.hid (hCA.onlyN hsA hne2 hXA.noB)
      have hzA1 := Nat.le_trans hzw hoA.size
      have HBW1 := Lib.hid (HBW.out.trans ((hoA.below hbc hzw).trans (hsA.below hbm hzA1)))
      have hzB1 := Nat.le_trans hzA1 hsA.size
      have hBz1 := Nat.le_trans hBz (Nat.le_trans hoA.size hsA.size)
      have HSH1 := Lib.hid HSH.out.num
      clear hsA hXA hCA hoA xc xf f0 f1 f2 f3 f4 f5 f6 HX HC HBW HSH hzw hzA1 hBz
      have HX := HX1; have HC := HC1; have HBW := HBW1; have HSH := HSH1; have hzw := hzB1; have hBz := hBz1
      clear HX1 HC1 HBW1 HSH1 hzB1 hBz1
      generalize WA1.setCell ⟨bm, 2, none⟩ (.int .i64 (numV (some p))) = WB1 at *
      obtain ⟨f0, f1, f2, f3, f4, f5, f6⟩ := HF5.out.step HBW.out
      dsimp only at f0 f1 f2 f3 f4 f5 f6
      go_upto_region 12 with (go_at_call 39; refine (uintc_any B bc _ _ HC.out).mono ?_; rintro e WA2 ⟨rfl, hCA, hoA⟩; have hXA := HX.out.only hoA hne; have xc := hXA.at_tot; have xf := hXA.frozen 3)
      have hsA := Only.set (b := bm) (k := 3) (u := .int .i64 (numV (numO (some p)))) (w := WA2)
      have HX2 := Lib.hid (hXA.set_tot (numV (numO (some p))))
      have HC2 := Lib.hid (hCA.onlyN hsA hne2 hXA.noB)
      have hzA2 := Nat.le_trans hzw hoA.size
      have HBW2 := Lib.hid (HBW.out.trans ((hoA.below hbc hzw).trans (hsA.below hbm hzA2)))
      have hzB2 := Nat.le_trans hzA2 hsA.size
      have hBz2 := Nat.le_trans hBz (Nat.le_trans hoA.size hsA.size)
      have HSH2 := Lib.hid HSH.out.num
      clear hsA hXA hCA hoA xc xf f0 f1 f2 f3 f4 f5 f6 HX HC HBW HSH hzw hzA2 hBz
      have HX := HX2; have HC := HC2; have HBW := HBW2; have HSH := HSH2; have hzw := hzB2; have hBz := hBz2
      clear HX2 HC2 HBW2 HSH2 hzB2 hBz2
      generalize WA2.setCell ⟨bm, 3, none⟩ (.int .i64 (numV (numO (some p)))) = WB2 at *
      obtain ⟨f0, f1, f2, f3, f4, f5, f6⟩ := HF5.out.step HBW.out
      dsimp only at f0 f1 f2 f3 f4 f5 f6
      go_upto_region 20 with fail
      have hb0 : w.heap.size < w.heap.size + 1 := Nat.lt_succ_self _
      have HTO := Lib.hid (OwnT.nil WB2 (w.heap.size + 1))
      have HDT := Lib.hid (IsB.nil WB2)
      obtain ⟨m0, m1, m2, m3, m4, m5, m6, m7⟩ := HX.out.cells
      obtain ⟨M, hM⟩ : ∃ M : Msg, M = Msg.mk k n (numV (some p)) (numV (numO (some p))) (0) ([]) ([]) ([]) := ⟨_, rfl⟩
      have HPM := Lib.hid (show parseM ⟨true, true, true, false, false, false, false⟩ k n p = (M, (numO (numO (some p)))) from by rw [hM]; rfl)
      have HEN := Lib.hid (show Calls Try.prog 14 #[.agg #[.int .i64 k, .int .i64 n, .int .i64 (numV (some p)), .int .i64 (numV (numO (some p))), .int .i64 (0), .string ⟨([] : List UInt8).toArray⟩, .slice none 0 0, .slice none 0 0]] WB2 (EncPost WB2 M) from by rw [hM]; exact henc_any (Msg.mk k n (numV (some p)) (numV (numO (some p))) (0) ([]) ([]) ([])) none none 0 0 WB2 HTO.out.isT HDT.out)
      have HMV := Lib.hid (show ∃ la lc da dc, .agg #[.int .i64 k, .int .i64 n, .int .i64 (numV (some p)), .int .i64 (numV (numO (some p))), .int .i64 (0), .string ⟨([] : List UInt8).toArray⟩, .slice none 0 0, .slice none 0 0] = M.val (.slice la M.lst.length lc) (.slice da M.dat.length dc) ∧ (.slice la M.lst.length lc = (.slice none 0 0 : Value) ∧ M.lst = []) ∧ (.slice da M.dat.length dc = (.slice none 0 0 : Value) ∧ M.dat = []) from by rw [hM]; exact ⟨none, 0, none, 0, rfl, ⟨rfl, rfl⟩, rfl, rfl⟩)
      obtain ⟨oF, hoF⟩ : ∃ o, o = (numO (numO (some p))) := ⟨_, rfl⟩
      rw [← hoF] at HPM HC
      clear f0 f1 f2 f3 f4 f5 f6
      clear hM hoF
      have HDP := Lib.hid (fun h => hdecP_bad (M := M) (o := oF) HDE.out (by rw [HUU.out]; exact HPM.out) h)
      cases oF with
      | none =>
        go_upto_region 21 with (go_at_call 14; refine (enc_some HEN.out).mono ?_; rintro e WE ⟨ae, ne, ce, rfl, hOE, hbE⟩)
        have HZE := Lib.hid ((HZ5.out.step HBW.out).step hbE)
        have HBE := Lib.hid (bel_step (bel_step HB5.out HBW.out) hbE)
        have HCE := Lib.hid (HC.out.step hbE)
        have HER := Lib.hid (errc_any B bc none WE HCE.out)
        simp only [ErrV] at HER
        clear hOE hbE m0 m1 m2 m3 m4 m5 m6 m7
        have HNONE := Lib.hid (HDP.out (.inl (by first | rfl | trivial)))
        obtain ⟨c0, c1, c2, c3, c4, c5, c6, c7⟩ := HZE.out.cells
        have g0 := HZE.out.frozen 0
        have g1 := HZE.out.frozen 1
        have g2 := HZE.out.frozen 2
        have g3 := HZE.out.frozen 3
        have g4 := HZE.out.frozen 4
        have g5 := HZE.out.frozen 5
        have g6 := HZE.out.frozen 6
        have g7 := HZE.out.frozen 7
        go_wp2_with (first | (go_at_call 42; refine (HER.out).mono ?_; rintro e Wq ⟨rfl, rfl⟩) | (go_at_call 43; refine (HEQ.out).mono ?_; rintro e Wr ⟨rfl, rfl⟩))
        have HBF := Lib.hid (HBE.out.trans ((Only.sets8 WE w.heap.size (.int .i64 0) (.int .i64 0) (.int .i64 0) (.int .i64 0) (.int .i64 0) (.string ⟨#[]⟩) (.slice none 0 0) (.slice none 0 0)).below (Nat.le_refl _) HBE.out.size))
        exact bodyPost_ret (v := .tuple #[zeroMsg, .iface 43 (.int .i64 2)]) (by simp [results, Try.results20, asAddr, go_sem, zeroMsg, c0, c1, c2, c3, c4, c5, c6, c7]) rfl (HDecPost.bad HNONE.out HBF.out)
      | some rr =>
        by_cases hcm : codeM M = 0
        · have HCM := Lib.hid hcm
          go_upto_region 21 with (go_at_call 14; refine (enc_good HEN.out hcm).mono ?_; rintro e WE ⟨ae, ne, ce, rfl, hOE, hbE⟩)
          have HZE := Lib.hid ((HZ5.out.step HBW.out).step hbE)
          have HBE := Lib.hid (bel_step (bel_step HB5.out HBW.out) hbE)
          have HCE := Lib.hid (HC.out.step hbE)
          have HER := Lib.hid (errc_any B bc (some rr) WE HCE.out)
          simp only [ErrV] at HER
          have HEQ := Lib.hid (equal_any _ _ _ _ WE hOE (H.out.step HBE.out))
          by_cases heb : encM M = b
          · have HEB := Lib.hid heb
            have hbq : (encM M == b) = true := by simpa using heb
            rw [hbq] at HEQ
            have HTE := Lib.hid (HTO.out.step hbE)
            have HDB := Lib.hid (HDT.out.step hbE)
            have HG := Lib.hid (hdecP_good (M := M) (r := rr) HDE.out HOK.out (by rw [HUU.out]; exact HPM.out) HCM.out HEB.out)
            obtain ⟨n0, n1, n2, n3, n4, n5, n6, n7⟩ := (HX.out.step hbE).cells
            obtain ⟨c0, c1, c2, c3, c4, c5, c6, c7⟩ := HZE.out.cells
            have g0 := HZE.out.frozen 0
            have g1 := HZE.out.frozen 1
            have g2 := HZE.out.frozen 2
            have g3 := HZE.out.frozen 3
            have g4 := HZE.out.frozen 4
            have g5 := HZE.out.frozen 5
            have g6 := HZE.out.frozen 6
            have g7 := HZE.out.frozen 7
            clear hOE hbE m0 m1 m2 m3 m4 m5 m6 m7 hcm heb hbq
            go_wp2_with (first | (go_at_call 42; refine (HER.out).mono ?_; rintro e Wq ⟨rfl, rfl⟩) | (go_at_call 43; refine (HEQ.out).mono ?_; rintro e Wr ⟨rfl, rfl⟩))
            have hsF := Only.sets8 WE w.heap.size (.int .i64 k) (.int .i64 n) (.int .i64 (numV (some p))) (.int .i64 (numV (numO (some p)))) (.int .i64 (0)) (.string ⟨([] : List UInt8).toArray⟩) (.slice none 0 0) (.slice none 0 0)
            have hBF := HBE.out.trans (hsF.below (Nat.le_refl _) HBE.out.size)
            have hTF := (OwnT.only HTE.out hsF hb0).isT
            have hDF := HDB.out.onlyN hsF HZE.out.noB
            obtain ⟨la', lc', da', dc', hv, ⟨hl1, hl2⟩, hd1, hd2⟩ := HMV.out
            refine bodyPost_ret (v := .tuple #[.agg #[.int .i64 k, .int .i64 n, .int .i64 (numV (some p)), .int .i64 (numV (numO (some p))), .int .i64 (0), .string ⟨([] : List UInt8).toArray⟩, .slice none 0 0, .slice none 0 0], .nilIface]) (by simp [results, Try.results20, asAddr, go_sem, c0, c1, c2, c3, c4, c5, c6, c7]) rfl ?_
            rw [hv]
            exact HDecPost.good HG.out la' lc' da' dc' (by rw [hl1, hl2]; exact hTF) (by rw [hd1, hd2]; exact hDF) hBF
          · have hbq : (encM M == b) = false := by simpa using heb
            rw [hbq] at HEQ
            have HNB := Lib.hid heb
            clear hOE hbE m0 m1 m2 m3 m4 m5 m6 m7 hcm heb hbq
            have HNONE := Lib.hid (HDP.out (.inr (.inr HNB.out)))
            obtain ⟨c0, c1, c2, c3, c4, c5, c6, c7⟩ := HZE.out.cells
            have g0 := HZE.out.frozen 0
            have g1 := HZE.out.frozen 1
            have g2 := HZE.out.frozen 2
            have g3 := HZE.out.frozen 3
            have g4 := HZE.out.frozen 4
            have g5 := HZE.out.frozen 5
            have g6 := HZE.out.frozen 6
            have g7 := HZE.out.frozen 7
            go_wp2_with (first | (go_at_call 42; refine (HER.out).mono ?_; rintro e Wq ⟨rfl, rfl⟩) | (go_at_call 43; refine (HEQ.out).mono ?_; rintro e Wr ⟨rfl, rfl⟩))
            have HBF := Lib.hid (HBE.out.trans ((Only.sets8 WE w.heap.size (.int .i64 0) (.int .i64 0) (.int .i64 0) (.int .i64 0) (.int .i64 0) (.string ⟨#[]⟩) (.slice none 0 0) (.slice none 0 0)).below (Nat.le_refl _) HBE.out.size))
            exact bodyPost_ret (v := .tuple #[zeroMsg, .iface 43 (.int .i64 2)]) (by simp [results, Try.results20, asAddr, go_sem, zeroMsg, c0, c1, c2, c3, c4, c5, c6, c7]) rfl (HDecPost.bad HNONE.out HBF.out)
        · have HCM := Lib.hid hcm
          go_upto_region 21 with (go_at_call 14; refine (enc_bad HEN.out hcm).mono ?_; rintro e WE ⟨ae, ne, ce, rfl, hOE, hbE⟩)
          have HZE := Lib.hid ((HZ5.out.step HBW.out).step hbE)
          have HBE := Lib.hid (bel_step (bel_step HB5.out HBW.out) hbE)
          have HCE := Lib.hid (HC.out.step hbE)
          have HER := Lib.hid (errc_any B bc (some rr) WE HCE.out)
          simp only [ErrV] at HER
          clear hOE hbE m0 m1 m2 m3 m4 m5 m6 m7 hcm
          have HNONE := Lib.hid (HDP.out (.inr (.inl HCM.out)))
          obtain ⟨c0, c1, c2, c3, c4, c5, c6, c7⟩ := HZE.out.cells
          have g0 := HZE.out.frozen 0
          have g1 := HZE.out.frozen 1
          have g2 := HZE.out.frozen 2
          have g3 := HZE.out.frozen 3
          have g4 := HZE.out.frozen 4
          have g5 := HZE.out.frozen 5
          have g6 := HZE.out.frozen 6
          have g7 := HZE.out.frozen 7
          go_wp2_with (first | (go_at_call 42; refine (HER.out).mono ?_; rintro e Wq ⟨rfl, rfl⟩) | (go_at_call 43; refine (HEQ.out).mono ?_; rintro e Wr ⟨rfl, rfl⟩))
          have HBF := Lib.hid (HBE.out.trans ((Only.sets8 WE w.heap.size (.int .i64 0) (.int .i64 0) (.int .i64 0) (.int .i64 0) (.int .i64 0) (.string ⟨#[]⟩) (.slice none 0 0) (.slice none 0 0)).below (Nat.le_refl _) HBE.out.size))
          exact bodyPost_ret (v := .tuple #[zeroMsg, .iface 43 (.int .i64 2)]) (by simp [results, Try.results20, asAddr, go_sem, zeroMsg, c0, c1, c2, c3, c4, c5, c6, c7]) rfl (HDecPost.bad HNONE.out HBF.out)
end Go.Proofs.Ytbfpjldincnihaa
