/- WholeBill's send: what of a node's log comes to the ledger. No condition beyond what lies in memory. -/
import Derived.Test.YthhooocckfljaaaMem
namespace Go.Proofs.Ythhooocckfljaaa
open Go.RowKit Go.Maps Go.Shelf
set_option linter.unusedVariables false
set_option linter.unusedSimpArgs false

/-- What send leaves. -/
def Sent (p b b16 b17 i s ty16 ty17 : Nat) (L S : List Ent) (AH AY : Nat → Int) (F17 : Nat → Value) (cut : Nat) (w' : World) : Prop :=
  ∃ (k : Nat) (full : Bool), k ≤ L.length ∧ IsSet w' p b (L.take k ++ S) ∧ (120 * L.length ≤ cut → full = true) ∧
    (full = false → Row w' b17 ty17 3 F17 ∧ Row w' b16 ty16 6 (pairF AH AY)) ∧
    (full = true → k = L.length ∧ Row w' b17 ty17 3 (updV F17 i (.int .i64 (L.length : Nat))) ∧ Row w' b16 ty16 6 (pairF (fun t => AH t + totP (ofT t) Ent.hits (L.drop s)) (fun t => AY t + totP (ofT t) Ent.bytes (L.drop s))))

set_option maxRecDepth 100000 in
set_option maxHeartbeats 4000000 in
theorem send_run (b12 b16 b17 b18 p b i cut s ty16 ty17 base : Nat) (L S : List Ent) (lv : Value) (AH AY : Nat → Int) (F17 : Nat → Value) (w : World)
    (hi : i < 3) (hcut : cut ≤ 1048576) (hL : ∀ e ∈ L, codeE e = 0 ∧ 0 ≤ e.ten ∧ e.ten ≤ 2) (hlen : L.length ≤ 960) (hs : s ≤ L.length) (hS : S.length ≤ 900000)
    (hu : ∀ e ∈ L, ∀ f ∈ L ++ S, sameK f e → f = e)
    (hA : ∀ t, 0 ≤ AH t ∧ AH t ≤ 1000000000 ∧ 0 ≤ AY t ∧ AY t ≤ 1000000000)
    (cl : w.cell? ⟨b12, i, none⟩ = some lv) (hE : OwnE w base lv L) (cp : w.cell? ⟨b18, 0, none⟩ = some (.pointer (some ⟨p, 0, none⟩))) (hset : IsSet w p b S)
    (h17 : Row w b17 ty17 3 F17) (hf17 : F17 i = .int .i64 s) (h16 : Row w b16 ty16 6 (pairF AH AY))
    (n1 : b12 ∉ [b, b16, b17]) (n2 : b18 ∉ [b, b16, b17]) (n3 : p ∉ [b, b16, b17]) (n4 : b ≠ b16 ∧ b ≠ b17 ∧ b16 ≠ b17) (n5 : ∀ g, lv.ownBlock = some g → g ∉ [b, b16, b17]) :
    Calls Try.prog 7 #[.int .i64 i, .int .i64 cut, .pointer (some ⟨b12, 0, none⟩), .pointer (some ⟨b18, 0, none⟩), .pointer (some ⟨b17, 0, none⟩), .pointer (some ⟨b16, 0, none⟩)] w fun e w' =>
      e = .returned (.bool true) ∧ Kept [b, b16, b17] w w' ∧ Sent p b b16 b17 i s ty16 ty17 L S AH AY F17 cut w' := by
  obtain ⟨la, lc, rfl⟩ := hE.shape
  have hcode : ∀ e ∈ L, codeE e = 0 := fun e he => (hL e he).1
  have HENC := encs_any (.slice la L.length lc) L w hE.isE (fun e he => fit_ok (hcode e he)) (by omega)
  rw [encsC_all L hcode, encsB_ok hcode, show errV 0 = .nilIface from rfl] at HENC
  have hbl := recs_len L hcode
  obtain ⟨k0, hk0, hsz, hdec, hfull⟩ := torn_any L hcode (min cut (L.flatMap recE).length)
  generalize hbe : L.flatMap recE = bts at *
  have hmi : min (cut : Int) (bts.length : Int) = ((min cut bts.length : Nat) : Int) := by omega
  have hnb : min cut bts.length ≤ bts.length := Nat.min_le_right _ _
  have hnc : min cut bts.length ≤ cut := Nat.min_le_left _ _
  have hcf : bts.length ≤ cut → k0 = L.length := fun h => hfull (by omega)
  have hfin : 120 * L.length ≤ cut → bts.length ≤ cut := fun h => by omega
  generalize min cut bts.length = n at *
  have HDEC := Lib.hid (fun W a c h => decs_any (.slice a n c) (bts.take n) W h (by rw [List.length_take]; omega))
  rw [hdec] at HDEC
  have hTl : (L.take k0).length = k0 := by rw [List.length_take]; omega
  have HENC2 := Lib.hid HENC
  have HCF := Lib.hid hcf
  have HFI := Lib.hid hfin
  have HBE := Lib.hid hbe
  have HCO := Lib.hid hL
  have HU := Lib.hid hu
  have HA := Lib.hid hA
  have HE := Lib.hid hE
  have HSET := Lib.hid hset
  have H17 := Lib.hid h17
  have H16 := Lib.hid h16
  have HF17 := Lib.hid hf17
  have N1 := Lib.hid n1
  have N2 := Lib.hid n2
  have N3 := Lib.hid n3
  have N4 := Lib.hid n4
  have N5 := Lib.hid n5
  have HSB := Lib.hid (show L.length ≤ 960 ∧ S.length ≤ 900000 ∧ s ≤ L.length from ⟨hlen, hS, hs⟩)
  have hbb : b < w.heap.size := hset.2.lt
  clear HENC hcf hfin hfull hdec hbe hL hu hA hE hset h17 h16 hf17 n1 n2 n3 n4 n5 hcode hS hs
  have hi0 : (0 : Int) ≤ (i : Int) := by omega
  have hi1 : (i : Int) < 3 := by omega
  have hszI : (sizeK L k0 : Int) ≤ (cut : Int) := by omega
  have hkI : (k0 : Int) ≤ (L.length : Int) := by omega
  have hszN : ¬ cut < sizeK L k0 := by omega
  have hkN : ¬ L.length < k0 := by omega
  have hszD : decide (cut < sizeK L k0) = false := by simp; omega
  have hkD : decide (L.length < k0) = false := by simp; omega
  go_enter Try.func7, Try.ntmps7
  go_upto_region 2 with (go_at_call 8; refine (HENC2.out).mono ?_; rintro r w1 ⟨u1, rfl, ho1, hb1⟩; obtain ⟨a1, c1, rfl, hq1, _, _⟩ := ho1.isB.shape)
  have HB1 := Lib.hid hb1
  have HI1 := Lib.hid ((ho1.isB).upto n hnb)
  have cl1 := keep_at hb1 cl
  have cp1 := keep_at hb1 cp
  have hq2 : (n : Int) ≤ (c1 : Int) := by omega
  have hn0 : (0 : Int) ≤ (n : Int) := by omega
  clear ho1 hb1 cl cp HENC2
  go_upto_region 5 with (go_at_call 9; refine (HDEC.out _ _ _ HI1.out).mono ?_; rintro r w2 ⟨u2, rfl, ho2, hb2⟩; obtain ⟨a2, c2, rfl⟩ := ho2.shape; simp only [hTl] at ho2 ⊢)
  have hB2 := bel_step HB1.out hb2
  have HS2 := Lib.hid (HSET.out.step hB2 (block_lt_of_cell HSET.out.1) hbb)
  have HE2 := Lib.hid (HE.out.step hB2)
  have HB2 := Lib.hid hB2
  have HO2 := Lib.hid ho2
  have hzz : w.heap.size ≤ w1.heap.size := HB1.out.size
  have cl2 := keep_at hb2 cl1
  have cp2 := keep_at hb2 cp1
  have hob : ∀ g, (Value.slice a2 k0 c2).ownBlock = some g → g ∉ [b] := by
    intro g hg
    have := (World.ownsRow.lt ho2 g hg).1
    simp only [List.mem_singleton]
    omega
  have HOB := Lib.hid hob
  have HN5 := Lib.hid (show ∀ g, (Value.slice la L.length lc).ownBlock = some g → g ∉ [b] from fun g hg hm => N5.out g hg (by simp at hm; simp [hm]))
  have HN1 := Lib.hid (show b12 ∉ [b] from fun hm => N1.out (by simp at hm; simp [hm]))
  have HN2 := Lib.hid (show b18 ∉ [b] from fun hm => N2.out (by simp at hm; simp [hm]))
  have hpb : some p ≠ some b := fun e => N3.out (by cases e; simp)
  have HCT := Lib.hid (show ∀ j e, L[j]? = some e → ∀ x, x ∈ L.take (j + 1) ++ S ↔ x ∈ e :: (L.take j ++ S) from fun j e he x => by rw [take_more he]; simp only [List.mem_append, List.mem_cons, List.mem_singleton, List.not_mem_nil, or_false]; constructor <;> rintro h <;> rcases h with h | h <;> first | (rcases h with h | h <;> simp [h]) | simp [h])
  clear hb2 ho2 hB2 cl1 cp1 HB1 HI1 hob
  go_upto_region 8 with fail
  go_loopw [52] (fun ii wr => ∃ j : Nat, ii = .int .i64 j ∧ j ≤ k0 ∧ IsSet wr p b (L.take j ++ S) ∧ Kept [b] w2 wr) (fun ii _ => k0 - (intOf ii).toNat)
  case atStart => exact ⟨0, rfl, Nat.zero_le _, by simpa using HS2.out, Kept.refl _ _⟩
  case round =>
    obtain ⟨j, rfl, hj, hst, hkp⟩ := hrel
    have cl3 := hkp.cell cl2 HN1.out
    have cp3 := hkp.cell cp2 HN2.out
    have HST := Lib.hid hst
    have HKP := Lib.hid hkp
    clear hst hkp cl2 cp2
    by_cases hlt : j < k0
    · have hj0 : (0 : Int) ≤ (j : Int) := by omega
      have hj1 : (j : Int) < (k0 : Int) := by omega
      have hj2 : (j : Int) < (L.length : Int) := by omega
      obtain ⟨g, o, cap, e, hv, hek, hat⟩ := (HKP.out.own HO2.out HOB.out).isE.elem (k := j) (by rw [hTl]; exact hlt)
      simp only [Value.slice.injEq] at hv
      obtain ⟨rfl, hv2, rfl⟩ := hv
      rw [List.getElem?_take_of_lt hlt] at hek
      obtain ⟨g2, o2, cap2, e2, hv, hek2, hat2⟩ := (HKP.out.own HE2.out HN5.out).isE.elem (k := j) (by omega)
      simp only [Value.slice.injEq] at hv
      obtain ⟨rfl, hv3, rfl⟩ := hv
      rw [hek] at hek2
      injection hek2 with hek2
      subst hek2
      have hmem := List.mem_of_getElem? hek
      have hce := (HCO.out e hmem).1
      have HPUT := Lib.hid (fun W hW => put_run p b (L.take j ++ S) e W hW hce (fun f hf hk => HU.out e hmem f (by rcases List.mem_append.1 hf with h | h; exact List.mem_append_left _ (List.mem_of_mem_take h); exact List.mem_append_right _ h) hk) (by rw [List.length_append, List.length_take]; have := HSB.out; omega))
      have HEK := Lib.hid hek
      have hbx := EntAt.box wr e
      have hn1 := bel_new wr (.cells #[.string ⟨e.node.toArray⟩, .int .i64 e.boot, .int .i64 e.seq, .int .i64 e.ten, .int .i64 e.hits, .int .i64 e.bytes, .int .i64 e.att] 46)
      have cl4 := keep_at hn1 cl3
      have cp4 := keep_at hn1 cp3
      have hat3 := hat2.step hn1
      obtain ⟨x0, x1, x2, x3, x4, x5, x6⟩ := hat
      obtain ⟨z0, z1, z2, z3, z4, z5, z6⟩ := hat3
      obtain ⟨y0, y1, y2, y3, y4, y5, y6⟩ := hbx
      simp only [Nat.zero_add] at y0 y1 y2 y3 y4 y5 y6
      have HN1' := Lib.hid hn1
      unfold Ent.val at *
      clear hek hmem hce hv2 hv3 hat2 hn1
      go_upto_region 10 with fail
      clear x0 x1 x2 x3 x4 x5 x6 cl3 cp3
      generalize hW1 : wr.alloc (.cells #[.string ⟨e.node.toArray⟩, .int .i64 e.boot, .int .i64 e.seq, .int .i64 e.ten, .int .i64 e.hits, .int .i64 e.bytes, .int .i64 e.att] 46) = W1 at *
      clear hW1
      go_quiet (fail)
      have HSW := Lib.hid (show IsSet (W1.drewN nq) p b (L.take j ++ S) from (HST.out.step HN1'.out (block_lt_of_cell HST.out.1) HST.out.2.lt : IsSet W1 p b (L.take j ++ S)))
      have HKW := Lib.hid ((HKP.out.trans (Kept.of_below HN1'.out)).drewN nq)
      clear z0 z1 z2 z3 z4 z5 z6
      go_wp2_with (go_at_call 10; refine (HPUT.out (W1.drewN nq) HSW.out).mono ?_; rintro r w5 ⟨tt, rfl, hm5, hg5, _⟩)
      have hs5 : IsSet w5 p b (L.take (j + 1) ++ S) := ⟨keep_grown hg5 hpb HSW.out.1, hm5.congr (HCT.out j e HEK.out)⟩
      have hk5 := HKW.out.trans (Kept.of_grown hg5 (List.mem_singleton.2 rfl))
      go_roundw
      case rel => exact ⟨j + 1, by go_num, by omega, hs5, hk5⟩
      case measure => simp [intOf]; omega
    · obtain rfl : j = k0 := by omega
      have HK3 := Lib.hid ((Kept.of_below (bs := [b]) HB2.out).trans HKP.out)
      have h17 : Row wr b17 ty17 3 F17 := H17.out.keep HK3.out (by have := N4.out; simp; omega)
      have h16 : Row wr b16 ty16 6 (pairF AH AY) := H16.out.keep HK3.out (by have := N4.out; simp; omega)
      have c17 := h17.cell hi
      rw [HF17.out] at c17
      have f17 := h17.frozen i
      have HR17 := Lib.hid h17
      have HR16 := Lib.hid h16
      have HE3 := Lib.hid (HKP.out.own HE2.out HN5.out)
      clear h17 h16 HKP
      by_cases hc : bts.length ≤ cut
      · obtain rfl := HCF.out hc
        have hcI : (bts.length : Int) ≤ (cut : Int) := by omega
        have hs0 : (0 : Int) ≤ (s : Int) := by omega
        have hs1 : (s : Int) ≤ (L.length : Int) := by have := HSB.out; omega
        have hcap := HE3.out.isE.shape
        obtain ⟨_, _, hcv, hcl, _⟩ := hcap
        simp only [Value.slice.injEq] at hcv
        obtain ⟨rfl, hv2, rfl⟩ := hcv
        have hs2 : (L.length : Int) ≤ (lc : Int) := by omega
        clear hv2
        go_upto_region 19 with fail
        go_quiet (fail)
        have HD9 := Lib.hid (show IsE (wr.drewN nq) _ (L.drop s) from (HE3.out.isE.cut s (by have := HSB.out; omega)))
        have HST3 := Lib.hid (show IsSet (wr.drewN nq) p b (L.take L.length ++ S) from HST.out)
        have HR173 := Lib.hid (show Row (wr.drewN nq) b17 ty17 3 F17 from HR17.out)
        have HR163 := Lib.hid (show Row (wr.drewN nq) b16 ty16 6 (pairF AH AY) from HR16.out)
        have HK4 := Lib.hid (HK3.out.drewN nq)
        have d12 : (wr.drewN nq).cell? ⟨b12, i, none⟩ = some (.slice la L.length lc) := cl3
        have hml : (L.drop s).length = L.length - s := List.length_drop
        have hgd : ∀ e ∈ L.drop s, codeE e = 0 ∧ 0 ≤ e.ten ∧ e.ten ≤ 2 := fun e he => HCO.out e (List.mem_of_mem_drop he)
        have HGD := Lib.hid hgd
        have hm960 : (L.drop s).length ≤ 960 := by omega
        clear hgd cl3 cp3 c17 f17 HE3 HST HR17 HR16 HK3
        have HAX := Lib.hid (show ∀ g o, (if lc = s then la else Option.map (fun x => x.add (s * 7)) la) = some ⟨g, o, none⟩ → g ∉ [b, b16, b17] by
          intro g o hg
          by_cases hc : lc = s
          · rw [if_pos hc] at hg
            exact N5.out g (by rw [hg]; rfl)
          · rw [if_neg hc] at hg
            cases hla : la with
            | none => rw [hla] at hg; cases hg
            | some x =>
              rw [hla] at hg
              simp only [Option.map_some, Option.some.injEq] at hg
              have hxb : x.block = g := by have := congrArg Addr.block hg; simp only [Addr.add] at this; split at this <;> simpa using this
              exact N5.out g (by rw [hla, ← hxb]; rfl))
        generalize wr.drewN nq = W3 at *
        generalize (if lc = s then la else Option.map (fun x => x.add (s * 7)) la) = ax at *
        generalize lc - s = cx at *
        generalize L.length - s = mx at *
        generalize hD : L.drop s = D at *
        have HDD := Lib.hid hD
        clear hD
        have hmI : (mx : Int) ≤ 960 := by omega
        go_upto_region 20 with fail
        go_loopw [93] (fun ii wr => ∃ j : Nat, ii = .int .i64 j ∧ j ≤ mx ∧ Row wr b16 ty16 6 (pairF (fun t => AH t + totP (ofT t) Ent.hits (D.take j)) (fun t => AY t + totP (ofT t) Ent.bytes (D.take j))) ∧ Kept [b16] W3 wr) (fun ii _ => mx - (intOf ii).toNat)
        case atStart => exact ⟨0, rfl, Nat.zero_le _, HR163.out.congr fun k _ => congrFun (pairF_congr (fun t => by simp [totP]) (fun t => by simp [totP])) k, Kept.refl _ _⟩
        case round =>
          obtain ⟨j, rfl, hj, hrow, hkp⟩ := hrel
          have HROW := Lib.hid hrow
          have HKP := Lib.hid hkp
          clear hrow hkp
          by_cases hlt : j < mx
          · have hj0 : (0 : Int) ≤ (j : Int) := by omega
            have hj1 : (j : Int) < (mx : Int) := by omega
            obtain ⟨g3, o3, cap3, e, hv, hek, hat0⟩ := HD9.out.elem (k := j) (by omega)
            simp only [Value.slice.injEq] at hv
            obtain ⟨rfl, hv2, rfl⟩ := hv
            have hat := hat0.kept HKP.out (fun hm => HAX.out g3 o3 rfl (by simp at hm; simp [hm]))
            obtain ⟨hce, ht0, ht2⟩ := HGD.out e (List.mem_of_getElem? hek)
            have hsm := sums_of e hce
            obtain ⟨t, ht⟩ : ∃ t : Nat, e.ten = (t : Int) := ⟨e.ten.toNat, by omega⟩
            have hb1 := totP_bound (ofT t) Ent.hits (D.take j) fun x hx => (sums_of x (HGD.out x (List.mem_of_mem_take hx)).1).1
            have hb2 := totP_bound (ofT t) Ent.bytes (D.take j) fun x hx => (sums_of x (HGD.out x (List.mem_of_mem_take hx)).1).2
            rw [List.length_take] at hb1 hb2
            have hat1 := HA.out t
            have hA0 : (0 : Int) ≤ AH t + totP (ofT t) Ent.hits (D.take j) ∧ AH t + totP (ofT t) Ent.hits (D.take j) ≤ 2000000000000000 := by omega
            have hA1 : (0 : Int) ≤ AY t + totP (ofT t) Ent.bytes (D.take j) ∧ AY t + totP (ofT t) Ent.bytes (D.take j) ≤ 2000000000000000 := by omega
            have hw0 : wrap64 (AH t + totP (ofT t) Ent.hits (D.take j) + e.hits) = AH t + totP (ofT t) Ent.hits (D.take j) + e.hits := by unfold wrap64; omega
            have hw1 : wrap64 (AY t + totP (ofT t) Ent.bytes (D.take j) + e.bytes) = AY t + totP (ofT t) Ent.bytes (D.take j) + e.bytes := by unfold wrap64; omega
            have hbx := EntAt.box wr e
            have hn1 := bel_new wr (.cells #[.string ⟨e.node.toArray⟩, .int .i64 e.boot, .int .i64 e.seq, .int .i64 e.ten, .int .i64 e.hits, .int .i64 e.bytes, .int .i64 e.att] 46)
            have hrow1 := HROW.out.keep (Kept.of_below (bs := []) hn1) (by simp)
            have HK1 := Lib.hid (HKP.out.trans (Kept.of_below hn1))
            have ht3 : t < 3 := by omega
            have hti0 : (0 : Int) ≤ (t : Int) := by omega
            have hti : (t : Int) < 3 := by omega
            have HEK := Lib.hid hek
            have HTE := Lib.hid ht
            obtain ⟨x0, x1, x2, x3, x4, x5, x6⟩ := hat
            obtain ⟨y0, y1, y2, y3, y4, y5, y6⟩ := hbx
            simp only [Nat.zero_add] at y0 y1 y2 y3 y4 y5 y6
            clear hek hat0 hv2 hce ht0 ht2 hsm hb1 hb2 hat1 hA0 hA1 hn1 ht
            go_upto_region 22 with fail
            clear x0 x1 x2 x3 x4 x5 x6 y0 y1 y2 y6
            generalize hW1 : wr.alloc (.cells #[.string ⟨e.node.toArray⟩, .int .i64 e.boot, .int .i64 e.seq, .int .i64 e.ten, .int .i64 e.hits, .int .i64 e.bytes, .int .i64 e.att] 46) = W1 at *
            clear hW1
            rw [HTE.out] at y3
            have m0 := hrow1.pair0 t (by omega)
            have f0 := hrow1.frozen (t * 2)
            have f1 := hrow1.frozen (t * 2 + 1)
            have HR1 := Lib.hid hrow1
            clear hrow1
            refine wp_region_last_drew (by kernel_rfl) (by kernel_rfl) (by kernel_rfl) (by kernel_rfl) (by kernel_rfl) (by kernel_rfl) ?_
            dsimp only [idleLast, lastOf, idle]
            repeat (go_big_quiet_step (fail))
            refine wpQuiet_nil ?_
            rintro _ ⟨nq2, rfl⟩
            refine wpList_plain rfl fun K hK => ?_
            go_simp
            refine hK _ _ ?_
            clear hK K
            have hbn : wr.heap.size ≠ b16 := Nat.ne_of_gt HROW.out.lt
            have e3 : ((W1.drewN nq2).setCell ⟨b16, t * 2, none⟩ (.int .i64 (AH t + totP (ofT t) Ent.hits (D.take j) + e.hits))).cell? ⟨wr.heap.size, 3, none⟩ = some (.int .i64 t) := keep_set hbn y3
            have e5 : ((W1.drewN nq2).setCell ⟨b16, t * 2, none⟩ (.int .i64 (AH t + totP (ofT t) Ent.hits (D.take j) + e.hits))).cell? ⟨wr.heap.size, 5, none⟩ = some (.int .i64 e.bytes) := keep_set hbn y5
            have hr2 : Row ((W1.drewN nq2).setCell ⟨b16, t * 2, none⟩ (.int .i64 (AH t + totP (ofT t) Ent.hits (D.take j) + e.hits))) b16 ty16 6 _ := Row.setP0 (w := W1.drewN nq2) HR1.out t _
            have HK2 := Lib.hid (show Kept [b16] W3 ((W1.drewN nq2).setCell ⟨b16, t * 2, none⟩ (.int .i64 (AH t + totP (ofT t) Ent.hits (D.take j) + e.hits))) from (HK1.out.drewN nq2).trans (Kept.set (by simp)))
            clear y3 y4 y5 m0 f0 f1 HK1 HR1
            generalize (W1.drewN nq2).setCell ⟨b16, t * 2, none⟩ (.int .i64 (AH t + totP (ofT t) Ent.hits (D.take j) + e.hits)) = W2' at *
            have m1 := hr2.pair1 t (by omega)
            have f1 := hr2.frozen (t * 2 + 1)
            have HR2 := Lib.hid hr2
            clear hr2
            go_upto_region 23 with fail
            refine wp_region_last_drew (by kernel_rfl) (by kernel_rfl) (by kernel_rfl) (by kernel_rfl) (by kernel_rfl) (by kernel_rfl) ?_
            dsimp only [idleLast, lastOf, idle]
            repeat (go_big_quiet_step (fail))
            refine wpQuiet_nil ?_
            rintro _ ⟨nq3, rfl⟩
            refine wpList_plain rfl fun K hK => ?_
            go_simp
            refine hK _ _ ?_
            clear hK K
            have hr3 : Row ((W2'.drewN nq3).setCell ⟨b16, t * 2 + 1, none⟩ (.int .i64 (AY t + totP (ofT t) Ent.bytes (D.take j) + e.bytes))) b16 ty16 6 _ := Row.setP1 (w := W2'.drewN nq3) HR2.out t _
            have HR3 := Lib.hid (hr3.congr (g := pairF (fun t => AH t + totP (ofT t) Ent.hits (D.take (j + 1))) (fun t => AY t + totP (ofT t) Ent.bytes (D.take (j + 1)))) fun k _ => congrFun (pairF_congr
              (fun t' => by
                have hmo := totP_more (ofT t') Ent.hits HEK.out
                unfold upd
                by_cases htt : t' = t
                · subst htt
                  rw [hmo, if_pos rfl, show ofT (t' : Int) e = true by simp [ofT, HTE.out], if_pos rfl]
                  omega
                · rw [hmo, if_neg htt, show ofT (t' : Int) e = false by simp [ofT, HTE.out]; omega]
                  simp)
              (fun t' => by
                have hmo := totP_more (ofT t') Ent.bytes HEK.out
                unfold upd
                by_cases htt : t' = t
                · subst htt
                  rw [hmo, if_pos rfl, show ofT (t' : Int) e = true by simp [ofT, HTE.out], if_pos rfl]
                  omega
                · rw [hmo, if_neg htt, show ofT (t' : Int) e = false by simp [ofT, HTE.out]; omega]
                  simp)) k)
            have HK3 := Lib.hid (show Kept [b16] W3 ((W2'.drewN nq3).setCell ⟨b16, t * 2 + 1, none⟩ (.int .i64 (AY t + totP (ofT t) Ent.bytes (D.take j) + e.bytes))) from (HK2.out.drewN nq3).trans (Kept.set (by simp)))
            clear e3 e5 m1 f1 HK2 HR2 hr3
            generalize (W2'.drewN nq3).setCell ⟨b16, t * 2 + 1, none⟩ (.int .i64 (AY t + totP (ofT t) Ent.bytes (D.take j) + e.bytes)) = W5 at *
            go_wp2_with fail
            go_roundw
            case rel => exact ⟨j + 1, by go_num, by omega, HR3.out, HK3.out⟩
            case measure => simp [intOf]; omega
          · obtain rfl : j = mx := by omega
            have d13 := HKP.out.cell d12 (fun hm => N1.out (by simp at hm; simp [hm]))
            have h17 : Row wr b17 ty17 3 F17 := HR173.out.keep HKP.out (by have := N4.out; simp; omega)
            have f17 := h17.frozen i
            have c17 := h17.cell hi
            rw [HF17.out] at c17
            have H17' := Lib.hid (h17.set i (.int .i64 (L.length : Nat)))
            have HR' := Lib.hid (HROW.out.keep (w' := wr.setCell ⟨b17, i, none⟩ (.int .i64 (L.length : Nat))) (Kept.set (bs := [b17]) (by simp)) (by have := N4.out; simp; omega))
            have HK5 := Lib.hid (((HK4.out.mono (cs := [b, b16, b17]) (by simp)).trans (HKP.out.mono (by simp))).trans (Kept.set (bs := [b, b16, b17]) (b := b17) (k := i) (u := .int .i64 (L.length : Nat)) (by simp)))
            have HS5 := Lib.hid ((Kept.set (bs := [b17]) (w := wr) (b := b17) (k := i) (u := .int .i64 (L.length : Nat)) (by simp)).set_ (HKP.out.set_ HST3.out (fun hm => N3.out (by simp at hm; simp [hm])) (by have := N4.out; simp; omega)) (fun hm => N3.out (by simp at hm; simp [hm])) (by have := N4.out; simp; omega))
            clear h17
            go_wp2_with fail
            go_ret
            refine ⟨rfl, HK5.out, L.length, true, Nat.le_refl _, HS5.out, fun _ => rfl, fun h => (by cases h), fun _ => ⟨rfl, H17'.out, ?_⟩⟩
            rw [HDD.out]
            have := HR'.out
            rw [show D.take j = D from List.take_of_length_le (by omega)] at this
            exact this
      · have hcI : ¬ (bts.length : Int) ≤ (cut : Int) := by omega
        have hfull : ¬ 120 * L.length ≤ cut := fun h => hc (HFI.out h)
        go_wp2_with fail
        go_ret
        exact ⟨rfl, HK3.out.mono (by simp), j, false, hk0, HST.out, fun h => absurd h hfull, fun _ => ⟨HR17.out, HR16.out⟩, fun h => (by cases h)⟩
end Go.Proofs.Ythhooocckfljaaa
