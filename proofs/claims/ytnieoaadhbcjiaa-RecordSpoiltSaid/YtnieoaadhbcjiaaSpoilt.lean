/- The walk of the law RecordSpoilt: it returns true. No condition beyond the slice's reading. -/
import Derived.Test.YtnieoaadhbcjiaaBurst
import Derived.Test.YtnieoaadhbcjiaaLarge
import Derived.Test.YtnieoaadhbcjiaaPrefBase
import Derived.ChangeKeysEq
namespace Go.Proofs.Ytnieoaadhbcjiaa
open Go.RowKit
set_option linter.unusedVariables false
set_option linter.unusedSimpArgs false

theorem OwnB.at {w : World} {base g n cap : Nat} {L : List UInt8} (h : OwnB w base (.slice (some ⟨g, 0, none⟩) n cap) L) (hn : n = L.length) (j : Nat) (hj : j < L.length) : w.cell? ⟨g, j, none⟩ = some (.int .u8 ((L.getD j 0).toNat : Int)) ∧ w.frozen? ⟨g, j, none⟩ = false := by
  subst hn
  refine ⟨?_, World.ownsRow.frozenAt h j⟩
  rw [World.ownsRow.cellAt h j (by omega), List.getElem?_map]
  simp [List.getElem?_eq_getElem hj, List.getD, bcell]
theorem OwnB.put {w : World} {base g n cap : Nat} {L : List UInt8} (h : OwnB w base (.slice (some ⟨g, 0, none⟩) n cap) L) (hn : n = L.length) (j : Nat) (x : Int) (c : UInt8) (hx : x = (c.toNat : Int)) : OwnB (w.setCell ⟨g, j, none⟩ (.int .u8 x)) base (.slice (some ⟨g, 0, none⟩) n cap) (L.set j c) := by
  subst hx hn
  have h9 := World.ownsRow.stored h j (.int .u8 (c.toNat : Int))
  unfold OwnB
  rw [List.length_set, List.map_set]
  exact h9.1
theorem bool_new {L : List UInt8} {e : UInt8} (h : ∀ x ∈ L, x = 0) : Value.bool ((e.toNat : Int) != 0) = Value.bool (decide (¬ ∀ x ∈ L ++ [e], x = 0)) := by
  congr 1
  have h2 : (∀ x ∈ L ++ [e], x = 0) ↔ e = 0 := by
    constructor
    · intro h3; exact h3 e (by simp)
    · rintro rfl x hx
      rcases List.mem_append.1 hx with hx | hx
      · exact h x hx
      · simpa using hx
  by_cases he : e = 0
  · subst he
    rw [decide_eq_false (by rw [h2]; simp)]
    rfl
  · have hn : e.toNat ≠ 0 := fun h3 => he (UInt8.toNat_inj.1 h3)
    rw [decide_eq_true (by rw [h2]; exact he)]
    simpa using hn
theorem bool_old {L : List UInt8} {e : UInt8} (h : ¬ ∀ x ∈ L, x = 0) : Value.bool true = Value.bool (decide (¬ ∀ x ∈ L ++ [e], x = 0)) := by
  rw [decide_eq_true]
  intro h2
  exact h fun x hx => h2 x (List.mem_append_left _ hx)
theorem take_snoc (Q : List UInt8) (k : Nat) (e : UInt8) (h : Q[k]? = some e) : Q.take (k + 1) = Q.take k ++ [e] := by
  obtain ⟨hk, rfl⟩ := List.getElem?_eq_some_iff.1 h
  exact List.take_succ_eq_append_getElem hk
theorem cells5 : Try.prog.cellsOf 5 = 1 := by kernel_rfl
theorem eq73 (a b c d : Int) (w : World) : (Op.equalIn 10000 73 (.agg #[.int .u8 a, .int .u8 b, .int .u8 c, .int .u8 d]) (.agg #[.int .u8 0, .int .u8 0, .int .u8 0, .int .u8 0])).run Try.prog w = .ok (a == 0 && (b == 0 && (c == 0 && d == 0))) w := by
  obtain ⟨i, hi, _⟩ := info_parts info5
  rw [run_equalIn_array w 9999 _ _ Try.underlying73 hi, cells5]
  simp only [show List.range 4 = [0, 1, 2, 3] from rfl, Op.eqItems]
  by_cases ha : a = 0 <;> by_cases hb : b = 0 <;> by_cases hc : c = 0 <;> by_cases hd : d = 0 <;> simp [go_sem, part, ha, hb, hc, hd]

set_option maxRecDepth 100000 in
set_option maxHeartbeats 1000000 in
theorem spoilt_walk (v : Value) (l : List UInt8) (i0 : Int) (q0 q1 q2 q3 : UInt8) (w : World) (hv : IsB w v l) :
    Calls Try.prog 12 #[v, .int .i64 i0, .agg #[.int .u8 (q0.toNat : Int), .int .u8 (q1.toNat : Int), .int .u8 (q2.toNat : Int), .int .u8 (q3.toNat : Int)]] w fun e w' => e = .returned (.bool true) ∧ Below w.heap.size w w' := by
  have HV := Lib.hid hv
  obtain ⟨a, cap, rfl, _⟩ := hv.shape
  clear hv
  by_cases hl : 300 < l.length
  · have hl' : (300 : Int) < (l.length : Int) := by omega
    go_enter Try.func12, Try.ntmps12
    go_wp2_with fail
    refine (awake_any _).mono ?_
    rintro e w1 ⟨rfl, hb⟩
    go_wp2_with fail
    refine (awake_any _).mono ?_
    rintro e w2 ⟨rfl, hb2⟩
    go_wp2_with fail
    go_ret
    exact ⟨rfl, bel_step (bel_step (bel_new w _) hb) hb2⟩
  have hl' : (l.length : Int) ≤ 300 := by omega
  go_enter Try.func12, Try.ntmps12
  go_wp2_with fail
  refine (awake_any _).mono ?_
  rintro e w1 ⟨rfl, hb⟩
  have x0 := keep_at hb (show World.cell? _ ⟨w.heap.size, 0, none⟩ = some (.int .u8 (q0.toNat : Int)) by simp [go_sem])
  have x1 := keep_at hb (show World.cell? _ ⟨w.heap.size, 1, none⟩ = some (.int .u8 (q1.toNat : Int)) by simp [go_sem])
  have x2 := keep_at hb (show World.cell? _ ⟨w.heap.size, 2, none⟩ = some (.int .u8 (q2.toNat : Int)) by simp [go_sem])
  have x3 := keep_at hb (show World.cell? _ ⟨w.heap.size, 3, none⟩ = some (.int .u8 (q3.toNat : Int)) by simp [go_sem])
  have hB := bel_step (bel_new w _) hb
  by_cases hz : q0.toNat = 0 ∧ q1.toNat = 0 ∧ q2.toNat = 0 ∧ q3.toNat = 0
  · have heq : ∀ W, (Op.equalIn 10000 73 (.agg #[.int .u8 (q0.toNat : Int), .int .u8 (q1.toNat : Int), .int .u8 (q2.toNat : Int), .int .u8 (q3.toNat : Int)]) (.agg #[.int .u8 0, .int .u8 0, .int .u8 0, .int .u8 0])).run Try.prog W = .ok true W := fun W => by
      rw [eq73, hz.1, hz.2.1, hz.2.2.1, hz.2.2.2]
      rfl
    clear hz
    go_wp2_with fail
    refine (awake_any _).mono ?_
    rintro e w2 ⟨rfl, hb2⟩
    go_wp2_with fail
    go_ret
    exact ⟨rfl, bel_step hB hb2⟩
  have heq : ∀ W, (Op.equalIn 10000 73 (.agg #[.int .u8 (q0.toNat : Int), .int .u8 (q1.toNat : Int), .int .u8 (q2.toNat : Int), .int .u8 (q3.toNat : Int)]) (.agg #[.int .u8 0, .int .u8 0, .int .u8 0, .int .u8 0])).run Try.prog W = .ok false W := fun W => by
    rw [eq73]
    congr 1
    have : ¬ ((q0.toNat : Int) = 0 ∧ (q1.toNat : Int) = 0 ∧ (q2.toNat : Int) = 0 ∧ (q3.toNat : Int) = 0) := by omega
    simpa using this
  clear hz
  obtain ⟨i, hi⟩ : ∃ n : Nat, clipI i0 0 (l.length : Int) = (n : Int) := ⟨(clipI i0 0 (l.length : Int)).toNat, by have := clip_bd i0 0 (l.length : Int) (by omega); omega⟩
  have hib : i ≤ l.length := by have := clip_bd i0 0 (l.length : Int) (by omega); omega
  have hC1 : ∀ W, Calls Try.prog 31 #[.int .i64 i0, .int .i64 0, .int .i64 (l.length : Int)] W fun e w' => e = .returned (.int .i64 (i : Int)) ∧ W = w' := fun W => by
    have := clip_any i0 0 (l.length : Int) W
    rwa [hi] at this
  have HC1 := Lib.hid hC1
  clear hC1 hi
  go_upto_region 3 with fail
  go_wp2_with fail
  refine (enc_ok 3 5 _ l _ (by omega) (by omega) (HV.out.step hB) (by omega)).mono ?_
  rintro e w2 ⟨u, rfl, ho, hb2⟩
  have hB2 := bel_step hB hb2
  have x0 := keep_at hb2 x0
  have x1 := keep_at hb2 x1
  have x2 := keep_at hb2 x2
  have x3 := keep_at hb2 x3
  have hlen := encP_len 3 5 l
  have hnum := numB_len 5
  have hnum2 := numB_len l.length
  have hSD : ∀ E : List UInt8, E.length ≤ 4 → (i + E.length ≤ l.length ∨ (i = l.length ∧ E.length = 4)) → (¬ ∀ e ∈ E, e = 0) → decP (xorL (encP 3 5 l) ((encP 3 5 l).length - 4 - l.length + i) E) = .inl 12 := fun E h1 h2 h3 => spoil_dec 3 5 l E i (by omega) (by omega) (by omega) h1 h2 h3
  have hSS : ∀ b' : List UInt8, decP b' = .inl 12 → scanP (encP 3 5 l ++ b') = ([(3, 5, l)], (encP 3 5 l).length) := fun b' h => spoil_scan 3 5 l b' (by omega) (by omega) (by omega) h
  obtain ⟨B, hBB⟩ : ∃ B, B = encP 3 5 l := ⟨_, rfl⟩
  rw [← hBB] at ho hlen hSD hSS
  have hI := ho.isB
  obtain ⟨au, cu, rfl, _⟩ := hI.shape
  have HI := Lib.hid hI
  have HSD := Lib.hid hSD
  have HSS := Lib.hid hSS
  have hBl : B.length ≤ 400 := by omega
  have hBg : 4 + l.length < B.length := by omega
  obtain ⟨f, hf⟩ : ∃ f, f = B.length + (B.length - 4 - l.length) := ⟨_, rfl⟩
  have hfi : 2 * (B.length : Int) - 4 - (l.length : Int) = (f : Int) := by omega
  have hfb : f + l.length + 4 = 2 * B.length := by omega
  have HF := Lib.hid hf
  have hBl' : (B.length : Int) ≤ 400 := by omega
  have hwf : wrap64 (wrap64 (wrap64 (2 * (B.length : Int)) - 4) - (l.length : Int)) = (f : Int) := by
    rw [IntWalk.wrap64_in (2 * (B.length : Int)) ⟨by omega, by omega⟩, IntWalk.wrap64_in (2 * (B.length : Int) - 4) ⟨by omega, by omega⟩, IntWalk.wrap64_in _ ⟨by omega, by omega⟩]
    exact hfi
  clear ho hI hSD hSS hlen hnum hnum2 hf hBB
  have HFI := Lib.hid hfi
  clear hfi
  go_upto_region 7 with (go_at_call 31; refine (HC1.out _).mono ?_; rintro e w' ⟨rfl, rfl⟩)
  have hX0 : ∀ o x, w2.cell? ⟨w.heap.size, o, none⟩ = some x → o < 4 → w2.cell? ⟨w.heap.size, o, none⟩ = some x := fun _ _ h _ => h
  clear hX0 heq
  have hOwn := OwnB.made w2 w2.heap.size (Nat.le_refl _)
  have HOWN := Lib.hid hOwn
  have hBL : B.length + B.length ≤ 140737488355328 := by omega
  have HBL := Lib.hid hBL
  clear hOwn hBL
  go_upto_region 8 with (first
    | (at_builtin; refine wpList_app rfl (.tmp 48) (.tmp 49) rfl w2.heap.size _ [] rfl HOWN.out _ B rfl (HI.out.step (bel_new _ _)) (by have := HBL.out; simp; omega) (by simp [go_sem]) ?_; intro v3 w3 ho3 hb3 hz3 hn3)
    | (at_builtin; refine wpList_app rfl (.tmp 50) (.tmp 51) rfl w2.heap.size _ B rfl ho3 _ B rfl (HI.out.step ((bel_new w2 _).trans (hb3.mono (Nat.le_refl _)))) HBL.out (size_bel hb3 (size_alloc (Nat.le_refl _))) ?_; intro v4 w4 ho4 hb4 hz4 hn4))
  rw [HFI.out]
  have hB4 : Below w.heap.size w w4 := (hB2.trans (bel_new w2 (.cells #[] 5) |>.mono hB2.size)).trans ((hb3.mono hB2.size).trans (hb4.mono hB2.size))
  have hsw : w.heap.size < w2.heap.size := World.block_lt_of_cell? _ _ x0
  have hX : ∀ j e, [q0, q1, q2, q3][j]? = some e → w4.cell? ⟨w.heap.size, j, none⟩ = some (.int .u8 (e.toNat : Int)) := by
    intro j e hj
    have hk : w2.cell? ⟨w.heap.size, j, none⟩ = some (.int .u8 (e.toNat : Int)) := by
      match j, hj with
      | 0, hj => simp at hj; subst hj; exact x0
      | 1, hj => simp at hj; subst hj; exact x1
      | 2, hj => simp at hj; subst hj; exact x2
      | 3, hj => simp at hj; subst hj; exact x3
      | j + 4, hj => simp at hj
    exact keep_lt hb4 hsw (keep_lt hb3 hsw (keep_alloc hk))
  have hne : B ++ B ≠ [] := by intro e; have := congrArg List.length e; simp at this; subst this; simp at hBg
  obtain ⟨g, cp, rfl, hg1, hg2⟩ := ho4.shape hne
  have hNN : (B ++ B).length = 2 * B.length := by simp; omega
  rw [hNN] at ho4 ⊢
  obtain ⟨Q, hQ⟩ : ∃ Q, Q = [q0, q1, q2, q3] := ⟨_, rfl⟩
  have hQ4 : Q.length = 4 := by rw [hQ]; rfl
  rw [← hQ] at hX
  have HO4 := Lib.hid ho4
  have HX := Lib.hid hX
  have HB4 := Lib.hid hB4
  have HQ4 := Lib.hid hQ4
  have hgw : w.heap.size < g := by omega
  have HNN := Lib.hid hNN
  clear ho4 hX hB4 ho3 hb3 hb4 hn3 hn4 hz3 hz4 x0 x1 x2 x3 hne hQ hg1 hg2 HOWN HI hb2 hb hB hB2 hNN hwf HFI hQ4 hsw
  go_upto_region 9 with fail
  go_loopw [11, 13] (fun ch kk wr => ∃ k : Nat, kk = .int .i64 k ∧ k ≤ 4 ∧ (i = l.length ∨ i + k ≤ l.length) ∧ ch = .bool (decide (¬ ∀ e ∈ Q.take k, e = 0)) ∧ OwnB wr w2.heap.size (.slice (some ⟨g, 0, none⟩) (2 * B.length) cp) (xorL (B ++ B) (f + i) (Q.take k)) ∧ Below w.heap.size w wr ∧
    (∀ j e, Q[j]? = some e → wr.cell? ⟨w.heap.size, j, none⟩ = some (.int .u8 (e.toNat : Int)))) (fun _ kk _ => 4 - (intOf kk).toNat)
  case atStart => exact ⟨0, rfl, by omega, by omega, by simp, HO4.out, HB4.out, HX.out⟩
  case round =>
    obtain ⟨k, rfl, hk4, hik, rfl, hO, hBr, hXr⟩ := hrel
    have HO := Lib.hid hO
    have HBR := Lib.hid hBr
    have HXR := Lib.hid hXr
    have hxl : (xorL (B ++ B) (f + i) (Q.take k)).length = 2 * B.length := by rw [xorL_len]; exact HNN.out
    have HXL := Lib.hid hxl
    clear hO hBr hXr hxl HO4 HX HB4
    by_cases hin : k < 4 ∧ (i = l.length ∨ i + k < l.length)
    · obtain ⟨hk, hin⟩ := hin
      obtain ⟨e, he⟩ : ∃ e, Q[k]? = some e := ⟨_, List.getElem?_eq_getElem (by rw [HQ4.out]; exact hk)⟩
      have hxk := HXR.out k e he
      obtain ⟨hc, hfr⟩ := HO.out.at HXL.out.symm (f + i + k) (by rw [HXL.out]; omega)
      have hx2 : ∀ u, (wr.setCell ⟨g, f + i + k, none⟩ u).cell? ⟨w.heap.size, k, none⟩ = some (.int .u8 (e.toNat : Int)) := fun u => keep_set (by omega) hxk
      obtain ⟨c, hcc⟩ : ∃ c, (xorL (B ++ B) (f + i) (Q.take k)).getD (f + i + k) 0 = c := ⟨_, rfl⟩
      rw [hcc] at hc
      have hcb := c.toNat_lt
      have heb := e.toNat_lt
      have hxor := xor_u8 c e
      have hsn := take_snoc Q k e he
      have hOp : ∀ x : Int, x = ((c ^^^ e).toNat : Int) → OwnB (wr.setCell ⟨g, f + i + k, none⟩ (.int .u8 x)) w2.heap.size (.slice (some ⟨g, 0, none⟩) (2 * B.length) cp) (xorL (B ++ B) (f + i) (Q.take (k + 1))) := fun x hx => by
        have h9 := HO.out.put HXL.out.symm (f + i + k) x (c ^^^ e) hx
        rw [hsn, xorL_snoc]
        have hkl : (Q.take k).length = k := by have := HQ4.out; simp; omega
        rw [hkl, hcc]
        exact h9
      have hBs : ∀ u, Below w.heap.size w (wr.setCell ⟨g, f + i + k, none⟩ u) := fun u => HBR.out.setCell (p := ⟨g, f + i + k, none⟩) (by show w.heap.size ≤ g; omega) u
      have hXs : ∀ u, ∀ j e, Q[j]? = some e → (wr.setCell ⟨g, f + i + k, none⟩ u).cell? ⟨w.heap.size, j, none⟩ = some (.int .u8 (e.toNat : Int)) := fun u j e' hj => keep_set (by omega) (HXR.out j e' hj)
      have HOP := Lib.hid hOp
      have HBS := Lib.hid hBs
      have HXS := Lib.hid hXs
      have HSN := Lib.hid hsn
      have HXOR := Lib.hid hxor
      clear he hcc hsn hOp hBs hXs HO HXR HBR hxor
      have hk' : (k : Int) < 4 := by omega
      have hsum : (f : Int) + (i : Int) + (k : Int) < 2 * (B.length : Int) := by omega
      have hsum0 : (0 : Int) ≤ (f : Int) + (i : Int) + (k : Int) := by omega
      have hin' : (((i : Int) == (l.length : Int)) = true) ∨ (((i : Int) == (l.length : Int)) = false ∧ (i : Int) + (k : Int) < (l.length : Int)) := by
        rcases hin with h | h
        · exact .inl (by simp; omega)
        · by_cases hh : i = l.length
          · exact .inl (by simp; omega)
          · exact .inr ⟨by simp; omega, by omega⟩
      have hik2 : i = l.length ∨ i + (k + 1) ≤ l.length := by omega
      have HIK2 := Lib.hid hik2
      clear hin hik hik2
      by_cases hch : ∀ e ∈ Q.take k, e = 0
      · have hb9 : decide (¬ ∀ e ∈ Q.take k, e = 0) = false := by simpa using hch
        rw [hb9]
        have HCH := Lib.hid hch
        clear hb9 hch
        rcases hin' with hi1 | ⟨hi1, hi2⟩
        · go_upto_region 11 with fail
          go_region
          rw [HXOR.out]
          have gO := (HOP.out _ rfl).drew
          have gB := bel_drew (HBS.out (.int .u8 ((c ^^^ e).toNat : Int)))
          have gX : ∀ j e', Q[j]? = some e' → (wr.setCell ⟨g, f + i + k, none⟩ (.int .u8 ((c ^^^ e).toNat : Int))).drew.cell? ⟨w.heap.size, j, none⟩ = some (.int .u8 (e'.toNat : Int)) := fun j e' hj => keep_drew (HXS.out _ j e' hj)
          have gx : (wr.setCell ⟨g, f + i + k, none⟩ (.int .u8 ((c ^^^ e).toNat : Int))).drew.cell? ⟨w.heap.size, k, none⟩ = some (.int .u8 (e.toNat : Int)) := keep_drew (hx2 _)
          clear hx2 hxk hc hfr HOP HBS HXS
          generalize (wr.setCell ⟨g, f + i + k, none⟩ (.int .u8 ((c ^^^ e).toNat : Int))).drew = W at gO gB gX gx ⊢
          have GO := Lib.hid gO
          have GB := Lib.hid gB
          have GX := Lib.hid gX
          clear gO gB gX
          go_wp2_with fail
          refine ⟨⟨k + 1, rfl, by omega, HIK2.out, ?_, GO.out, GB.out, GX.out⟩, by show 4 - ((k : Int) + 1).toNat < 4 - ((k : Int)).toNat; omega⟩
          rw [HSN.out]
          exact bool_new HCH.out
        · go_upto_region 11 with fail
          go_region
          rw [HXOR.out]
          have gO := (HOP.out _ rfl).drew
          have gB := bel_drew (HBS.out (.int .u8 ((c ^^^ e).toNat : Int)))
          have gX : ∀ j e', Q[j]? = some e' → (wr.setCell ⟨g, f + i + k, none⟩ (.int .u8 ((c ^^^ e).toNat : Int))).drew.cell? ⟨w.heap.size, j, none⟩ = some (.int .u8 (e'.toNat : Int)) := fun j e' hj => keep_drew (HXS.out _ j e' hj)
          have gx : (wr.setCell ⟨g, f + i + k, none⟩ (.int .u8 ((c ^^^ e).toNat : Int))).drew.cell? ⟨w.heap.size, k, none⟩ = some (.int .u8 (e.toNat : Int)) := keep_drew (hx2 _)
          clear hx2 hxk hc hfr HOP HBS HXS
          generalize (wr.setCell ⟨g, f + i + k, none⟩ (.int .u8 ((c ^^^ e).toNat : Int))).drew = W at gO gB gX gx ⊢
          have GO := Lib.hid gO
          have GB := Lib.hid gB
          have GX := Lib.hid gX
          clear gO gB gX
          go_wp2_with fail
          refine ⟨⟨k + 1, rfl, by omega, HIK2.out, ?_, GO.out, GB.out, GX.out⟩, by show 4 - ((k : Int) + 1).toNat < 4 - ((k : Int)).toNat; omega⟩
          rw [HSN.out]
          exact bool_new HCH.out
      · have hb9 : decide (¬ ∀ e ∈ Q.take k, e = 0) = true := by simpa using hch
        rw [hb9]
        have HCH := Lib.hid hch
        clear hb9 hch
        rcases hin' with hi1 | ⟨hi1, hi2⟩
        · go_upto_region 11 with fail
          go_region
          rw [HXOR.out]
          have gO := (HOP.out _ rfl).drew
          have gB := bel_drew (HBS.out (.int .u8 ((c ^^^ e).toNat : Int)))
          have gX : ∀ j e', Q[j]? = some e' → (wr.setCell ⟨g, f + i + k, none⟩ (.int .u8 ((c ^^^ e).toNat : Int))).drew.cell? ⟨w.heap.size, j, none⟩ = some (.int .u8 (e'.toNat : Int)) := fun j e' hj => keep_drew (HXS.out _ j e' hj)
          have gx : (wr.setCell ⟨g, f + i + k, none⟩ (.int .u8 ((c ^^^ e).toNat : Int))).drew.cell? ⟨w.heap.size, k, none⟩ = some (.int .u8 (e.toNat : Int)) := keep_drew (hx2 _)
          clear hx2 hxk hc hfr HOP HBS HXS
          generalize (wr.setCell ⟨g, f + i + k, none⟩ (.int .u8 ((c ^^^ e).toNat : Int))).drew = W at gO gB gX gx ⊢
          have GO := Lib.hid gO
          have GB := Lib.hid gB
          have GX := Lib.hid gX
          clear gO gB gX
          go_wp2_with fail
          refine ⟨⟨k + 1, rfl, by omega, HIK2.out, ?_, GO.out, GB.out, GX.out⟩, by show 4 - ((k : Int) + 1).toNat < 4 - ((k : Int)).toNat; omega⟩
          rw [HSN.out]
          exact bool_old HCH.out
        · go_upto_region 11 with fail
          go_region
          rw [HXOR.out]
          have gO := (HOP.out _ rfl).drew
          have gB := bel_drew (HBS.out (.int .u8 ((c ^^^ e).toNat : Int)))
          have gX : ∀ j e', Q[j]? = some e' → (wr.setCell ⟨g, f + i + k, none⟩ (.int .u8 ((c ^^^ e).toNat : Int))).drew.cell? ⟨w.heap.size, j, none⟩ = some (.int .u8 (e'.toNat : Int)) := fun j e' hj => keep_drew (HXS.out _ j e' hj)
          have gx : (wr.setCell ⟨g, f + i + k, none⟩ (.int .u8 ((c ^^^ e).toNat : Int))).drew.cell? ⟨w.heap.size, k, none⟩ = some (.int .u8 (e.toNat : Int)) := keep_drew (hx2 _)
          clear hx2 hxk hc hfr HOP HBS HXS
          generalize (wr.setCell ⟨g, f + i + k, none⟩ (.int .u8 ((c ^^^ e).toNat : Int))).drew = W at gO gB gX gx ⊢
          have GO := Lib.hid gO
          have GB := Lib.hid gB
          have GX := Lib.hid gX
          clear gO gB gX
          go_wp2_with fail
          refine ⟨⟨k + 1, rfl, by omega, HIK2.out, ?_, GO.out, GB.out, GX.out⟩, by show 4 - ((k : Int) + 1).toNat < 4 - ((k : Int)).toNat; omega⟩
          rw [HSN.out]
          exact bool_old HCH.out
    · have hex : i + (Q.take k).length ≤ l.length ∨ (i = l.length ∧ (Q.take k).length = 4) := by
        have := HQ4.out
        rw [List.length_take, this]
        omega
      have hcond : (4 : Int) ≤ (k : Int) ∨ ((k : Int) < 4 ∧ ((i : Int) == (l.length : Int)) = false ∧ (l.length : Int) ≤ (i : Int) + (k : Int)) := by
        by_cases hk : k = 4
        · exact .inl (by omega)
        · exact .inr ⟨by omega, by simp; omega, by omega⟩
      have hE4 : (Q.take k).length ≤ 4 := by rw [List.length_take]; omega
      obtain ⟨L, hL⟩ : ∃ L, xorL (B ++ B) (f + i) (Q.take k) = L := ⟨_, rfl⟩
      have hLB : L = B ++ xorL B (B.length - 4 - l.length + i) (Q.take k) := by
        rw [← hL, HF.out, Nat.add_assoc, xorL_shift]
      by_cases hch : ∀ e ∈ Q.take k, e = 0
      · have hb9 : decide (¬ ∀ e ∈ Q.take k, e = 0) = false := by simpa using hch
        rw [hb9]
        clear hb9 hch hin hik hex hE4 hL hLB
        rcases hcond with h | ⟨h1, h2, h3⟩
        · go_wp2_with fail
          go_ret
          exact ⟨rfl, HBR.out⟩
        · go_wp2_with fail
          go_ret
          exact ⟨rfl, HBR.out⟩
      · have hb9 : decide (¬ ∀ e ∈ Q.take k, e = 0) = true := by simpa using hch
        rw [hb9]
        have hd := HSD.out (Q.take k) hE4 hex hch
        have hsc := HSS.out _ hd
        rw [← hLB] at hsc
        have hI := HO.out.isB
        rw [hL] at hI
        have hLl : L.length = 2 * B.length := by rw [← hL]; exact HXL.out
        obtain ⟨_, _, hv9, hc1, _⟩ := hI.shape
        simp only [Value.slice.injEq] at hv9
        obtain ⟨rfl, h9b, rfl⟩ := hv9
        have hdr : L.drop B.length = xorL B (B.length - 4 - l.length + i) (Q.take k) := by rw [hLB, List.drop_left]
        have hI' := hI
        rw [← hLl] at hI'
        have hR := hI'.rest B.length (by omega)
        rw [hLl, Nat.zero_add] at hR
        have hT : ∀ v W, IsB W v (L.drop B.length) → Calls Try.prog 33 #[v] W fun e w' => e = .returned (.tuple #[.agg #[.int .i64 0, .int .i64 0, .slice none 0 0], .int .i64 0, .iface 55 (.int .i64 12)]) ∧ Below W.heap.size W w' := fun v W h => by
          have h9 := dec_any v _ W h (by simp; omega)
          rw [hdr, hd] at h9
          exact h9
        have hS : ∀ W, IsB W (.slice (some ⟨g, 0, none⟩) (2 * B.length) cp) L → Calls Try.prog 36 #[.slice (some ⟨g, 0, none⟩) (2 * B.length) cp] W fun e w' => ∃ g' c', e = .returned (.tuple #[.slice (some ⟨g', 0, none⟩) 1 c', .int .i64 (B.length : Int)]) ∧ Below W.heap.size W w' := fun W h => by
          refine (scan_any _ L W (by omega) h).mono ?_
          rintro e w' ⟨u, rs, rfl, hRB, hrs, hBel⟩
          rw [hsc] at hrs
          have hl1 : rs.length = 1 := by have := congrArg List.length hrs; simpa using this
          obtain ⟨g', c', rfl, _⟩ := World.ownsRow.form hRB.1 (by omega)
          rw [hl1, hsc]
          exact ⟨g', c', rfl, hBel⟩
        have HT := Lib.hid hT
        have HS := Lib.hid hS
        have HR := Lib.hid hR
        have HI := Lib.hid hI
        have hcp : 2 * (B.length : Int) ≤ (cp : Int) := by omega
        have hB0 : (0 : Int) < (B.length : Int) := by omega
        clear hb9 hch hin hik hex hE4 hL hLB hd hsc hI' hR hT hS hI hdr HO HXR HSD HSS h9b
        rcases hcond with h | ⟨h1, h2, h3⟩
        · go_wp2_with (first | (go_at_call 33; with_reducible refine (HT.out _ _ HR.out).mono ?_; rintro e w5 ⟨rfl, hb5⟩) | (go_at_call 36; with_reducible refine (HS.out _ (HI.out.step hb5)).mono ?_; rintro e w6 ⟨g', c', rfl, hb6⟩) | (go_at_call 26; refine (is_yes 12 (by omega) _).mono ?_; rintro e w' ⟨rfl, rfl⟩))
          go_ret
          exact ⟨rfl, bel_step (bel_step HBR.out hb5) hb6⟩
        · go_wp2_with (first | (go_at_call 33; with_reducible refine (HT.out _ _ HR.out).mono ?_; rintro e w5 ⟨rfl, hb5⟩) | (go_at_call 36; with_reducible refine (HS.out _ (HI.out.step hb5)).mono ?_; rintro e w6 ⟨g', c', rfl, hb6⟩) | (go_at_call 26; refine (is_yes 12 (by omega) _).mono ?_; rintro e w' ⟨rfl, rfl⟩))
          go_ret
          exact ⟨rfl, bel_step (bel_step HBR.out hb5) hb6⟩
end Go.Proofs.Ytnieoaadhbcjiaa
