/- Args: AppT Args Stmts BlockP Chosen, one behind the other. -/
import Derived.Test.YtogkiifljdnjgaaDoorGram
import Derived.Deep.RegionLaw
/- append of one tree, as a step of a walk. No condition beyond the sizes. -/
namespace Go.Proofs.YtogkiifljdnjgaaDoor
open Go.RowKit
set_option linter.unusedVariables false
set_option linter.unusedSimpArgs false

theorem infoN : (Tryd.prog.info? 32).map (fun i => (i.zero, i.size, i.bytes)) = some (some (.agg #[.int .i64 0, .string ⟨#[]⟩, .slice none 0 0, .int .i64 0]), 4, 56) := by kernel_rfl
theorem undN : Tryd.prog.underlying 30 = some (.slice 32) := by kernel_rfl
theorem run_appN (ty : TypeId) (w : World) (base : Nat) (v : Value) (ts : List Tree) (hown : OwnTs 32 w base v ts) (t : Tree) (a b c d : Value)
    (F : Nat → Prop) (ht : IsT w F t (.agg #[a, b, c, d])) (hF : ∀ k, F k → base ≤ k ∧ k < w.heap.size ∧ v.ownBlock ≠ some k) (hb : ts.length ≤ 1000000) (hbase : base ≤ w.heap.size) :
    ∃ v' w', (Builtin.append_ #[30, 30] ty #[v, .slice (some ⟨w.heap.size, 0, none⟩) 1 1]).run Tryd.prog (w.alloc (.cells #[a, b, c, d] 32)) = .ok v' w' ∧ OwnTs 32 w' base v' (ts ++ [t]) ∧ Below base w w' ∧ (∀ k, k < w.heap.size → v.ownBlock ≠ some k → w'.heap[k]? = w.heap[k]?) := by
  have hblk := heap_alloc_new w (.cells #[a, b, c, d] 32)
  obtain ⟨c0, c1, c2, c3, _⟩ := box4 hblk
  have hbn := bel_new w (.cells #[a, b, c, d] 32)
  obtain ⟨v', w', h1, h2, h3, h4, h5⟩ := run_appT 30 32 undN infoN ty (w.alloc (.cells #[a, b, c, d] 32)) base v ts (hown.step hbn) w.heap.size t a b c d c0 c1 c2 c3 F (ht.step hbn) (fun k hk => ⟨(hF k hk).1, by have := (hF k hk).2.1; simp; omega, (hF k hk).2.2⟩) hb (by simp; omega)
  refine ⟨v', w', h1, h2, (hbn.mono hbase).trans h3, fun k hk hn => ?_⟩
  rw [h4 k (by simp; omega) hn, hbn.block k hk]
theorem wpList_appN {ops : Array Oper} {rest : List Oper} {o : Oper} {A : Act} {Q : Exit → Act → World → Prop} {w : World} (hgd : o.guard = none) (s x : Operand)
    (ho : o.op = .call { callee := .builtin .append, args := #[s, x], argTypes := #[30, 30] })
    (base : Nat) (v : Value) (ts : List Tree) (hs : A.eval s = v) (hown : OwnTs 32 w base v ts) (t : Tree) (a b c d : Value) (hx : A.eval x = .slice (some ⟨w.heap.size, 0, none⟩) 1 1)
    (F : Nat → Prop) (ht : IsT w F t (.agg #[a, b, c, d])) (hF : ∀ k, F k → base ≤ k ∧ k < w.heap.size ∧ v.ownBlock ≠ some k) (hb : ts.length ≤ 1000000) (hbase : base ≤ w.heap.size)
    (h : ∀ v' w', OwnTs 32 w' base v' (ts ++ [t]) → Below base w w' → (∀ k, k < w.heap.size → v.ownBlock ≠ some k → w'.heap[k]? = w.heap[k]?) → wpList Tryd.prog ops Q rest (A.put o.dst v') w') :
    wpList Tryd.prog ops Q (o :: rest) A (w.alloc (.cells #[a, b, c, d] 32)) := by
  obtain ⟨v', w', hrun, h1, h2, h3⟩ := run_appN o.type w base v ts hown t a b c d F ht hF hb hbase
  refine wpList_plain hgd fun K hK => ?_
  unfold Oper.wp
  simp [execOp, ho, resolve, invoke, builtin, hs, hx, hrun, Result.andThen]
  exact hK _ _ (h v' w' h1 h2 h3)
theorem OwnTs.lt {T : TypeId} {w : World} {base : Nat} {v : Value} {ts : List Tree} (h : OwnTs T w base v ts) : ∀ k, v.ownBlock = some k → base ≤ k ∧ k < w.heap.size := by
  obtain ⟨F, xs, h1, h2, h3⟩ := h
  exact fun k hk => World.ownsRow.lt h1 k hk
theorem OwnTs.only {T : TypeId} {w w' : World} {base pb : Nat} {v : Value} {ts : List Tree} (h : OwnTs T w base v ts) (ho : Only pb w w') (hb : pb < base) : OwnTs T w' base v ts :=
  h.keep (fun b h1 h2 => ho.block b h2 (fun e => by have := Option.some.inj e; omega)) ho.size
theorem Only.bel2 {pb : Nat} {w w' w2 : World} (h : Only pb w w') (g : Below w.heap.size w' w2) : Only pb w w2 :=
  ⟨g.os.trans h.os, g.tape.trans h.tape, g.output.trans h.output, Nat.le_trans h.size g.size, fun k hk hn => (g.block k hk).trans (h.block k hk hn)⟩
theorem PIn.bel {w w' : World} {pb B : Nat} {s : PS} (h : PIn w pb s) (hb : Below B w w') (hn : pb < B) : PIn w' pb s := by
  obtain ⟨es, k, h1, h2, h3, h4, h5, h6⟩ := h
  obtain ⟨g, cap, hg, hh, ht⟩ := h5
  have hc : ∀ b o, b < B → w'.cell? ⟨b, o, none⟩ = w.cell? ⟨b, o, none⟩ := fun b o hb' => World.cell?_of_block (hb.block b hb')
  refine ⟨es, k, h1, h2, h3, h4, ⟨g, cap, hg, (hb.block pb hn).trans hh, fun j e hj => ?_⟩, ?_⟩
  · obtain ⟨t0, t1, t2, t3⟩ := ht j e hj
    exact ⟨(hc _ _ (by omega)).trans t0, (hc _ _ (by omega)).trans t1, (hc _ _ (by omega)).trans t2, (hc _ _ (by omega)).trans t3⟩
  · obtain ⟨h0, b, off, cap', hb', k1, k2⟩ := h6
    exact ⟨h0, b, off, cap', hb', (hc _ _ (by omega)).trans k1, fun i t hi => (hc _ _ (by omega)).trans (k2 i t hi)⟩
end Go.Proofs.YtogkiifljdnjgaaDoor

/- The walk of arguments. No condition beyond the callee's contract. -/
namespace Go.Proofs.YtogkiifljdnjgaaDoor
open Go.RowKit
set_option linter.unusedVariables false
set_option linter.unusedSimpArgs false

set_option maxRecDepth 20000 in
set_option maxHeartbeats 2000000 in
theorem args_con (n : Nat) (HC : ConN 85 .expr n) : ConK 112 .args (n + 1) := by
  intro w pb s hp hr
  have HCall := Lib.hid HC
  have HP := Lib.hid hp
  have hlt := hp.lt
  obtain ⟨R, hR⟩ : ∃ R, pRun (n + 1) .args s = R := ⟨_, rfl⟩
  rw [hR]
  have hR' : argsB (pRun n) s = R := hR
  have HRK := Lib.hid hr
  clear hr hp hR HC
  by_cases hi : isW s.1 4 [41] = true
  · have HIS := Lib.hid (fun W (hW : PIn W pb s) => is_yes W pb s hW _ _ hi)
    have HQ := Lib.hid (show (lst [], (nxt s.1, s.2)) = R by rw [← hR']; unfold argsB; rw [if_pos hi])
    clear hi hR'
    go_enter Tryd.func112, Tryd.ntmps112
    go_wp2_with (first | (go_at_call 47; (with_reducible refine (HIS.out _ HP.out).mono ?_); rintro e w1 ⟨rfl, hb1⟩; have HB1 := Lib.hid hb1; have HP1 := Lib.hid (HP.out.step hb1); clear hb1) | (go_at_call 68; (with_reducible refine (next_in _ pb s HP1.out).mono ?_); rintro e w3 ⟨rfl, hp3, ho3⟩; have HP3 := Lib.hid hp3; have HO3 := Lib.hid ho3; clear hp3 ho3))
    go_ret
    rw [← HQ.out]
    exact ⟨⟨_, rfl, IsKids.nil _ _⟩, HP3.out, (Only.of_below HB1.out).trans HO3.out⟩
  · have hi : isW s.1 4 [41] = false := by simpa using hi
    have HIS := Lib.hid (fun W (hW : PIn W pb s) => is_no W pb s hW _ _ hi)
    have HR := Lib.hid (show argsF (pRun n) (s.1.length + 1) [] s = R by rw [← hR']; unfold argsB; rw [hi, if_neg (by decide)])
    clear hi hR'
    go_enter Tryd.func112, Tryd.ntmps112
    go_wp2_with (first | (go_at_call 47; (with_reducible refine (HIS.out _ HP.out).mono ?_); rintro e w1 ⟨rfl, hb1⟩; have HB1 := Lib.hid hb1; have HP1 := Lib.hid (HP.out.step hb1); clear hb1))
    go_loopg [3] (s.1.length + 1) (fun g u wr => ∃ (ks : List Tree) (s' : PS), OwnTs 32 wr w.heap.size u ks ∧ PIn wr pb s' ∧ Only pb w wr ∧ argsF (pRun n) g ks s' = R ∧ s'.1.length < g ∧ s'.1.length ≤ s.1.length ∧ ks.length + s'.1.length ≤ s.1.length)
    case atStart => exact ⟨[], s, OwnTs.nil _ _ _, HP1.out, Only.of_below HB1.out, HR.out, by omega, Nat.le_refl _, by simp⟩
    case round =>
      obtain ⟨ks, s', ho, hpi, hon, hq, hg, hls, hkl⟩ := hrel
      have HO := Lib.hid ho
      have HPI := Lib.hid hpi
      have HON := Lib.hid hon
      have HQ := Lib.hid hq
      have HG := Lib.hid hg
      have HLS := Lib.hid hls
      have HKL := Lib.hid hkl
      obtain ⟨f, rfl⟩ : ∃ f, gk = f + 1 := ⟨gk - 1, by omega⟩
      clear ho hpi hon hq hg hls hkl
      by_cases hz : s'.2 = 0
      · have HOK := Lib.hid (fun W (hW : PIn W pb s') => ok_yes W pb s' hW hz)
        have HC1 := Lib.hid (fun W (hW : PIn W pb s') => HCall.out W pb s' hW (by have h1 := HRK.out; have h2 := HLS.out; simp [rankN] at h1 ⊢; omega))
        have hq2 : (if (pRun n .expr s').2.2 ≠ 0 then (lst (ks ++ [(pRun n .expr s').1]), (pRun n .expr s').2)
            else if isW (pRun n .expr s').2.1 4 [44] = true then argsF (pRun n) f (ks ++ [(pRun n .expr s').1]) (nxt (pRun n .expr s').2.1, (pRun n .expr s').2.2)
            else (lst (ks ++ [(pRun n .expr s').1]), signF [41] (pRun n .expr s').2)) = R := by
          have h := HQ.out
          rw [argsF, if_neg (fun h => h hz)] at h
          exact h
        have HLE := Lib.hid (pRun_le n .expr s')
        clear hz
        generalize pRun n .expr s' = r1 at *
        obtain ⟨t1, s1⟩ := r1
        dsimp only at hq2 HLE
        have HQ2 := Lib.hid hq2
        clear hq2
        by_cases hz1 : s1.2 = 0
        · have HOK1 := Lib.hid (fun W (hW : PIn W pb s1) => ok_yes W pb s1 hW hz1)
          by_cases hi1 : isW s1.1 4 [44] = true
          · have HIS1 := Lib.hid (fun W (hW : PIn W pb s1) => is_yes W pb s1 hW _ _ hi1)
            have HKD := Lib.hid (fun (h : GoodL s1.1) => h.nxt_lt (by rw [isW_kind hi1]; decide))
            have HQ3 := Lib.hid (show argsF (pRun n) f (ks ++ [t1]) (nxt s1.1, s1.2) = R by have := HQ2.out; rwa [if_neg (fun h => h hz1), if_pos hi1] at this)
            clear hz1 hi1
            go_wp2_with (first | (go_at_call 34; (with_reducible refine (HOK.out _ HPI.out).mono ?_); rintro e w2 ⟨rfl, rfl⟩) | (go_at_call 85; (with_reducible refine (HC1.out _ HPI.out).mono ?_); rintro e w3 ⟨⟨v3, rfl, ht3⟩, hp3, ho3⟩; obtain ⟨k3, x3, a3, m3, c3, l3, rfl⟩ := isT_shape ht3; have HT3 := Lib.hid ht3; have HP3 := Lib.hid hp3; have HO3 := Lib.hid ho3; have HOW3 := Lib.hid (HO.out.only ho3 hlt); clear ht3 hp3 ho3) | (at_builtin; refine wpList_appN rfl (.tmp 10) (.tmp 13) rfl w.heap.size _ ks rfl HOW3.out t1 _ _ _ _ rfl (New w3 wr.heap.size) HT3.out (fun k hk => ⟨by have h1 := hk.1; have h2 := HON.out.size; omega, hk.2, fun e => by have h1 := (HO.out.lt k e).2; have h2 := hk.1; omega⟩) (by have h1 := HKL.out; have h2 := HP.out.len; omega) (by have h1 := HON.out.size; have h2 := HO3.out.size; omega) ?_; intro v4 w4 ho4 hb4 hk4; have HO4 := Lib.hid ho4; have HB4 := Lib.hid hb4; have HP4 := Lib.hid (HP3.out.bel hb4 hlt); clear ho4 hb4 hk4) | (go_at_call 34; (with_reducible refine (HOK1.out _ HP4.out).mono ?_); rintro e w2 ⟨rfl, rfl⟩) | (go_at_call 47; (with_reducible refine (HIS1.out _ HP4.out).mono ?_); rintro e w5 ⟨rfl, hb5⟩; have HP5 := Lib.hid (HP4.out.step hb5); have HO5 := Lib.hid (HO4.out.step hb5); have HON5 := Lib.hid (((HON.out.trans HO3.out).bel2 HB4.out).bel hb5); clear hb5) | (go_at_call 68; (with_reducible refine (next_in _ pb s1 HP5.out).mono ?_); rintro e w6 ⟨rfl, hp6, ho6⟩; have HP6 := Lib.hid hp6; have HO6 := Lib.hid ho6; clear hp6 ho6))
            go_roundg f
            case measure => omega
            case rel =>
              have h2 := HKD.out HP4.out.good
              have h3 := HLE.out
              have h4 := HG.out
              have h5 := HLS.out
              have h6 := HKL.out
              exact ⟨ks ++ [t1], _, HO5.out.only HO6.out hlt, HP6.out, HON5.out.trans HO6.out, HQ3.out, by dsimp only; omega, by dsimp only; omega, by simp; omega⟩
          · have hi1 : isW s1.1 4 [44] = false := by simpa using hi1
            have HIS1 := Lib.hid (fun W (hW : PIn W pb s1) => is_no W pb s1 hW _ _ hi1)
            have HQ3 := Lib.hid (show (lst (ks ++ [t1]), signF [41] s1) = R by have := HQ2.out; rwa [if_neg (fun h => h hz1), hi1, if_neg (by decide)] at this)
            clear hz1 hi1
            go_wp2_with (first | (go_at_call 34; (with_reducible refine (HOK.out _ HPI.out).mono ?_); rintro e w2 ⟨rfl, rfl⟩) | (go_at_call 85; (with_reducible refine (HC1.out _ HPI.out).mono ?_); rintro e w3 ⟨⟨v3, rfl, ht3⟩, hp3, ho3⟩; obtain ⟨k3, x3, a3, m3, c3, l3, rfl⟩ := isT_shape ht3; have HT3 := Lib.hid ht3; have HP3 := Lib.hid hp3; have HO3 := Lib.hid ho3; have HOW3 := Lib.hid (HO.out.only ho3 hlt); clear ht3 hp3 ho3) | (at_builtin; refine wpList_appN rfl (.tmp 10) (.tmp 13) rfl w.heap.size _ ks rfl HOW3.out t1 _ _ _ _ rfl (New w3 wr.heap.size) HT3.out (fun k hk => ⟨by have h1 := hk.1; have h2 := HON.out.size; omega, hk.2, fun e => by have h1 := (HO.out.lt k e).2; have h2 := hk.1; omega⟩) (by have h1 := HKL.out; have h2 := HP.out.len; omega) (by have h1 := HON.out.size; have h2 := HO3.out.size; omega) ?_; intro v4 w4 ho4 hb4 hk4; have HO4 := Lib.hid ho4; have HB4 := Lib.hid hb4; have HP4 := Lib.hid (HP3.out.bel hb4 hlt); clear ho4 hb4 hk4) | (go_at_call 34; (with_reducible refine (HOK1.out _ HP4.out).mono ?_); rintro e w2 ⟨rfl, rfl⟩) | (go_at_call 47; (with_reducible refine (HIS1.out _ HP4.out).mono ?_); rintro e w5 ⟨rfl, hb5⟩; have HP5 := Lib.hid (HP4.out.step hb5); have HO5 := Lib.hid (HO4.out.step hb5); have HON5 := Lib.hid (((HON.out.trans HO3.out).bel2 HB4.out).bel hb5); clear hb5) | (go_at_call 72; (with_reducible refine (sign_in _ pb s1 HP5.out ⟨#[41]⟩).mono ?_); rintro e w6 ⟨rfl, hp6, ho6⟩; have HP6 := Lib.hid hp6; have HO6 := Lib.hid ho6; clear hp6 ho6))
            go_ret
            rw [← HQ3.out]
            exact ⟨⟨_, rfl, (HO5.out.only HO6.out hlt).kids⟩, HP6.out, HON5.out.trans HO6.out⟩
        · have HOK1 := Lib.hid (fun W (hW : PIn W pb s1) => ok_no W pb s1 hW hz1)
          have HQ3 := Lib.hid (show (lst (ks ++ [t1]), s1) = R by have := HQ2.out; rwa [if_pos hz1] at this)
          clear hz1
          go_wp2_with (first | (go_at_call 34; (with_reducible refine (HOK.out _ HPI.out).mono ?_); rintro e w2 ⟨rfl, rfl⟩) | (go_at_call 85; (with_reducible refine (HC1.out _ HPI.out).mono ?_); rintro e w3 ⟨⟨v3, rfl, ht3⟩, hp3, ho3⟩; obtain ⟨k3, x3, a3, m3, c3, l3, rfl⟩ := isT_shape ht3; have HT3 := Lib.hid ht3; have HP3 := Lib.hid hp3; have HO3 := Lib.hid ho3; have HOW3 := Lib.hid (HO.out.only ho3 hlt); clear ht3 hp3 ho3) | (at_builtin; refine wpList_appN rfl (.tmp 10) (.tmp 13) rfl w.heap.size _ ks rfl HOW3.out t1 _ _ _ _ rfl (New w3 wr.heap.size) HT3.out (fun k hk => ⟨by have h1 := hk.1; have h2 := HON.out.size; omega, hk.2, fun e => by have h1 := (HO.out.lt k e).2; have h2 := hk.1; omega⟩) (by have h1 := HKL.out; have h2 := HP.out.len; omega) (by have h1 := HON.out.size; have h2 := HO3.out.size; omega) ?_; intro v4 w4 ho4 hb4 hk4; have HO4 := Lib.hid ho4; have HB4 := Lib.hid hb4; have HP4 := Lib.hid (HP3.out.bel hb4 hlt); clear ho4 hb4 hk4) | (go_at_call 34; (with_reducible refine (HOK1.out _ HP4.out).mono ?_); rintro e w2 ⟨rfl, rfl⟩))
          go_ret
          rw [← HQ3.out]
          exact ⟨⟨_, rfl, HO4.out.kids⟩, HP4.out, ((HON.out.trans HO3.out).bel2 HB4.out)⟩
      · have HOK := Lib.hid (fun W (hW : PIn W pb s') => ok_no W pb s' hW hz)
        have HQ2 := Lib.hid (show (lst ks, s') = R by rw [← HQ.out, argsF, if_pos hz])
        clear hz
        go_wp2_with (first | (go_at_call 34; (with_reducible refine (HOK.out _ HPI.out).mono ?_); rintro e w2 ⟨rfl, rfl⟩))
        go_ret
        rw [← HQ2.out]
        exact ⟨⟨_, rfl, HO.out.kids⟩, HPI.out, HON.out⟩
end Go.Proofs.YtogkiifljdnjgaaDoor

/- The walk of statements. No condition beyond the callee's contract. -/
namespace Go.Proofs.YtogkiifljdnjgaaDoor
open Go.RowKit
set_option linter.unusedVariables false
set_option linter.unusedSimpArgs false

theorem ite_prog {c : Prop} [Decidable c] {a b : Tree × PS} {m : Nat} (ha : a.2.2 ≠ 0 ∨ a.2.1.length < m) (hb : b.2.2 ≠ 0 ∨ b.2.1.length < m) : (if c then a else b).2.2 ≠ 0 ∨ (if c then a else b).2.1.length < m := by
  split
  · exact ha
  · exact hb
theorem fail_set {s : PS} (hg : GoodL s.1) : (failF s).2 ≠ 0 := by
  unfold failF
  dsimp only
  split
  · exact hg.hd_line
  · assumption
theorem stmtB_prog {rc : Rec} (H : ∀ nt s, (rc nt s).2.1.length ≤ s.1.length) (s : PS) (hg : GoodL s.1) : (stmtB rc s).2.2 ≠ 0 ∨ (stmtB rc s).2.1.length < s.1.length := by
  unfold stmtB
  dsimp only
  by_cases hk : (hdT s.1).kind = 1
  · have hn : (nxt s.1).length < s.1.length := by have := hg.nxt_lt (by rw [hk]; decide); omega
    have hv : ∀ nt, (rc nt (nxt s.1, s.2)).2.2 ≠ 0 ∨ (rc nt (nxt s.1, s.2)).2.1.length < s.1.length := fun nt => .inr (Nat.lt_of_le_of_lt (H nt _) hn)
    have ht : (textF (nxt s.1, s.2)).2.1.length < s.1.length := Nat.lt_of_le_of_lt (textF_le _) hn
    have hs : ∀ tx, (signF tx (nxt s.1, s.2)).1.length < s.1.length := fun tx => Nat.lt_of_le_of_lt (signF_le _ _) hn
    rw [if_neg (fun h => h hk)]
    refine ite_prog (hv _) ?_
    refine ite_prog (ite_prog (.inr hn) (.inr (Nat.lt_of_le_of_lt (rc_nxt H _ (nxt s.1, s.2)) hn))) ?_
    refine ite_prog (hv _) ?_
    refine ite_prog (ite_prog (.inr (Nat.lt_of_le_of_lt (H _ _) ht)) (.inr ht)) ?_
    refine ite_prog (.inr ?_) ?_
    · dsimp only
      split
      · exact Nat.lt_of_le_of_lt (signF_le _ _) ht
      · exact ht
    refine ite_prog (hv _) ?_
    refine ite_prog (hv _) ?_
    refine ite_prog (hv _) ?_
    refine ite_prog (.inr (hs _)) ?_
    refine ite_prog (.inr (hs _)) ?_
    exact .inl (fail_set hg)
  · rw [if_pos hk]
    exact .inl (fail_set hg)
theorem neq_kind (k : Int) (h : k ≠ 5) : (k != 5) = true := bne_iff_ne.2 h
set_option maxRecDepth 20000 in
set_option maxHeartbeats 2000000 in
theorem stmts_con (n : Nat) (HC : ConN 48 .stmt n) : ConK 33 .stmts (n + 1) := by
  intro w pb s hp hr
  have HCall := Lib.hid HC
  have HP := Lib.hid hp
  have hlt := hp.lt
  have HLN := Lib.hid hp.len
  obtain ⟨R, hR⟩ : ∃ R, pRun (n + 1) .stmts s = R := ⟨_, rfl⟩
  rw [hR]
  have HR := Lib.hid (show stmtsF (pRun n) (s.1.length + 1) [] s = R from hR)
  have HRK := Lib.hid hr
  obtain ⟨m, rfl⟩ : ∃ m, n = m + 1 := ⟨n - 1, by simp [rankN] at hr; have := hp.len; omega⟩
  have HPR := Lib.hid (fun s' (h : GoodL s'.1) => stmtB_prog (pRun_le m) s' h)
  clear hR hr hp HC
  go_enter Tryd.func33, Tryd.ntmps33
  go_wp2_with fail
  go_loopg [3] (s.1.length + 1) (fun g u wr => ∃ (ks : List Tree) (s' : PS), OwnTs 32 wr w.heap.size u ks ∧ PIn wr pb s' ∧ Only pb w wr ∧ stmtsF (pRun (m + 1)) g ks s' = R ∧ (s'.2 ≠ 0 ∨ s'.1.length < g) ∧ s'.1.length ≤ s.1.length ∧ g + ks.length ≤ s.1.length + 1)
  case atStart => exact ⟨[], s, OwnTs.nil _ _ _, HP.out, Only.refl _ _, HR.out, .inr (by omega), Nat.le_refl _, by simp⟩
  case round =>
    obtain ⟨ks, s', ho, hpi, hon, hq, hg, hls, hkl⟩ := hrel
    have HO := Lib.hid ho
    have HPI := Lib.hid hpi
    have HON := Lib.hid hon
    have HQ := Lib.hid hq
    have HG := Lib.hid hg
    have HLS := Lib.hid hls
    have HKL := Lib.hid hkl
    clear ho hpi hon hq hg hls hkl
    have HPK := Lib.hid (fun W (hW : PIn W pb s') => peek_in W pb s' hW)
    unfold tokVal at HPK
    by_cases hz : s'.2 = 0
    · have HOK := Lib.hid (fun W (hW : PIn W pb s') => ok_yes W pb s' hW hz)
      obtain ⟨f, rfl⟩ : ∃ f, gk = f + 1 := ⟨gk - 1, by have := HG.out.resolve_left (fun h => h hz); omega⟩
      have hfk := tok_kind (.int .i64 (hdT s'.1).kind) (.string ⟨(hdT s'.1).text.toArray⟩) (.int .i64 (hdT s'.1).line) (.int .i64 (hdT s'.1).col)
      by_cases hk : (hdT s'.1).kind = 5
      · have HQ2 := Lib.hid (show (lst ks, s') = R by have h := HQ.out; rw [stmtsF, if_neg (fun h => h.2.1 hk)] at h; exact h)
        have e1 : ((hdT s'.1).kind != 5) = false := by rw [hk]; rfl
        clear hz hk
        generalize hdT s'.1 = tk at *
        go_wp2_with (first | (go_at_call 34; (with_reducible refine (HOK.out _ HPI.out).mono ?_); rintro e w2 ⟨rfl, rfl⟩) | (go_at_call 35; (with_reducible refine (HPK.out _ HPI.out).mono ?_); rintro e w3 ⟨rfl, hb3⟩; have HB3 := Lib.hid hb3; clear hb3))
        go_ret
        rw [← HQ2.out]
        exact ⟨⟨_, rfl, (HO.out.step HB3.out).kids⟩, HPI.out.step HB3.out, HON.out.bel HB3.out⟩
      · have e1 : ((hdT s'.1).kind != 5) = true := bne_iff_ne.2 hk
        by_cases hi : isW s'.1 4 [125] = true
        · have HIS := Lib.hid (fun W (hW : PIn W pb s') => is_yes W pb s' hW _ _ hi)
          have HQ2 := Lib.hid (show (lst ks, s') = R by have h := HQ.out; rw [stmtsF, if_neg (fun h => by rw [hi] at h; exact absurd h.2.2 (by decide))] at h; exact h)
          clear hz hk hi
          generalize hdT s'.1 = tk at *
          go_wp2_with (first | (go_at_call 34; (with_reducible refine (HOK.out _ HPI.out).mono ?_); rintro e w2 ⟨rfl, rfl⟩) | (go_at_call 35; (with_reducible refine (HPK.out _ HPI.out).mono ?_); rintro e w3 ⟨rfl, hb3⟩; have HB3 := Lib.hid hb3; have HPI3 := Lib.hid (HPI.out.step hb3); clear hb3) | (go_at_call 47; (with_reducible refine (HIS.out _ HPI3.out).mono ?_); rintro e w4 ⟨rfl, hb4⟩; have HB4 := Lib.hid hb4; clear hb4))
          go_ret
          rw [← HQ2.out]
          exact ⟨⟨_, rfl, ((HO.out.step HB3.out).step HB4.out).kids⟩, HPI3.out.step HB4.out, (HON.out.bel HB3.out).bel HB4.out⟩
        · have hi : isW s'.1 4 [125] = false := by simpa using hi
          have HIS := Lib.hid (fun W (hW : PIn W pb s') => is_no W pb s' hW _ _ hi)
          have HQ2 := Lib.hid (show stmtsF (pRun (m + 1)) f (ks ++ [(pRun (m + 1) .stmt s').1]) (pRun (m + 1) .stmt s').2 = R by have h := HQ.out; rw [stmtsF, if_pos ⟨hz, hk, hi⟩] at h; exact h)
          have HC1 := Lib.hid (fun W (hW : PIn W pb s') => HCall.out W pb s' hW (by have h1 := HRK.out; have h2 := HLS.out; simp [rankN] at h1 ⊢; omega))
          have HLE := Lib.hid (pRun_le (m + 1) .stmt s')
          have HPG := Lib.hid (show (pRun (m + 1) .stmt s').2.2 ≠ 0 ∨ (pRun (m + 1) .stmt s').2.1.length < s'.1.length from HPR.out s' HPI.out.good)
          have HG1 := Lib.hid (HG.out.resolve_left (fun h => h hz))
          clear hz hk hi
          generalize hdT s'.1 = tk at *
          generalize pRun (m + 1) .stmt s' = r1 at *
          obtain ⟨t1, s1⟩ := r1
          dsimp only at HQ2 HLE HPG
          go_wp2_with (first | (go_at_call 34; (with_reducible refine (HOK.out _ HPI.out).mono ?_); rintro e w2 ⟨rfl, rfl⟩) | (go_at_call 35; (with_reducible refine (HPK.out _ HPI.out).mono ?_); rintro e w3 ⟨rfl, hb3⟩; have HB3 := Lib.hid hb3; have HPI3 := Lib.hid (HPI.out.step hb3); clear hb3) | (go_at_call 47; (with_reducible refine (HIS.out _ HPI3.out).mono ?_); rintro e w4 ⟨rfl, hb4⟩; have HON4 := Lib.hid ((HON.out.bel HB3.out).bel hb4); have HPI4 := Lib.hid (HPI3.out.step hb4); have HO4 := Lib.hid ((HO.out.step HB3.out).step hb4); clear hb4) | (go_at_call 48; (with_reducible refine (HC1.out _ HPI4.out).mono ?_); rintro e w5 ⟨⟨v5, rfl, ht5⟩, hp5, ho5⟩; obtain ⟨k5, x5, a5, m5, c5, l5, rfl⟩ := isT_shape ht5; have HT5 := Lib.hid ht5; have HP5 := Lib.hid hp5; have HO5 := Lib.hid ho5; have HOW5 := Lib.hid (HO4.out.only ho5 hlt); clear ht5 hp5 ho5) | (at_builtin; refine wpList_appN rfl (.tmp 17) (.tmp 20) rfl w.heap.size _ ks rfl HOW5.out t1 _ _ _ _ rfl (New w5 w4.heap.size) HT5.out (fun k hk => ⟨by have h1 := hk.1; have h2 := HON4.out.size; omega, hk.2, fun e => by have h1 := (HO4.out.lt k e).2; have h2 := hk.1; omega⟩) (by have h1 := HKL.out; have h2 := HLN.out; omega) (by have h1 := HON4.out.size; have h2 := HO5.out.size; omega) ?_; intro v6 w6 ho6 hb6 hk6; have HO6 := Lib.hid ho6; have HB6 := Lib.hid hb6; have HP6 := Lib.hid (HP5.out.bel hb6 hlt); clear ho6 hb6 hk6))
          go_roundg f
          case measure => omega
          case rel =>
            have h3 := HLE.out
            have h4 := HPG.out
            have h5 := HLS.out
            have h6 := HKL.out
            have h7 := HG1.out
            exact ⟨ks ++ [t1], _, HO6.out, HP6.out, (HON4.out.trans HO5.out).bel2 HB6.out, HQ2.out, h4.imp id (fun h => by omega), by omega, by simp; omega⟩
    · have HOK := Lib.hid (fun W (hW : PIn W pb s') => ok_no W pb s' hW hz)
      have HQ2 := Lib.hid (show (lst ks, s') = R by
        have h := HQ.out
        cases gk with
        | zero => exact h
        | succ f => rw [stmtsF, if_neg (fun h => hz h.1)] at h; exact h)
      clear hz
      go_wp2_with (first | (go_at_call 34; (with_reducible refine (HOK.out _ HPI.out).mono ?_); rintro e w2 ⟨rfl, rfl⟩))
      go_ret
      rw [← HQ2.out]
      exact ⟨⟨_, rfl, HO.out.kids⟩, HPI.out, HON.out⟩
end Go.Proofs.YtogkiifljdnjgaaDoor

/- The walk of block. No condition beyond the callee's contract. -/
namespace Go.Proofs.YtogkiifljdnjgaaDoor
open Go.RowKit
set_option linter.unusedVariables false
set_option linter.unusedSimpArgs false

theorem isKids_shape {w : World} {F : Nat → Prop} {ks : List Tree} {v : Value} (h : IsKids w F ks v) : ∃ a c, v = .slice a ks.length c := by
  obtain ⟨a, c, hv, _⟩ := h
  exact ⟨a, c, hv⟩
theorem IsKids.only {w w' : World} {B pb : Nat} {ks : List Tree} {v : Value} (h : IsKids w (New w B) ks v) (ho : Only pb w w') (hb : pb < B) : IsKids w' (New w' B) ks v :=
  h.keep (fun b hb' hlt => ho.block b hlt (fun e => by have := Option.some.inj e; have := hb'.1; omega)) (fun b hb' hlt => ⟨hb'.1, Nat.lt_of_lt_of_le hlt ho.size⟩)
/-- The result's box is written with a node of kids. -/
theorem PostN.node {w wr w' : World} {pb B : Nat} {k l : Int} {tx : List UInt8} {ks : List Tree} {s : PS} {kv : Value} (hk : IsKids wr (New wr B) ks kv) (hB : w.heap.size < B) (hp : PIn wr pb s) (ho : Only pb w wr) (hpb : pb < w.heap.size) (hw : Only w.heap.size wr w') :
    PostN w w' pb (.node k tx ks l, s) (.returned (.agg #[.int .i64 k, .string ⟨tx.toArray⟩, kv, .int .i64 l])) :=
  PostN.done (x := wr.heap.size) (IsT.of (hk.mono fun b hb hlt => ⟨by have := hb.1; omega, hlt, by omega⟩)) hp ho hpb hw
set_option maxRecDepth 20000 in
set_option maxHeartbeats 2000000 in
theorem block_con (n : Nat) (HC : ConK 33 .stmts n) : ConN 86 .block (n + 1) := by
  intro w pb s hp hr
  have HCall := Lib.hid HC
  have HP := Lib.hid hp
  have hlt := hp.lt
  have hpw : ¬ pb = w.heap.size := by omega
  have hpw2 : ¬ w.heap.size = pb := by omega
  obtain ⟨R, hR⟩ : ∃ R, pRun (n + 1) .block s = R := ⟨_, rfl⟩
  rw [hR]
  have HR := Lib.hid (show blockB (pRun n) s = R from hR)
  have HRK := Lib.hid hr
  have HPK := Lib.hid (fun W (hW : PIn W pb s) => peek_in W pb s hW)
  have HSG := Lib.hid (fun W (hW : PIn W pb s) => sign_in W pb s hW ⟨#[123]⟩)
  unfold tokVal at HPK
  have hfl := tok_line (.int .i64 (hdT s.1).kind) (.string ⟨(hdT s.1).text.toArray⟩) (.int .i64 (hdT s.1).line) (.int .i64 (hdT s.1).col)
  by_cases hz : (signF [123] s).2 = 0
  · have hi : isW s.1 4 [123] = true := by
      cases h : isW s.1 4 [123] with
      | true => rfl
      | false =>
        exfalso
        have h2 : failF s = signF [123] s := by unfold signF; rw [h]; rfl
        rw [← h2] at hz
        unfold failF at hz
        dsimp only at hz
        split at hz
        · exact HP.out.good.hd_line hz
        · rename_i h3; exact h3 hz
    have HKD := Lib.hid (show (nxt s.1).length + 1 = s.1.length from HP.out.good.nxt_lt (by rw [isW_kind hi]; decide))
    have HS1 := Lib.hid (show signF [123] s = (nxt s.1, s.2) by unfold signF; rw [if_pos hi])
    have HOK := Lib.hid (fun W (hW : PIn W pb (signF [123] s)) => ok_yes W pb _ hW hz)
    have HC1 := Lib.hid (fun W (hW : PIn W pb (signF [123] s)) => HCall.out W pb _ hW (by have h1 := HRK.out; have h2 := HKD.out; rw [HS1.out]; simp [rankN] at h1 ⊢; omega))
    have HQ := Lib.hid (show (Tree.node 12 [] (pRun n .stmts (signF [123] s)).1.kids (hdT s.1).line, signF [125] (pRun n .stmts (signF [123] s)).2) = R by have h := HR.out; unfold blockB at h; rwa [if_pos hz] at h)
    clear hr hR hp HC hz hi
    generalize hdT s.1 = tk at *
    generalize pRun n .stmts (signF [123] s) = rr at *
    go_enter Tryd.func86, Tryd.ntmps86
    go_wp2_with (first | (go_at_call 35; (with_reducible refine (HPK.out _ HP.out.alloc).mono ?_); rintro e w1 ⟨rfl, hb1⟩; have HB1 := Lib.hid hb1; have HP1 := Lib.hid (HP.out.alloc.step hb1); have HR1 := Lib.hid (keep_blk hb1 (heap_alloc_new w _)); have hl1 := block_lt HR1.out; clear hb1) | (go_at_call 72; (with_reducible refine (HSG.out _ HP1.out.alloc).mono ?_); rintro e w2 ⟨rfl, hp2, ho2⟩; have HP2 := Lib.hid hp2; have HO2 := Lib.hid ho2; have HR2 := Lib.hid (ho2.keep (new_blk HR1.out) hpw2); have HN2 := Lib.hid (ho2.keep (heap_alloc_new w1 _) (by omega)); clear hp2 ho2) | (go_at_call 34; (with_reducible refine (HOK.out _ HP2.out).mono ?_); rintro e w3 ⟨rfl, rfl⟩) | (go_at_call 33; (with_reducible refine (HC1.out _ HP2.out).mono ?_); rintro e w3 ⟨⟨v3, rfl, hk3⟩, hp3, ho3⟩; have HK3 := Lib.hid hk3; obtain ⟨a3, c3, rfl⟩ := isKids_shape hk3; have HP3 := Lib.hid hp3; have HO3 := Lib.hid ho3; have HR3 := Lib.hid (ho3.keep HR2.out hpw2); have HN3 := Lib.hid (ho3.keep HN2.out (by omega)); obtain ⟨b0, b1, b2, b3, z0, z1, z2, z3⟩ := box4 HN3.out; have HP3' := Lib.hid (HP3.out.above (b := w1.heap.size) (i := 2) (u := .slice a3 rr.1.kids.length c3) (by omega)); have HN3' := Lib.hid (Joins.block_setCell (i := 2) HN3.out (.slice a3 rr.1.kids.length c3)); have HO3' := Lib.hid (Only.set (b := w1.heap.size) (k := 2) (w := w3) (u := .slice a3 rr.1.kids.length c3)); clear hk3 hp3 ho3) | (go_at_call 72; (with_reducible refine (sign_in _ pb rr.2 HP3'.out ⟨#[125]⟩).mono ?_); rintro e w4 ⟨rfl, hp4, ho4⟩; have HP4 := Lib.hid hp4; have HO4 := Lib.hid ho4; have HR4 := Lib.hid (ho4.keep (HO3'.out.keep HR3.out (by omega)) hpw2); have hn4 := ho4.keep HN3'.out (by omega); obtain ⟨r0, r1, r2, r3, q0, q1, q2, q3⟩ := box4 HR4.out; obtain ⟨b0, b1, b2, b3, z0, z1, z2, z3⟩ := box4 (x0 := .int .i64 12) (x1 := .string ⟨#[]⟩) (x2 := .slice a3 rr.1.kids.length c3) (x3 := .int .i64 tk.line) (by simpa using hn4); clear hp4 ho4 hn4))
    refine bodyPost_ret (v := .agg #[.int .i64 12, .string ⟨#[]⟩, .slice a3 rr.1.kids.length c3, .int .i64 tk.line]) (by simp [results, Tryd.results86, go_sem, r0, r1, r2, r3, q0, q1, q2, q3]) rfl ?_
    rw [← HQ.out]
    have h1 := HO2.out.size
    have h2 : w.heap.size < w1.heap.size := hl1
    have h3 : w1.heap.size < w2.heap.size := block_lt HN2.out
    refine PostN.node (B := w2.heap.size) ?_ (by omega) HP4.out ?_ hlt (Only.set4 _ _ _ _ _ _)
    · refine IsKids.only (pb := pb) ?_ HO4.out (by omega)
      exact IsKids.only (pb := w1.heap.size) HK3.out HO3'.out h3
    · exact (((((Only.of_below (bel_new w _)).bel HB1.out).alloc.trans HO2.out).trans HO3.out).new HO3'.out (by omega)).trans HO4.out
  · have HOK := Lib.hid (fun W (hW : PIn W pb (signF [123] s)) => ok_no W pb _ hW hz)
    have HQ := Lib.hid (show (Tree.node 12 [] [] (hdT s.1).line, signF [123] s) = R by have h := HR.out; unfold blockB at h; rwa [if_neg hz] at h)
    clear hr hR hp HC hz
    generalize hdT s.1 = tk at *
    go_enter Tryd.func86, Tryd.ntmps86
    go_wp2_with (first | (go_at_call 35; (with_reducible refine (HPK.out _ HP.out.alloc).mono ?_); rintro e w1 ⟨rfl, hb1⟩; have HB1 := Lib.hid hb1; have HP1 := Lib.hid (HP.out.alloc.step hb1); have HR1 := Lib.hid (keep_blk hb1 (heap_alloc_new w _)); have hl1 := block_lt HR1.out; clear hb1) | (go_at_call 72; (with_reducible refine (HSG.out _ HP1.out.alloc).mono ?_); rintro e w2 ⟨rfl, hp2, ho2⟩; have HP2 := Lib.hid hp2; have HO2 := Lib.hid ho2; have HR2 := Lib.hid (ho2.keep (new_blk HR1.out) hpw2); have HN2 := Lib.hid (ho2.keep (heap_alloc_new w1 _) (by omega)); obtain ⟨r0, r1, r2, r3, q0, q1, q2, q3⟩ := box4 HR2.out; obtain ⟨b0, b1, b2, b3, z0, z1, z2, z3⟩ := box4 HN2.out; clear hp2 ho2) | (go_at_call 34; (with_reducible refine (HOK.out _ HP2.out).mono ?_); rintro e w3 ⟨rfl, rfl⟩))
    refine bodyPost_ret (v := .agg #[.int .i64 12, .string ⟨#[]⟩, .slice none 0 0, .int .i64 tk.line]) (by simp [results, Tryd.results86, go_sem, r0, r1, r2, r3, q0, q1, q2, q3]) rfl ?_
    rw [← HQ.out]
    exact PostN.node (B := w.heap.size + 1) (IsKids.nil _ _) (Nat.lt_succ_self _) HP2.out (((Only.of_below (bel_new w _)).bel HB1.out).alloc.trans HO2.out) hlt (Only.set4 _ _ _ _ _ _)
end Go.Proofs.YtogkiifljdnjgaaDoor

/- The walk of chosen. No condition beyond the callees' contracts. -/
namespace Go.Proofs.YtogkiifljdnjgaaDoor
open Go.RowKit
set_option linter.unusedVariables false
set_option linter.unusedSimpArgs false

/-- append of one tree, as one step. -/
theorem step_appN {ops : Array Oper} {o : Oper} {A : Act} {K : Act → World → Prop} {Q : Exit → Act → World → Prop} {E : Prop} {w : World} (hgd : o.guard = none) (s x : Operand)
    (ho : o.op = .call { callee := .builtin .append, args := #[s, x], argTypes := #[30, 30] })
    (base : Nat) (v : Value) (ts : List Tree) (hs : A.eval s = v) (hown : OwnTs 32 w base v ts) (t : Tree) (a b c d : Value) (hx : A.eval x = .slice (some ⟨w.heap.size, 0, none⟩) 1 1)
    (F : Nat → Prop) (ht : IsT w F t (.agg #[a, b, c, d])) (hF : ∀ k, F k → base ≤ k ∧ k < w.heap.size ∧ v.ownBlock ≠ some k) (hb : ts.length ≤ 1000000) (hbase : base ≤ w.heap.size)
    (h : ∀ v' w', OwnTs 32 w' base v' (ts ++ [t]) → Below base w w' → (∀ k, k < w.heap.size → v.ownBlock ≠ some k → w'.heap[k]? = w.heap[k]?) → K (A.put o.dst v') w') :
    if Region.wanted o (yielded ops A.tmps) = true then Oper.wp Tryd.prog o A (w.alloc (.cells #[a, b, c, d] 32)) K Q else E := by
  have hw : Region.wanted o (yielded ops A.tmps) = true := by simp [Region.wanted, hgd]
  rw [if_pos hw]
  obtain ⟨v', w', hrun, h1, h2, h3⟩ := run_appN o.type w base v ts hown t a b c d F ht hF hb hbase
  unfold Oper.wp
  simp [execOp, ho, resolve, invoke, builtin, hs, hx, hrun, Result.andThen]
  exact h v' w' h1 h2 h3
/-- Between chosen's regions: the result's box, the node's box with the kids ks of the call's own. -/
def Chs (w wx : World) (pb : Nat) (ks : List Tree) (line : Int) (s : PS) : Prop :=
  ∃ kv, wx.heap[w.heap.size]? = some (.cells #[.int .i64 0, .string ⟨#[]⟩, .slice none 0 0, .int .i64 0] 32 (0, 0)) ∧ wx.heap[w.heap.size + 1]? = some (.cells #[.int .i64 2, .string ⟨#[]⟩, kv, .int .i64 line] 32 (0, 0)) ∧
    OwnTs 32 wx (w.heap.size + 2) kv ks ∧ PIn wx pb s ∧ Only pb w wx
/-- A kid more: the call w1 made it, the append left w2, the store is done. -/
theorem Chs.add {w wx w1 w2 w3 : World} {pb : Nat} {ks : List Tree} {line : Int} {s' : PS} {kv v2 : Value} {t : Tree} (hlt : pb < w.heap.size)
    (hrb : wx.heap[w.heap.size]? = some (.cells #[.int .i64 0, .string ⟨#[]⟩, .slice none 0 0, .int .i64 0] 32 (0, 0))) (hnb : wx.heap[w.heap.size + 1]? = some (.cells #[.int .i64 2, .string ⟨#[]⟩, kv, .int .i64 line] 32 (0, 0)))
    (hon : Only pb w wx) (ho1 : Only pb wx w1) (hp1 : PIn w1 pb s') (hown : OwnTs 32 w2 (w.heap.size + 2) v2 (ks ++ [t])) (hb2 : Below (w.heap.size + 2) w1 w2) (h3 : w3 = w2.setCell ⟨w.heap.size + 1, 2, none⟩ v2) :
    Chs w w3 pb (ks ++ [t]) line s' := by
  subst h3
  have hl := block_lt hnb
  have hz := ho1.size
  have hr2 : w2.heap[w.heap.size]? = _ := (hb2.block _ (by omega)).trans (ho1.keep hrb (by omega))
  have hn2 : w2.heap[w.heap.size + 1]? = _ := (hb2.block _ (by omega)).trans (ho1.keep hnb (by omega))
  refine ⟨v2, Only.set.keep hr2 (by omega), ?_, ?_, (hp1.bel hb2 (by omega)).above (by omega), ((hon.trans ho1).bel2 (hb2.mono (by omega))).new Only.set (by omega)⟩
  · have h := Joins.block_setCell (i := 2) hn2 v2
    simpa using h
  · exact hown.only (pb := w.heap.size + 1) Only.set (by omega)
end Go.Proofs.YtogkiifljdnjgaaDoor
