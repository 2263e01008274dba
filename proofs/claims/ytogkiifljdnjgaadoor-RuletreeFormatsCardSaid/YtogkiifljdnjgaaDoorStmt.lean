/- Stmt: Stm Stmt, one behind the other. -/
import Derived.Test.YtogkiifljdnjgaaDoorChosenW
import Derived.Test.YtogkiifljdnjgaaDoorValue
import Derived.Test.YtogkiifljdnjgaaDoorAtom
/- What statement keeps in memory between its steps. No condition. -/
namespace Go.Proofs.YtogkiifljdnjgaaDoor
open Go.RowKit
set_option linter.unusedVariables false
set_option linter.unusedSimpArgs false

/-- The result's box, the token's, the node's; the parser. -/
structure Stm (w wx : World) (pb tb nb : Nat) (kd ln cl : Int) (tx : ByteArray) (a b c d : Value) (s : PS) : Prop where
  lt1 : w.heap.size < tb
  lt2 : tb < nb
  lt3 : nb < wx.heap.size
  pl : pb < w.heap.size
  res : wx.heap[w.heap.size]? = some (.cells #[.int .i64 0, .string ⟨#[]⟩, .slice none 0 0, .int .i64 0] 32 (0, 0))
  tok : wx.heap[tb]? = some (.cells #[.int .i64 kd, .string tx, .int .i64 ln, .int .i64 cl] 70 (0, 0))
  node : wx.heap[nb]? = some (.cells #[a, b, c, d] 32 (0, 0))
  pin : PIn wx pb s
  only : Only pb w wx
theorem Stm.call {w wx wy : World} {pb tb nb : Nat} {kd ln cl : Int} {tx : ByteArray} {a b c d : Value} {s s' : PS} (h : Stm w wx pb tb nb kd ln cl tx a b c d s) (ho : Only pb wx wy) (hp : PIn wy pb s') : Stm w wy pb tb nb kd ln cl tx a b c d s' := by
  have h1 := h.lt1; have h2 := h.lt2; have h3 := h.lt3; have h4 := h.pl; have h5 := ho.size
  exact ⟨h1, h2, by omega, h4, ho.keep h.res (by omega), ho.keep h.tok (by omega), ho.keep h.node (by omega), hp, h.only.trans ho⟩
theorem Stm.step {w wx wy : World} {pb tb nb : Nat} {kd ln cl : Int} {tx : ByteArray} {a b c d : Value} {s : PS} (h : Stm w wx pb tb nb kd ln cl tx a b c d s) (hb : Below wx.heap.size wx wy) : Stm w wy pb tb nb kd ln cl tx a b c d s :=
  h.call (Only.of_below hb) (h.pin.step hb)
theorem Stm.alloc {w wx : World} {pb tb nb : Nat} {kd ln cl : Int} {tx : ByteArray} {a b c d : Value} {s : PS} (h : Stm w wx pb tb nb kd ln cl tx a b c d s) (x : Obj) : Stm w (wx.alloc x) pb tb nb kd ln cl tx a b c d s := h.step (bel_new _ _)
theorem Stm.drew {w wx : World} {pb tb nb : Nat} {kd ln cl : Int} {tx : ByteArray} {a b c d : Value} {s : PS} (h : Stm w wx pb tb nb kd ln cl tx a b c d s) : Stm w wx.drew pb tb nb kd ln cl tx a b c d s :=
  ⟨h.lt1, h.lt2, h.lt3, h.pl, h.res, h.tok, h.node, h.pin, h.only.drew⟩
theorem Stm.drewN {w wx : World} {pb tb nb n : Nat} {kd ln cl : Int} {tx : ByteArray} {a b c d : Value} {s : PS} (h : Stm w wx pb tb nb kd ln cl tx a b c d s) : Stm w (wx.drewN n) pb tb nb kd ln cl tx a b c d s :=
  ⟨h.lt1, h.lt2, h.lt3, h.pl, h.res, h.tok, h.node, h.pin, h.only.drewN⟩
theorem Stm.set0 {w wx : World} {pb tb nb : Nat} {kd ln cl : Int} {tx : ByteArray} {a b c d : Value} {s : PS} (h : Stm w wx pb tb nb kd ln cl tx a b c d s) (u : Value) : Stm w (wx.setCell ⟨nb, 0, none⟩ u) pb tb nb kd ln cl tx u b c d s := by
  have h1 := h.lt1; have h2 := h.lt2; have h3 := h.lt3; have h4 := h.pl
  exact ⟨h1, h2, by simpa [World.setCell] using h3, h4, Only.set.keep h.res (by omega), Only.set.keep h.tok (by omega), by have h := Joins.block_setCell (i := 0) h.node u; simpa using h, h.pin.above (by omega), h.only.new Only.set (by omega)⟩
theorem Stm.set1 {w wx : World} {pb tb nb : Nat} {kd ln cl : Int} {tx : ByteArray} {a b c d : Value} {s : PS} (h : Stm w wx pb tb nb kd ln cl tx a b c d s) (u : Value) : Stm w (wx.setCell ⟨nb, 1, none⟩ u) pb tb nb kd ln cl tx a u c d s := by
  have h1 := h.lt1; have h2 := h.lt2; have h3 := h.lt3; have h4 := h.pl
  exact ⟨h1, h2, by simpa [World.setCell] using h3, h4, Only.set.keep h.res (by omega), Only.set.keep h.tok (by omega), by have h := Joins.block_setCell (i := 1) h.node u; simpa using h, h.pin.above (by omega), h.only.new Only.set (by omega)⟩
theorem Stm.set2 {w wx : World} {pb tb nb : Nat} {kd ln cl : Int} {tx : ByteArray} {a b c d : Value} {s : PS} (h : Stm w wx pb tb nb kd ln cl tx a b c d s) (u : Value) : Stm w (wx.setCell ⟨nb, 2, none⟩ u) pb tb nb kd ln cl tx a b u d s := by
  have h1 := h.lt1; have h2 := h.lt2; have h3 := h.lt3; have h4 := h.pl
  exact ⟨h1, h2, by simpa [World.setCell] using h3, h4, Only.set.keep h.res (by omega), Only.set.keep h.tok (by omega), by have h := Joins.block_setCell (i := 2) h.node u; simpa using h, h.pin.above (by omega), h.only.new Only.set (by omega)⟩
/-- The node is handed back. -/
theorem Stm.done {w wx w' : World} {pb tb nb B : Nat} {kd ln cl k l : Int} {tx tt : ByteArray} {t : List UInt8} {kv : Value} {ks : List Tree} {s : PS} (h : Stm w wx pb tb nb kd ln cl tx (.int .i64 k) (.string tt) kv (.int .i64 l) s)
    (ht : tt = ⟨t.toArray⟩) (hk : IsKids wx (New wx B) ks kv) (hB : w.heap.size < B) (hw : Only w.heap.size wx w') : PostN w w' pb (.node k t ks l, s) (.returned (.agg #[.int .i64 k, .string tt, kv, .int .i64 l])) := by
  subst ht
  exact PostN.node hk hB h.pin h.only h.pl hw
theorem Stm.done0 {w wx w' : World} {pb tb nb : Nat} {kd ln cl k l : Int} {tx tt : ByteArray} {t : List UInt8} {s : PS} (h : Stm w wx pb tb nb kd ln cl tx (.int .i64 k) (.string tt) (.slice none 0 0) (.int .i64 l) s)
    (ht : tt = ⟨t.toArray⟩) (hw : Only w.heap.size wx w') : PostN w w' pb (.node k t [] l, s) (.returned (.agg #[.int .i64 k, .string tt, .slice none 0 0, .int .i64 l])) :=
  h.done (B := w.heap.size + 1) ht (IsKids.nil _ _) (Nat.lt_succ_self _) hw
theorem Stm.big {w wx : World} {pb tb nb : Nat} {kd ln cl : Int} {tx : ByteArray} {a b c d : Value} {s : PS} (h : Stm w wx pb tb nb kd ln cl tx a b c d s) : w.heap.size < wx.heap.size := by
  have h1 := h.lt1; have h2 := h.lt2; have h3 := h.lt3
  omega
/-- The kids that a callee made are put into the node. -/
theorem Stm.kids {w wx wy : World} {pb tb nb : Nat} {kd ln cl : Int} {tx : ByteArray} {a b c d : Value} {s : PS} {ks : List Tree} {kv : Value} (h : Stm w wx pb tb nb kd ln cl tx a b c d s) (hk : IsKids wy (New wy wx.heap.size) ks kv) (u : Value) :
    IsKids (wy.setCell ⟨nb, 2, none⟩ u) (New (wy.setCell ⟨nb, 2, none⟩ u) wx.heap.size) ks kv :=
  IsKids.only (pb := nb) hk Only.set h.lt3
end Go.Proofs.YtogkiifljdnjgaaDoor

/- The walk of statement. No condition beyond the callees' contracts. -/
namespace Go.Proofs.YtogkiifljdnjgaaDoor
open Go.RowKit
set_option linter.unusedVariables false
set_option linter.unusedSimpArgs false

section
variable (rc : Rec) (s : PS)
theorem stmtB_no (hk : (hdT s.1).kind ≠ 1) : stmtB rc s = (.node 0 [] [] (hdT s.1).line, failF s) := by
  simp [stmtB, hk]
theorem stmtB_if (hk : (hdT s.1).kind = 1) (ht : (hdT s.1).text = [105, 102]) : stmtB rc s = rc (.chosen (hdT s.1).line) (nxt s.1, s.2) := by
  simp [stmtB, hk, ht]
theorem stmtB_let_no (hk : (hdT s.1).kind = 1) (ht : (hdT s.1).text = [108, 101, 116]) (hn : (hdT (nxt s.1)).kind ≠ 1 ∨ (hdT (nxt s.1)).text ∈ kws) : stmtB rc s = (.node 3 [] [] (hdT s.1).line, failF (nxt s.1, s.2)) := by
  simp [stmtB, hk, ht, hn]
theorem stmtB_let (hk : (hdT s.1).kind = 1) (ht : (hdT s.1).text = [108, 101, 116]) (hn : ¬ ((hdT (nxt s.1)).kind ≠ 1 ∨ (hdT (nxt s.1)).text ∈ kws)) : stmtB rc s = (.node 3 (hdT (nxt s.1)).text (rc (.value [61]) (nxt (nxt s.1), s.2)).1.kids (hdT s.1).line, (rc (.value [61]) (nxt (nxt s.1), s.2)).2) := by
  simp [stmtB, hk, ht, hn]
theorem stmtB_path (hk : (hdT s.1).kind = 1) (ht : (hdT s.1).text = [112, 97, 116, 104]) : stmtB rc s = (.node 4 [112, 97, 116, 104] (rc (.value [61]) (nxt s.1, s.2)).1.kids (hdT s.1).line, (rc (.value [61]) (nxt s.1, s.2)).2) := by
  simp [stmtB, hk, ht]
theorem stmtB_query (hk : (hdT s.1).kind = 1) (ht : (hdT s.1).text = [113, 117, 101, 114, 121]) : stmtB rc s = (.node 4 [113, 117, 101, 114, 121] (rc (.value [61]) (nxt s.1, s.2)).1.kids (hdT s.1).line, (rc (.value [61]) (nxt s.1, s.2)).2) := by
  simp [stmtB, hk, ht]
theorem stmtB_header (hk : (hdT s.1).kind = 1) (ht : (hdT s.1).text = [104, 101, 97, 100, 101, 114]) (hz : (textF (nxt s.1, s.2)).2.2 = 0) : stmtB rc s = (.node 5 (textF (nxt s.1, s.2)).1 (rc (.value [61]) (textF (nxt s.1, s.2)).2).1.kids (hdT s.1).line, (rc (.value [61]) (textF (nxt s.1, s.2)).2).2) := by
  simp [stmtB, hk, ht, hz]
theorem stmtB_header_no (hk : (hdT s.1).kind = 1) (ht : (hdT s.1).text = [104, 101, 97, 100, 101, 114]) (hz : ¬ (textF (nxt s.1, s.2)).2.2 = 0) : stmtB rc s = (.node 5 (textF (nxt s.1, s.2)).1 [] (hdT s.1).line, (textF (nxt s.1, s.2)).2) := by
  simp [stmtB, hk, ht, hz]
theorem stmtB_vary (hk : (hdT s.1).kind = 1) (ht : (hdT s.1).text = [118, 97, 114, 121]) (hz : (textF (nxt s.1, s.2)).2.2 = 0) : stmtB rc s = (.node 6 (textF (nxt s.1, s.2)).1 [] (hdT s.1).line, signF [59] (textF (nxt s.1, s.2)).2) := by
  simp [stmtB, hk, ht, hz]
theorem stmtB_vary_no (hk : (hdT s.1).kind = 1) (ht : (hdT s.1).text = [118, 97, 114, 121]) (hz : ¬ (textF (nxt s.1, s.2)).2.2 = 0) : stmtB rc s = (.node 6 (textF (nxt s.1, s.2)).1 [] (hdT s.1).line, (textF (nxt s.1, s.2)).2) := by
  simp [stmtB, hk, ht, hz]
theorem stmtB_tag (hk : (hdT s.1).kind = 1) (ht : (hdT s.1).text = [116, 97, 103]) : stmtB rc s = (.node 7 [] (rc (.value []) (nxt s.1, s.2)).1.kids (hdT s.1).line, (rc (.value []) (nxt s.1, s.2)).2) := by
  simp [stmtB, hk, ht]
theorem stmtB_ttl (hk : (hdT s.1).kind = 1) (ht : (hdT s.1).text = [116, 116, 108]) : stmtB rc s = (.node 8 [] (rc (.value []) (nxt s.1, s.2)).1.kids (hdT s.1).line, (rc (.value []) (nxt s.1, s.2)).2) := by
  simp [stmtB, hk, ht]
theorem stmtB_deny (hk : (hdT s.1).kind = 1) (ht : (hdT s.1).text = [100, 101, 110, 121]) : stmtB rc s = (.node 9 [] (rc (.value []) (nxt s.1, s.2)).1.kids (hdT s.1).line, (rc (.value []) (nxt s.1, s.2)).2) := by
  simp [stmtB, hk, ht]
theorem stmtB_pass (hk : (hdT s.1).kind = 1) (ht : (hdT s.1).text = [112, 97, 115, 115]) : stmtB rc s = (.node 10 [] [] (hdT s.1).line, signF [59] (nxt s.1, s.2)) := by
  simp [stmtB, hk, ht]
theorem stmtB_token (hk : (hdT s.1).kind = 1) (ht : (hdT s.1).text = [116, 111, 107, 101, 110]) : stmtB rc s = (.node 11 [] [] (hdT s.1).line, signF [59] (nxt s.1, s.2)) := by
  simp [stmtB, hk, ht]
theorem stmtB_other (hk : (hdT s.1).kind = 1) (h0 : ¬ (hdT s.1).text = [105, 102]) (h1 : ¬ (hdT s.1).text = [108, 101, 116]) (h2 : ¬ (hdT s.1).text = [112, 97, 116, 104]) (h3 : ¬ (hdT s.1).text = [113, 117, 101, 114, 121]) (h4 : ¬ (hdT s.1).text = [104, 101, 97, 100, 101, 114]) (h5 : ¬ (hdT s.1).text = [118, 97, 114, 121]) (h6 : ¬ (hdT s.1).text = [116, 97, 103]) (h7 : ¬ (hdT s.1).text = [116, 116, 108]) (h8 : ¬ (hdT s.1).text = [100, 101, 110, 121]) (h9 : ¬ (hdT s.1).text = [112, 97, 115, 115]) (h10 : ¬ (hdT s.1).text = [116, 111, 107, 101, 110]) : stmtB rc s = (.node 0 [] [] (hdT s.1).line, failF s) := by
  simp [stmtB, hk, h0, h1, h2, h3, h4, h5, h6, h7, h8, h9, h10]
end
set_option maxRecDepth 20000 in
set_option maxHeartbeats 8000000 in
theorem stmt_con (n : Nat) (HC : ∀ l, ConC l n) (HV : ∀ sg, ConV sg n) : ConN 48 .stmt (n + 1) := by
  intro w pb s hp hr
  have HCh := Lib.hid HC
  have HVa := Lib.hid HV
  have HP := Lib.hid hp
  have hlt := hp.lt
  have hpw2 : ¬ w.heap.size = pb := by omega
  obtain ⟨R, hR⟩ : ∃ R, pRun (n + 1) .stmt s = R := ⟨_, rfl⟩
  rw [hR]
  have HR := Lib.hid (show stmtB (pRun n) s = R from hR)
  have HRK := Lib.hid hr
  have HKD := Lib.hid (fun (h : (hdT s.1).kind ≠ 5) => HP.out.good.nxt_lt h)
  have hpk := fun W (hW : PIn W pb s) => peek_in W pb s hW
  have HTD := Lib.hid (show hdT s.1 = ⟨(hdT s.1).kind, (hdT s.1).text, (hdT s.1).line, (hdT s.1).col⟩ from rfl)
  unfold tokVal at hpk
  obtain ⟨tx, htx⟩ : ∃ tx : ByteArray, (⟨(hdT s.1).text.toArray⟩ : ByteArray) = tx := ⟨_, rfl⟩
  rw [htx] at hpk
  have HPK := Lib.hid hpk
  have HX := Lib.hid htx.symm
  have HL := Lib.hid (show tx.toList = (hdT s.1).text by rw [← htx, ByteArray.toList_eq])
  clear hr hR hp HC HV hpk htx HTD
  go_enter Tryd.func48, Tryd.ntmps48
  go_upto_region 3 with (go_at_call 35; (with_reducible refine (HPK.out _ HP.out.alloc).mono ?_); rintro e w1 ⟨rfl, hb1⟩; have HB1 := Lib.hid hb1; have HP1 := Lib.hid (HP.out.alloc.step hb1); have HR1 := Lib.hid (keep_blk hb1 (heap_alloc_new w _)); have hl1 := block_lt HR1.out; have HO1 := Lib.hid ((Only.of_below (b := pb) (bel_new w _)).bel hb1); clear hb1)
  have H0 : Hid (Stm w ((w1.alloc (.cells #[.int .i64 (hdT s.1).kind, .string tx, .int .i64 (hdT s.1).line, .int .i64 (hdT s.1).col] 70)).alloc (.cells #[.int .i64 0, .string ⟨#[]⟩, .slice none 0 0, .int .i64 (hdT s.1).line] 32)) pb w1.heap.size (w1.heap.size + 1) (hdT s.1).kind (hdT s.1).line (hdT s.1).col tx (.int .i64 0) (.string ⟨#[]⟩) (.slice none 0 0) (.int .i64 (hdT s.1).line) s) :=
    Lib.hid ⟨hl1, Nat.lt_succ_self _, by simp, hlt, new_blk (new_blk HR1.out), new_blk (heap_alloc_new w1 _), by have h := heap_alloc_new (w1.alloc (.cells #[.int .i64 (hdT s.1).kind, .string tx, .int .i64 (hdT s.1).line, .int .i64 (hdT s.1).col] 70)) (.cells #[.int .i64 0, .string ⟨#[]⟩, .slice none 0 0, .int .i64 (hdT s.1).line] 32); simpa using h, HP1.out.alloc.alloc, HO1.out.alloc.alloc⟩
  clear HB1 HP1 HR1 HO1 hl1
  generalize World.alloc (World.alloc w1 _) _ = W0 at *
  generalize w1.heap.size + 1 = nb at *
  generalize w1.heap.size = tb at *
  have n1 : ¬ w.heap.size = nb := by have h1 := H0.out.lt1; have h2 := H0.out.lt2; omega
  have n2 : ¬ nb = w.heap.size := by omega
  have n3 : ¬ w.heap.size = tb := by have h1 := H0.out.lt1; omega
  have n4 : ¬ tb = w.heap.size := by omega
  have n5 : ¬ nb = tb := by have h2 := H0.out.lt2; omega
  have n6 : ¬ tb = nb := by omega
  obtain ⟨r0, r1, r2, r3, q0, q1, q2, q3⟩ := box4 H0.out.res
  obtain ⟨b0, b1, b2, b3, z0, z1, z2, z3⟩ := box4 H0.out.node
  obtain ⟨t0, t1, t2, t3, _, _, _, _⟩ := box4 H0.out.tok
  have hs0 := H0.out.lt3
  by_cases hk : (hdT s.1).kind = 1
  rotate_left
  · have HQ := Lib.hid ((stmtB_no (pRun n) s hk).symm.trans HR.out)
    have ek : ((hdT s.1).kind != 1) = true := by simpa using hk
    clear hk HR HKD HL
    go_wp2_with (first | (go_at_call 36; (with_reducible refine (fail_in _ pb s H0.out.pin).mono ?_); rintro e w2 ⟨rfl, hp2, ho2⟩; have H2 := Lib.hid (H0.out.call ho2 hp2); obtain ⟨r0, r1, r2, r3, q0, q1, q2, q3⟩ := box4 H2.out.res; obtain ⟨b0, b1, b2, b3, z0, z1, z2, z3⟩ := box4 H2.out.node; obtain ⟨t0, t1, t2, t3, _, _, _, _⟩ := box4 H2.out.tok; have hs2 := H2.out.lt3; clear hp2 ho2))
    refine bodyPost_ret (v := .agg #[.int .i64 0, .string ⟨#[]⟩, .slice none 0 0, .int .i64 (hdT s.1).line]) (by simp [results, Tryd.results48, go_sem, r0, r1, r2, r3, q0, q1, q2, q3]) rfl ?_
    rw [← HQ.out]
    exact H2.out.done0 rfl (Only.set4 _ _ _ _ _ _)
  have ek : ((hdT s.1).kind != 1) = false := by simp [hk]
  have HK1 := Lib.hid (show (nxt s.1).length + 1 = s.1.length from HKD.out (by rw [hk]; decide))
  clear HKD
  by_cases hn_0 : (hdT s.1).text = [105, 102]
  · have ht := hn_0
    have HQ := Lib.hid ((stmtB_if (pRun n) s hk ht).symm.trans HR.out)
    have e0 : (tx.toList == [105, 102]) = true := by rw [HL.out, ht]; decide
    have e1 : (tx.toList == [108, 101, 116]) = false := by rw [HL.out, ht]; decide
    have e2 : (tx.toList == [112, 97, 116, 104]) = false := by rw [HL.out, ht]; decide
    have e3 : (tx.toList == [113, 117, 101, 114, 121]) = false := by rw [HL.out, ht]; decide
    have e4 : (tx.toList == [104, 101, 97, 100, 101, 114]) = false := by rw [HL.out, ht]; decide
    have e5 : (tx.toList == [118, 97, 114, 121]) = false := by rw [HL.out, ht]; decide
    have e6 : (tx.toList == [116, 97, 103]) = false := by rw [HL.out, ht]; decide
    have e7 : (tx.toList == [116, 116, 108]) = false := by rw [HL.out, ht]; decide
    have e8 : (tx.toList == [100, 101, 110, 121]) = false := by rw [HL.out, ht]; decide
    have e9 : (tx.toList == [112, 97, 115, 115]) = false := by rw [HL.out, ht]; decide
    have e10 : (tx.toList == [116, 111, 107, 101, 110]) = false := by rw [HL.out, ht]; decide
    have HC1 := Lib.hid (fun W (hW : PIn W pb (nxt s.1, s.2)) => HCh.out (hdT s.1).line W pb (nxt s.1, s.2) hW (by have h1 := HRK.out; have h2 := HK1.out; simp [rankN] at h1 ⊢; omega))
    generalize pRun n (.chosen (hdT s.1).line) (nxt s.1, s.2) = rv at *
    clear ht hn_0 hk HR HL
    go_wp2_with (first | (go_at_call 68; (with_reducible refine (next_in _ pb s H0.out.pin).mono ?_); rintro e w2 ⟨rfl, hp2, ho2⟩; have H2 := Lib.hid (H0.out.call ho2 hp2); obtain ⟨r0, r1, r2, r3, q0, q1, q2, q3⟩ := box4 H2.out.res; obtain ⟨b0, b1, b2, b3, z0, z1, z2, z3⟩ := box4 H2.out.node; obtain ⟨t0, t1, t2, t3, _, _, _, _⟩ := box4 H2.out.tok; have hs2 := H2.out.lt3; clear hp2 ho2) | (go_at_call 69; (with_reducible refine (HC1.out _ H2.out.pin).mono ?_); rintro e w3 ⟨⟨v3, rfl, ht3⟩, hp3, ho3⟩; obtain ⟨k3, x3, a3, m3, c3, l3, rfl⟩ := isT_shape ht3; have HT3 := Lib.hid ht3; have HO3 := Lib.hid ho3; have H3 := Lib.hid (H2.out.call ho3 hp3); obtain ⟨r0, r1, r2, r3, q0, q1, q2, q3⟩ := box4 H3.out.res; obtain ⟨b0, b1, b2, b3, z0, z1, z2, z3⟩ := box4 H3.out.node; obtain ⟨t0, t1, t2, t3, _, _, _, _⟩ := box4 H3.out.tok; have hs3 := H3.out.lt3; clear ht3 hp3 ho3))
    refine bodyPost_ret (v := .agg #[.int .i64 k3, .string ⟨x3.toArray⟩, .slice a3 m3 c3, .int .i64 l3]) (by simp [results, Tryd.results48, go_sem, r0, r1, r2, r3, q0, q1, q2, q3]) rfl ?_
    rw [← HQ.out]
    exact PostN.pass H2.out.only H2.out.big HT3.out H3.out.pin HO3.out hlt (Only.set4 _ _ _ _ _ _)
  by_cases hn_1 : (hdT s.1).text = [108, 101, 116]
  · have ht := hn_1
    have HPN := Lib.hid (fun W (hW : PIn W pb (nxt s.1, s.2)) => show Calls Tryd.prog 35 #[.pointer (some ⟨pb, 0, none⟩)] W fun e w' => e = .returned (.agg #[.int .i64 (hdT (nxt s.1)).kind, .string ⟨(hdT (nxt s.1)).text.toArray⟩, .int .i64 (hdT (nxt s.1)).line, .int .i64 (hdT (nxt s.1)).col]) ∧ Below W.heap.size W w' from peek_in W pb (nxt s.1, s.2) hW)
    have e0 : (tx.toList == [105, 102]) = false := by rw [HL.out, ht]; decide
    have e1 : (tx.toList == [108, 101, 116]) = true := by rw [HL.out, ht]; decide
    have e2 : (tx.toList == [112, 97, 116, 104]) = false := by rw [HL.out, ht]; decide
    have e3 : (tx.toList == [113, 117, 101, 114, 121]) = false := by rw [HL.out, ht]; decide
    have e4 : (tx.toList == [104, 101, 97, 100, 101, 114]) = false := by rw [HL.out, ht]; decide
    have e5 : (tx.toList == [118, 97, 114, 121]) = false := by rw [HL.out, ht]; decide
    have e6 : (tx.toList == [116, 97, 103]) = false := by rw [HL.out, ht]; decide
    have e7 : (tx.toList == [116, 116, 108]) = false := by rw [HL.out, ht]; decide
    have e8 : (tx.toList == [100, 101, 110, 121]) = false := by rw [HL.out, ht]; decide
    have e9 : (tx.toList == [112, 97, 115, 115]) = false := by rw [HL.out, ht]; decide
    have e10 : (tx.toList == [116, 111, 107, 101, 110]) = false := by rw [HL.out, ht]; decide
    by_cases hn : (hdT (nxt s.1)).kind = 1 ∧ (hdT (nxt s.1)).text ∉ kws
    · have HQ := Lib.hid ((stmtB_let (pRun n) s hk ht (fun h => h.elim (fun h => h hn.1) hn.2)).symm.trans HR.out)
      have en : ((hdT (nxt s.1)).kind != 1) = false := by simp [hn.1]
      have HKW := Lib.hid (fun W (hW : KW W) => kw_no _ W hW hn.2)
      have HV1 := Lib.hid (fun W (hW : PIn W pb (nxt (nxt s.1), s.2)) => HVa.out [61] W pb (nxt (nxt s.1), s.2) hW (by have h1 := HRK.out; have h2 := HK1.out; have h3 := nxt_le' (nxt s.1); simp [rankN] at h1 ⊢; omega))
      generalize pRun n (.value [61]) (nxt (nxt s.1), s.2) = rv at *
      clear hn ht hn_1 hk HR HL
      go_wp2_with (first | (go_at_call 68; (with_reducible refine (next_in _ pb s H0.out.pin).mono ?_); rintro e w2 ⟨rfl, hp2, ho2⟩; have H2 := Lib.hid (H0.out.call ho2 hp2); obtain ⟨r0, r1, r2, r3, q0, q1, q2, q3⟩ := box4 H2.out.res; obtain ⟨b0, b1, b2, b3, z0, z1, z2, z3⟩ := box4 H2.out.node; obtain ⟨t0, t1, t2, t3, _, _, _, _⟩ := box4 H2.out.tok; have hs2 := H2.out.lt3; clear hp2 ho2) | (go_at_call 35; (with_reducible refine (HPN.out _ (H2.out.set0 (.int .i64 3)).pin).mono ?_); rintro e w3 ⟨rfl, hb3⟩; have H3 := Lib.hid (((H2.out.set0 (.int .i64 3)).step hb3).alloc (.cells #[.int .i64 (hdT (nxt s.1)).kind, .string ⟨(hdT (nxt s.1)).text.toArray⟩, .int .i64 (hdT (nxt s.1)).line, .int .i64 (hdT (nxt s.1)).col] 70)); have HN3 := Lib.hid (heap_alloc_new w3 (.cells #[.int .i64 (hdT (nxt s.1)).kind, .string ⟨(hdT (nxt s.1)).text.toArray⟩, .int .i64 (hdT (nxt s.1)).line, .int .i64 (hdT (nxt s.1)).col] 70)); have HS3 := Lib.hid (((H2.out.set0 (.int .i64 3)).step hb3).lt3); obtain ⟨m0, m1, m2, m3, _, _, _, _⟩ := box4 HN3.out; obtain ⟨r0, r1, r2, r3, q0, q1, q2, q3⟩ := box4 H3.out.res; obtain ⟨b0, b1, b2, b3, z0, z1, z2, z3⟩ := box4 H3.out.node; obtain ⟨t0, t1, t2, t3, _, _, _, _⟩ := box4 H3.out.tok; have hs3 := H3.out.lt3; clear hb3) | (go_at_call 63; (with_reducible refine (HKW.out _ H3.out.pin.kw).mono ?_); rintro e w63 ⟨rfl, rfl⟩) | (go_at_call 68; (with_reducible refine (next_in _ pb (nxt s.1, s.2) H3.out.pin).mono ?_); rintro e w4 ⟨rfl, hp4, ho4⟩; have H4 := Lib.hid (H3.out.call ho4 hp4); obtain ⟨r0, r1, r2, r3, q0, q1, q2, q3⟩ := box4 H4.out.res; obtain ⟨b0, b1, b2, b3, z0, z1, z2, z3⟩ := box4 H4.out.node; obtain ⟨t0, t1, t2, t3, _, _, _, _⟩ := box4 H4.out.tok; have hs4 := H4.out.lt3; obtain ⟨m0, m1, m2, m3, _, _, _, _⟩ := box4 (ho4.keep HN3.out (by have h1 := HS3.out; have h2 := H0.out.lt1; have h3 := H0.out.lt2; omega)); have hm3 := HS3.out; clear hp4 ho4) | (go_at_call 70; (with_reducible refine (HV1.out _ (H4.out.set1 (.string ⟨(hdT (nxt s.1)).text.toArray⟩)).pin).mono ?_); rintro e w5 ⟨⟨v5, rfl, hk5⟩, hp5, ho5⟩; obtain ⟨a5, c5, rfl⟩ := isKids_shape hk5; have HK5 := Lib.hid ((H4.out.set1 (.string ⟨(hdT (nxt s.1)).text.toArray⟩)).kids hk5 (.slice a5 rv.1.kids.length c5)); have H5 := Lib.hid ((H4.out.set1 (.string ⟨(hdT (nxt s.1)).text.toArray⟩)).call ho5 hp5); obtain ⟨r0, r1, r2, r3, q0, q1, q2, q3⟩ := box4 H5.out.res; obtain ⟨b0, b1, b2, b3, z0, z1, z2, z3⟩ := box4 H5.out.node; obtain ⟨t0, t1, t2, t3, _, _, _, _⟩ := box4 H5.out.tok; have hs5 := H5.out.lt3; clear hk5 hp5 ho5))
      refine bodyPost_ret (v := .agg #[.int .i64 3, .string ⟨(hdT (nxt s.1)).text.toArray⟩, .slice a5 rv.1.kids.length c5, .int .i64 (hdT s.1).line]) (by simp [results, Tryd.results48, go_sem, r0, r1, r2, r3, q0, q1, q2, q3]) rfl ?_
      rw [← HQ.out]
      exact (H5.out.set2 (.slice a5 rv.1.kids.length c5)).done rfl HK5.out (H4.out.set1 (.string ⟨(hdT (nxt s.1)).text.toArray⟩)).big (Only.set4 _ _ _ _ _ _)
    · have HQ := Lib.hid ((stmtB_let_no (pRun n) s hk ht (Decidable.byContradiction fun h => hn ⟨Decidable.byContradiction fun g => h (.inl g), fun g => h (.inr g)⟩)).symm.trans HR.out)
      by_cases hn1 : (hdT (nxt s.1)).kind = 1
      · have en : ((hdT (nxt s.1)).kind != 1) = false := by simp [hn1]
        have HKW := Lib.hid (fun W (hW : KW W) => kw_yes _ W hW (Decidable.byContradiction fun g => hn ⟨hn1, g⟩))
        clear hn hn1 ht hn_1 hk HR HL
        go_wp2_with (first | (go_at_call 68; (with_reducible refine (next_in _ pb s H0.out.pin).mono ?_); rintro e w2 ⟨rfl, hp2, ho2⟩; have H2 := Lib.hid (H0.out.call ho2 hp2); obtain ⟨r0, r1, r2, r3, q0, q1, q2, q3⟩ := box4 H2.out.res; obtain ⟨b0, b1, b2, b3, z0, z1, z2, z3⟩ := box4 H2.out.node; obtain ⟨t0, t1, t2, t3, _, _, _, _⟩ := box4 H2.out.tok; have hs2 := H2.out.lt3; clear hp2 ho2) | (go_at_call 35; (with_reducible refine (HPN.out _ (H2.out.set0 (.int .i64 3)).pin).mono ?_); rintro e w3 ⟨rfl, hb3⟩; have H3 := Lib.hid (((H2.out.set0 (.int .i64 3)).step hb3).alloc (.cells #[.int .i64 (hdT (nxt s.1)).kind, .string ⟨(hdT (nxt s.1)).text.toArray⟩, .int .i64 (hdT (nxt s.1)).line, .int .i64 (hdT (nxt s.1)).col] 70)); have HN3 := Lib.hid (heap_alloc_new w3 (.cells #[.int .i64 (hdT (nxt s.1)).kind, .string ⟨(hdT (nxt s.1)).text.toArray⟩, .int .i64 (hdT (nxt s.1)).line, .int .i64 (hdT (nxt s.1)).col] 70)); have HS3 := Lib.hid (((H2.out.set0 (.int .i64 3)).step hb3).lt3); obtain ⟨m0, m1, m2, m3, _, _, _, _⟩ := box4 HN3.out; obtain ⟨r0, r1, r2, r3, q0, q1, q2, q3⟩ := box4 H3.out.res; obtain ⟨b0, b1, b2, b3, z0, z1, z2, z3⟩ := box4 H3.out.node; obtain ⟨t0, t1, t2, t3, _, _, _, _⟩ := box4 H3.out.tok; have hs3 := H3.out.lt3; clear hb3) | (go_at_call 63; (with_reducible refine (HKW.out _ H3.out.pin.kw).mono ?_); rintro e w63 ⟨rfl, rfl⟩) | (go_at_call 36; (with_reducible refine (fail_in _ pb (nxt s.1, s.2) H3.out.pin).mono ?_); rintro e w4 ⟨rfl, hp4, ho4⟩; have H4 := Lib.hid (H3.out.call ho4 hp4); obtain ⟨r0, r1, r2, r3, q0, q1, q2, q3⟩ := box4 H4.out.res; obtain ⟨b0, b1, b2, b3, z0, z1, z2, z3⟩ := box4 H4.out.node; obtain ⟨t0, t1, t2, t3, _, _, _, _⟩ := box4 H4.out.tok; have hs4 := H4.out.lt3; clear hp4 ho4))
        refine bodyPost_ret (v := .agg #[.int .i64 3, .string ⟨#[]⟩, .slice none 0 0, .int .i64 (hdT s.1).line]) (by simp [results, Tryd.results48, go_sem, r0, r1, r2, r3, q0, q1, q2, q3]) rfl ?_
        rw [← HQ.out]
        exact H4.out.done0 rfl (Only.set4 _ _ _ _ _ _)
      · have en : ((hdT (nxt s.1)).kind != 1) = true := by simpa using hn1
        clear hn hn1 ht hn_1 hk HR HL
        go_wp2_with (first | (go_at_call 68; (with_reducible refine (next_in _ pb s H0.out.pin).mono ?_); rintro e w2 ⟨rfl, hp2, ho2⟩; have H2 := Lib.hid (H0.out.call ho2 hp2); obtain ⟨r0, r1, r2, r3, q0, q1, q2, q3⟩ := box4 H2.out.res; obtain ⟨b0, b1, b2, b3, z0, z1, z2, z3⟩ := box4 H2.out.node; obtain ⟨t0, t1, t2, t3, _, _, _, _⟩ := box4 H2.out.tok; have hs2 := H2.out.lt3; clear hp2 ho2) | (go_at_call 35; (with_reducible refine (HPN.out _ (H2.out.set0 (.int .i64 3)).pin).mono ?_); rintro e w3 ⟨rfl, hb3⟩; have H3 := Lib.hid (((H2.out.set0 (.int .i64 3)).step hb3).alloc (.cells #[.int .i64 (hdT (nxt s.1)).kind, .string ⟨(hdT (nxt s.1)).text.toArray⟩, .int .i64 (hdT (nxt s.1)).line, .int .i64 (hdT (nxt s.1)).col] 70)); have HN3 := Lib.hid (heap_alloc_new w3 (.cells #[.int .i64 (hdT (nxt s.1)).kind, .string ⟨(hdT (nxt s.1)).text.toArray⟩, .int .i64 (hdT (nxt s.1)).line, .int .i64 (hdT (nxt s.1)).col] 70)); have HS3 := Lib.hid (((H2.out.set0 (.int .i64 3)).step hb3).lt3); obtain ⟨m0, m1, m2, m3, _, _, _, _⟩ := box4 HN3.out; obtain ⟨r0, r1, r2, r3, q0, q1, q2, q3⟩ := box4 H3.out.res; obtain ⟨b0, b1, b2, b3, z0, z1, z2, z3⟩ := box4 H3.out.node; obtain ⟨t0, t1, t2, t3, _, _, _, _⟩ := box4 H3.out.tok; have hs3 := H3.out.lt3; clear hb3) | (go_at_call 36; (with_reducible refine (fail_in _ pb (nxt s.1, s.2) H3.out.pin).mono ?_); rintro e w4 ⟨rfl, hp4, ho4⟩; have H4 := Lib.hid (H3.out.call ho4 hp4); obtain ⟨r0, r1, r2, r3, q0, q1, q2, q3⟩ := box4 H4.out.res; obtain ⟨b0, b1, b2, b3, z0, z1, z2, z3⟩ := box4 H4.out.node; obtain ⟨t0, t1, t2, t3, _, _, _, _⟩ := box4 H4.out.tok; have hs4 := H4.out.lt3; clear hp4 ho4))
        refine bodyPost_ret (v := .agg #[.int .i64 3, .string ⟨#[]⟩, .slice none 0 0, .int .i64 (hdT s.1).line]) (by simp [results, Tryd.results48, go_sem, r0, r1, r2, r3, q0, q1, q2, q3]) rfl ?_
        rw [← HQ.out]
        exact H4.out.done0 rfl (Only.set4 _ _ _ _ _ _)
  by_cases hn_2 : (hdT s.1).text = [112, 97, 116, 104]
  · have ht := hn_2
    have HQ := Lib.hid ((stmtB_path (pRun n) s hk ht).symm.trans HR.out)
    have HXK := Lib.hid (show tx = ⟨([112, 97, 116, 104] : List UInt8).toArray⟩ by rw [HX.out, ht])
    have e0 : (tx.toList == [105, 102]) = false := by rw [HL.out, ht]; decide
    have e1 : (tx.toList == [108, 101, 116]) = false := by rw [HL.out, ht]; decide
    have e2 : (tx.toList == [112, 97, 116, 104]) = true := by rw [HL.out, ht]; decide
    have e3 : (tx.toList == [113, 117, 101, 114, 121]) = false := by rw [HL.out, ht]; decide
    have e4 : (tx.toList == [104, 101, 97, 100, 101, 114]) = false := by rw [HL.out, ht]; decide
    have e5 : (tx.toList == [118, 97, 114, 121]) = false := by rw [HL.out, ht]; decide
    have e6 : (tx.toList == [116, 97, 103]) = false := by rw [HL.out, ht]; decide
    have e7 : (tx.toList == [116, 116, 108]) = false := by rw [HL.out, ht]; decide
    have e8 : (tx.toList == [100, 101, 110, 121]) = false := by rw [HL.out, ht]; decide
    have e9 : (tx.toList == [112, 97, 115, 115]) = false := by rw [HL.out, ht]; decide
    have e10 : (tx.toList == [116, 111, 107, 101, 110]) = false := by rw [HL.out, ht]; decide
    have HV1 := Lib.hid (fun W (hW : PIn W pb (nxt s.1, s.2)) => HVa.out [61] W pb (nxt s.1, s.2) hW (by have h1 := HRK.out; have h2 := HK1.out; simp [rankN] at h1 ⊢; omega))
    generalize pRun n (.value [61]) (nxt s.1, s.2) = rv at *
    clear ht hn_2 hk HR HL
    go_upto_region 24 with (first | (go_at_call 68; (with_reducible refine (next_in _ pb s H0.out.pin).mono ?_); rintro e w2 ⟨rfl, hp2, ho2⟩; have H2 := Lib.hid (H0.out.call ho2 hp2); obtain ⟨r0, r1, r2, r3, q0, q1, q2, q3⟩ := box4 H2.out.res; obtain ⟨b0, b1, b2, b3, z0, z1, z2, z3⟩ := box4 H2.out.node; obtain ⟨t0, t1, t2, t3, _, _, _, _⟩ := box4 H2.out.tok; have hs2 := H2.out.lt3; clear hp2 ho2))
    go_region
    go_wp2_with (first | (go_at_call 70; (with_reducible refine (HV1.out _ ((H2.out.set0 (.int .i64 4)).set1 (.string tx)).drew.pin).mono ?_); rintro e w3 ⟨⟨v3, rfl, hk3⟩, hp3, ho3⟩; obtain ⟨a3, c3, rfl⟩ := isKids_shape hk3; have HK3 := Lib.hid (((H2.out.set0 (.int .i64 4)).set1 (.string tx)).drew.kids hk3 (.slice a3 rv.1.kids.length c3)); have H3 := Lib.hid (((H2.out.set0 (.int .i64 4)).set1 (.string tx)).drew.call ho3 hp3); obtain ⟨r0, r1, r2, r3, q0, q1, q2, q3⟩ := box4 H3.out.res; obtain ⟨b0, b1, b2, b3, z0, z1, z2, z3⟩ := box4 H3.out.node; obtain ⟨t0, t1, t2, t3, _, _, _, _⟩ := box4 H3.out.tok; have hs3 := H3.out.lt3; clear hk3 hp3 ho3))
    refine bodyPost_ret (v := .agg #[.int .i64 4, .string tx, .slice a3 rv.1.kids.length c3, .int .i64 (hdT s.1).line]) (by simp [results, Tryd.results48, go_sem, r0, r1, r2, r3, q0, q1, q2, q3]) rfl ?_
    rw [← HQ.out]
    exact (H3.out.set2 (.slice a3 rv.1.kids.length c3)).done HXK.out HK3.out ((H2.out.set0 (.int .i64 4)).set1 (.string tx)).drew.big (Only.set4 _ _ _ _ _ _)
  by_cases hn_3 : (hdT s.1).text = [113, 117, 101, 114, 121]
  · have ht := hn_3
    have HQ := Lib.hid ((stmtB_query (pRun n) s hk ht).symm.trans HR.out)
    have HXK := Lib.hid (show tx = ⟨([113, 117, 101, 114, 121] : List UInt8).toArray⟩ by rw [HX.out, ht])
    have e0 : (tx.toList == [105, 102]) = false := by rw [HL.out, ht]; decide
    have e1 : (tx.toList == [108, 101, 116]) = false := by rw [HL.out, ht]; decide
    have e2 : (tx.toList == [112, 97, 116, 104]) = false := by rw [HL.out, ht]; decide
    have e3 : (tx.toList == [113, 117, 101, 114, 121]) = true := by rw [HL.out, ht]; decide
    have e4 : (tx.toList == [104, 101, 97, 100, 101, 114]) = false := by rw [HL.out, ht]; decide
    have e5 : (tx.toList == [118, 97, 114, 121]) = false := by rw [HL.out, ht]; decide
    have e6 : (tx.toList == [116, 97, 103]) = false := by rw [HL.out, ht]; decide
    have e7 : (tx.toList == [116, 116, 108]) = false := by rw [HL.out, ht]; decide
    have e8 : (tx.toList == [100, 101, 110, 121]) = false := by rw [HL.out, ht]; decide
    have e9 : (tx.toList == [112, 97, 115, 115]) = false := by rw [HL.out, ht]; decide
    have e10 : (tx.toList == [116, 111, 107, 101, 110]) = false := by rw [HL.out, ht]; decide
    have HV1 := Lib.hid (fun W (hW : PIn W pb (nxt s.1, s.2)) => HVa.out [61] W pb (nxt s.1, s.2) hW (by have h1 := HRK.out; have h2 := HK1.out; simp [rankN] at h1 ⊢; omega))
    generalize pRun n (.value [61]) (nxt s.1, s.2) = rv at *
    clear ht hn_3 hk HR HL
    go_upto_region 24 with (first | (go_at_call 68; (with_reducible refine (next_in _ pb s H0.out.pin).mono ?_); rintro e w2 ⟨rfl, hp2, ho2⟩; have H2 := Lib.hid (H0.out.call ho2 hp2); obtain ⟨r0, r1, r2, r3, q0, q1, q2, q3⟩ := box4 H2.out.res; obtain ⟨b0, b1, b2, b3, z0, z1, z2, z3⟩ := box4 H2.out.node; obtain ⟨t0, t1, t2, t3, _, _, _, _⟩ := box4 H2.out.tok; have hs2 := H2.out.lt3; clear hp2 ho2))
    go_region
    go_wp2_with (first | (go_at_call 70; (with_reducible refine (HV1.out _ ((H2.out.set0 (.int .i64 4)).set1 (.string tx)).drew.pin).mono ?_); rintro e w3 ⟨⟨v3, rfl, hk3⟩, hp3, ho3⟩; obtain ⟨a3, c3, rfl⟩ := isKids_shape hk3; have HK3 := Lib.hid (((H2.out.set0 (.int .i64 4)).set1 (.string tx)).drew.kids hk3 (.slice a3 rv.1.kids.length c3)); have H3 := Lib.hid (((H2.out.set0 (.int .i64 4)).set1 (.string tx)).drew.call ho3 hp3); obtain ⟨r0, r1, r2, r3, q0, q1, q2, q3⟩ := box4 H3.out.res; obtain ⟨b0, b1, b2, b3, z0, z1, z2, z3⟩ := box4 H3.out.node; obtain ⟨t0, t1, t2, t3, _, _, _, _⟩ := box4 H3.out.tok; have hs3 := H3.out.lt3; clear hk3 hp3 ho3))
    refine bodyPost_ret (v := .agg #[.int .i64 4, .string tx, .slice a3 rv.1.kids.length c3, .int .i64 (hdT s.1).line]) (by simp [results, Tryd.results48, go_sem, r0, r1, r2, r3, q0, q1, q2, q3]) rfl ?_
    rw [← HQ.out]
    exact (H3.out.set2 (.slice a3 rv.1.kids.length c3)).done HXK.out HK3.out ((H2.out.set0 (.int .i64 4)).set1 (.string tx)).drew.big (Only.set4 _ _ _ _ _ _)
  by_cases hn_4 : (hdT s.1).text = [104, 101, 97, 100, 101, 114]
  · have ht := hn_4
    have HTL := Lib.hid (show (textF (nxt s.1, s.2)).2.1.length ≤ (nxt s.1).length from textF_le (nxt s.1, s.2))
    have e0 : (tx.toList == [105, 102]) = false := by rw [HL.out, ht]; decide
    have e1 : (tx.toList == [108, 101, 116]) = false := by rw [HL.out, ht]; decide
    have e2 : (tx.toList == [112, 97, 116, 104]) = false := by rw [HL.out, ht]; decide
    have e3 : (tx.toList == [113, 117, 101, 114, 121]) = false := by rw [HL.out, ht]; decide
    have e4 : (tx.toList == [104, 101, 97, 100, 101, 114]) = true := by rw [HL.out, ht]; decide
    have e5 : (tx.toList == [118, 97, 114, 121]) = false := by rw [HL.out, ht]; decide
    have e6 : (tx.toList == [116, 97, 103]) = false := by rw [HL.out, ht]; decide
    have e7 : (tx.toList == [116, 116, 108]) = false := by rw [HL.out, ht]; decide
    have e8 : (tx.toList == [100, 101, 110, 121]) = false := by rw [HL.out, ht]; decide
    have e9 : (tx.toList == [112, 97, 115, 115]) = false := by rw [HL.out, ht]; decide
    have e10 : (tx.toList == [116, 111, 107, 101, 110]) = false := by rw [HL.out, ht]; decide
    by_cases hz : (textF (nxt s.1, s.2)).2.2 = 0
    · have HQ := Lib.hid ((stmtB_header (pRun n) s hk ht hz).symm.trans HR.out)
      have HOK := Lib.hid (fun W (hW : PIn W pb (textF (nxt s.1, s.2)).2) => ok_yes W pb (textF (nxt s.1, s.2)).2 hW hz)
      have HV1 := Lib.hid (fun W (hW : PIn W pb (textF (nxt s.1, s.2)).2) => HVa.out [61] W pb (textF (nxt s.1, s.2)).2 hW (by have h1 := HRK.out; have h2 := HK1.out; have h3 := HTL.out; simp [rankN] at h1 ⊢; omega))
      generalize pRun n (.value [61]) (textF (nxt s.1, s.2)).2 = rv at *
      clear hz ht hn_4 hk HR HL
      go_wp2_with (first | (go_at_call 68; (with_reducible refine (next_in _ pb s H0.out.pin).mono ?_); rintro e w2 ⟨rfl, hp2, ho2⟩; have H2 := Lib.hid (H0.out.call ho2 hp2); obtain ⟨r0, r1, r2, r3, q0, q1, q2, q3⟩ := box4 H2.out.res; obtain ⟨b0, b1, b2, b3, z0, z1, z2, z3⟩ := box4 H2.out.node; obtain ⟨t0, t1, t2, t3, _, _, _, _⟩ := box4 H2.out.tok; have hs2 := H2.out.lt3; clear hp2 ho2) | (go_at_call 71; (with_reducible refine (text_in _ pb (nxt s.1, s.2) (H2.out.set0 (.int .i64 5)).pin).mono ?_); rintro e w3 ⟨rfl, hp3, ho3⟩; have H3 := Lib.hid ((H2.out.set0 (.int .i64 5)).call ho3 hp3); obtain ⟨r0, r1, r2, r3, q0, q1, q2, q3⟩ := box4 H3.out.res; obtain ⟨b0, b1, b2, b3, z0, z1, z2, z3⟩ := box4 H3.out.node; obtain ⟨t0, t1, t2, t3, _, _, _, _⟩ := box4 H3.out.tok; have hs3 := H3.out.lt3; clear hp3 ho3) | (go_at_call 34; (with_reducible refine (HOK.out _ (H3.out.set1 (.string ⟨(textF (nxt s.1, s.2)).1.toArray⟩)).pin).mono ?_); rintro e w34 ⟨rfl, rfl⟩) | (go_at_call 70; (with_reducible refine (HV1.out _ (H3.out.set1 (.string ⟨(textF (nxt s.1, s.2)).1.toArray⟩)).pin).mono ?_); rintro e w4 ⟨⟨v4, rfl, hk4⟩, hp4, ho4⟩; obtain ⟨a4, c4, rfl⟩ := isKids_shape hk4; have HK4 := Lib.hid ((H3.out.set1 (.string ⟨(textF (nxt s.1, s.2)).1.toArray⟩)).kids hk4 (.slice a4 rv.1.kids.length c4)); have H4 := Lib.hid ((H3.out.set1 (.string ⟨(textF (nxt s.1, s.2)).1.toArray⟩)).call ho4 hp4); obtain ⟨r0, r1, r2, r3, q0, q1, q2, q3⟩ := box4 H4.out.res; obtain ⟨b0, b1, b2, b3, z0, z1, z2, z3⟩ := box4 H4.out.node; obtain ⟨t0, t1, t2, t3, _, _, _, _⟩ := box4 H4.out.tok; have hs4 := H4.out.lt3; clear hk4 hp4 ho4))
      refine bodyPost_ret (v := .agg #[.int .i64 5, .string ⟨(textF (nxt s.1, s.2)).1.toArray⟩, .slice a4 rv.1.kids.length c4, .int .i64 (hdT s.1).line]) (by simp [results, Tryd.results48, go_sem, r0, r1, r2, r3, q0, q1, q2, q3]) rfl ?_
      rw [← HQ.out]
      exact (H4.out.set2 (.slice a4 rv.1.kids.length c4)).done rfl HK4.out (H3.out.set1 (.string ⟨(textF (nxt s.1, s.2)).1.toArray⟩)).big (Only.set4 _ _ _ _ _ _)
    · have HQ := Lib.hid ((stmtB_header_no (pRun n) s hk ht hz).symm.trans HR.out)
      have HOK := Lib.hid (fun W (hW : PIn W pb (textF (nxt s.1, s.2)).2) => ok_no W pb (textF (nxt s.1, s.2)).2 hW hz)
      clear hz ht hn_4 hk HR HL
      go_wp2_with (first | (go_at_call 68; (with_reducible refine (next_in _ pb s H0.out.pin).mono ?_); rintro e w2 ⟨rfl, hp2, ho2⟩; have H2 := Lib.hid (H0.out.call ho2 hp2); obtain ⟨r0, r1, r2, r3, q0, q1, q2, q3⟩ := box4 H2.out.res; obtain ⟨b0, b1, b2, b3, z0, z1, z2, z3⟩ := box4 H2.out.node; obtain ⟨t0, t1, t2, t3, _, _, _, _⟩ := box4 H2.out.tok; have hs2 := H2.out.lt3; clear hp2 ho2) | (go_at_call 71; (with_reducible refine (text_in _ pb (nxt s.1, s.2) (H2.out.set0 (.int .i64 5)).pin).mono ?_); rintro e w3 ⟨rfl, hp3, ho3⟩; have H3 := Lib.hid ((H2.out.set0 (.int .i64 5)).call ho3 hp3); obtain ⟨r0, r1, r2, r3, q0, q1, q2, q3⟩ := box4 H3.out.res; obtain ⟨b0, b1, b2, b3, z0, z1, z2, z3⟩ := box4 H3.out.node; obtain ⟨t0, t1, t2, t3, _, _, _, _⟩ := box4 H3.out.tok; have hs3 := H3.out.lt3; clear hp3 ho3) | (go_at_call 34; (with_reducible refine (HOK.out _ (H3.out.set1 (.string ⟨(textF (nxt s.1, s.2)).1.toArray⟩)).pin).mono ?_); rintro e w34 ⟨rfl, rfl⟩))
      refine bodyPost_ret (v := .agg #[.int .i64 5, .string ⟨(textF (nxt s.1, s.2)).1.toArray⟩, .slice none 0 0, .int .i64 (hdT s.1).line]) (by simp [results, Tryd.results48, go_sem, r0, r1, r2, r3, q0, q1, q2, q3]) rfl ?_
      rw [← HQ.out]
      exact (H3.out.set1 (.string ⟨(textF (nxt s.1, s.2)).1.toArray⟩)).done0 rfl (Only.set4 _ _ _ _ _ _)
  by_cases hn_5 : (hdT s.1).text = [118, 97, 114, 121]
  · have ht := hn_5
    skip
    have e0 : (tx.toList == [105, 102]) = false := by rw [HL.out, ht]; decide
    have e1 : (tx.toList == [108, 101, 116]) = false := by rw [HL.out, ht]; decide
    have e2 : (tx.toList == [112, 97, 116, 104]) = false := by rw [HL.out, ht]; decide
    have e3 : (tx.toList == [113, 117, 101, 114, 121]) = false := by rw [HL.out, ht]; decide
    have e4 : (tx.toList == [104, 101, 97, 100, 101, 114]) = false := by rw [HL.out, ht]; decide
    have e5 : (tx.toList == [118, 97, 114, 121]) = true := by rw [HL.out, ht]; decide
    have e6 : (tx.toList == [116, 97, 103]) = false := by rw [HL.out, ht]; decide
    have e7 : (tx.toList == [116, 116, 108]) = false := by rw [HL.out, ht]; decide
    have e8 : (tx.toList == [100, 101, 110, 121]) = false := by rw [HL.out, ht]; decide
    have e9 : (tx.toList == [112, 97, 115, 115]) = false := by rw [HL.out, ht]; decide
    have e10 : (tx.toList == [116, 111, 107, 101, 110]) = false := by rw [HL.out, ht]; decide
    by_cases hz : (textF (nxt s.1, s.2)).2.2 = 0
    · have HQ := Lib.hid ((stmtB_vary (pRun n) s hk ht hz).symm.trans HR.out)
      have HOK := Lib.hid (fun W (hW : PIn W pb (textF (nxt s.1, s.2)).2) => ok_yes W pb (textF (nxt s.1, s.2)).2 hW hz)
      clear hz ht hn_5 hk HR HL
      go_wp2_with (first | (go_at_call 68; (with_reducible refine (next_in _ pb s H0.out.pin).mono ?_); rintro e w2 ⟨rfl, hp2, ho2⟩; have H2 := Lib.hid (H0.out.call ho2 hp2); obtain ⟨r0, r1, r2, r3, q0, q1, q2, q3⟩ := box4 H2.out.res; obtain ⟨b0, b1, b2, b3, z0, z1, z2, z3⟩ := box4 H2.out.node; obtain ⟨t0, t1, t2, t3, _, _, _, _⟩ := box4 H2.out.tok; have hs2 := H2.out.lt3; clear hp2 ho2) | (go_at_call 71; (with_reducible refine (text_in _ pb (nxt s.1, s.2) (H2.out.set0 (.int .i64 6)).pin).mono ?_); rintro e w3 ⟨rfl, hp3, ho3⟩; have H3 := Lib.hid ((H2.out.set0 (.int .i64 6)).call ho3 hp3); obtain ⟨r0, r1, r2, r3, q0, q1, q2, q3⟩ := box4 H3.out.res; obtain ⟨b0, b1, b2, b3, z0, z1, z2, z3⟩ := box4 H3.out.node; obtain ⟨t0, t1, t2, t3, _, _, _, _⟩ := box4 H3.out.tok; have hs3 := H3.out.lt3; clear hp3 ho3) | (go_at_call 34; (with_reducible refine (HOK.out _ (H3.out.set1 (.string ⟨(textF (nxt s.1, s.2)).1.toArray⟩)).pin).mono ?_); rintro e w34 ⟨rfl, rfl⟩) | (go_at_call 72; (with_reducible refine (sign_in _ pb (textF (nxt s.1, s.2)).2 (H3.out.set1 (.string ⟨(textF (nxt s.1, s.2)).1.toArray⟩)).pin ⟨#[59]⟩).mono ?_); rintro e w4 ⟨rfl, hp4, ho4⟩; have H4 := Lib.hid ((H3.out.set1 (.string ⟨(textF (nxt s.1, s.2)).1.toArray⟩)).call (s' := signF [59] (textF (nxt s.1, s.2)).2) ho4 hp4); obtain ⟨r0, r1, r2, r3, q0, q1, q2, q3⟩ := box4 H4.out.res; obtain ⟨b0, b1, b2, b3, z0, z1, z2, z3⟩ := box4 H4.out.node; obtain ⟨t0, t1, t2, t3, _, _, _, _⟩ := box4 H4.out.tok; have hs4 := H4.out.lt3; clear hp4 ho4))
      refine bodyPost_ret (v := .agg #[.int .i64 6, .string ⟨(textF (nxt s.1, s.2)).1.toArray⟩, .slice none 0 0, .int .i64 (hdT s.1).line]) (by simp [results, Tryd.results48, go_sem, r0, r1, r2, r3, q0, q1, q2, q3]) rfl ?_
      rw [← HQ.out]
      exact H4.out.done0 rfl (Only.set4 _ _ _ _ _ _)
    · have HQ := Lib.hid ((stmtB_vary_no (pRun n) s hk ht hz).symm.trans HR.out)
      have HOK := Lib.hid (fun W (hW : PIn W pb (textF (nxt s.1, s.2)).2) => ok_no W pb (textF (nxt s.1, s.2)).2 hW hz)
      clear hz ht hn_5 hk HR HL
      go_wp2_with (first | (go_at_call 68; (with_reducible refine (next_in _ pb s H0.out.pin).mono ?_); rintro e w2 ⟨rfl, hp2, ho2⟩; have H2 := Lib.hid (H0.out.call ho2 hp2); obtain ⟨r0, r1, r2, r3, q0, q1, q2, q3⟩ := box4 H2.out.res; obtain ⟨b0, b1, b2, b3, z0, z1, z2, z3⟩ := box4 H2.out.node; obtain ⟨t0, t1, t2, t3, _, _, _, _⟩ := box4 H2.out.tok; have hs2 := H2.out.lt3; clear hp2 ho2) | (go_at_call 71; (with_reducible refine (text_in _ pb (nxt s.1, s.2) (H2.out.set0 (.int .i64 6)).pin).mono ?_); rintro e w3 ⟨rfl, hp3, ho3⟩; have H3 := Lib.hid ((H2.out.set0 (.int .i64 6)).call ho3 hp3); obtain ⟨r0, r1, r2, r3, q0, q1, q2, q3⟩ := box4 H3.out.res; obtain ⟨b0, b1, b2, b3, z0, z1, z2, z3⟩ := box4 H3.out.node; obtain ⟨t0, t1, t2, t3, _, _, _, _⟩ := box4 H3.out.tok; have hs3 := H3.out.lt3; clear hp3 ho3) | (go_at_call 34; (with_reducible refine (HOK.out _ (H3.out.set1 (.string ⟨(textF (nxt s.1, s.2)).1.toArray⟩)).pin).mono ?_); rintro e w34 ⟨rfl, rfl⟩))
      refine bodyPost_ret (v := .agg #[.int .i64 6, .string ⟨(textF (nxt s.1, s.2)).1.toArray⟩, .slice none 0 0, .int .i64 (hdT s.1).line]) (by simp [results, Tryd.results48, go_sem, r0, r1, r2, r3, q0, q1, q2, q3]) rfl ?_
      rw [← HQ.out]
      exact (H3.out.set1 (.string ⟨(textF (nxt s.1, s.2)).1.toArray⟩)).done0 rfl (Only.set4 _ _ _ _ _ _)
  by_cases hn_6 : (hdT s.1).text = [116, 97, 103]
  · have ht := hn_6
    have HQ := Lib.hid ((stmtB_tag (pRun n) s hk ht).symm.trans HR.out)
    have e0 : (tx.toList == [105, 102]) = false := by rw [HL.out, ht]; decide
    have e1 : (tx.toList == [108, 101, 116]) = false := by rw [HL.out, ht]; decide
    have e2 : (tx.toList == [112, 97, 116, 104]) = false := by rw [HL.out, ht]; decide
    have e3 : (tx.toList == [113, 117, 101, 114, 121]) = false := by rw [HL.out, ht]; decide
    have e4 : (tx.toList == [104, 101, 97, 100, 101, 114]) = false := by rw [HL.out, ht]; decide
    have e5 : (tx.toList == [118, 97, 114, 121]) = false := by rw [HL.out, ht]; decide
    have e6 : (tx.toList == [116, 97, 103]) = true := by rw [HL.out, ht]; decide
    have e7 : (tx.toList == [116, 116, 108]) = false := by rw [HL.out, ht]; decide
    have e8 : (tx.toList == [100, 101, 110, 121]) = false := by rw [HL.out, ht]; decide
    have e9 : (tx.toList == [112, 97, 115, 115]) = false := by rw [HL.out, ht]; decide
    have e10 : (tx.toList == [116, 111, 107, 101, 110]) = false := by rw [HL.out, ht]; decide
    have HV1 := Lib.hid (fun W (hW : PIn W pb (nxt s.1, s.2)) => HVa.out [] W pb (nxt s.1, s.2) hW (by have h1 := HRK.out; have h2 := HK1.out; simp [rankN] at h1 ⊢; omega))
    generalize pRun n (.value []) (nxt s.1, s.2) = rv at *
    clear ht hn_6 hk HR HL
    go_wp2_with (first | (go_at_call 68; (with_reducible refine (next_in _ pb s H0.out.pin).mono ?_); rintro e w2 ⟨rfl, hp2, ho2⟩; have H2 := Lib.hid (H0.out.call ho2 hp2); obtain ⟨r0, r1, r2, r3, q0, q1, q2, q3⟩ := box4 H2.out.res; obtain ⟨b0, b1, b2, b3, z0, z1, z2, z3⟩ := box4 H2.out.node; obtain ⟨t0, t1, t2, t3, _, _, _, _⟩ := box4 H2.out.tok; have hs2 := H2.out.lt3; clear hp2 ho2) | (go_at_call 70; (with_reducible refine (HV1.out _ (H2.out.set0 (.int .i64 7)).pin).mono ?_); rintro e w3 ⟨⟨v3, rfl, hk3⟩, hp3, ho3⟩; obtain ⟨a3, c3, rfl⟩ := isKids_shape hk3; have HK3 := Lib.hid ((H2.out.set0 (.int .i64 7)).kids hk3 (.slice a3 rv.1.kids.length c3)); have H3 := Lib.hid ((H2.out.set0 (.int .i64 7)).call ho3 hp3); obtain ⟨r0, r1, r2, r3, q0, q1, q2, q3⟩ := box4 H3.out.res; obtain ⟨b0, b1, b2, b3, z0, z1, z2, z3⟩ := box4 H3.out.node; obtain ⟨t0, t1, t2, t3, _, _, _, _⟩ := box4 H3.out.tok; have hs3 := H3.out.lt3; clear hk3 hp3 ho3))
    refine bodyPost_ret (v := .agg #[.int .i64 7, .string ⟨#[]⟩, .slice a3 rv.1.kids.length c3, .int .i64 (hdT s.1).line]) (by simp [results, Tryd.results48, go_sem, r0, r1, r2, r3, q0, q1, q2, q3]) rfl ?_
    rw [← HQ.out]
    exact (H3.out.set2 (.slice a3 rv.1.kids.length c3)).done rfl HK3.out (H2.out.set0 (.int .i64 7)).big (Only.set4 _ _ _ _ _ _)
  by_cases hn_7 : (hdT s.1).text = [116, 116, 108]
  · have ht := hn_7
    have HQ := Lib.hid ((stmtB_ttl (pRun n) s hk ht).symm.trans HR.out)
    have e0 : (tx.toList == [105, 102]) = false := by rw [HL.out, ht]; decide
    have e1 : (tx.toList == [108, 101, 116]) = false := by rw [HL.out, ht]; decide
    have e2 : (tx.toList == [112, 97, 116, 104]) = false := by rw [HL.out, ht]; decide
    have e3 : (tx.toList == [113, 117, 101, 114, 121]) = false := by rw [HL.out, ht]; decide
    have e4 : (tx.toList == [104, 101, 97, 100, 101, 114]) = false := by rw [HL.out, ht]; decide
    have e5 : (tx.toList == [118, 97, 114, 121]) = false := by rw [HL.out, ht]; decide
    have e6 : (tx.toList == [116, 97, 103]) = false := by rw [HL.out, ht]; decide
    have e7 : (tx.toList == [116, 116, 108]) = true := by rw [HL.out, ht]; decide
    have e8 : (tx.toList == [100, 101, 110, 121]) = false := by rw [HL.out, ht]; decide
    have e9 : (tx.toList == [112, 97, 115, 115]) = false := by rw [HL.out, ht]; decide
    have e10 : (tx.toList == [116, 111, 107, 101, 110]) = false := by rw [HL.out, ht]; decide
    have HV1 := Lib.hid (fun W (hW : PIn W pb (nxt s.1, s.2)) => HVa.out [] W pb (nxt s.1, s.2) hW (by have h1 := HRK.out; have h2 := HK1.out; simp [rankN] at h1 ⊢; omega))
    generalize pRun n (.value []) (nxt s.1, s.2) = rv at *
    clear ht hn_7 hk HR HL
    go_wp2_with (first | (go_at_call 68; (with_reducible refine (next_in _ pb s H0.out.pin).mono ?_); rintro e w2 ⟨rfl, hp2, ho2⟩; have H2 := Lib.hid (H0.out.call ho2 hp2); obtain ⟨r0, r1, r2, r3, q0, q1, q2, q3⟩ := box4 H2.out.res; obtain ⟨b0, b1, b2, b3, z0, z1, z2, z3⟩ := box4 H2.out.node; obtain ⟨t0, t1, t2, t3, _, _, _, _⟩ := box4 H2.out.tok; have hs2 := H2.out.lt3; clear hp2 ho2) | (go_at_call 70; (with_reducible refine (HV1.out _ ((H2.out.set0 (.int .i64 7)).set0 (.int .i64 8)).pin).mono ?_); rintro e w3 ⟨⟨v3, rfl, hk3⟩, hp3, ho3⟩; obtain ⟨a3, c3, rfl⟩ := isKids_shape hk3; have HK3 := Lib.hid (((H2.out.set0 (.int .i64 7)).set0 (.int .i64 8)).kids hk3 (.slice a3 rv.1.kids.length c3)); have H3 := Lib.hid (((H2.out.set0 (.int .i64 7)).set0 (.int .i64 8)).call ho3 hp3); obtain ⟨r0, r1, r2, r3, q0, q1, q2, q3⟩ := box4 H3.out.res; obtain ⟨b0, b1, b2, b3, z0, z1, z2, z3⟩ := box4 H3.out.node; obtain ⟨t0, t1, t2, t3, _, _, _, _⟩ := box4 H3.out.tok; have hs3 := H3.out.lt3; clear hk3 hp3 ho3))
    refine bodyPost_ret (v := .agg #[.int .i64 8, .string ⟨#[]⟩, .slice a3 rv.1.kids.length c3, .int .i64 (hdT s.1).line]) (by simp [results, Tryd.results48, go_sem, r0, r1, r2, r3, q0, q1, q2, q3]) rfl ?_
    rw [← HQ.out]
    exact (H3.out.set2 (.slice a3 rv.1.kids.length c3)).done rfl HK3.out ((H2.out.set0 (.int .i64 7)).set0 (.int .i64 8)).big (Only.set4 _ _ _ _ _ _)
  by_cases hn_8 : (hdT s.1).text = [100, 101, 110, 121]
  · have ht := hn_8
    have HQ := Lib.hid ((stmtB_deny (pRun n) s hk ht).symm.trans HR.out)
    have e0 : (tx.toList == [105, 102]) = false := by rw [HL.out, ht]; decide
    have e1 : (tx.toList == [108, 101, 116]) = false := by rw [HL.out, ht]; decide
    have e2 : (tx.toList == [112, 97, 116, 104]) = false := by rw [HL.out, ht]; decide
    have e3 : (tx.toList == [113, 117, 101, 114, 121]) = false := by rw [HL.out, ht]; decide
    have e4 : (tx.toList == [104, 101, 97, 100, 101, 114]) = false := by rw [HL.out, ht]; decide
    have e5 : (tx.toList == [118, 97, 114, 121]) = false := by rw [HL.out, ht]; decide
    have e6 : (tx.toList == [116, 97, 103]) = false := by rw [HL.out, ht]; decide
    have e7 : (tx.toList == [116, 116, 108]) = false := by rw [HL.out, ht]; decide
    have e8 : (tx.toList == [100, 101, 110, 121]) = true := by rw [HL.out, ht]; decide
    have e9 : (tx.toList == [112, 97, 115, 115]) = false := by rw [HL.out, ht]; decide
    have e10 : (tx.toList == [116, 111, 107, 101, 110]) = false := by rw [HL.out, ht]; decide
    have HV1 := Lib.hid (fun W (hW : PIn W pb (nxt s.1, s.2)) => HVa.out [] W pb (nxt s.1, s.2) hW (by have h1 := HRK.out; have h2 := HK1.out; simp [rankN] at h1 ⊢; omega))
    generalize pRun n (.value []) (nxt s.1, s.2) = rv at *
    clear ht hn_8 hk HR HL
    go_wp2_with (first | (go_at_call 68; (with_reducible refine (next_in _ pb s H0.out.pin).mono ?_); rintro e w2 ⟨rfl, hp2, ho2⟩; have H2 := Lib.hid (H0.out.call ho2 hp2); obtain ⟨r0, r1, r2, r3, q0, q1, q2, q3⟩ := box4 H2.out.res; obtain ⟨b0, b1, b2, b3, z0, z1, z2, z3⟩ := box4 H2.out.node; obtain ⟨t0, t1, t2, t3, _, _, _, _⟩ := box4 H2.out.tok; have hs2 := H2.out.lt3; clear hp2 ho2) | (go_at_call 70; (with_reducible refine (HV1.out _ ((H2.out.set0 (.int .i64 7)).set0 (.int .i64 9)).pin).mono ?_); rintro e w3 ⟨⟨v3, rfl, hk3⟩, hp3, ho3⟩; obtain ⟨a3, c3, rfl⟩ := isKids_shape hk3; have HK3 := Lib.hid (((H2.out.set0 (.int .i64 7)).set0 (.int .i64 9)).kids hk3 (.slice a3 rv.1.kids.length c3)); have H3 := Lib.hid (((H2.out.set0 (.int .i64 7)).set0 (.int .i64 9)).call ho3 hp3); obtain ⟨r0, r1, r2, r3, q0, q1, q2, q3⟩ := box4 H3.out.res; obtain ⟨b0, b1, b2, b3, z0, z1, z2, z3⟩ := box4 H3.out.node; obtain ⟨t0, t1, t2, t3, _, _, _, _⟩ := box4 H3.out.tok; have hs3 := H3.out.lt3; clear hk3 hp3 ho3))
    refine bodyPost_ret (v := .agg #[.int .i64 9, .string ⟨#[]⟩, .slice a3 rv.1.kids.length c3, .int .i64 (hdT s.1).line]) (by simp [results, Tryd.results48, go_sem, r0, r1, r2, r3, q0, q1, q2, q3]) rfl ?_
    rw [← HQ.out]
    exact (H3.out.set2 (.slice a3 rv.1.kids.length c3)).done rfl HK3.out ((H2.out.set0 (.int .i64 7)).set0 (.int .i64 9)).big (Only.set4 _ _ _ _ _ _)
  by_cases hn_9 : (hdT s.1).text = [112, 97, 115, 115]
  · have ht := hn_9
    have HQ := Lib.hid ((stmtB_pass (pRun n) s hk ht).symm.trans HR.out)
    have e0 : (tx.toList == [105, 102]) = false := by rw [HL.out, ht]; decide
    have e1 : (tx.toList == [108, 101, 116]) = false := by rw [HL.out, ht]; decide
    have e2 : (tx.toList == [112, 97, 116, 104]) = false := by rw [HL.out, ht]; decide
    have e3 : (tx.toList == [113, 117, 101, 114, 121]) = false := by rw [HL.out, ht]; decide
    have e4 : (tx.toList == [104, 101, 97, 100, 101, 114]) = false := by rw [HL.out, ht]; decide
    have e5 : (tx.toList == [118, 97, 114, 121]) = false := by rw [HL.out, ht]; decide
    have e6 : (tx.toList == [116, 97, 103]) = false := by rw [HL.out, ht]; decide
    have e7 : (tx.toList == [116, 116, 108]) = false := by rw [HL.out, ht]; decide
    have e8 : (tx.toList == [100, 101, 110, 121]) = false := by rw [HL.out, ht]; decide
    have e9 : (tx.toList == [112, 97, 115, 115]) = true := by rw [HL.out, ht]; decide
    have e10 : (tx.toList == [116, 111, 107, 101, 110]) = false := by rw [HL.out, ht]; decide
    clear ht hn_9 hk HR HL
    go_wp2_with (first | (go_at_call 68; (with_reducible refine (next_in _ pb s H0.out.pin).mono ?_); rintro e w2 ⟨rfl, hp2, ho2⟩; have H2 := Lib.hid (H0.out.call ho2 hp2); obtain ⟨r0, r1, r2, r3, q0, q1, q2, q3⟩ := box4 H2.out.res; obtain ⟨b0, b1, b2, b3, z0, z1, z2, z3⟩ := box4 H2.out.node; obtain ⟨t0, t1, t2, t3, _, _, _, _⟩ := box4 H2.out.tok; have hs2 := H2.out.lt3; clear hp2 ho2) | (go_at_call 72; (with_reducible refine (sign_in _ pb (nxt s.1, s.2) (H2.out.set0 (.int .i64 10)).pin ⟨#[59]⟩).mono ?_); rintro e w3 ⟨rfl, hp3, ho3⟩; have H3 := Lib.hid ((H2.out.set0 (.int .i64 10)).call (s' := signF [59] (nxt s.1, s.2)) ho3 hp3); obtain ⟨r0, r1, r2, r3, q0, q1, q2, q3⟩ := box4 H3.out.res; obtain ⟨b0, b1, b2, b3, z0, z1, z2, z3⟩ := box4 H3.out.node; obtain ⟨t0, t1, t2, t3, _, _, _, _⟩ := box4 H3.out.tok; have hs3 := H3.out.lt3; clear hp3 ho3))
    refine bodyPost_ret (v := .agg #[.int .i64 10, .string ⟨#[]⟩, .slice none 0 0, .int .i64 (hdT s.1).line]) (by simp [results, Tryd.results48, go_sem, r0, r1, r2, r3, q0, q1, q2, q3]) rfl ?_
    rw [← HQ.out]
    exact H3.out.done0 rfl (Only.set4 _ _ _ _ _ _)
  by_cases hn_10 : (hdT s.1).text = [116, 111, 107, 101, 110]
  · have ht := hn_10
    have HQ := Lib.hid ((stmtB_token (pRun n) s hk ht).symm.trans HR.out)
    have e0 : (tx.toList == [105, 102]) = false := by rw [HL.out, ht]; decide
    have e1 : (tx.toList == [108, 101, 116]) = false := by rw [HL.out, ht]; decide
    have e2 : (tx.toList == [112, 97, 116, 104]) = false := by rw [HL.out, ht]; decide
    have e3 : (tx.toList == [113, 117, 101, 114, 121]) = false := by rw [HL.out, ht]; decide
    have e4 : (tx.toList == [104, 101, 97, 100, 101, 114]) = false := by rw [HL.out, ht]; decide
    have e5 : (tx.toList == [118, 97, 114, 121]) = false := by rw [HL.out, ht]; decide
    have e6 : (tx.toList == [116, 97, 103]) = false := by rw [HL.out, ht]; decide
    have e7 : (tx.toList == [116, 116, 108]) = false := by rw [HL.out, ht]; decide
    have e8 : (tx.toList == [100, 101, 110, 121]) = false := by rw [HL.out, ht]; decide
    have e9 : (tx.toList == [112, 97, 115, 115]) = false := by rw [HL.out, ht]; decide
    have e10 : (tx.toList == [116, 111, 107, 101, 110]) = true := by rw [HL.out, ht]; decide
    clear ht hn_10 hk HR HL
    go_wp2_with (first | (go_at_call 68; (with_reducible refine (next_in _ pb s H0.out.pin).mono ?_); rintro e w2 ⟨rfl, hp2, ho2⟩; have H2 := Lib.hid (H0.out.call ho2 hp2); obtain ⟨r0, r1, r2, r3, q0, q1, q2, q3⟩ := box4 H2.out.res; obtain ⟨b0, b1, b2, b3, z0, z1, z2, z3⟩ := box4 H2.out.node; obtain ⟨t0, t1, t2, t3, _, _, _, _⟩ := box4 H2.out.tok; have hs2 := H2.out.lt3; clear hp2 ho2) | (go_at_call 72; (with_reducible refine (sign_in _ pb (nxt s.1, s.2) ((H2.out.set0 (.int .i64 10)).set0 (.int .i64 11)).pin ⟨#[59]⟩).mono ?_); rintro e w3 ⟨rfl, hp3, ho3⟩; have H3 := Lib.hid (((H2.out.set0 (.int .i64 10)).set0 (.int .i64 11)).call (s' := signF [59] (nxt s.1, s.2)) ho3 hp3); obtain ⟨r0, r1, r2, r3, q0, q1, q2, q3⟩ := box4 H3.out.res; obtain ⟨b0, b1, b2, b3, z0, z1, z2, z3⟩ := box4 H3.out.node; obtain ⟨t0, t1, t2, t3, _, _, _, _⟩ := box4 H3.out.tok; have hs3 := H3.out.lt3; clear hp3 ho3))
    refine bodyPost_ret (v := .agg #[.int .i64 11, .string ⟨#[]⟩, .slice none 0 0, .int .i64 (hdT s.1).line]) (by simp [results, Tryd.results48, go_sem, r0, r1, r2, r3, q0, q1, q2, q3]) rfl ?_
    rw [← HQ.out]
    exact H3.out.done0 rfl (Only.set4 _ _ _ _ _ _)
  have HQ := Lib.hid ((stmtB_other (pRun n) s hk hn_0 hn_1 hn_2 hn_3 hn_4 hn_5 hn_6 hn_7 hn_8 hn_9 hn_10).symm.trans HR.out)
  have e0 : (tx.toList == [105, 102]) = false := by rw [HL.out]; exact beq_eq_false_iff_ne.2 hn_0
  have e1 : (tx.toList == [108, 101, 116]) = false := by rw [HL.out]; exact beq_eq_false_iff_ne.2 hn_1
  have e2 : (tx.toList == [112, 97, 116, 104]) = false := by rw [HL.out]; exact beq_eq_false_iff_ne.2 hn_2
  have e3 : (tx.toList == [113, 117, 101, 114, 121]) = false := by rw [HL.out]; exact beq_eq_false_iff_ne.2 hn_3
  have e4 : (tx.toList == [104, 101, 97, 100, 101, 114]) = false := by rw [HL.out]; exact beq_eq_false_iff_ne.2 hn_4
  have e5 : (tx.toList == [118, 97, 114, 121]) = false := by rw [HL.out]; exact beq_eq_false_iff_ne.2 hn_5
  have e6 : (tx.toList == [116, 97, 103]) = false := by rw [HL.out]; exact beq_eq_false_iff_ne.2 hn_6
  have e7 : (tx.toList == [116, 116, 108]) = false := by rw [HL.out]; exact beq_eq_false_iff_ne.2 hn_7
  have e8 : (tx.toList == [100, 101, 110, 121]) = false := by rw [HL.out]; exact beq_eq_false_iff_ne.2 hn_8
  have e9 : (tx.toList == [112, 97, 115, 115]) = false := by rw [HL.out]; exact beq_eq_false_iff_ne.2 hn_9
  have e10 : (tx.toList == [116, 111, 107, 101, 110]) = false := by rw [HL.out]; exact beq_eq_false_iff_ne.2 hn_10
  clear hn_0 hn_1 hn_2 hn_3 hn_4 hn_5 hn_6 hn_7 hn_8 hn_9 hn_10 hk HR HL
  go_wp2_with (first | (go_at_call 36; (with_reducible refine (fail_in _ pb s H0.out.pin).mono ?_); rintro e w2 ⟨rfl, hp2, ho2⟩; have H2 := Lib.hid (H0.out.call ho2 hp2); obtain ⟨r0, r1, r2, r3, q0, q1, q2, q3⟩ := box4 H2.out.res; obtain ⟨b0, b1, b2, b3, z0, z1, z2, z3⟩ := box4 H2.out.node; obtain ⟨t0, t1, t2, t3, _, _, _, _⟩ := box4 H2.out.tok; have hs2 := H2.out.lt3; clear hp2 ho2))
  refine bodyPost_ret (v := .agg #[.int .i64 0, .string ⟨#[]⟩, .slice none 0 0, .int .i64 (hdT s.1).line]) (by simp [results, Tryd.results48, go_sem, r0, r1, r2, r3, q0, q1, q2, q3]) rfl ?_
  rw [← HQ.out]
  exact H2.out.done0 rfl (Only.set4 _ _ _ _ _ _)
end Go.Proofs.YtogkiifljdnjgaaDoor
