/- The set's Gaps, where there are none. No condition but that it has fewer than a million entries. -/
import Derived.Test.YthhooocckfljaaaTotal
namespace Go.Proofs.Ythhooocckfljaaa
open Go.RowKit Go.Maps Go.Shelf
set_option linter.unusedVariables false
set_option linter.unusedSimpArgs false

/-- The entry before the k-th, or nothing. -/
def prevE (es : List Ent) (k : Nat) : Ent := if k = 0 then ⟨[], 0, 0, 0, 0, 0, 0⟩ else es.getD (k - 1) ⟨[], 0, 0, 0, 0, 0, 0⟩
/-- No gap: each first entry of a node's boot is numbered 1 (or less), each later one at most one more than the one before. -/
def NoGap (es : List Ent) : Prop := ∀ k e, es[k]? = some e → if k ≠ 0 ∧ e.node = (prevE es k).node ∧ e.boot = (prevE es k).boot then e.seq ≤ (prevE es k).seq + 1 else e.seq ≤ 1
theorem prevE_more {es : List Ent} {k : Nat} {e : Ent} (h : es[k]? = some e) : prevE es (k + 1) = e := by
  unfold prevE
  simp [h]

def Last (w : World) (g : Nat) (nd : List UInt8) (bt sq : Int) : Prop := w.heap[g]? = some (.cells #[.string ⟨nd.toArray⟩, .int .i64 bt, .int .i64 sq] 97 (0, 0))
theorem Last.at_ {w : World} {g : Nat} {nd : List UInt8} {bt sq : Int} (h : Last w g nd bt sq) : (w.cell? ⟨g, 0, none⟩ = some (.string ⟨nd.toArray⟩) ∧ w.cell? ⟨g, 1, none⟩ = some (.int .i64 bt) ∧ w.cell? ⟨g, 2, none⟩ = some (.int .i64 sq)) ∧ w.frozen? ⟨g, 0, none⟩ = false ∧ w.frozen? ⟨g, 1, none⟩ = false ∧ w.frozen? ⟨g, 2, none⟩ = false := by
  unfold Last at h
  simp [World.cell?, World.frozen?, h]
theorem Last.lt {w : World} {g : Nat} {nd : List UInt8} {bt sq : Int} (h : Last w g nd bt sq) : g < w.heap.size := (Array.getElem?_eq_some_iff.1 h).1
theorem Last.step {w w' : World} {g : Nat} {nd : List UInt8} {bt sq : Int} (h : Last w g nd bt sq) (hb : Below w.heap.size w w') : Last w' g nd bt sq := (hb.block g h.lt).trans h
theorem Last.set0 {w : World} {g : Nat} {nd : List UInt8} {bt sq : Int} (h : Last w g nd bt sq) (x : List UInt8) : Last (w.setCell ⟨g, 0, none⟩ (.string ⟨x.toArray⟩)) g x bt sq := Joins.block_setCell (i := 0) h _
theorem Last.set1 {w : World} {g : Nat} {nd : List UInt8} {bt sq : Int} (h : Last w g nd bt sq) (x : Int) : Last (w.setCell ⟨g, 1, none⟩ (.int .i64 x)) g nd x sq := Joins.block_setCell (i := 1) h _
theorem Last.set2 {w : World} {g : Nat} {nd : List UInt8} {bt sq : Int} (h : Last w g nd bt sq) (x : Int) : Last (w.setCell ⟨g, 2, none⟩ (.int .i64 x)) g nd bt x := Joins.block_setCell (i := 2) h _

set_option maxRecDepth 100000 in
set_option maxHeartbeats 4000000 in
theorem gaps_run (p b : Nat) (S : List Ent) (w : World) (h : IsSet w p b S) (hl : S.length ≤ 1000000) (hG : ∀ es, AllOf S es → Ordered es → NoGap es) :
    Calls Try.prog 15 #[.pointer (some ⟨p, 0, none⟩)] w fun e w' => e = .returned (.slice none 0 0) ∧ Below w.heap.size w w' := by
  have hn0 := bel_new w (.cells #[.string ⟨#[]⟩, .int .i64 0, .int .i64 0] 97)
  have hpl : p < w.heap.size := block_lt_of_cell h.1
  have hbl := h.2.lt
  have hL0 : Last (w.alloc (.cells #[.string ⟨#[]⟩, .int .i64 0, .int .i64 0] 97)) w.heap.size [] 0 0 := heap_alloc_new w _
  have HL0 := Lib.hid hL0
  have HL := Lib.hid (list_run p b S (w.alloc (.cells #[.string ⟨#[]⟩, .int .i64 0, .int .i64 0] 97)) (h.step hn0 hpl hbl) hl)
  have HC := Lib.hid h.2.code
  have HN0 := Lib.hid hn0
  have HG := Lib.hid hG
  have hz0 : w.heap.size < (w.alloc (.cells #[.string ⟨#[]⟩, .int .i64 0, .int .i64 0] 97)).heap.size := by simp
  clear h hn0 hL0 hG
  go_enter Try.func15, Try.ntmps15
  go_upto_region 3 with fail
  generalize w.alloc (.cells #[.string ⟨#[]⟩, .int .i64 0, .int .i64 0] 97) = W0 at *
  go_upto_region 4 with (go_at_call 28; refine (HL.out).mono ?_; rintro e w1 ⟨v, es, rfl, hA, ho, hrow, hb⟩; obtain ⟨a, c, rfl⟩ := hrow.shape)
  have HR := Lib.hid hrow
  have HB := Lib.hid hb
  have hln : es.length ≤ 1000000 := Nat.le_trans (allOf_len hA) hl
  have hcode : ∀ e ∈ es, codeE e = 0 := fun e he => HC.out e ((hA.2 e).1 he)
  have HCO := Lib.hid hcode
  have HNG := Lib.hid (HG.out es hA ho)
  have HL1 := Lib.hid (HL0.out.step hb)
  have hli : (es.length : Int) ≤ 1000000 := by omega
  have hz1 : w.heap.size < w1.heap.size := Nat.lt_of_lt_of_le hz0 hb.size
  clear hrow hA hb hcode ho HL HG HL0
  go_loopw [3, 11] (fun o i wr => ∃ k : Nat, i = .int .i64 k ∧ o = .slice none 0 0 ∧ k ≤ es.length ∧ Last wr w.heap.size (prevE es k).node (prevE es k).boot (prevE es k).seq ∧ Only w.heap.size w1 wr) (fun _ i _ => es.length - (intOf i).toNat)
  case atStart => exact ⟨0, rfl, rfl, Nat.zero_le _, HL1.out, World.grownBy.refl _ _⟩
  case round =>
    obtain ⟨k, rfl, rfl, hk, hla, hon⟩ := hrel
    have HON := Lib.hid hon
    have HLA := Lib.hid hla
    clear hon hla
    by_cases hlt : k < es.length
    · have hrw := HR.out.only HON.out hz0
      obtain ⟨g, o, cap, e, hv, hek, hat⟩ := hrw.isE.elem hlt
      simp only [Value.slice.injEq] at hv
      obtain ⟨rfl, _, rfl⟩ := hv
      have hce := code_ints (HCO.out e (List.mem_of_getElem? hek))
      have hng := HNG.out k e hek
      have hpm := prevE_more hek
      have HPM := Lib.hid hpm
      obtain ⟨x0, x1, x2, x3, x4, x5, x6⟩ := hat
      have hq0 : (0 : Int) ≤ (k : Int) := by omega
      have hq1 : (k : Int) < (es.length : Int) := by omega
      have hzr : w1.heap.size ≤ wr.heap.size := HON.out.size
      have hqs : 0 ≤ (prevE es k).seq ∧ (prevE es k).seq ≤ 9223372036854775806 := by
        unfold prevE
        by_cases h0 : k = 0
        · rw [if_pos h0]; simp
        · rw [if_neg h0, List.getD_eq_getElem?_getD, List.getElem?_eq_getElem (show k - 1 < es.length by omega)]
          have := (codeE_ok (HCO.out es[k - 1] (List.getElem_mem _))).2
          unfold rangeE inR at this
          simp only [Option.getD_some]
          omega
      clear hpm hrw
      generalize prevE es k = q at *
      have HNQ := Lib.hid hng
      clear hng
      go_upto_region 6 with fail
      have hbx := EntAt.box wr e
      have hnw := bel_new wr (.cells #[.string ⟨e.node.toArray⟩, .int .i64 e.boot, .int .i64 e.seq, .int .i64 e.ten, .int .i64 e.hits, .int .i64 e.bytes, .int .i64 e.att] 46)
      have HL2 := Lib.hid (HLA.out.step hnw)
      have HO2 := Lib.hid (show Only w.heap.size w1 (wr.alloc (.cells #[.string ⟨e.node.toArray⟩, .int .i64 e.boot, .int .i64 e.seq, .int .i64 e.ten, .int .i64 e.hits, .int .i64 e.bytes, .int .i64 e.att] 46)) from HON.out.bel2 hnw HON.out.size)
      obtain ⟨c0, c1, c2, c3, c4, c5, c6⟩ := hbx
      simp only [Nat.zero_add] at c0 c1 c2 c3 c4 c5 c6
      clear x0 x1 x2 x3 x4 x5 x6 hnw c3 c4 c5 c6 HLA HON
      generalize wr.alloc (.cells #[.string ⟨e.node.toArray⟩, .int .i64 e.boot, .int .i64 e.seq, .int .i64 e.ten, .int .i64 e.hits, .int .i64 e.bytes, .int .i64 e.att] 46) = W1 at *
      obtain ⟨⟨l0, l1, l2⟩, f0, f1, f2⟩ := HL2.out.at_
      have hne : wr.heap.size ≠ w.heap.size := by omega
      by_cases hsame : k ≠ 0 ∧ e.node = q.node ∧ e.boot = q.boot
      · have hsq := HNQ.out
        rw [if_pos hsame] at hsq
        obtain ⟨h1, h2, h3⟩ := hsame
        have hk0 : ¬ (k : Int) = 0 := by omega
        have HL4 := Lib.hid (show Last W1 w.heap.size e.node e.boot q.seq from by rw [h2, h3]; exact HL2.out)
        rw [← h2] at l0
        rw [← h3] at l1
        clear HNQ HL2 h2 h3
        go_wp2_with fail
        go_roundw
        case rel => exact ⟨k + 1, by go_num, rfl, by omega, by rw [HPM.out]; exact HL4.out.set2 e.seq, HO2.out.trans Only.set⟩
        case measure => simp [intOf]; omega
      · have hsq := HNQ.out
        rw [if_neg hsame] at hsq
        have h3 : k = 0 ∨ (k ≠ 0 ∧ (e.node ≠ q.node ∨ (e.node = q.node ∧ e.boot ≠ q.boot))) := by
          by_cases h0 : k = 0
          · exact .inl h0
          · by_cases h1 : e.node = q.node
            · exact .inr ⟨h0, .inr ⟨h1, fun h2 => hsame ⟨h0, h1, h2⟩⟩⟩
            · exact .inr ⟨h0, .inl h1⟩
        clear hsame HNQ
        rcases h3 with rfl | ⟨h0, h1 | ⟨h1, h2⟩⟩
        · go_upto_region 8 with fail
          have HL3 := Lib.hid (((HL2.out.set0 e.node).set1 e.boot).set2 0)
          have HO3 := Lib.hid (((HO2.out.trans (Only.set (k := 0) (u := .string ⟨e.node.toArray⟩))).trans (Only.set (k := 1) (u := .int .i64 e.boot))).trans (Only.set (k := 2) (u := .int .i64 0)))
          have c2' := keep_set (k := 2) (u := .int .i64 0) hne (keep_set (k := 1) (u := .int .i64 e.boot) hne (keep_set (k := 0) (u := .string ⟨e.node.toArray⟩) hne c2))
          clear c0 c1 c2 l0 l1 l2 f0 f1 f2 HL2 HO2
          generalize ((W1.setCell ⟨w.heap.size, 0, none⟩ (.string ⟨e.node.toArray⟩)).setCell ⟨w.heap.size, 1, none⟩ (.int .i64 e.boot)).setCell ⟨w.heap.size, 2, none⟩ (.int .i64 0) = W2 at *
          obtain ⟨⟨l0, l1, l2⟩, f0, f1, f2⟩ := HL3.out.at_
          go_wp2_with fail
          go_roundw
          case rel => exact ⟨0 + 1, by go_num, rfl, by omega, by rw [HPM.out]; exact HL3.out.set2 e.seq, HO3.out.trans Only.set⟩
          case measure => simp [intOf]; omega
        · have hk0 : ¬ (k : Int) = 0 := by omega
          have hnn := node_ne h1
          go_upto_region 8 with fail
          have HL3 := Lib.hid (((HL2.out.set0 e.node).set1 e.boot).set2 0)
          have HO3 := Lib.hid (((HO2.out.trans (Only.set (k := 0) (u := .string ⟨e.node.toArray⟩))).trans (Only.set (k := 1) (u := .int .i64 e.boot))).trans (Only.set (k := 2) (u := .int .i64 0)))
          have c2' := keep_set (k := 2) (u := .int .i64 0) hne (keep_set (k := 1) (u := .int .i64 e.boot) hne (keep_set (k := 0) (u := .string ⟨e.node.toArray⟩) hne c2))
          clear c0 c1 c2 l0 l1 l2 f0 f1 f2 HL2 HO2
          generalize ((W1.setCell ⟨w.heap.size, 0, none⟩ (.string ⟨e.node.toArray⟩)).setCell ⟨w.heap.size, 1, none⟩ (.int .i64 e.boot)).setCell ⟨w.heap.size, 2, none⟩ (.int .i64 0) = W2 at *
          obtain ⟨⟨l0, l1, l2⟩, f0, f1, f2⟩ := HL3.out.at_
          go_wp2_with fail
          go_roundw
          case rel => exact ⟨k + 1, by go_num, rfl, by omega, by rw [HPM.out]; exact HL3.out.set2 e.seq, HO3.out.trans Only.set⟩
          case measure => simp [intOf]; omega
        · have hk0 : ¬ (k : Int) = 0 := by omega
          rw [← h1] at l0
          clear h1
          go_upto_region 8 with fail
          have HL3 := Lib.hid (((HL2.out.set0 e.node).set1 e.boot).set2 0)
          have HO3 := Lib.hid (((HO2.out.trans (Only.set (k := 0) (u := .string ⟨e.node.toArray⟩))).trans (Only.set (k := 1) (u := .int .i64 e.boot))).trans (Only.set (k := 2) (u := .int .i64 0)))
          have c2' := keep_set (k := 2) (u := .int .i64 0) hne (keep_set (k := 1) (u := .int .i64 e.boot) hne (keep_set (k := 0) (u := .string ⟨e.node.toArray⟩) hne c2))
          clear c0 c1 c2 l0 l1 l2 f0 f1 f2 HL2 HO2
          generalize ((W1.setCell ⟨w.heap.size, 0, none⟩ (.string ⟨e.node.toArray⟩)).setCell ⟨w.heap.size, 1, none⟩ (.int .i64 e.boot)).setCell ⟨w.heap.size, 2, none⟩ (.int .i64 0) = W2 at *
          obtain ⟨⟨l0, l1, l2⟩, f0, f1, f2⟩ := HL3.out.at_
          go_wp2_with fail
          go_roundw
          case rel => exact ⟨k + 1, by go_num, rfl, by omega, by rw [HPM.out]; exact HL3.out.set2 e.seq, HO3.out.trans Only.set⟩
          case measure => simp [intOf]; omega
          rename_i hxx hyy
          simp at hxx
          exact absurd hxx.2 h2
    · obtain rfl : k = es.length := by omega
      have hfin : Below w.heap.size w wr := (HN0.out.trans (HB.out.mono (Nat.le_of_lt hz0))).trans (HON.out.below (Nat.le_refl _) (Nat.le_of_lt hz1))
      go_wp2_with fail
      go_ret
      exact ⟨rfl, hfin⟩
end Go.Proofs.Ythhooocckfljaaa
