/- Which trees are statements and blocks, in plain Lean; the walks of stated and blocked. Conditions: bounds on size and texts. -/
import Derived.Test.YtogkiifljdnjgaaDoorValidE
namespace Go.Proofs.YtogkiifljdnjgaaDoor
open Go.RowKit
set_option linter.unusedVariables false
set_option linter.unusedSimpArgs false

/-- Statements without kids, with one, and the if. -/
def head0 (k : Int) (tx : List UInt8) : Bool := if k = 6 then tx.all okB else if k = 10 ∨ k = 11 then decide (tx = []) else false
def head1 (k : Int) (tx : List UInt8) : Bool := if k = 3 then namedP tx else if k = 4 then decide (tx = [112, 97, 116, 104]) || decide (tx = [113, 117, 101, 114, 121]) else if k = 5 then tx.all okB else if k = 7 ∨ k = 8 ∨ k = 9 then decide (tx = []) else false
def headI (k : Int) (tx : List UInt8) : Bool := decide (k = 2) && decide (tx = [])
mutual
def stOK : Tree → Bool
  | .node k tx [] _ => head0 k tx
  | .node k tx [e] _ => head1 k tx && exprOK e
  | .node k tx [e, b] _ => headI k tx && (exprOK e && blOK b)
  | .node k tx [e, b, x] _ => headI k tx && (exprOK e && (blOK b && (blOK x || (decide (x.kind = 2) && stOK x))))
  | .node _ _ (_ :: _ :: _ :: _ :: _) _ => false
def blOK : Tree → Bool
  | .node k tx ks _ => (decide (k = 12) && decide (tx = [])) && stsOK ks
def stsOK : List Tree → Bool
  | [] => true
  | t :: ts => stOK t && stsOK ts
end
theorem stOK_0 {k : Int} {tx : List UInt8} {l : Int} : stOK (.node k tx [] l) = head0 k tx := by rw [stOK]
theorem stOK_1 {k : Int} {tx : List UInt8} {e : Tree} {l : Int} : stOK (.node k tx [e] l) = (head1 k tx && exprOK e) := by rw [stOK]
theorem stOK_2 {k : Int} {tx : List UInt8} {e b : Tree} {l : Int} : stOK (.node k tx [e, b] l) = (headI k tx && (exprOK e && blOK b)) := by rw [stOK]
theorem stOK_3 {k : Int} {tx : List UInt8} {e b x : Tree} {l : Int} : stOK (.node k tx [e, b, x] l) = (headI k tx && (exprOK e && (blOK b && (blOK x || (decide (x.kind = 2) && stOK x))))) := by rw [stOK]
theorem stOK_4 {k : Int} {tx : List UInt8} {ks : List Tree} {l : Int} (h : 4 ≤ ks.length) : stOK (.node k tx ks l) = false := by
  rcases ks with _ | ⟨a, _ | ⟨b, _ | ⟨c, _ | ⟨d, r⟩⟩⟩⟩ <;> first | (simp at h; done) | rw [stOK]
theorem stOK_not2 {k : Int} {tx : List UInt8} {ks : List Tree} {l : Int} (h : k ≠ 2) : stOK (.node k tx ks l) = match ks with | [] => head0 k tx | [e] => head1 k tx && exprOK e | _ => false := by
  rcases ks with _ | ⟨a, _ | ⟨b, _ | ⟨c, _ | ⟨d, r⟩⟩⟩⟩
  · rw [stOK_0]
  · rw [stOK_1]
  · rw [stOK_2]; simp [headI, h]
  · rw [stOK_3]; simp [headI, h]
  · rw [stOK_4 (by simp)]
theorem blOK_node {k : Int} {tx : List UInt8} {ks : List Tree} {l : Int} : blOK (.node k tx ks l) = ((decide (k = 12) && decide (tx = [])) && stsOK ks) := by rw [blOK]
theorem stsOK_nil : stsOK [] = true := by rw [stsOK]
theorem stsOK_cons {t : Tree} {ts : List Tree} : stsOK (t :: ts) = (stOK t && stsOK ts) := by rw [stsOK]
theorem stsOK_append : ∀ (xs ys : List Tree), stsOK (xs ++ ys) = (stsOK xs && stsOK ys)
  | [], ys => by rw [stsOK_nil]; simp
  | x :: xs, ys => by rw [List.cons_append, stsOK_cons, stsOK_cons, stsOK_append xs ys, Bool.and_assoc]
theorem stsOK_take {ks : List Tree} {q : Nat} {t : Tree} (h : ks[q]? = some t) : stsOK (ks.take (q + 1)) = (stsOK (ks.take q) && stOK t) := by
  rw [take_next h, stsOK_append, stsOK_cons, stsOK_nil, Bool.and_true]
theorem stsOK_bad : ∀ {ks : List Tree} {q : Nat} {t : Tree}, ks[q]? = some t → stOK t = false → stsOK ks = false
  | [], q, t, h, _ => by simp at h
  | x :: ks, 0, t, h, hb => by
    simp at h
    rw [stsOK_cons, h, hb, Bool.false_and]
  | x :: ks, q + 1, t, h, hb => by
    rw [stsOK_cons, stsOK_bad (q := q) (by simpa using h) hb, Bool.and_false]
theorem isT_kindOf {w : World} {F : Nat → Prop} {t : Tree} {k0 l0 : Int} {x0 : List UInt8} {v : Value} (h : IsT w F t (.agg #[.int .i64 k0, .string ⟨x0.toArray⟩, v, .int .i64 l0])) : k0 = t.kind := by
  obtain ⟨k, tx, ks, l⟩ := t
  obtain ⟨kv, he, _⟩ := isT_node.1 h
  simp only [Value.agg.injEq, Array.mk.injEq, List.cons.injEq, Value.int.injEq, and_true, true_and] at he
  exact he.1

set_option maxRecDepth 20000 in
set_option maxHeartbeats 1000000 in
theorem blocked_ok (n : Nat) (HC : OkC 28 stOK n) : OkC 43 blOK (n + 1) := by
  have HCall := Lib.hid HC
  clear HC
  intro t F w v ht hw hd hs hsh
  obtain ⟨k, tx, ks, l⟩ := t
  obtain ⟨kv, rfl, hks⟩ := isT_node.1 ht
  rw [depthT_node] at hd
  rw [sizeT_node] at hs
  rw [shortT_node] at hsh
  obtain ⟨htx, hshl⟩ := hsh
  obtain ⟨R, hR⟩ : ∃ R, blOK (.node k tx ks l) = R := ⟨_, rfl⟩
  rw [hR]
  rw [blOK_node] at hR
  have HR := Lib.hid hR
  have HW := Lib.hid hw
  have HK := Lib.hid hks
  have HD := Lib.hid hd
  have HTX := Lib.hid htx
  have HSH := Lib.hid hshl
  have HSZ := Lib.hid hs
  obtain ⟨a, c, rfl⟩ : ∃ a c, kv = .slice a ks.length c := by
    obtain ⟨a, c, hv, _⟩ := hks
    exact ⟨a, c, hv⟩
  have hl : ks.length ≤ 1000000000 := by have := len_le_size ks; omega
  have hl0 : (0 : Int) ≤ (ks.length : Int) := by omega
  have HB0 := Lib.hid (bel_new w (.cells #[.int .i64 k, .string ⟨tx.toArray⟩, .slice a ks.length c, .int .i64 l] 32))
  have HX0 := Lib.hid (heap_alloc_new w (.cells #[.int .i64 k, .string ⟨tx.toArray⟩, .slice a ks.length c, .int .i64 l] 32))
  clear ht hd hs hks hR hw htx hshl
  obtain ⟨r0, r1, r2, r3, q0, q1, q2, q3⟩ := box4 HX0.out
  by_cases hk : k = 12
  rotate_left
  · have hkb : (k != 12) = true := bne_iff_ne.2 hk
    have HQ := Lib.hid (show false = R by rw [← HR.out]; simp [hk])
    go_enter Tryd.func43, Tryd.ntmps43
    go_wp2_with fail
    go_ret
    exact ⟨by rw [← HQ.out]; rfl, HB0.out⟩
  subst hk
  rcases tx with _ | ⟨y, r⟩
  rotate_left
  · have HQ := Lib.hid (show false = R by rw [← HR.out]; simp)
    go_enter Tryd.func43, Tryd.ntmps43
    go_wp2_with fail
    go_ret
    exact ⟨by rw [← HQ.out]; rfl, HB0.out⟩
  have HRA := Lib.hid (show stsOK ks = R by rw [← HR.out]; simp)
  go_enter Tryd.func43, Tryd.ntmps43
  go_wp2_with fail
  have HBS := HB0
  have HXS := HX0
  go_loopw [16] (fun i wr => ∃ q : Nat, i = .int .i64 q ∧ q ≤ ks.length ∧ stsOK (ks.take q) = true ∧ Below w.heap.size w wr ∧ wr.heap[w.heap.size]? = some (.cells #[.int .i64 12, .string ⟨#[]⟩, .slice a ks.length c, .int .i64 l] 32 (0, 0))) (fun i _ => ks.length - (intOf i).toNat)
  case atStart => exact ⟨0, rfl, Nat.zero_le _, by simp [stsOK_nil], HBS.out, HXS.out⟩
  case round =>
    obtain ⟨q, rfl, hq, hall, hb, hx⟩ := hrel
    have HB := Lib.hid hb
    have HX := Lib.hid hx
    have HALL := Lib.hid hall
    clear hb hx hall
    by_cases hlt : q < ks.length
    · obtain ⟨t', ht'⟩ : ∃ t', ks[q]? = some t' := ⟨_, List.getElem?_eq_getElem hlt⟩
      obtain ⟨b, off, cap, k0, x0, a0, m0, n0, l0, hv, c0, c1, c2, c3, hT⟩ := IsKids.at (HK.out.step HB.out) ht'
      simp only [Value.slice.injEq] at hv
      obtain ⟨rfl, _, rfl⟩ := hv
      obtain ⟨d0, d1, d2, d3, y0, y1, y2, y3⟩ := box4 HX.out
      have HT := Lib.hid hT
      have HZ := Lib.hid (stsOK_take ht')
      have HZN := Lib.hid (fun h => stsOK_bad ht' h)
      have h3 := depthT_at ht'
      have h4 := sizeT_at ht'
      have h5 := shortT_at HSH.out ht'
      have HCC := Lib.hid (fun W (hW : IsT W F t' (.agg #[.int .i64 k0, .string ⟨x0.toArray⟩, .slice a0 m0 n0, .int .i64 l0])) (hK : KW W) => HCall.out t' F W _ hW hK (by have := HD.out; omega) (by have := HSZ.out; omega) h5)
      have hlti : (q : Int) < (ks.length : Int) := by omega
      clear h3 h4 h5 hT ht'
      cases hone : stOK t' with
      | false =>
        have HQ := Lib.hid (HZN.out hone)
        have HC2 := Lib.hid (fun W hW hK => show Calls Tryd.prog 28 _ W fun e w' => e = .returned (.bool false) ∧ Below W.heap.size W w' by rw [← hone]; exact HCC.out W hW hK)
        clear hone
        go_wp2_with (first | (go_at_call 28; (with_reducible refine (HC2.out _ (HT.out.step (bel_new _ _)) ((HW.out.step HB.out).step (bel_new _ _))).mono ?_); rintro e w1 ⟨rfl, hb1⟩; have HB1 := Lib.hid hb1; clear hb1))
        go_ret
        exact ⟨by rw [← HRA.out, HQ.out] <;> rfl, (HB.out.trans ((bel_new wr _).mono HB.out.size)).trans (HB1.out.mono (by have := HB.out.size; simp; omega))⟩
      | true =>
        have HZ2 := Lib.hid (HZ.out.trans (by rw [HALL.out, hone] <;> rfl))
        have HC2 := Lib.hid (fun W hW hK => show Calls Tryd.prog 28 _ W fun e w' => e = .returned (.bool true) ∧ Below W.heap.size W w' by rw [← hone]; exact HCC.out W hW hK)
        clear hone
        go_wp2_with (first | (go_at_call 28; (with_reducible refine (HC2.out _ (HT.out.step (bel_new _ _)) ((HW.out.step HB.out).step (bel_new _ _))).mono ?_); rintro e w1 ⟨rfl, hb1⟩; have HB1 := Lib.hid hb1; clear hb1))
        go_roundw
        case rel => exact ⟨q + 1, by go_num, by omega, HZ2.out, (HB.out.trans ((bel_new wr _).mono HB.out.size)).trans (HB1.out.mono (by have := HB.out.size; simp; omega)), keep_blk HB1.out (new_blk HX.out)⟩
        case measure => simp [intOf]; omega
    · have hq2 : q = ks.length := by omega
      subst hq2
      have HQ := Lib.hid (by have := HALL.out; rwa [List.take_length] at this : stsOK ks = true)
      go_wp2_with fail
      go_ret
      exact ⟨by rw [← HRA.out, HQ.out] <;> rfl, HB.out⟩
end Go.Proofs.YtogkiifljdnjgaaDoor
