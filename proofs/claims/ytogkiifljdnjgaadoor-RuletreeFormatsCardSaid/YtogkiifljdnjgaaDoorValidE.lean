/- Which trees are expressions, in plain Lean; the walk of expression. Conditions: bounds on size and texts. -/
import Derived.Test.YtogkiifljdnjgaaDoorOperands
import Derived.Test.YtogkiifljdnjgaaDoorPair
namespace Go.Proofs.YtogkiifljdnjgaaDoor
open Go.RowKit
set_option linter.unusedVariables false
set_option linter.unusedSimpArgs false

mutual
/-- No text is too long. -/
def shortT : Tree → Prop
  | .node _ tx ks _ => tx.length ≤ 100000 ∧ shortL ks
def shortL : List Tree → Prop
  | [] => True
  | t :: ts => shortT t ∧ shortL ts
end
theorem shortT_node {k : Int} {tx : List UInt8} {ks : List Tree} {l : Int} : shortT (.node k tx ks l) = (tx.length ≤ 100000 ∧ shortL ks) := by rw [shortT]
theorem shortL_cons {t : Tree} {ts : List Tree} : shortL (t :: ts) = (shortT t ∧ shortL ts) := by rw [shortL]
theorem shortT_at : ∀ {ks : List Tree} {q : Nat} {t : Tree}, shortL ks → ks[q]? = some t → shortT t
  | [], q, t, _, h => by simp at h
  | x :: ks, 0, t, h, hq => by
    rw [shortL_cons] at h
    simp at hq
    rw [← hq]
    exact h.1
  | x :: ks, q + 1, t, h, hq => by
    rw [shortL_cons] at h
    exact shortT_at h.2 (by simpa using hq)
/-- Whether a kind's number of kids fits. -/
def arOK (m : Int) (n : Nat) : Bool := decide (m ≠ -2) && (decide (m < 0) || decide ((n : Int) = m))
mutual
def exprOK : Tree → Bool
  | .node k tx ks _ => arOK (operandsP k tx) ks.length && exprsOK ks
def exprsOK : List Tree → Bool
  | [] => true
  | t :: ts => exprOK t && exprsOK ts
end
theorem exprOK_node {k : Int} {tx : List UInt8} {ks : List Tree} {l : Int} : exprOK (.node k tx ks l) = (arOK (operandsP k tx) ks.length && exprsOK ks) := by rw [exprOK]
theorem exprsOK_nil : exprsOK [] = true := by rw [exprsOK]
theorem exprsOK_cons {t : Tree} {ts : List Tree} : exprsOK (t :: ts) = (exprOK t && exprsOK ts) := by rw [exprsOK]
theorem exprsOK_append : ∀ (xs ys : List Tree), exprsOK (xs ++ ys) = (exprsOK xs && exprsOK ys)
  | [], ys => by rw [exprsOK_nil]; simp
  | x :: xs, ys => by rw [List.cons_append, exprsOK_cons, exprsOK_cons, exprsOK_append xs ys, Bool.and_assoc]
theorem exprsOK_take {ks : List Tree} {q : Nat} {t : Tree} (h : ks[q]? = some t) : exprsOK (ks.take (q + 1)) = (exprsOK (ks.take q) && exprOK t) := by
  rw [take_next h, exprsOK_append, exprsOK_cons, exprsOK_nil, Bool.and_true]
theorem exprsOK_bad : ∀ {ks : List Tree} {q : Nat} {t : Tree}, ks[q]? = some t → exprOK t = false → exprsOK ks = false
  | [], q, t, h, _ => by simp at h
  | x :: ks, 0, t, h, hb => by
    simp at h
    rw [exprsOK_cons, h, hb, Bool.false_and]
  | x :: ks, q + 1, t, h, hb => by
    rw [exprsOK_cons, exprsOK_bad (q := q) (by simpa using h) hb, Bool.and_false]

def OkC (fid : FuncId) (f : Tree → Bool) (n : Nat) : Prop := ∀ (t : Tree) (F : Nat → Prop) (w : World) (v : Value), IsT w F t v → KW w → depthT t ≤ n → sizeT t ≤ 1000000000 → shortT t →
  Calls Tryd.prog fid #[v] w fun e w' => e = .returned (.bool (f t)) ∧ Below w.heap.size w w'
set_option maxRecDepth 20000 in
set_option maxHeartbeats 1000000 in
theorem expr_ok (n : Nat) (HC : OkC 42 exprOK n) : OkC 42 exprOK (n + 1) := by
  have HCall := Lib.hid HC
  clear HC
  intro t F w v ht hw hd hs hsh
  obtain ⟨k, tx, ks, l⟩ := t
  obtain ⟨kv, rfl, hks⟩ := isT_node.1 ht
  rw [depthT_node] at hd
  rw [sizeT_node] at hs
  rw [shortT_node] at hsh
  obtain ⟨htx, hshl⟩ := hsh
  obtain ⟨R, hR⟩ : ∃ R, exprOK (.node k tx ks l) = R := ⟨_, rfl⟩
  rw [hR]
  rw [exprOK_node] at hR
  have HR := Lib.hid hR
  have HW := Lib.hid hw
  have HK := Lib.hid hks
  have HD := Lib.hid hd
  have HTX := Lib.hid htx
  have HSH := Lib.hid hshl
  have HSZ := Lib.hid hs
  obtain ⟨a, c, rfl⟩ : ∃ a c, kv = .slice a ks.length c := by
    obtain ⟨a, c, hv, _⟩ := hks
    exact ⟨a, c, hv⟩
  have hl : ks.length ≤ 1000000000 := by have := len_le_size ks; omega
  have hl0 : (0 : Int) ≤ (ks.length : Int) := by omega
  have HB0 := Lib.hid (bel_new w (.cells #[.int .i64 k, .string ⟨tx.toArray⟩, .slice a ks.length c, .int .i64 l] 32))
  have HX0 := Lib.hid (heap_alloc_new w (.cells #[.int .i64 k, .string ⟨tx.toArray⟩, .slice a ks.length c, .int .i64 l] 32))
  clear ht hd hs hks hR hw htx hshl
  have HOP := Lib.hid (fun W hW => operands_any k tx a ks.length c l W hW HTX.out)
  generalize operandsP k tx = m at *
  obtain ⟨r0, r1, r2, r3, q0, q1, q2, q3⟩ := box4 HX0.out
  by_cases hm2 : m = -2
  · subst hm2
    have HQ := Lib.hid (show false = R by rw [← HR.out]; simp [arOK])
    go_enter Tryd.func42, Tryd.ntmps42
    go_wp2_with (first | (go_at_call 61; (with_reducible refine (HOP.out _ (HW.out.step HB0.out)).mono ?_); rintro e w1 ⟨rfl, hb1⟩; have HB1 := Lib.hid (HB0.out.trans (hb1.mono HB0.out.size)); have HX1 := Lib.hid (keep_blk hb1 HX0.out); obtain ⟨s0, s1, s2, s3, z0, z1, z2, z3⟩ := box4 HX1.out; clear hb1))
    go_ret
    exact ⟨by rw [← HQ.out]; rfl, HB1.out⟩
  have hm2b : (m == -2) = false := beq_eq_false_iff_ne.2 hm2
  by_cases hm0 : 0 ≤ m
  · by_cases hmn : (ks.length : Int) = m
    rotate_left
    · have HQ := Lib.hid (show false = R by rw [← HR.out]; simp [arOK, hmn, show ¬ m < 0 by omega])
      have hmnb : ((ks.length : Int) != m) = true := bne_iff_ne.2 hmn
      go_enter Tryd.func42, Tryd.ntmps42
      go_wp2_with (first | (go_at_call 61; (with_reducible refine (HOP.out _ (HW.out.step HB0.out)).mono ?_); rintro e w1 ⟨rfl, hb1⟩; have HB1 := Lib.hid (HB0.out.trans (hb1.mono HB0.out.size)); have HX1 := Lib.hid (keep_blk hb1 HX0.out); obtain ⟨s0, s1, s2, s3, z0, z1, z2, z3⟩ := box4 HX1.out; clear hb1))
      go_ret
      exact ⟨by rw [← HQ.out]; rfl, HB1.out⟩
    · have hmnb : ((ks.length : Int) != m) = false := by simp [hmn]
      have HRA := Lib.hid (show exprsOK ks = R by rw [← HR.out]; simp [arOK, hmn, hm2])
      go_enter Tryd.func42, Tryd.ntmps42
      go_wp2_with (first | (go_at_call 61; (with_reducible refine (HOP.out _ (HW.out.step HB0.out)).mono ?_); rintro e w1 ⟨rfl, hb1⟩; have HB1 := Lib.hid (HB0.out.trans (hb1.mono HB0.out.size)); have HX1 := Lib.hid (keep_blk hb1 HX0.out); obtain ⟨s0, s1, s2, s3, z0, z1, z2, z3⟩ := box4 HX1.out; clear hb1))
      have HBS := HB1
      have HXS := HX1
      go_loopw [24] (fun i wr => ∃ q : Nat, i = .int .i64 q ∧ q ≤ ks.length ∧ exprsOK (ks.take q) = true ∧ Below w.heap.size w wr ∧ wr.heap[w.heap.size]? = some (.cells #[.int .i64 k, .string ⟨tx.toArray⟩, .slice a ks.length c, .int .i64 l] 32 (0, 0))) (fun i _ => ks.length - (intOf i).toNat)
      case atStart => exact ⟨0, rfl, Nat.zero_le _, by simp [exprsOK_nil], HBS.out, HXS.out⟩
      case round =>
        obtain ⟨q, rfl, hq, hall, hb, hx⟩ := hrel
        have HB := Lib.hid hb
        have HX := Lib.hid hx
        have HALL := Lib.hid hall
        clear hb hx hall
        by_cases hlt : q < ks.length
        · obtain ⟨t', ht'⟩ : ∃ t', ks[q]? = some t' := ⟨_, List.getElem?_eq_getElem hlt⟩
          obtain ⟨b, off, cap, k0, x0, a0, m0, n0, l0, hv, c0, c1, c2, c3, hT⟩ := IsKids.at (HK.out.step HB.out) ht'
          simp only [Value.slice.injEq] at hv
          obtain ⟨rfl, _, rfl⟩ := hv
          obtain ⟨d0, d1, d2, d3, y0, y1, y2, y3⟩ := box4 HX.out
          have HT := Lib.hid hT
          have HZ := Lib.hid (exprsOK_take ht')
          have HZN := Lib.hid (fun h => exprsOK_bad ht' h)
          have h3 := depthT_at ht'
          have h4 := sizeT_at ht'
          have h5 := shortT_at HSH.out ht'
          have HCC := Lib.hid (fun W (hW : IsT W F t' (.agg #[.int .i64 k0, .string ⟨x0.toArray⟩, .slice a0 m0 n0, .int .i64 l0])) (hK : KW W) => HCall.out t' F W _ hW hK (by have := HD.out; omega) (by have := HSZ.out; omega) h5)
          have hlti : (q : Int) < (ks.length : Int) := by omega
          clear h3 h4 h5 hT ht'
          cases hone : exprOK t' with
          | false =>
            have HQ := Lib.hid (HZN.out hone)
            have HC2 := Lib.hid (fun W hW hK => show Calls Tryd.prog 42 _ W fun e w' => e = .returned (.bool false) ∧ Below W.heap.size W w' by rw [← hone]; exact HCC.out W hW hK)
            clear hone
            go_wp2_with (first | (go_at_call 42; (with_reducible refine (HC2.out _ (HT.out.step (bel_new _ _)) ((HW.out.step HB.out).step (bel_new _ _))).mono ?_); rintro e w1 ⟨rfl, hb1⟩; have HB1 := Lib.hid hb1; clear hb1))
            go_ret
            exact ⟨by rw [← HRA.out, HQ.out] <;> rfl, (HB.out.trans ((bel_new wr _).mono HB.out.size)).trans (HB1.out.mono (by have := HB.out.size; simp; omega))⟩
          | true =>
            have HZ2 := Lib.hid (HZ.out.trans (by rw [HALL.out, hone] <;> rfl))
            have HC2 := Lib.hid (fun W hW hK => show Calls Tryd.prog 42 _ W fun e w' => e = .returned (.bool true) ∧ Below W.heap.size W w' by rw [← hone]; exact HCC.out W hW hK)
            clear hone
            go_wp2_with (first | (go_at_call 42; (with_reducible refine (HC2.out _ (HT.out.step (bel_new _ _)) ((HW.out.step HB.out).step (bel_new _ _))).mono ?_); rintro e w1 ⟨rfl, hb1⟩; have HB1 := Lib.hid hb1; clear hb1))
            go_roundw
            case rel => exact ⟨q + 1, by go_num, by omega, HZ2.out, (HB.out.trans ((bel_new wr _).mono HB.out.size)).trans (HB1.out.mono (by have := HB.out.size; simp; omega)), keep_blk HB1.out (new_blk HX.out)⟩
            case measure => simp [intOf]; omega
        · have hq2 : q = ks.length := by omega
          subst hq2
          have HQ := Lib.hid (by have := HALL.out; rwa [List.take_length] at this : exprsOK ks = true)
          go_wp2_with fail
          go_ret
          exact ⟨by rw [← HRA.out, HQ.out] <;> rfl, HB.out⟩
  · have hm3 : m < 0 := by omega
    have HRA := Lib.hid (show exprsOK ks = R by rw [← HR.out]; simp [arOK, hm3, hm2])
    go_enter Tryd.func42, Tryd.ntmps42
    go_wp2_with (first | (go_at_call 61; (with_reducible refine (HOP.out _ (HW.out.step HB0.out)).mono ?_); rintro e w1 ⟨rfl, hb1⟩; have HB1 := Lib.hid (HB0.out.trans (hb1.mono HB0.out.size)); have HX1 := Lib.hid (keep_blk hb1 HX0.out); obtain ⟨s0, s1, s2, s3, z0, z1, z2, z3⟩ := box4 HX1.out; clear hb1))
    have HBS := HB1
    have HXS := HX1
    go_loopw [24] (fun i wr => ∃ q : Nat, i = .int .i64 q ∧ q ≤ ks.length ∧ exprsOK (ks.take q) = true ∧ Below w.heap.size w wr ∧ wr.heap[w.heap.size]? = some (.cells #[.int .i64 k, .string ⟨tx.toArray⟩, .slice a ks.length c, .int .i64 l] 32 (0, 0))) (fun i _ => ks.length - (intOf i).toNat)
    case atStart => exact ⟨0, rfl, Nat.zero_le _, by simp [exprsOK_nil], HBS.out, HXS.out⟩
    case round =>
      obtain ⟨q, rfl, hq, hall, hb, hx⟩ := hrel
      have HB := Lib.hid hb
      have HX := Lib.hid hx
      have HALL := Lib.hid hall
      clear hb hx hall
      by_cases hlt : q < ks.length
      · obtain ⟨t', ht'⟩ : ∃ t', ks[q]? = some t' := ⟨_, List.getElem?_eq_getElem hlt⟩
        obtain ⟨b, off, cap, k0, x0, a0, m0, n0, l0, hv, c0, c1, c2, c3, hT⟩ := IsKids.at (HK.out.step HB.out) ht'
        simp only [Value.slice.injEq] at hv
        obtain ⟨rfl, _, rfl⟩ := hv
        obtain ⟨d0, d1, d2, d3, y0, y1, y2, y3⟩ := box4 HX.out
        have HT := Lib.hid hT
        have HZ := Lib.hid (exprsOK_take ht')
        have HZN := Lib.hid (fun h => exprsOK_bad ht' h)
        have h3 := depthT_at ht'
        have h4 := sizeT_at ht'
        have h5 := shortT_at HSH.out ht'
        have HCC := Lib.hid (fun W (hW : IsT W F t' (.agg #[.int .i64 k0, .string ⟨x0.toArray⟩, .slice a0 m0 n0, .int .i64 l0])) (hK : KW W) => HCall.out t' F W _ hW hK (by have := HD.out; omega) (by have := HSZ.out; omega) h5)
        have hlti : (q : Int) < (ks.length : Int) := by omega
        clear h3 h4 h5 hT ht'
        cases hone : exprOK t' with
        | false =>
          have HQ := Lib.hid (HZN.out hone)
          have HC2 := Lib.hid (fun W hW hK => show Calls Tryd.prog 42 _ W fun e w' => e = .returned (.bool false) ∧ Below W.heap.size W w' by rw [← hone]; exact HCC.out W hW hK)
          clear hone
          go_wp2_with (first | (go_at_call 42; (with_reducible refine (HC2.out _ (HT.out.step (bel_new _ _)) ((HW.out.step HB.out).step (bel_new _ _))).mono ?_); rintro e w1 ⟨rfl, hb1⟩; have HB1 := Lib.hid hb1; clear hb1))
          go_ret
          exact ⟨by rw [← HRA.out, HQ.out] <;> rfl, (HB.out.trans ((bel_new wr _).mono HB.out.size)).trans (HB1.out.mono (by have := HB.out.size; simp; omega))⟩
        | true =>
          have HZ2 := Lib.hid (HZ.out.trans (by rw [HALL.out, hone] <;> rfl))
          have HC2 := Lib.hid (fun W hW hK => show Calls Tryd.prog 42 _ W fun e w' => e = .returned (.bool true) ∧ Below W.heap.size W w' by rw [← hone]; exact HCC.out W hW hK)
          clear hone
          go_wp2_with (first | (go_at_call 42; (with_reducible refine (HC2.out _ (HT.out.step (bel_new _ _)) ((HW.out.step HB.out).step (bel_new _ _))).mono ?_); rintro e w1 ⟨rfl, hb1⟩; have HB1 := Lib.hid hb1; clear hb1))
          go_roundw
          case rel => exact ⟨q + 1, by go_num, by omega, HZ2.out, (HB.out.trans ((bel_new wr _).mono HB.out.size)).trans (HB1.out.mono (by have := HB.out.size; simp; omega)), keep_blk HB1.out (new_blk HX.out)⟩
          case measure => simp [intOf]; omega
      · have hq2 : q = ks.length := by omega
        subst hq2
        have HQ := Lib.hid (by have := HALL.out; rwa [List.take_length] at this : exprsOK ks = true)
        go_wp2_with fail
        go_ret
        exact ⟨by rw [← HRA.out, HQ.out] <;> rfl, HB.out⟩
theorem expr_all : ∀ n, OkC 42 exprOK n
  | 0 => fun t F w v ht hw hd hs hsh => by have := depth_pos t; omega
  | n + 1 => expr_ok n (expr_all n)
end Go.Proofs.YtogkiifljdnjgaaDoor
