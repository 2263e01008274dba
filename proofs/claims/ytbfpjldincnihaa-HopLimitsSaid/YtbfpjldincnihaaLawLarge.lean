/- The walk of the statements' own large. No condition beyond lengths that memory allows. -/
import Derived.Test.YtbfpjldincnihaaHopEnc
import Derived.Test.YtbfpjldincnihaaRefHas
namespace Go.Proofs.Ytbfpjldincnihaa
open Go.RowKit
set_option linter.unusedVariables false
set_option linter.unusedSimpArgs false

def lenT (ts : List (List UInt8)) : Nat := (ts.map List.length).sum
theorem lenT_add (ts : List (List UInt8)) (k : Nat) (s : List UInt8) (h : ts[k]? = some s) : lenT (ts.take (k + 1)) = lenT (ts.take k) + s.length := by
  unfold lenT
  rw [List.take_add_one, h]
  simp
theorem lenT_le (ts : List (List UInt8)) (B : Nat) (h : ∀ s ∈ ts, s.length ≤ B) (k : Nat) : lenT (ts.take k) ≤ k * B := by
  induction k with
  | zero => simp [lenT]
  | succ k ih =>
    rw [Nat.succ_mul]
    rcases Nat.lt_or_ge k ts.length with hk | hk
    · rw [lenT_add ts k _ (List.getElem?_eq_getElem hk)]
      exact Nat.add_le_add ih (h _ (List.getElem_mem hk))
    · rw [List.take_of_length_le (by omega)]
      rw [List.take_of_length_le hk] at ih
      exact Nat.le_trans ih (Nat.le_add_right _ _)
/-- What the statements take for a large message. -/
def bigM (m : Msg) : Bool := decide (20000 < m.txt.length + m.dat.length + lenT m.lst) || decide (1100 < m.lst.length)
def FitT (m : Msg) : Prop := m.txt.length ≤ 140737488355328 ∧ m.dat.length ≤ 140737488355328 ∧ m.lst.length ≤ 140737488355328 ∧ ∀ s ∈ m.lst, s.length ≤ 140737488355328

set_option maxRecDepth 20000 in
set_option maxHeartbeats 2000000 in
theorem lawlarge_any (m : Msg) (la da : Option Addr) (lc dc : Nat) (w : World) (hT : IsT w (.slice la m.lst.length lc) m.lst) (hF : FitT m) :
    Calls Try.prog 12 #[m.val (.slice la m.lst.length lc) (.slice da m.dat.length dc)] w fun e w' => e = .returned (.bool (bigM m)) ∧ Below w.heap.size w w' := by
  obtain ⟨k, id, nm, tt, of, tx, ls, dt⟩ := m
  unfold Msg.val bigM
  unfold FitT at hF
  dsimp only at hT hF ⊢
  obtain ⟨hf1, hf2, hf4, hf3⟩ := hF
  have HLE := Lib.hid (lenT_le ls 140737488355328 hf3)
  have hsz : ((ByteArray.mk tx.toArray).size : Int) = (tx.length : Int) := by simp [ByteArray.size]
  have HF := Lib.hid hf3
  have HT := Lib.hid hT
  have hf1' : (tx.length : Int) ≤ 140737488355328 := by omega
  have hf2' : (dt.length : Int) ≤ 140737488355328 := by omega
  have hf4' : (ls.length : Int) ≤ 140737488355328 := by omega
  have HB0 := Lib.hid (bel_new w (.cells #[.int .i64 k, .int .i64 id, .int .i64 nm, .int .i64 tt, .int .i64 of, .string ⟨tx.toArray⟩, .slice la ls.length lc, .slice da dt.length dc] 25))
  have hm0 := MCells.box w k id nm tt of tx (.slice la ls.length lc) (.slice da dt.length dc)
  obtain ⟨c0, c1, c2, c3, c4, c5, c6, c7⟩ := hm0
  clear hT hf3 hf1 hf2 hf4
  go_enter Try.func12, Try.ntmps12
  go_upto_region 1 with fail
  generalize w.alloc (.cells #[.int .i64 k, .int .i64 id, .int .i64 nm, .int .i64 tt, .int .i64 of, .string ⟨tx.toArray⟩, .slice la ls.length lc, .slice da dt.length dc] 25) = W1 at *
  have HT1 := Lib.hid (HT.out.step HB0.out)
  clear HT
  go_wp2_with fail
  go_loopw [3, 16] (fun n i wr => ∃ (k : Nat) (z : Int), n = .int .i64 z ∧ i = .int .i64 k ∧ k ≤ ls.length ∧ (k ≤ 1100 → z = ((tx.length + dt.length + lenT (ls.take k) : Nat) : Int)) ∧ wr = W1) (fun _ i _ => ls.length - (intOf i).toNat)
  case atStart => exact ⟨0, _, by go_num, rfl, Nat.zero_le _, fun _ => by simp [lenT], rfl⟩
  case round =>
    obtain ⟨q, z, rfl, rfl, hq, hz, rfl⟩ := hrel
    have HZ := Lib.hid hz
    clear hz
    by_cases hlt : q < ls.length
    · obtain ⟨g, o, cap', hv, hc⟩ := HT1.out.elem hlt
      simp only [Value.slice.injEq] at hv
      obtain ⟨rfl, _, rfl⟩ := hv
      have hq0 : (0 : Int) ≤ (q : Int) := by omega
      have hq1 : (q : Int) < (ls.length : Int) := by omega
      have HAD := Lib.hid (lenT_add ls q _ (List.getElem?_eq_getElem hlt))
      have HLS := Lib.hid (HF.out _ (List.getElem_mem hlt))
      generalize ls[q] = s at *
      have hsz2 : ((ByteArray.mk s.toArray).size : Int) = (s.length : Int) := by simp [ByteArray.size]
      go_wp2_with fail
      go_roundw
      case rel => exact ⟨q + 1, _, rfl, by go_num, by omega, fun h9 => by
        have e1 := HZ.out (by omega)
        have e2 := HAD.out
        have e3 := HLE.out q
        have e4 := HLS.out
        rw [e1, e2]
        rw [IntWalk.wrap64_in _ ⟨by omega, by omega⟩]
        omega, by first | rfl | trivial⟩
      case measure => simp [intOf]; omega
    · obtain rfl : q = ls.length := by omega
      by_cases hL : 1100 < ls.length
      · have hL' : (1100 : Int) < (ls.length : Int) := by omega
        by_cases hz2 : 20000 < z
        · go_wp2_with fail
          go_ret
          exact ⟨ret_bool (by simp [hL]), HB0.out⟩
        · go_wp2_with fail
          go_ret
          exact ⟨ret_bool (by simp [hL]), HB0.out⟩
      · have hL' : ¬ (1100 : Int) < (ls.length : Int) := by omega
        have e1 := HZ.out (by omega)
        rw [List.take_length] at e1
        by_cases hz2 : 20000 < z
        · have HE := Lib.hid (show 20000 < tx.length + dt.length + lenT ls by omega)
          clear e1
          go_wp2_with fail
          go_ret
          exact ⟨ret_bool (by simp [HE.out]), HB0.out⟩
        · have HE := Lib.hid (show ¬ 20000 < tx.length + dt.length + lenT ls by omega)
          clear e1
          go_wp2_with fail
          go_ret
          exact ⟨ret_bool (by have := HE.out; simp [hL]; omega), HB0.out⟩
end Go.Proofs.Ytbfpjldincnihaa
