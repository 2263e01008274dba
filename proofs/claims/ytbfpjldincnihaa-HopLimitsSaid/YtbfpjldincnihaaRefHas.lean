/- The walks of the reference's Has and numbers. No condition. -/
import Derived.Test.YtbfpjldincnihaaRefU
namespace Go.Proofs.Ytbfpjldincnihaa
open Go.RowKit
set_option linter.unusedVariables false
set_option linter.unusedSimpArgs false

def hasB (k f : Int) : Bool := (usesL k).any fun x => decide (x = f)
theorem usesL_len (k : Int) : (usesL k).length ≤ 4 := by
  unfold usesL
  repeat' split
  all_goals simp
set_option maxHeartbeats 1000000 in
theorem has_any (k f : Int) (w : World) : Calls Try.prog 25 #[.int .i64 k, .int .i64 f] w fun e w' => e = .returned (.bool (hasB k f)) ∧ Below w.heap.size w w' := by
  have HU := Lib.hid (fun W => Uses_any k W)
  have HLN := Lib.hid (usesL_len k)
  have HH := Lib.hid (show hasB k f = (usesL k).any fun x => decide (x = f) from rfl)
  generalize hasB k f = r at *
  generalize usesL k = L at *
  go_enter Try.func25, Try.ntmps25
  go_upto_region 2 with (go_at_call 31; refine (HU.out _).mono ?_; rintro r W2 ⟨v2, rfl, hN, hb2⟩; obtain ⟨a2, rfl⟩ := hN.shape)
  have HN := Lib.hid hN
  have HB := Lib.hid hb2
  clear hN hb2
  have hl4 : (L.length : Int) ≤ 4 := by have := HLN.out; omega
  go_wp2_with fail
  go_loopw [11] (fun i wr => ∃ q : Nat, i = .int .i64 q ∧ q ≤ L.length ∧ (L.take q).any (fun x => decide (x = f)) = false ∧ wr = W2) (fun i _ => L.length - (intOf i).toNat)
  case atStart => exact ⟨0, rfl, Nat.zero_le _, rfl, rfl⟩
  case round =>
    obtain ⟨q, rfl, hq, hall, rfl⟩ := hrel
    have HA := Lib.hid hall
    clear hall
    by_cases hlt : q < L.length
    · obtain ⟨g, hv, hc⟩ := HN.out.elem hlt
      simp only [Value.slice.injEq] at hv
      obtain ⟨rfl, _⟩ := hv
      have hq0 : (0 : Int) ≤ (q : Int) := by omega
      have hq1 : (q : Int) < (L.length : Int) := by omega
      have HTK := Lib.hid (show L.take (q + 1) = L.take q ++ [L[q]] by rw [List.take_add_one, List.getElem?_eq_getElem hlt]; rfl)
      have HME := Lib.hid (List.getElem_mem hlt)
      generalize L[q] = x at *
      by_cases hx : x = f
      · subst hx
        go_wp2_with fail
        go_ret
        exact ⟨ret_bool (by rw [HH.out]; symm; simp only [List.any_eq_true]; exact ⟨x, HME.out, by simp⟩), HB.out⟩
      · have hxb : (x == f) = false := by simpa using hx
        go_wp2_with fail
        go_roundw
        case rel => exact ⟨q + 1, by go_num, by omega, by rw [HTK.out, List.any_append, HA.out]; simp [hx], by first | rfl | trivial⟩
        case measure => simp [intOf]; omega
    · obtain rfl : q = L.length := by omega
      go_wp2_with fail
      go_ret
      exact ⟨ret_bool (by rw [HH.out]; have := HA.out; rw [List.take_length] at this; exact this.symm), HB.out⟩
set_option maxHeartbeats 1000000 in
theorem numbers_any (k id nm tt of : Int) (tx : List UInt8) (la da : Option Addr) (ll lc dl dc : Nat) (w : World) :
    Calls Try.prog 32 #[.agg #[.int .i64 k, .int .i64 id, .int .i64 nm, .int .i64 tt, .int .i64 of, .string ⟨tx.toArray⟩, .slice la ll lc, .slice da dl dc]] w fun e w' => ∃ v, e = .returned v ∧ IsN w' w.heap.size v [id, nm, tt, of] ∧ Below w.heap.size w w' := by
  go_enter Try.func32, Try.ntmps32
  go_wp2
  go_ret
  have hn := IsN.new (w.alloc (.cells #[.int .i64 k, .int .i64 id, .int .i64 nm, .int .i64 tt, .int .i64 of, .string ⟨tx.toArray⟩, .slice la ll lc, .slice da dl dc] 25)) [id, nm, tt, of] (by simp)
  refine ⟨_, rfl, ?_, bel_alloc (bel_new _ _)⟩
  rcases hn with ⟨h, _⟩ | ⟨h0, g, hv, hg, hl, hc⟩
  · simp at h
  · refine .inr ⟨h0, g, ?_, by simp [go_sem] at hg; omega, hl, hc⟩
    simpa using hv
end Go.Proofs.Ytbfpjldincnihaa
