/- The walks of the reference's Sum, Uint, Text and Texts; Sum of any slice. No condition beyond lengths that memory allows. -/
import Derived.Test.YthhooocckfljaaaEncode
namespace Go.Proofs.Ythhooocckfljaaa
open Go.RowKit
set_option linter.unusedVariables false
set_option linter.unusedSimpArgs false

theorem sum_nil (a : Option Addr) (cap : Nat) (w : World) : Calls Try.prog 36 #[.slice a 0 cap] w fun e w' => e = .returned (.int .u32 (sumP [])) ∧ w = w' := by
  go_enter Try.func36, Try.ntmps36
  go_wp2
  go_loop [3, 8] (fun x i => i = .int .i64 0 ∧ x = .int .u32 (full : Nat)) (fun _ i => 0)
  case atStart => exact ⟨rfl, rfl⟩
  case round =>
    obtain ⟨rfl, rfl⟩ := hrel
    go_wp2
    go_ret
    exact ⟨ret_int (full_xor full word_full), rfl⟩
theorem sum_any (v : Value) (l : List UInt8) (w : World) (h : IsB w v l) : Calls Try.prog 36 #[v] w fun e w' => e = .returned (.int .u32 (sumP l)) ∧ w = w' := by
  have hm := h.len
  rcases h with ⟨rfl, a, cap, rfl, _⟩ | ⟨h0, b, off, cap, rfl, h1, h2, h3⟩
  · exact sum_nil a cap w
  · exact sum_some b off cap l w (by unfold maxLen at hm; omega) h3

theorem IsB.upto {w : World} {a : Option Addr} {l : List UInt8} {cap : Nat} (h : IsB w (.slice a l.length cap) l) (n : Nat) (hn : n ≤ l.length) : IsB w (.slice a n cap) (l.take n) := by
  have hs := h.shape
  obtain ⟨a', cap', hv, h1, h2, h3⟩ := hs
  injection hv with e1 e2 e3
  subst e1 e3
  by_cases h0 : n = 0
  · subst h0
    exact .inl ⟨by simp, a, cap, rfl, h2, h3⟩
  · rcases h with ⟨rfl, _⟩ | ⟨h0', b, off, cap', hv, g1, g2, g3⟩
    · simp at hn; omega
    · injection hv with e1 e2 e3
      subst e1 e3
      have hl : (l.take n).length = n := by simp; omega
      refine .inr ⟨?_, b, off, cap, by rw [hl], by omega, h2, fun i c hi => ?_⟩
      · intro e; rw [e] at hl; simp at hl; omega
      · rw [List.getElem?_take] at hi
        by_cases hin : i < n
        · rw [if_pos hin] at hi; exact g3 i c hi
        · rw [if_neg hin] at hi; cases hi
theorem IsB.none_nil {w : World} {cap : Nat} {l : List UInt8} (h : IsB w (.slice none l.length cap) l) : l = [] ∧ cap = 0 := by
  rcases h with ⟨rfl, a, c, hv, _, h2⟩ | ⟨_, b, off, c, hv, _⟩
  · simp only [Value.slice.injEq] at hv
    obtain ⟨rfl, _, rfl⟩ := hv
    exact ⟨rfl, h2 rfl⟩
  · simp only [Value.slice.injEq] at hv
    exact absurd hv.1 (by simp)

end Go.Proofs.Ythhooocckfljaaa
