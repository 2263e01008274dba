/- The walk of the law RecordSums: it returns true. No condition beyond the slices' reading. -/
import Derived.Test.YtbfpjldincnihaaRefs
import Derived.Test.YtbfpjldincnihaaSumLaw
import Derived.Test.YtbfpjldincnihaaAppends
import Derived.Deep.OwnRows
namespace Go.Proofs.Ytbfpjldincnihaa
open Go.RowKit
set_option linter.unusedVariables false
set_option linter.unusedSimpArgs false

theorem rowB {w : World} {g : Nat} {f : Nat → Value} {l : List UInt8} (hr : w.rowIs g 5 l.length f) (hf : ∀ i c, l[i]? = some c → f i = .int .u8 (c.toNat : Int)) (hm : l.length ≤ maxLen) :
    IsB w (.slice (some ⟨g, 0, none⟩) l.length l.length) l := by
  by_cases h0 : l = []
  · subst h0
    exact IsB.empty w _ _ (Nat.zero_le _) (fun h => by cases h)
  · refine .inr ⟨h0, g, 0, l.length, rfl, Nat.le_refl _, hm, fun i c hi => ?_⟩
    have hil : i < l.length := (List.getElem?_eq_some_iff.1 hi).1
    rw [Nat.zero_add, hr.cell hil, hf i c hi]
theorem IsB.upto {w : World} {a : Option Addr} {l : List UInt8} {cap : Nat} (h : IsB w (.slice a l.length cap) l) (n : Nat) (hn : n ≤ l.length) : IsB w (.slice a n cap) (l.take n) := by
  have hs := h.shape
  obtain ⟨a', cap', hv, h1, h2, h3⟩ := hs
  injection hv with e1 e2 e3
  subst e1 e3
  by_cases h0 : n = 0
  · subst h0
    exact .inl ⟨by simp, a, cap, rfl, h2, h3⟩
  · rcases h with ⟨rfl, _⟩ | ⟨h0', b, off, cap', hv, g1, g2, g3⟩
    · simp at hn; omega
    · injection hv with e1 e2 e3
      subst e1 e3
      have hl : (l.take n).length = n := by simp; omega
      refine .inr ⟨?_, b, off, cap, by rw [hl], by omega, h2, fun i c hi => ?_⟩
      · intro e; rw [e] at hl; simp at hl; omega
      · rw [List.getElem?_take] at hi
        by_cases hin : i < n
        · rw [if_pos hin] at hi; exact g3 i c hi
        · rw [if_neg hin] at hi; cases hi
theorem IsB.draws {w : World} {v : Value} {l : List UInt8} (h : IsB w v l) (n : Nat) : IsB (w.drewN n) v l := h
theorem xor_u8 (c d : UInt8) : bits .xor .u8 (c.toNat : Int) (d.toNat : Int) = ((c ^^^ d).toNat : Int) := by
  rw [UInt8.toNat_xor]
  exact u8_xor_nat _ _ c.toNat_lt d.toNat_lt
theorem made5 (n : Nat) (h : n ≤ 3000) (w : World) : (Instr.makeSlice 23 (.int .i64 (n : Int)) (.int .i64 (n : Int))).run Try.prog w = .ok (.slice (some ⟨w.heap.size, 0, none⟩) n n) (w.alloc (.cells (madeCells #[.int .u8 0] n) 5)) :=
  run_make_row' 23 5 (.int .u8 0) 1 Try.underlying23 info5 rfl .i64 .i64 n (by omega) (by omega) w

theorem two_rows (wc : World) (n : Nat) : World.rowIs ((wc.alloc (.cells (madeCells #[.int .u8 0] n) 5)).alloc (.cells (madeCells #[.int .u8 0] n) 5)).drew wc.heap.size 5 n (fun _ => .int .u8 0) ∧
    World.rowIs ((wc.alloc (.cells (madeCells #[.int .u8 0] n) 5)).alloc (.cells (madeCells #[.int .u8 0] n) 5)).drew (wc.heap.size + 1) 5 n (fun _ => .int .u8 0) := by
  refine ⟨((World.rowIs_made wc (.int .u8 0) n 5).alloc _).drew, ?_⟩
  have := World.rowIs_made (wc.alloc (.cells (madeCells #[.int .u8 0] n) 5)) (.int .u8 0) n 5
  rw [World.size_alloc] at this
  exact this.drew

theorem IsB.none_nil {w : World} {cap : Nat} {l : List UInt8} (h : IsB w (.slice none l.length cap) l) : l = [] ∧ cap = 0 := by
  rcases h with ⟨rfl, a, c, hv, _, h2⟩ | ⟨_, b, off, c, hv, _⟩
  · simp only [Value.slice.injEq] at hv
    obtain ⟨rfl, _, rfl⟩ := hv
    exact ⟨rfl, h2 rfl⟩
  · simp only [Value.slice.injEq] at hv
    exact absurd hv.1 (by simp)

end Go.Proofs.Ytbfpjldincnihaa
