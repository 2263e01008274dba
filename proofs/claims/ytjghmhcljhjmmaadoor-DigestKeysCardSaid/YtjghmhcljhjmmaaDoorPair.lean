/- Two slices of the call's own that grow side by side. No condition beyond the sizes. -/
import Derived.Test.YtjghmhcljhjmmaaDoorMask
namespace Go.Proofs.YtjghmhcljhjmmaaDoor
open Go.RowKit
set_option linter.unusedVariables false
set_option linter.unusedSimpArgs false

/-- Two own slices, in blocks of their own. -/
structure PairO (w : World) (base : Nat) (u : Value) (a : List UInt8) (v : Value) (b : List UInt8) : Prop where
  fst : OwnO w base u a
  snd : OwnO w base v b
  apart : ∀ k, u.ownBlock = some k → v.ownBlock ≠ some k
theorem PairO.nil (w : World) (base : Nat) : PairO w base (.slice none 0 0) [] (.slice none 0 0) [] := ⟨OwnO.nil _ _, OwnO.nil _ _, fun k h => by cases h⟩
theorem PairO.step {w w' : World} {base : Nat} {u v : Value} {a b : List UInt8} (h : PairO w base u a v b) (hb : Below w.heap.size w w') : PairO w' base u a v b := ⟨h.fst.step hb, h.snd.step hb, h.apart⟩
theorem PairO.swap {w : World} {base : Nat} {u v : Value} {a b : List UInt8} (h : PairO w base u a v b) : PairO w base v b u a := ⟨h.snd, h.fst, fun k hk h2 => h.apart k h2 hk⟩
theorem PairO.grown {w w' : World} {base : Nat} {u u' v : Value} {a a' b : List UInt8} (h : PairO w base u a v b) (ho : OwnO w' base u' a') (hk : ∀ k, k < w.heap.size → u.ownBlock ≠ some k → w'.heap[k]? = w.heap[k]?)
    (hn : u'.ownBlock = u.ownBlock ∨ ∃ k, u'.ownBlock = some k ∧ w.heap.size ≤ k) : PairO w' base u' a' v b := by
  refine ⟨ho, h.snd.keep fun k hv => hk k (h.snd.lt hv).1 fun hu => h.apart k hu hv, fun k hu hv => ?_⟩
  rcases hn with e | ⟨j, e, hj⟩
  · exact h.apart k (e ▸ hu) hv
  · rw [e] at hu
    injection hu with hu
    have := (h.snd.lt hv).1
    omega
/-- The masked bytes, one more. -/
theorem mask_snoc (p : List UInt8) (m : UInt8) (k : Nat) (h : k < p.length) : (p.take (k + 1)).map (· ^^^ m) = (p.take k).map (· ^^^ m) ++ [p[k] ^^^ m] := by
  rw [List.take_succ_eq_append_getElem h, List.map_append]
  rfl
theorem padK_key (K : List UInt8) (hK : K.length ≤ 64) (k : Nat) (h : k < K.length) : (K ++ List.replicate (64 - K.length) (0 : UInt8))[k]? = some (K[k]) := by
  rw [List.getElem?_append_left h, List.getElem?_eq_getElem h]
theorem padK_zero (K : List UInt8) (hK : K.length ≤ 64) (k : Nat) (h : K.length ≤ k) (h64 : k < 64) : (K ++ List.replicate (64 - K.length) (0 : UInt8))[k]? = some 0 := by
  rw [List.getElem?_append_right h, List.getElem?_eq_getElem (by simp; omega)]
  simp
theorem xor_byte54 (c : UInt8) : bits .xor .u8 (c.toNat : Int) 54 = ((c ^^^ 54).toNat : Int) := xor_byte c 54
theorem xor_byte92 (c : UInt8) : bits .xor .u8 (c.toNat : Int) 92 = ((c ^^^ 92).toNat : Int) := xor_byte c 92
end Go.Proofs.YtjghmhcljhjmmaaDoor
