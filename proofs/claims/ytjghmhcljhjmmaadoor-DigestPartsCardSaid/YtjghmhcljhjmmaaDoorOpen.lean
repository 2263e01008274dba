/- Arguments that are slices of bytes, taken apart. No condition. -/
import Derived.Test.YtjghmhcljhjmmaaDoorBytes
import Derived.ProofKit
import Derived.OpenShut
import Derived.Deep.Slices
import Derived.Deep.Grids
namespace Go.Proofs.YtjghmhcljhjmmaaDoor
open Go.ChangeShapes Go.WideShapes Go.ChangeAt Go.RowKit Go.Deep
set_option linter.unusedVariables false
set_option linter.unusedSimpArgs false

theorem cells_5 : Tryd.prog.cellsOf 5 = 1 := by kernel_rfl
theorem byte_of {n : Int} (h : (Lit.int .u8 n).wf = true) : ∃ c : UInt8, n = (c.toNat : Int) := by
  have hr : 0 ≤ n ∧ n < 256 := by
    simp [Lit.wf] at h
    have e1 : IntKind.u8.min = 0 := by decide
    have e2 : IntKind.u8.max = 255 := by decide
    omega
  exact ⟨UInt8.ofNat n.toNat, by rw [UInt8.toNat_ofNat']; omega⟩
theorem open_bytes {H : Type} {enc : TypeId × Value → H} {fuel : Nat} {W : World} {a : Option Addr} {len cap : Nat} {x : DataW H × List MemPlace} (hf : DataW.trod enc Tryd.prog W 0 (fun _ => true) true fuel 22 [.slice a len cap] = some x) :
    ∃ l, IsB W (.slice a len cap) l := by
  rcases open_slice1 Tryd.underlying22 cells_5 hf with ⟨h1, _⟩ | ⟨a', len', cap', m, n, V, D, Pl, h1, _, hl, hm, hmm, _, hx⟩
  · simp only [List.cons.injEq, and_true, Value.slice.injEq] at h1
    obtain ⟨rfl, rfl, rfl⟩ := h1
    exact ⟨[], IsB.nil W⟩
  · simp only [List.cons.injEq, and_true, Value.slice.injEq] at h1
    obtain ⟨rfl, rfl, rfl⟩ := h1
    simp only [if_true] at hmm
    subst hmm
    by_cases h0 : len = 0
    · subst h0
      exact ⟨[], IsB.empty W _ _ hm (fun h => by cases h)⟩
    · obtain ⟨b, off, spot⟩ := a'
      obtain ⟨C, hC⟩ := choose_lt (α := UInt8) (p := fun i c => V i = .int .u8 (c.toNat : Int)) (n := m) (fun i hi => by
        obtain ⟨k, h1, _, hw⟩ := DataW.trod_int Tryd.underlying5 (hx i hi).2
        obtain ⟨c, rfl⟩ := byte_of hw
        exact ⟨c, by simpa using h1⟩)
      have hspot : spot = none := by simpa [Addr.add] using World.cell?_spot (hx 0 (by omega)).1
      subst hspot
      refine ⟨(List.range len).map C, .inr ⟨by simp [h0], b, off, m, by simp, by simpa using hl, hm, fun i c hi => ?_⟩⟩
      rw [List.getElem?_map] at hi
      have hil : i < len := by
        rcases Nat.lt_or_ge i len with h | h
        · exact h
        · simp [List.getElem?_eq_none (show (List.range len).length ≤ i by simpa using h)] at hi
      simp [List.getElem?_eq_getElem (show i < (List.range len).length by simpa using hil)] at hi
      subst hi
      have hplain : (⟨b, off, none⟩ : Addr).add i = ⟨b, off + i, none⟩ := by unfold Addr.add; split <;> simp_all
      rw [← hplain, (hx i (by omega)).1, hC i (by omega)]
theorem open22 {H : Type} {enc : TypeId × Value → H} {base : Nat} {W : World} {v : Value} {d : DataW H} {p : List MemPlace} (o : Value.okWide Tryd.prog W .any base 22 v) (h : DataW.Trod enc Tryd.prog W 0 (fun _ => true) true 22 v d p) :
    ∃ l, IsB W v l := by
  obtain ⟨a, len, cap, rfl⟩ := okWide_slice Tryd.underlying22 o
  obtain ⟨fuel, hf⟩ := h
  exact open_bytes (by simpa only [Value.cells] using hf)
end Go.Proofs.YtjghmhcljhjmmaaDoor
