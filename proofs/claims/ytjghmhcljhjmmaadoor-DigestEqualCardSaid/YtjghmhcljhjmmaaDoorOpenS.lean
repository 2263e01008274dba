/- An argument that is a slice of bytes, with the form's own bound on its length. No condition. -/
import Derived.Test.YtjghmhcljhjmmaaDoorOpen
import Derived.SizedLaws
namespace Go.Proofs.YtjghmhcljhjmmaaDoor
open Go.ChangeShapes Go.WideShapes Go.ChangeAt Go.RowKit Go.Deep
set_option linter.unusedVariables false
set_option linter.unusedSimpArgs false

theorem bytes_5 : Tryd.prog.bytesOf 5 = 1 := by kernel_rfl
theorem open_len {H : Type} {enc : TypeId × Value → H} {fuel : Nat} {W : World} {a : Option Addr} {len cap : Nat} {x : DataW H × List MemPlace} (hf : DataW.trod enc Tryd.prog W 0 (fun _ => true) true fuel 22 [.slice a len cap] = some x) :
    len = 0 ∨ ∃ es sp, x.1 = .slice es sp ∧ es.length = len := by
  rcases open_slice1 Tryd.underlying22 cells_5 hf with ⟨h1, _⟩ | ⟨a', len', cap', m, n, V, D, Pl, h1, _, hl, hm, hmm, hx, _⟩
  · simp only [List.cons.injEq, and_true, Value.slice.injEq] at h1
    obtain ⟨rfl, rfl, rfl⟩ := h1
    exact .inl rfl
  · simp only [List.cons.injEq, and_true, Value.slice.injEq] at h1
    obtain ⟨rfl, rfl, rfl⟩ := h1
    exact .inr ⟨_, _, congrArg Prod.fst hx, by simp⟩
theorem open22s {H : Type} {enc : TypeId × Value → H} {base : Nat} {W : World} {v : Value} {d : DataW H} {p : List MemPlace} (o : Value.okWide Tryd.prog W .any base 22 v) (h : DataW.Trod enc Tryd.prog W 0 (fun _ => true) true 22 v d p)
    {ts : List TypeId} {ds : List (DataW H)} (hs : (DataW.weightsEach Tryd.prog ts ds).all (· ≤ reachBytes) = true) {j : Nat} (ht : ts[j]? = some 22) (hd : ds[j]? = some d) :
    ∃ l, IsB W v l ∧ l.length ≤ 140737488351232 := by
  obtain ⟨l, hl⟩ := open22 o h
  refine ⟨l, hl, ?_⟩
  obtain ⟨a, len, cap, rfl⟩ := okWide_slice Tryd.underlying22 o
  obtain ⟨fuel, hf⟩ := h
  have hlen : len = l.length := by
    obtain ⟨a', cap', he, _⟩ := hl.shape
    simp only [Value.slice.injEq] at he
    exact he.2.1
  rcases open_len (by simpa only [Value.cells] using hf) with h0 | ⟨es, sp, he, hl2⟩
  · omega
  · have hd2 : ds[j]? = some (.slice es sp) := by rw [hd]; exact congrArg some he
    have := sized_slice hs ht hd2 Tryd.underlying22
    rw [bytes_5, Nat.mul_one] at this
    have hr : reachBytes = 140737488351232 := by decide
    omega
end Go.Proofs.YtjghmhcljhjmmaaDoor
