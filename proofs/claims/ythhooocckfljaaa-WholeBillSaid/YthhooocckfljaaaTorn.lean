/- The walk of the law UsageTorn. No condition beyond that the entries are values. -/
import Derived.Test.YthhooocckfljaaaDecs
namespace Go.Proofs.Ythhooocckfljaaa
open Go.RowKit
set_option linter.unusedVariables false
set_option linter.unusedSimpArgs false

theorem fit_ok {e : Ent} (h : codeE e = 0) : FitE e := by
  obtain ⟨h0, h1⟩ := codeE_ok h
  have := (named_short h0).2
  obtain ⟨_, g, _⟩ := h1
  unfold inR at g
  unfold FitE
  omega
theorem encsB_ok {es : List Ent} (h : ∀ e ∈ es, codeE e = 0) : encsB es = es.flatMap recE := by
  unfold encsB
  rw [if_pos (encsC_all es h)]

theorem ent_ne (e f : Ent) (h : e ≠ f) :
    e.node ≠ f.node ∨ (e.node = f.node ∧ (e.boot ≠ f.boot ∨ (e.boot = f.boot ∧ (e.seq ≠ f.seq ∨ (e.seq = f.seq ∧ (e.ten ≠ f.ten ∨ (e.ten = f.ten ∧ (e.hits ≠ f.hits ∨ (e.hits = f.hits ∧ (e.bytes ≠ f.bytes ∨ (e.bytes = f.bytes ∧ e.att ≠ f.att))))))))))) := by
  obtain ⟨a0, a1, a2, a3, a4, a5, a6⟩ := e
  obtain ⟨b0, b1, b2, b3, b4, b5, b6⟩ := f
  simp only [ne_eq, Ent.mk.injEq] at h ⊢
  by_cases h0 : a0 = b0
  · by_cases h1 : a1 = b1
    · by_cases h2 : a2 = b2
      · by_cases h3 : a3 = b3
        · by_cases h4 : a4 = b4
          · by_cases h5 : a5 = b5
            · simp_all
            · simp_all
          · simp_all
        · simp_all
      · simp_all
    · simp_all
  · exact .inl h0
theorem node_ne {a b : List UInt8} (h : a ≠ b) : ((ByteArray.mk a.toArray).toList == (ByteArray.mk b.toArray).toList) = false := by
  simp [ByteArray.toList_eq, h]

theorem neq_run (e f : Ent) (h : e ≠ f) (W : World) : (binOp .neq 46 e.val f.val).run Try.prog W = .ok (.bool true) W := by
  have hcs := ent_ne e f h
  obtain ⟨a0, a1, a2, a3, a4, a5, a6⟩ := e
  obtain ⟨b0, b1, b2, b3, b4, b5, b6⟩ := f
  unfold Ent.val
  dsimp only at hcs ⊢
  rcases hcs with h0 | ⟨rfl, h1 | ⟨rfl, h1 | ⟨rfl, h1 | ⟨rfl, h1 | ⟨rfl, h1 | ⟨rfl, h1⟩⟩⟩⟩⟩⟩
  · simp [go_sem, h0]
  all_goals simp [go_sem, h1]

theorem drewN_two (w : World) (n m : Nat) : (w.drewN n).drewN m = w.drewN (n + m) := by
  first | rfl | simp [World.drewN, Nat.add_assoc]
def sizeK (L : List Ent) (k : Nat) : Nat := ((L.take k).flatMap recE).length
theorem sizeK_more {L : List Ent} {k : Nat} {e : Ent} (hk : L[k]? = some e) : sizeK L (k + 1) = sizeK L k + (recE e).length := by
  unfold sizeK
  rw [take_more hk, List.flatMap_append]
  simp
theorem split_at (L : List Ent) (k : Nat) : L.flatMap recE = (L.take k).flatMap recE ++ (L.drop k).flatMap recE := by
  rw [← List.flatMap_append, List.take_append_drop]
theorem torn_law (L : List Ent) (k n : Nat) (hL : ∀ e ∈ L, codeE e = 0) (hk : k ≤ L.length) (hs : sizeK L k ≤ n) (hn : n ≤ (L.flatMap recE).length)
    (h : k = L.length ∨ ∃ e, L[k]? = some e ∧ n < sizeK L k + (recE e).length) : decsP ((L.flatMap recE).take n) = (L.take k, sizeK L k) := by
  have hT : ∀ e ∈ L.take k, codeE e = 0 := fun e he => hL e (List.mem_of_mem_take he)
  have e1 : (L.flatMap recE).take n = (L.take k).flatMap recE ++ ((L.drop k).flatMap recE).take (n - sizeK L k) := by
    conv => lhs; rw [split_at L k]
    rw [List.take_append, List.take_of_length_le (by exact hs)]
    rfl
  have e2 : decsP (((L.drop k).flatMap recE).take (n - sizeK L k)) = ([], 0) := by
    rcases h with rfl | ⟨e, he, hlt⟩
    · rw [List.drop_length, List.flatMap_nil, List.take_nil]; rfl
    · have hlt' := (List.getElem?_eq_some_iff.1 he).1
      have hge := (List.getElem?_eq_some_iff.1 he).2
      rw [List.drop_eq_getElem_cons hlt', hge, List.flatMap_cons, List.take_append_of_le_length (by omega)]
      exact decsP_none (ent_cut e _ (hL e (List.mem_of_getElem? he)) (by omega))
  rw [e1, decs_app _ _ hT, e2]
  simp [sizeK]
theorem sizeK_all (L : List Ent) : sizeK L L.length = (L.flatMap recE).length := by unfold sizeK; rw [List.take_length]
theorem sizeK_le (L : List Ent) (k : Nat) : sizeK L k ≤ (L.flatMap recE).length := by
  unfold sizeK
  rw [split_at L k, List.length_append]
  omega

end Go.Proofs.Ythhooocckfljaaa
