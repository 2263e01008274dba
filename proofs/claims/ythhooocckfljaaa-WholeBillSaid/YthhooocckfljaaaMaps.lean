/- The set's map: how its keys and its elements read; what it holds. No condition. -/
import Derived.Test.YthhooocckfljaaaOrd
import Derived.Sort.MapsRangeIn
import Derived.Sort.KeysCollected
import Derived.DeepKeys4
namespace Go.Proofs.Ythhooocckfljaaa
open Go.RowKit Go.Maps
set_option linter.unusedVariables false
set_option linter.unusedSimpArgs false

def idV (e : Ent) : Value := .agg #[.string ⟨e.node.toArray⟩, .int .i64 e.boot, .int .i64 e.seq]
theorem laid8 : laidOutB Try.prog = true := by kernel_rfl
theorem row97 : (97 : TypeId) < Try.prog.types.size := of_decide_eq_true (by kernel_rfl)
theorem wide97 : (match Try.prog.underlying 97 with | some (.array _ _) | some (.struct _) => true | _ => false) = true := by rw [Try.underlying97]
set_option maxRecDepth 100000 in
theorem law97 : WideMaps.KeyLaw Try.prog 97 := deep_law_laid laid8 (m := 2) (by omega) row97 (by kernel_rfl) wide97
theorem keyed97 : Keyed Try.prog 97 := Keyed.of_law law97
theorem cells97 : Try.prog.cellsOf 97 = 3 := by kernel_rfl
theorem cells9 : Try.prog.cellsOf 9 = 1 := by kernel_rfl
theorem cells3 : Try.prog.cellsOf 3 = 1 := by kernel_rfl
theorem pred_any (n : Nat) (h : 97 < n) : ∃ m, n = m + 1 + 1 := ⟨n - 2, by omega⟩
theorem keyType97 : Try.prog.keyType 97 = true := by kernel_rfl
theorem code_ints {e : Ent} (h : codeE e = 0) : (0 ≤ e.boot ∧ e.boot ≤ 9223372036854775807) ∧ (0 ≤ e.seq ∧ e.seq ≤ 9223372036854775807) := by
  obtain ⟨h0, h1⟩ := codeE_ok h
  unfold rangeE inR at h1
  omega
set_option maxRecDepth 100000 in
theorem id_key {e : Ent} (h : codeE e = 0) : ∃ kl, keyOf Try.prog 97 (idV e) = some kl := by
  obtain ⟨hb, hs⟩ := code_ints h
  have hn := (named_short (codeE_ok h).1).2
  have w1 : (Lit.int .i64 e.boot).wf = true := by simp [Lit.wf, IntKind.min, IntKind.max, IntKind.signed, IntKind.bits]; omega
  have w2 : (Lit.int .i64 e.seq).wf = true := by simp [Lit.wf, IntKind.min, IntKind.max, IntKind.signed, IntKind.bits]; omega
  have hl : (⟨e.node.toArray⟩ : ByteArray).size ≤ maxLen := by simp [ByteArray.size]; unfold maxLen; omega
  have hf : (idV e).formed Try.prog 97 = true := by simp [idV, Value.formed, Try.underlying97, cells97]
  unfold keyOf
  rw [Try.underlying97]
  simp only [keyType97, hf, Bool.and_self, if_true]
  obtain ⟨m, hm⟩ := pred_any _ row97
  rw [hm]
  refine ⟨.string (keyBytes [.string e.node, .int .i64 e.boot, .int .i64 e.seq]), ?_⟩
  simp [idV, Value.cells, Program.keyLits, Try.underlying97, Try.underlying9, Try.underlying3, cells97, cells9, cells3, w1, w2, hl]

noncomputable def klE (e : Ent) : Lit := (keyOf Try.prog 97 (idV e)).getD (.bool false)
theorem klE_key {e : Ent} (h : codeE e = 0) : keyOf Try.prog 97 (idV e) = some (klE e) := by
  obtain ⟨kl, hk⟩ := id_key h
  unfold klE
  rw [hk]; rfl
theorem idV_same {e f : Ent} : idV e = idV f ↔ sameK e f := by
  unfold idV sameK
  simp
theorem klE_same {e f : Ent} (h : codeE e = 0) (g : codeE f = 0) : klE e = klE f ↔ sameK e f := by
  constructor
  · intro he
    exact idV_same.1 (keyed97.inj (klE_key h) (by rw [he]; exact klE_key g))
  · intro hs
    unfold klE
    rw [idV_same.2 hs]

/-- How an element reads: an entry as itself. -/
noncomputable def RE (v : Value) : Option (DataW Value × List MemPlace) := by
  classical
  exact if ∃ e : Ent, v = e.val then some (.held v, []) else none
theorem RE_mk (e : Ent) : RE e.val = some (.held e.val, []) := by
  unfold RE
  rw [if_pos ⟨e, rfl⟩]
theorem RE_inv {v : Value} {y : DataW Value × List MemPlace} (h : RE v = some y) : ∃ e : Ent, v = e.val ∧ y = (.held v, []) := by
  unfold RE at h
  split at h
  · rename_i hx
    obtain ⟨e, he⟩ := hx
    exact ⟨e, he, by simpa using h.symm⟩
  · cases h
theorem val_inj {e f : Ent} (h : e.val = f.val) : e = f := by
  obtain ⟨a0, a1, a2, a3, a4, a5, a6⟩ := e
  obtain ⟨b0, b1, b2, b3, b4, b5, b6⟩ := f
  simpa [Ent.val] using h

/-- The datum holds just the entries of S. -/
structure Cov (D : DataW Value) (S : List Ent) : Prop where
  code : ∀ e ∈ S, codeE e = 0
  apart : ∀ e ∈ S, ∀ f ∈ S, sameK e f → e = f
  has : ∀ kl, Maps.has D kl = true ↔ ∃ e ∈ S, klE e = kl
  at_ : ∀ e ∈ S, ∀ zd, D.atKey (klE e) zd = .held e.val
/-- Block b is a map of the entries of S. -/
def IsM (w : World) (b : Nat) (S : List Ent) : Prop := ∃ D n, w.ownsMap Try.prog 97 RE b n D ∧ Cov D S
theorem Cov.empty : Cov (.map []) [] := ⟨by simp, by simp, by simp [Maps.has_eq], by simp⟩
theorem IsM.made (w : World) : IsM (w.alloc (.map #[] 0)) w.heap.size [] := ⟨_, _, World.ownsMap_made w _ _ _, Cov.empty⟩
theorem IsM.lt {w : World} {b : Nat} {S : List Ent} (h : IsM w b S) : b < w.heap.size := by
  obtain ⟨D, n, h, _⟩ := h
  exact h.lt
theorem IsM.step {w w' : World} {b B : Nat} {S : List Ent} (h : IsM w b S) (hb : Below B w w') (hB : b < B) : IsM w' b S := by
  obtain ⟨D, n, ⟨es, clock, hm, F, hs, hD⟩, hc⟩ := h
  exact ⟨D, n, ⟨es, clock, (hb.block b hB).trans hm, F, hs, hD⟩, hc⟩
theorem IsM.drew {w : World} {b : Nat} {S : List Ent} (h : IsM w b S) : IsM w.drew b S := h
theorem IsM.kept {w w' : World} {b : Nat} {S : List Ent} {row : Option Nat} (h : IsM w b S) (hg : w.grownBy w' row) (hne : some b ≠ row) : IsM w' b S := by
  obtain ⟨D, n, hm, hc⟩ := h
  exact ⟨D, n, hm.kept hg hne, hc⟩
theorem IsM.code {w : World} {b : Nat} {S : List Ent} (h : IsM w b S) : ∀ e ∈ S, codeE e = 0 := by
  obtain ⟨D, _, _, hc⟩ := h
  exact hc.code
/-- The look-up: what is at e's place. -/
theorem IsM.look {w : World} {b : Nat} {S : List Ent} (h : IsM w b S) {e : Ent} (he : codeE e = 0) :
    (∃ f ∈ S, sameK f e ∧ (Instr.lookup 78 (.map (some b)) (idV e) true).run Try.prog w = .ok (.tuple #[f.val, .bool true]) w) ∨
    ((∀ f ∈ S, ¬ sameK f e) ∧ (Instr.lookup 78 (.map (some b)) (idV e) true).run Try.prog w = .ok (.tuple #[(⟨[], 0, 0, 0, 0, 0, 0⟩ : Ent).val, .bool false]) w) := by
  obtain ⟨D, n, hm, hc⟩ := h
  obtain ⟨v, ps, hrun, hv⟩ := hm.look_ok keyed97 Try.underlying78 (Try.zeroValue46 w) (RE_mk ⟨[], 0, 0, 0, 0, 0, 0⟩) (klE_key he)
  cases hh : Maps.has D (klE e) with
  | true =>
    obtain ⟨f, hf, hk⟩ := (hc.has _).1 hh
    refine .inl ⟨f, hf, (klE_same (hc.code f hf) he).1 hk, ?_⟩
    rw [hrun, hh]
    obtain ⟨g, rfl, hg⟩ := RE_inv hv
    rw [← hk, hc.at_ f hf] at hg
    simp only [Prod.mk.injEq, DataW.held.injEq] at hg
    rw [hg.1]
  | false =>
    refine .inr ⟨fun f hf hs => ?_, ?_⟩
    · have := (hc.has (klE e)).2 ⟨f, hf, (klE_same (hc.code f hf) he).2 hs⟩
      rw [hh] at this; cases this
    · rw [hrun, hh]
      obtain ⟨g, rfl, hg⟩ := RE_inv hv
      rw [atKey_of_not_has hh] at hg
      simp only [Prod.mk.injEq, DataW.held.injEq] at hg
      rw [hg.1]
theorem nodup_le {α : Type} : ∀ (l m : List α), l.Nodup → (∀ e ∈ l, e ∈ m) → l.length ≤ m.length
  | [], m, _, _ => Nat.zero_le _
  | e :: l, m, hn, hs => by
    obtain ⟨h1, h2⟩ := List.nodup_cons.1 hn
    obtain ⟨a, b, rfl⟩ := List.append_of_mem (hs e (by simp))
    have := nodup_le l (a ++ b) h2 fun x hx => by
      have h3 := hs x (by simp [hx])
      have hne : x ≠ e := fun h => h1 (h ▸ hx)
      simpa [hne] using h3
    simp at this ⊢
    omega
/-- A map has no more entries than the list that covers it. -/
theorem Cov.size {w : World} {b n : Nat} {D : DataW Value} {S : List Ent} (hm : w.ownsMap Try.prog 97 RE b n D) (hc : Cov D S) : Maps.size D ≤ S.length ∧ w.ownsMap Try.prog 97 RE b (Maps.size D) D := by
  obtain ⟨es, hD, hp, hk⟩ := hm.entries keyed97
  refine ⟨?_, ?_⟩
  · have := nodup_le (es.map (·.1)) (S.map klE) (List.pairwise_map.2 hp) fun kl h => by
      obtain ⟨q, hq, rfl⟩ := List.mem_map.1 h
      obtain ⟨e, he, hke⟩ := (hc.has q.1).1 (by rw [hD, Maps.has_eq, List.any_eq_true]; exact ⟨q, hq, WideAt.sameKey_self (hk q hq)⟩)
      exact List.mem_map.2 ⟨e, he, hke⟩
    rw [hD, Maps.size_eq]
    simpa using this
  · obtain ⟨es, clock, hb, F, hs, rfl⟩ := hm
    exact ⟨es, clock, hb, F, by simp [Maps.size, length_sorted], rfl⟩
theorem Cov.congr {D : DataW Value} {S T : List Ent} (h : Cov D S) (hST : ∀ e, e ∈ T ↔ e ∈ S) : Cov D T :=
  ⟨fun e he => h.code e ((hST e).1 he), fun e he f hf hs => h.apart e ((hST e).1 he) f ((hST f).1 hf) hs,
   fun kl => (h.has kl).trans ⟨fun ⟨e, he, hk⟩ => ⟨e, (hST e).2 he, hk⟩, fun ⟨e, he, hk⟩ => ⟨e, (hST e).1 he, hk⟩⟩, fun e he => h.at_ e ((hST e).1 he)⟩
theorem IsM.congr {w : World} {b : Nat} {S T : List Ent} (h : IsM w b S) (hST : ∀ e, e ∈ T ↔ e ∈ S) : IsM w b T := by
  obtain ⟨D, n, hm, hc⟩ := h
  exact ⟨D, n, hm, hc.congr hST⟩
theorem IsM.at_ {w w' : World} {b : Nat} {S : List Ent} (h : IsM w b S) (hb : Below w.heap.size w w') : IsM w' b S := h.step hb h.lt
theorem IsM.apart {w : World} {b : Nat} {S : List Ent} (h : IsM w b S) : ∀ e ∈ S, ∀ f ∈ S, sameK e f → e = f := by
  obtain ⟨D, _, _, hc⟩ := h
  exact hc.apart
set_option maxRecDepth 100000 in
/-- The store of an entry at its place. -/
theorem IsM.store {w : World} {b : Nat} {S : List Ent} (h : IsM w b S) {e : Ent} (he : codeE e = 0) (hn : S.length < maxLen) (hS : ∀ f ∈ S, sameK f e → f = e) :
    ∃ w', (Instr.mapUpdate 78 (.map (some b)) (idV e) e.val).run Try.prog w = .ok () w' ∧ IsM w' b (e :: S) ∧ w.grownBy w' (some b) := by
  obtain ⟨D, n, hm, hc⟩ := h
  obtain ⟨hsz, hm⟩ := hc.size hm
  obtain ⟨w', hrun, hm', ht⟩ := hm.store keyed97 Try.underlying78 (Nat.lt_of_le_of_lt hsz hn) (klE_key he) (RE_mk e)
  refine ⟨w', hrun, ⟨_, _, hm', ?_⟩, ht.grown⟩
  have hkey := keyed97.key (klE_key he)
  refine ⟨fun f hf => ?_, fun f hf g hg hs => ?_, fun kl => ?_, fun f hf zd => ?_⟩
  · rcases List.mem_cons.1 hf with rfl | hf
    · exact he
    · exact hc.code f hf
  · rcases List.mem_cons.1 hf with ef | hf'
    · rcases List.mem_cons.1 hg with eg | hg'
      · rw [ef, eg]
      · rw [ef] at hs ⊢
        exact (hS g hg' ⟨hs.1.symm, hs.2.1.symm, hs.2.2.symm⟩).symm
    · rcases List.mem_cons.1 hg with eg | hg'
      · rw [eg] at hs ⊢
        exact hS f hf' hs
      · exact hc.apart f hf' g hg' hs
  · by_cases hk : kl = klE e
    · subst hk
      rw [has_put_same hm.isMap hkey]
      exact ⟨fun _ => ⟨e, by simp, rfl⟩, fun _ => rfl⟩
    · rw [has_put_other hk, hc.has kl]
      constructor
      · rintro ⟨f, hf, h⟩
        exact ⟨f, by simp [hf], h⟩
      · rintro ⟨f, hf, h⟩
        rcases List.mem_cons.1 hf with rfl | hf
        · exact absurd h.symm hk
        · exact ⟨f, hf, h⟩
  · by_cases hk : klE f = klE e
    · have hfe : f = e := by
        rcases List.mem_cons.1 hf with rfl | hf
        · rfl
        · exact hS f hf ((klE_same (hc.code f hf) he).1 hk)
      subst hfe
      exact atKey_put_same hm.isMap hkey _ _
    · rw [atKey_put_other hk]
      rcases List.mem_cons.1 hf with rfl | hf
      · exact absurd rfl hk
      · exact hc.at_ f hf zd
end Go.Proofs.Ythhooocckfljaaa
