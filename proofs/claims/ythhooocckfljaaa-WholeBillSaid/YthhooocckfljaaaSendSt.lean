/- send, at the state of WholeBill. No condition beyond the state's own. -/
import Derived.Test.YthhooocckfljaaaSend
import Derived.Test.YthhooocckfljaaaTurns
namespace Go.Proofs.Ythhooocckfljaaa
open Go.RowKit Go.Maps Go.Shelf
set_option linter.unusedVariables false
set_option linter.unusedSimpArgs false

theorem Inv.firm_bd {s : Sts} {now ns : Nat} (h : Inv s now ns) (hn : now ≤ 60) (t : Nat) : 0 ≤ totP (ofT t) Ent.hits s.firm ∧ totP (ofT t) Ent.hits s.firm ≤ 1000000000 ∧ 0 ≤ totP (ofT t) Ent.bytes s.firm ∧ totP (ofT t) Ent.bytes s.firm ≤ 1000000000 := by
  have hz := h.tot_nonneg t
  have hsub : ∀ e ∈ s.firm, e ∈ s.all := fun e he => h.sub e (h.has e he)
  by_cases ht : t < 3
  · have h1 := h.srvH t ht
    have h2 := h.srvY t ht
    have h3 := h.pend_nonneg t
    have h4 := totP_sub (ofT t) Ent.hits s.firm s.all h.firm_nodup hsub (fun e he => by have := (h.good he).2.1; omega)
    have h5 := totP_sub (ofT t) Ent.bytes s.firm s.all h.firm_nodup hsub (fun e he => (h.good he).2.2.1)
    omega
  · have h0 : ∀ e ∈ s.firm, ofT t e = false := fun e he => by
      have := (h.good (hsub e he)).2.2.2.1
      simp [ofT]
      omega
    rw [totP_none _ _ _ h0, totP_none _ _ _ h0]
    omega
theorem send_st {N : Nat} {A : Adr} {W : World} {s : Sts} {mb : Nat → Nat} {lv : Nat → Value} {now ns i cut : Nat} (hp : Pl N A W (s.vals mb lv)) (ap : Apart N A mb lv) (inv : Inv s now ns) (hn : now ≤ 60) (hns : ns ≤ 70) (hi : i < 3) (hcut : cut ≤ 1048576) :
    Calls Try.prog 7 #[.int .i64 i, .int .i64 cut, .pointer (some ⟨A.lg, 0, none⟩), .pointer (some ⟨A.le, 0, none⟩), .pointer (some ⟨A.su, 0, none⟩), .pointer (some ⟨A.ar, 0, none⟩)] W fun e w' =>
      e = .returned (.bool true) ∧ Kept [A.b, A.ar, A.su] W w' ∧ ∃ (k : Nat) (full : Bool), k ≤ (s.logs i).length ∧ (full = true → k = (s.logs i).length) ∧ (120 * (s.logs i).length ≤ cut → full = true) ∧ Pl N A w' ((s.send i k full).vals mb lv) := by
  have hl := inv.len i hi
  have hal : ∀ e ∈ s.logs i, e ∈ s.all := fun e he => Sts.mem_all.2 ⟨i, hi, he⟩
  have hne : ∀ x y : Nat, x < 12 → y < 12 → x ≠ y → A.all.getD x 0 ≠ A.all.getD y 0 := fun x y hx hy h => ap.ne x y hx hy h
  have n3 : ∀ x, x < 12 → x ≠ 11 → x ≠ 7 → x ≠ 8 → A.all.getD x 0 ∉ [A.b, A.ar, A.su] := by
    intro x hx h1 h2 h3 hm
    simp only [List.mem_cons, List.not_mem_nil, or_false] at hm
    rcases hm with e | e | e
    · exact hne x 11 hx (by decide) h1 e
    · exact hne x 7 hx (by decide) h2 e
    · exact hne x 8 hx (by decide) h3 e
  refine (send_run A.lg A.ar A.su A.le A.p A.b i cut (s.sure i) 36 28 N (s.logs i) s.S (lv i) (fun t => totP (ofT t) Ent.hits s.firm) (fun t => totP (ofT t) Ent.bytes s.firm) (fun i => .int .i64 (s.sure i : Nat)) W hi hcut
    (fun e he => by have := inv.good (hal e he); exact ⟨this.1, this.2.2.2.1⟩) (by omega) (inv.sure i hi) (by have := inv.slen; omega)
    (fun e he f hf hk => inv.uniq (by
      rcases List.mem_append.1 hf with h | h
      · exact hal f h
      · exact inv.sub f h) (hal e he) hk)
    (fun t => inv.firm_bd hn t) (hp.logs.cell hi) (hp.own i hi) hp.led hp.set hp.sure rfl hp.arr (n3 3 (by decide) (by decide) (by decide) (by decide)) (n3 9 (by decide) (by decide) (by decide) (by decide)) (n3 10 (by decide) (by decide) (by decide) (by decide))
    ⟨hne 11 7 (by decide) (by decide) (by decide), hne 11 8 (by decide) (by decide) (by decide), hne 7 8 (by decide) (by decide) (by decide)⟩
    (fun g hg hm => ap.lall i hi g hg (by simp at hm; rcases hm with e | e | e <;> simp [Adr.all, e]))).mono ?_
  rintro e w' ⟨rfl, hk, k, full, hkl, hset, hcf, h0, h1⟩
  refine ⟨rfl, hk, k, full, hkl, fun h => (h1 h).1, hcf, ?_⟩
  cases full with
  | false =>
    obtain ⟨hu, ha⟩ := h0 rfl
    exact (Pl.sent hp ap hk hset ha hu).congr (fun _ _ => rfl) (fun _ _ => rfl) (fun _ _ => rfl) (fun _ _ => rfl) (fun _ _ => rfl) (fun _ _ => rfl) (fun _ => Iff.rfl) (fun _ _ => rfl) (fun _ _ => rfl) (fun _ _ => rfl) (fun _ _ => rfl)
  | true =>
    obtain ⟨_, hu, ha⟩ := h1 rfl
    refine (Pl.sent hp ap hk hset ha hu).congr (fun _ _ => rfl) (fun _ _ => rfl) (fun _ _ => rfl) (fun _ _ => rfl) (fun j _ => ?_) (fun j hj => ?_) (fun _ => Iff.rfl) (fun _ _ => rfl) (fun _ _ => rfl) (fun _ _ => rfl) (fun _ _ => rfl)
    · exact congrFun (pairF_congr (fun t => (Sts.send_firm s i k hi (inv.sure i hi) _ _).symm) (fun t => (Sts.send_firm s i k hi (inv.sure i hi) _ _).symm)) j
    · show updV (fun i => .int .i64 (s.sure i : Nat)) i (.int .i64 ((s.logs i).length : Nat)) j = .int .i64 ((s.send i k true).sure j : Nat)
      unfold Sts.send updV
      dsimp only
      rw [if_pos rfl]
      by_cases e : j = i
      · subst e; rw [updN_same, if_pos rfl]
      · rw [updN_ne _ _ _ e, if_neg e]
end Go.Proofs.Ythhooocckfljaaa
