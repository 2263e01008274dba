/- In plain Lean: what Split's tokens are. No condition. -/
import Derived.Test.YtogkiifljdnjgaaDoorAcc
namespace Go.Proofs.YtogkiifljdnjgaaDoor
set_option linter.unusedVariables false
set_option linter.unusedSimpArgs false

theorem takeWhile_self {α : Type} {p : α → Bool} : ∀ {l : List α}, l.all p = true → l.takeWhile p = l
  | [], _ => rfl
  | x :: l, h => by
    simp only [List.all_cons, Bool.and_eq_true] at h
    rw [List.takeWhile_cons, if_pos h.1, takeWhile_self h.2]
theorem takeWhile_all {α : Type} {p : α → Bool} : ∀ (l : List α), (l.takeWhile p).all p = true
  | [] => rfl
  | x :: l => by
    rw [List.takeWhile_cons]
    split
    · rename_i h
      rw [List.all_cons, h, takeWhile_all l]
      rfl
    · rfl
theorem takeWhile_le {α : Type} {p : α → Bool} : ∀ (l : List α), (l.takeWhile p).length ≤ l.length
  | [] => Nat.le_refl _
  | x :: l => by
    rw [List.takeWhile_cons]
    split
    · simp only [List.length_cons]; have := takeWhile_le (p := p) l; omega
    · simp
theorem letN_plain {c : UInt8} (h : letN c.toNat = true) : plainB c := by
  simp only [letN, decide_eq_true_eq] at h
  unfold plainB
  omega
/-- A word is a token. -/
theorem split_word {c : UInt8} {r : List UInt8} (h : letN c.toNat = true) (hr : r.all wordB = true) : splitT (c :: r) = some [⟨1, c :: r, 1, 1⟩, ⟨5, [], 1, 1 + ((r.length + 1 : Nat) : Int)⟩] := by
  have ht : tokP (c :: r) = (1, 1 + r.length, c :: r) := by rw [tokP, if_pos h, takeWhile_self hr]
  unfold splitT
  rw [split_tok (letN_plain h) (by rw [ht]; dsimp only; omega), ht]
  dsimp only
  rw [List.drop_of_length_le (by simp only [List.length_cons]; omega), splitS, Nat.add_comm 1 r.length]
  rfl
theorem named_word {c : UInt8} {r : List UInt8} (h : letN c.toNat = true) (hr : r.all wordB = true) (hl : (c :: r).length ≤ 4096) (hk : c :: r ∉ kws) : namedP (c :: r) = true := by
  rw [namedP_two hl (split_word h hr)]
  simp [hk]
theorem quoP_ok : ∀ (n : Nat) (s : List UInt8) (i : Nat) (out : List UInt8), s.length ≤ n → out.all okB = true → (quoP s i out).2.all okB = true ∧ (quoP s i out).2.length ≤ out.length + s.length
  | n, [], i, out, hn, h => by rw [quoP]; exact ⟨rfl, by simp⟩
  | 0, c :: r, i, out, hn, h => by simp at hn
  | n + 1, c :: r, i, out, hn, h => by
    simp only [List.length_cons] at hn
    unfold quoP
    split
    · exact ⟨h, by simp⟩
    rename_i h34
    split
    · match r, hn with
      | [], _ => exact ⟨rfl, by simp⟩
      | d :: r', hn =>
        dsimp only
        simp only [List.length_cons] at hn
        split
        · rename_i hd
          have hok : okB d = true := by unfold okB; rcases hd with e | e <;> rw [e] <;> decide
          have := quoP_ok n r' (i + 2) (out ++ [d]) (by omega) (by rw [List.all_append, h]; simp [hok])
          refine ⟨this.1, ?_⟩
          have h2 := this.2
          simp only [List.length_append, List.length_cons, List.length_nil] at h2 ⊢
          omega
        · exact ⟨rfl, by simp⟩
    split
    · exact ⟨rfl, by simp⟩
    · rename_i hb
      have hok : okB c = true := by unfold okB; simp only [decide_eq_true_eq]; omega
      have := quoP_ok n r (i + 1) (out ++ [c]) (by omega) (by rw [List.all_append, h]; simp [hok])
      refine ⟨this.1, ?_⟩
      have h2 := this.2
      simp only [List.length_append, List.length_cons, List.length_nil] at h2 ⊢
      omega
theorem sign_len {s g : List UInt8} (h : signP s = some g) : g.length ≤ 2 := by
  have hm := List.mem_of_find?_eq_some h
  revert g
  intro g _ hm
  have : ∀ x ∈ signs, x.length ≤ 2 := by decide
  exact this g hm
theorem tokP_ok : ∀ (s : List UInt8) (l c : Int), s.length ≤ 4096 → (tokP s).2.1 ≠ 0 → TokOK ⟨((tokP s).1 : Int), (tokP s).2.2, l, c⟩
  | [], l, c, hs, h0 => by exact absurd rfl h0
  | x :: r, l, c, hs, h0 => by
    simp only [List.length_cons] at hs
    rw [tokP] at h0 ⊢
    split
    · rename_i hx
      have h1 := takeWhile_le (p := wordB) r
      refine ⟨by simp only [List.length_cons]; omega, fun _ hk => named_word hx (takeWhile_all r) (by simp only [List.length_cons]; omega) hk, fun e => (by simp at e), fun e => (by simp at e)⟩
    rename_i hx
    rw [if_neg hx] at h0
    split
    · rename_i hd
      rw [if_pos hd] at h0
      split
      · rename_i h9
        rw [if_pos h9] at h0
        exact absurd rfl h0
      · rename_i h9
        refine ⟨by simp only [List.length_cons]; omega, fun e => (by simp at e), fun _ => ?_, fun e => (by simp at e)⟩
        unfold digitsP
        dsimp only
        rw [List.all_cons, takeWhile_all]
        simp only [List.length_cons]
        rw [show digB x = true from hd, decide_eq_true (by omega)]
        rfl
    rename_i hd
    rw [if_neg hd] at h0
    split
    · rename_i hq
      have h1 := quoP_ok r.length r 1 [] (Nat.le_refl _) rfl
      refine ⟨?_, fun e => (by simp at e), fun e => (by simp at e), fun _ => h1.1⟩
      have := h1.2
      simp only [List.length_nil] at this
      dsimp only
      omega
    rename_i hq
    rw [if_neg hq] at h0
    split
    · rename_i g hg
      exact ⟨by have := sign_len hg; dsimp only; omega, fun e => (by simp at e), fun e => (by simp at e), fun e => (by simp at e)⟩
    · rename_i hg
      rw [hg] at h0
      exact absurd rfl h0
theorem splitS_tt : ∀ (s : List UInt8) (k : Nat) (l c : Int) (ts : List Tok), s.length ≤ 4096 → splitS s k l c = some ts → TT ts
  | [], k, l, c, ts, hs, h => by
    have he : TT [(⟨5, [], l, c⟩ : Tok)] := fun t ht => by
      obtain rfl := List.mem_singleton.1 ht
      exact ⟨by simp, fun e => (by simp at e), fun e => (by simp at e), fun e => (by simp at e)⟩
    cases k <;> simp only [splitS, Option.some.injEq] at h <;> subst h <;> exact he
  | x :: r, k + 1, l, c, ts, hs, h => by
    rw [splitS] at h
    exact splitS_tt r k l (c + 1) ts (by simp only [List.length_cons] at hs; omega) h
  | x :: r, 0, l, c, ts, hs, h => by
    have hs' : r.length ≤ 4096 := by simp only [List.length_cons] at hs; omega
    rw [splitS] at h
    split at h
    · exact splitS_tt r _ _ _ ts hs' h
    · split at h
      · exact splitS_tt r _ _ _ ts hs' h
      · split at h
        · exact splitS_tt r _ _ _ ts hs' h
        · split at h
          · cases h
          · rename_i h0
            obtain ⟨ts', h', rfl⟩ := Option.map_eq_some_iff.1 h
            have g1 := splitS_tt r _ _ _ ts' hs' h'
            intro u hu
            rcases List.mem_cons.1 hu with rfl | hu
            · exact tokP_ok _ _ _ hs h0
            · exact g1 u hu
theorem splitT_tt {s : List UInt8} {ts : List Tok} (hs : s.length ≤ 4096) (h : splitT s = some ts) : TT ts := splitS_tt s 0 1 1 ts hs h
/-- Whatever Parse accepts is valid. -/
theorem parse_valid {s : List UInt8} {t : Tree} {l : Int} (h : parseF s = (t, l, 0)) : validP t = true ∧ shortT t ∧ l = 0 := by
  by_cases hl : 4096 < s.length
  · rw [parseF_large hl] at h; cases h
  cases hn : splitT s with
  | none => rw [parseF_none hl hn] at h; cases h
  | some es =>
    rw [parseF_some hl hn] at h
    have hg := splitT_goodL hn
    have ht := splitT_tt (by omega) hn
    unfold parseL at h
    split at h
    · cases h
    rename_i h1
    split at h
    · cases h
    rename_i h2
    simp only [Prod.mk.injEq] at h
    obtain ⟨rfl, rfl, _⟩ := h
    have hb := parse_bd hg
    have hz : (parseR es).2.2 = 0 := by
      by_cases e : (parseR es).2.2 = 0
      · exact e
      · rw [endF_bad e] at h1
        exact absurd e h1
    have hv : stsOK (parseR es).1.kids = true ∧ shortL (parseR es).1.kids := ok_run _ .stmts (es, 0) hg ht (by simp [rankN]) hz
    refine ⟨?_, ?_, rfl⟩
    · rw [validP_node, hv.1, decide_eq_true (show sizeT (.node 1 [] (parseR es).1.kids 1) ≤ 512 ∧ depthT (.node 1 [] (parseR es).1.kids 1) ≤ 32 by omega)]
      rfl
    · rw [shortT_node]
      exact ⟨by simp, hv.2⟩
end Go.Proofs.YtogkiifljdnjgaaDoor
