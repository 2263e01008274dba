/- What was written is read back, and a cut of the last byte is an error: the plain law. No condition beyond lengths. -/
import Derived.Test.YtnieoaadhbcjiaaWrites
namespace Go.Proofs.Ytnieoaadhbcjiaa
set_option linter.unusedVariables false
set_option linter.unusedSimpArgs false

theorem takeP9_num (n : Nat) (t : List UInt8) (hn : n ≤ 4611686018427387904) : takeP 9 (numB n ++ t) = ((n : Int), ((numB n).length : Int)) ∧ 1 ≤ (numB n).length := by
  have hn9 : n < 128 ^ 9 := by omega
  have h10 : n < 128 ^ 10 := by omega
  have hl := numF_le 9 10 n hn9 (by omega) (by omega)
  have hp := numF_pos 10 n (by omega)
  have := takeF_num 9 10 n 0 0 t h10 (by omega) (by omega) (by omega)
  refine ⟨?_, hp⟩
  unfold takeP numB
  rw [this]
  simp
theorem numR_num (n : Nat) (t : List UInt8) (hn : n ≤ 4611686018427387904) : numR (numB n ++ t) = some (n, t) := by
  obtain ⟨h1, h2⟩ := takeP9_num n t hn
  rcases num_cases (numB n ++ t) with ⟨n', k, ht, _, _, _, _, hR⟩ | ⟨hbad, _, _⟩
  · rw [h1] at ht
    simp only [Prod.mk.injEq] at ht
    have e1 : n' = n := by omega
    have e2 : k = (numB n).length := by omega
    rw [hR, e1, e2, List.drop_left]
  · rw [h1] at hbad
    simp only [] at hbad
    omega
theorem numR_pre (n j : Nat) (hn : n ≤ 4611686018427387904) (hj : j < (numB n).length) : numR ((numB n).take j) = none := by
  have hn9 : n < 128 ^ 9 := by omega
  have h10 : n < 128 ^ 10 := by omega
  have hl := numF_le 9 10 n hn9 (by omega) (by omega)
  have hp : takeP 9 ((numB n).take j) = (0, 0) := by
    unfold takeP numB
    rw [takeF_pre 9 10 n 0 0 j (by omega) h10 (by omega) hj]
  rcases num_cases ((numB n).take j) with ⟨n', k, ht, _, hk, _, _, hR⟩ | ⟨_, _, hR⟩
  · rw [hp] at ht
    simp only [Prod.mk.injEq] at ht
    omega
  · exact hR
theorem dropLast_num (n : Nat) : (numB n).dropLast = (numB n).take ((numB n).length - 1) := by rw [List.dropLast_eq_take]
theorem wordR_text (s t : List UInt8) (hs : s.length ≤ 4611686018427387904) : wordR (textB s ++ t) = some (s, t) := by
  unfold wordR textB
  rw [List.append_assoc, numR_num _ _ hs]
  simp
theorem textB_ne (s : List UInt8) : textB s ≠ [] := by unfold textB; simp [numB_ne]
theorem wordR_cut (s : List UInt8) (hs : s.length ≤ 4611686018427387904) : wordR (textB s).dropLast = none := by
  unfold wordR textB
  by_cases h0 : s = []
  · subst h0
    rw [List.append_nil, dropLast_num, numR_pre _ _ hs]
    have := numB_ne ([] : List UInt8).length
    have : (numB ([] : List UInt8).length).length ≠ 0 := fun e => this (List.eq_nil_of_length_eq_zero e)
    omega
  · rw [List.dropLast_append_of_ne_nil h0, numR_num _ _ hs]
    have : s.length ≠ 0 := fun e => h0 (List.eq_nil_of_length_eq_zero e)
    simp only [List.length_dropLast]
    rw [if_neg (by omega)]
theorem wordsF_texts : ∀ (ts : List (List UInt8)) (t : List UInt8), (∀ s ∈ ts, s.length ≤ 4611686018427387904) → wordsF ts.length (ts.flatMap textB ++ t) = some (ts, t)
  | [], t, _ => by simp [wordsF]
  | s :: ts, t, h => by
    rw [List.flatMap_cons, List.append_assoc, List.length_cons]
    simp only [wordsF]
    rw [wordR_text s _ (h s (by simp))]
    simp only []
    rw [wordsF_texts ts t (fun s hs => h s (by simp [hs]))]
    rfl
theorem flat_ne {ts : List (List UInt8)} (h : ts ≠ []) : ts.flatMap textB ≠ [] := by
  cases ts with
  | nil => exact absurd rfl h
  | cons s r => rw [List.flatMap_cons]; intro e; exact textB_ne s (List.append_eq_nil_iff.1 e).1
theorem wordsF_cut : ∀ (ts : List (List UInt8)), ts ≠ [] → (∀ s ∈ ts, s.length ≤ 4611686018427387904) → wordsF ts.length (ts.flatMap textB).dropLast = none
  | [], h, _ => absurd rfl h
  | [s], _, h => by
    simp only [List.flatMap_cons, List.flatMap_nil, List.append_nil, List.length_cons, List.length_nil, wordsF]
    rw [wordR_cut s (h s (by simp))]
  | s :: s2 :: ts, _, h => by
    rw [List.flatMap_cons, List.dropLast_append_of_ne_nil (flat_ne (by simp)), List.length_cons]
    simp only [wordsF]
    rw [wordR_text s _ (h s (by simp))]
    simp only []
    rw [wordsF_cut (s2 :: ts) (by simp) (fun s hs => h s (by simp at hs ⊢; right; exact hs))]
    rfl
theorem flat_len_ge (ts : List (List UInt8)) : ts.length ≤ (ts.flatMap textB).length := by
  induction ts with
  | nil => simp
  | cons s r ih =>
    have : 1 ≤ (textB s).length := by
      rcases Nat.eq_zero_or_pos (textB s).length with h | h
      · exact absurd (List.eq_nil_of_length_eq_zero h) (textB_ne s)
      · exact h
    rw [List.flatMap_cons, List.length_append, List.length_cons]
    omega
theorem wordsR_texts (ts : List (List UInt8)) (t : List UInt8) (hl : ts.length ≤ 4611686018427387904) (h : ∀ s ∈ ts, s.length ≤ 4611686018427387904) : wordsR (textsB ts ++ t) = some (ts, t) := by
  have hg := flat_len_ge ts
  unfold wordsR textsB
  rw [List.append_assoc, numR_num _ _ hl]
  simp only []
  rw [if_pos (by rw [List.length_append]; omega), wordsF_texts ts t h]
theorem wordsR_cut (ts : List (List UInt8)) (hl : ts.length ≤ 4611686018427387904) (h : ∀ s ∈ ts, s.length ≤ 4611686018427387904) : wordsR (textsB ts).dropLast = none := by
  unfold wordsR textsB
  by_cases h0 : ts = []
  · subst h0
    rw [List.flatMap_nil, List.append_nil, dropLast_num, numR_pre _ _ hl]
    have := numB_ne ([] : List (List UInt8)).length
    have : (numB ([] : List (List UInt8)).length).length ≠ 0 := fun e => this (List.eq_nil_of_length_eq_zero e)
    omega
  · rw [List.dropLast_append_of_ne_nil (flat_ne h0), numR_num _ _ hl]
    simp only []
    split
    · exact wordsF_cut ts h0 h
    · rfl

/-- A value whose lengths fit. -/
def Fits (x : Val) : Prop := x.s.length ≤ 1000000 ∧ x.L.length ≤ 1000000 ∧ ∀ s ∈ x.L, s.length ≤ 1000000
theorem fits_of {x : Val} (h : lenV x ≤ 1000000) : Fits x := by
  unfold lenV at h
  have h1 := len_sum x.L
  refine ⟨by omega, by omega, fun s hs => ?_⟩
  have : 10 + s.length ≤ textSum x.L := by
    have h9 : ∀ L : List (List UInt8), s ∈ L → 10 + s.length ≤ textSum L := by
      intro L
      induction L with
      | nil => intro h; cases h
      | cons a r ih =>
        intro hm
        have e : textSum (a :: r) = 10 + a.length + textSum r := by simp [textSum]
        rcases List.mem_cons.1 hm with rfl | hm
        · omega
        · have := ih hm; omega
    exact h9 x.L hs
  omega
theorem next_form (x : Val) (t : List UInt8) (h : Fits x) : nextO x.k (some (formV x ++ t)) = some t := by
  obtain ⟨h1, h2, h3⟩ := h
  unfold nextO formV
  by_cases h0 : x.k % 3 = 0
  · rw [if_pos h0, if_pos h0]
    simp only [numO, Option.bind_some]
    rw [numR_num _ _ (by unfold clampN; omega)]
    rfl
  · rw [if_neg h0, if_neg h0]
    by_cases h1' : x.k % 3 = 1
    · rw [if_pos h1', if_pos h1']
      simp only [wordO, Option.bind_some]
      rw [wordR_text _ _ (by omega)]
      rfl
    · rw [if_neg h1', if_neg h1']
      simp only [Option.bind_some]
      rw [wordsR_texts _ _ (by omega) (fun s hs => by have := h3 s hs; omega)]
      rfl
theorem next_cut (x : Val) (h : Fits x) : nextO x.k (some (formV x).dropLast) = none := by
  obtain ⟨h1, h2, h3⟩ := h
  unfold nextO formV
  by_cases h0 : x.k % 3 = 0
  · rw [if_pos h0, if_pos h0]
    simp only [numO, Option.bind_some]
    rw [dropLast_num, numR_pre _ _ (by unfold clampN; omega)]
    · rfl
    · have := numB_ne (clampN x.n)
      have : (numB (clampN x.n)).length ≠ 0 := fun e => this (List.eq_nil_of_length_eq_zero e)
      omega
  · rw [if_neg h0, if_neg h0]
    by_cases h1' : x.k % 3 = 1
    · rw [if_pos h1', if_pos h1']
      simp only [wordO, Option.bind_some]
      rw [wordR_cut _ (by omega)]
      rfl
    · rw [if_neg h1', if_neg h1']
      simp only [Option.bind_some]
      rw [wordsR_cut _ (by omega) (fun s hs => by have := h3 s hs; omega)]
      rfl
theorem next_none (k : Nat) : nextO k none = none := by unfold nextO; split <;> (try split) <;> rfl
theorem formV_ne (x : Val) : formV x ≠ [] := by
  unfold formV
  split
  · exact numB_ne _
  · split
    · exact textB_ne _
    · unfold textsB; simp [numB_ne]
/-- What is left behind the values. -/
def nextsO : List Val → Option (List UInt8) → Option (List UInt8)
  | [], o => o
  | x :: vs, o => nextsO vs (nextO x.k o)
theorem nexts_snoc : ∀ (vs : List Val) (x : Val) (o : Option (List UInt8)), nextsO (vs ++ [x]) o = nextO x.k (nextsO vs o)
  | [], x, o => rfl
  | y :: vs, x, o => by simp only [List.cons_append, nextsO]; exact nexts_snoc vs x _
theorem nexts_take {vs : List Val} {k : Nat} {x : Val} (h : vs[k]? = some x) (o : Option (List UInt8)) : nextsO (vs.take (k + 1)) o = nextO x.k (nextsO (vs.take k) o) := by
  obtain ⟨hk, rfl⟩ := List.getElem?_eq_some_iff.1 h
  rw [List.take_succ_eq_append_getElem hk, nexts_snoc]
theorem nexts_cut : ∀ (vs : List Val), vs ≠ [] → (∀ x ∈ vs, Fits x) → nextsO vs (some (formsV vs).dropLast) = none
  | [], h, _ => absurd rfl h
  | [x], _, h => by
    simp only [nextsO, formsV, List.flatMap_cons, List.flatMap_nil, List.append_nil]
    exact next_cut x (h x (by simp))
  | x :: y :: vs, _, h => by
    have hne : (y :: vs).flatMap formV ≠ [] := by rw [List.flatMap_cons]; intro e; exact formV_ne y (List.append_eq_nil_iff.1 e).1
    have ih := nexts_cut (y :: vs) (by simp) (fun z hz => h z (by simp at hz ⊢; right; exact hz))
    unfold formsV at ih ⊢
    rw [List.flatMap_cons, List.dropLast_append_of_ne_nil hne]
    show nextsO (y :: vs) (nextO x.k (some _)) = none
    rw [next_form x _ (h x (by simp))]
    exact ih
theorem len_size (vs : List Val) : vs.length ≤ sizeV vs := by
  induction vs with
  | nil => simp
  | cons x r ih =>
    have e : sizeV (x :: r) = lenV x + sizeV r := by simp [sizeV]
    have : 10 ≤ lenV x := by unfold lenV; omega
    simp only [List.length_cons]
    omega
theorem sizeV_mem {vs : List Val} {x : Val} (h : x ∈ vs) : lenV x ≤ sizeV vs := by
  induction vs with
  | nil => cases h
  | cons y r ih =>
    have e : sizeV (y :: r) = lenV y + sizeV r := by simp [sizeV]
    rcases List.mem_cons.1 h with rfl | h
    · omega
    · have := ih h; omega
theorem forms_drop {vs : List Val} {k : Nat} {x : Val} (h : vs[k]? = some x) : formsV (vs.drop k) = formV x ++ formsV (vs.drop (k + 1)) := by
  obtain ⟨hk, rfl⟩ := List.getElem?_eq_some_iff.1 h
  rw [List.drop_eq_getElem_cons hk, formsV, List.flatMap_cons]
  rfl
theorem numV_form {x : Val} (t : List UInt8) (h0 : x.k % 3 = 0) : numV (some (formV x ++ t)) = (clampN x.n : Int) ∧ numO (some (formV x ++ t)) = some t := by
  unfold formV
  rw [if_pos h0]
  simp only [numV, numO, Option.bind_some]
  rw [numR_num _ _ (by unfold clampN; omega)]
  exact ⟨rfl, rfl⟩
theorem wordV_form {x : Val} (t : List UInt8) (h : Fits x) (h0 : x.k % 3 = 1) : wordV (some (formV x ++ t)) = x.s ∧ wordO (some (formV x ++ t)) = some t := by
  unfold formV
  rw [if_neg (by omega), if_pos h0]
  simp only [wordV, wordO, Option.bind_some]
  rw [wordR_text _ _ (by have := h.1; omega)]
  exact ⟨rfl, rfl⟩
theorem wordsR_form {x : Val} (t : List UInt8) (h : Fits x) (h0 : x.k % 3 = 2) : wordsR (formV x ++ t) = some (x.L, t) := by
  unfold formV
  rw [if_neg (by omega), if_neg (by omega)]
  exact wordsR_texts _ _ (by have := h.2.1; omega) (fun s hs => by have := h.2.2 s hs; omega)
end Go.Proofs.Ytnieoaadhbcjiaa
