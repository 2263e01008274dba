/- In plain Lean: which tokens a written text gives. No condition. -/
import Derived.Test.YtogkiifljdnjgaaDoorTokF
namespace Go.Proofs.YtogkiifljdnjgaaDoor
set_option linter.unusedVariables false
set_option linter.unusedSimpArgs false

theorem tw_all {p : UInt8 → Bool} : ∀ (l r : List UInt8), l.all p = true → (∀ x, r.head? = some x → p x = false) → (l ++ r).takeWhile p = l
  | [], [], _, _ => rfl
  | [], x :: r, _, h => by rw [List.nil_append, List.takeWhile_cons_of_neg (by rw [h x rfl]; decide)]
  | a :: l, r, h, hr => by
    rw [List.all_cons, Bool.and_eq_true] at h
    rw [List.cons_append, List.takeWhile_cons_of_pos h.1, tw_all l r h.2 hr]
abbrev KT := Int × List UInt8
def kt (t : Tok) : KT := (t.kind, t.text)
/-- The text s gives the kinds and texts ts, whatever follows, if its first byte is fit. -/
def Lexes (s : List UInt8) (ts : List KT) (ok : UInt8 → Prop) : Prop :=
  ∀ (rest : List UInt8) (l c : Int), (∀ x, rest.head? = some x → ok x) → ∃ (us : List Tok) (l' c' : Int), us.map kt = ts ∧ splitS (s ++ rest) 0 l c = (splitS rest 0 l' c').map (us ++ ·)
def okW (x : UInt8) : Prop := wordB x = false
def okS (x : UInt8) : Prop := x ≠ 61
def okA (x : UInt8) : Prop := True
theorem Lexes.mono {s : List UInt8} {ts : List KT} {ok ok2 : UInt8 → Prop} (h : Lexes s ts ok) (g : ∀ x, ok2 x → ok x) : Lexes s ts ok2 :=
  fun rest l c hr => h rest l c (fun x hx => g x (hr x hx))
theorem Lexes.nil (ok : UInt8 → Prop) : Lexes [] [] ok := fun rest l c _ => ⟨[], l, c, rfl, by
  rw [List.nil_append]
  cases splitS rest 0 l c <;> simp⟩
/-- One behind the other. -/
theorem Lexes.append {s1 s2 : List UInt8} {t1 t2 : List KT} {ok1 ok2 : UInt8 → Prop} (h1 : Lexes s1 t1 ok1) (h2 : Lexes s2 t2 ok2) (hh : ∀ x, s2.head? = some x → ok1 x) (hn : s2 = [] → ∀ x, ok2 x → ok1 x) : Lexes (s1 ++ s2) (t1 ++ t2) ok2 := by
  intro rest l c hr
  obtain ⟨u1, l1, c1, e1, f1⟩ := h1 (s2 ++ rest) l c (by
    intro x hx
    cases s2 with
    | nil => exact hn rfl x (hr x (by simpa using hx))
    | cons a s2 => exact hh x (by simpa using hx))
  obtain ⟨u2, l2, c2, e2, f2⟩ := h2 rest l1 c1 hr
  refine ⟨u1 ++ u2, l2, c2, by rw [List.map_append, e1, e2], ?_⟩
  rw [List.append_assoc, f1, f2, Option.map_map]
  congr 1
  funext x
  simp
theorem Lexes.cons {s1 s2 : List UInt8} {t1 t2 : List KT} {ok1 ok2 : UInt8 → Prop} (h1 : Lexes s1 t1 ok1) (h2 : Lexes s2 t2 ok2) (x : UInt8) (hx : s2.head? = some x) (hh : ok1 x) : Lexes (s1 ++ s2) (t1 ++ t2) ok2 :=
  h1.append h2 (fun y hy => by rw [hx] at hy; obtain rfl := Option.some.inj hy; exact hh) (fun e => by rw [e] at hx; cases hx)
theorem lex_blank : Lexes [32] [] okA := fun rest l c _ => ⟨[], l, c + 1, rfl, by
  rw [show [(32 : UInt8)] ++ rest = 32 :: rest from rfl, split_blank (.inl rfl)]
  cases splitS rest 0 l (c + 1) <;> simp⟩
theorem lex_nl : Lexes [10] [] okA := fun rest l c _ => ⟨[], l + 1, 1, rfl, by
  rw [show [(10 : UInt8)] ++ rest = 10 :: rest from rfl, split_nl rfl]
  cases splitS rest 0 (l + 1) 1 <;> simp⟩
/-- One token. -/
theorem lex_one {c : UInt8} {r tx : List UInt8} {k : Nat} {ok : UInt8 → Prop} (hp : plainB c) (h : ∀ rest : List UInt8, (∀ x, rest.head? = some x → ok x) → tokP (c :: r ++ rest) = (k, (c :: r).length, tx)) : Lexes (c :: r) [((k : Int), tx)] ok := by
  intro rest l col hr
  have ht := h rest hr
  rw [List.cons_append] at ht ⊢
  refine ⟨[⟨(k : Int), tx, l, col⟩], l, col + ((c :: r).length : Nat), rfl, ?_⟩
  rw [split_tok hp (by rw [ht]; simp), ht]
  dsimp only
  rw [← List.cons_append, List.drop_left]
  rfl
theorem lex_word {c : UInt8} {r : List UInt8} (h : letN c.toNat = true) (hr : r.all wordB = true) : Lexes (c :: r) [(1, c :: r)] okW :=
  lex_one (k := 1) (letN_plain h) fun rest hx => by
    rw [List.cons_append, tokP_word h, tw_all r rest hr (fun x hx' => hx x hx')]
    simp only [List.length_cons, Nat.add_comm]
theorem dig_not_let {c : UInt8} (h : digB c = true) : letN c.toNat = false ∧ plainB c := by
  have hd : 48 ≤ c.toNat ∧ c.toNat ≤ 57 := by simpa [digB, digN] using h
  refine ⟨?_, ?_⟩
  · simp [letN]; omega
  · unfold plainB; omega
theorem lex_num {c : UInt8} {r : List UInt8} (h : (c :: r).all digB = true) (hl : (c :: r).length ≤ 9) : Lexes (c :: r) [(2, c :: r)] okW := by
  rw [List.all_cons, Bool.and_eq_true] at h
  obtain ⟨h1, h2⟩ := dig_not_let h.1
  simp only [List.length_cons] at hl
  refine lex_one (k := 2) h2 fun rest hx => ?_
  have ht := tw_all r rest h.2 (fun x hx' => by
    have := hx x hx'
    unfold okW wordB at this
    rw [Bool.or_eq_false_iff] at this
    exact this.2)
  rw [List.cons_append, tokP_dig h1 h.1 (by rw [ht]; omega), ht]
  simp only [List.length_cons, Nat.add_comm]
theorem quoP_end (rest : List UInt8) (i : Nat) (out : List UInt8) : quoP (34 :: rest) i out = (i + 1, out) := by
  unfold quoP
  rw [if_pos (by decide)]
theorem quoP_esc {c : UInt8} (h : c.toNat = 34 ∨ c.toNat = 92) (rest : List UInt8) (i : Nat) (out : List UInt8) : quoP (92 :: c :: rest) i out = quoP rest (i + 2) (out ++ [c]) := by
  conv => lhs; unfold quoP
  rw [if_neg (by decide), if_pos (by decide)]
  dsimp only
  rw [if_pos h]
theorem quoP_one {c : UInt8} (h : ¬ (c.toNat = 34 ∨ c.toNat = 92)) (hc : ¬ c.toNat < 32 ∧ ¬ 126 < c.toNat) (rest : List UInt8) (i : Nat) (out : List UInt8) : quoP (c :: rest) i out = quoP rest (i + 1) (out ++ [c]) := by
  conv => lhs; unfold quoP
  rw [if_neg (by omega), if_neg (by omega), if_neg (by omega)]
theorem quo_esc : ∀ (tx rest : List UInt8) (i : Nat) (out : List UInt8), tx.all okB = true → quoP (tx.flatMap escB ++ 34 :: rest) i out = (i + (tx.flatMap escB).length + 1, out ++ tx)
  | [], rest, i, out, _ => by rw [List.flatMap_nil, List.nil_append, quoP_end]; simp
  | c :: tx, rest, i, out, h => by
    rw [List.all_cons, Bool.and_eq_true] at h
    have hc : ¬ c.toNat < 32 ∧ ¬ 126 < c.toNat := by simpa [okB] using h.1
    rw [List.flatMap_cons]
    by_cases hq : c.toNat = 34 ∨ c.toNat = 92
    · rw [show escB c = [92, c] by rw [escB, if_pos hq]]
      rw [List.append_assoc, show [92, c] ++ (tx.flatMap escB ++ 34 :: rest) = 92 :: c :: (tx.flatMap escB ++ 34 :: rest) from rfl, quoP_esc hq, quo_esc tx rest (i + 2) (out ++ [c]) h.2]
      simp
      omega
    · rw [show escB c = [c] by rw [escB, if_neg hq]]
      rw [List.append_assoc, show [c] ++ (tx.flatMap escB ++ 34 :: rest) = c :: (tx.flatMap escB ++ 34 :: rest) from rfl, quoP_one hq hc, quo_esc tx rest (i + 1) (out ++ [c]) h.2]
      simp
      omega
theorem lex_str {tx : List UInt8} (h : tx.all okB = true) : Lexes (quoL tx) [(3, tx)] okA := by
  have e : quoL tx = 34 :: (tx.flatMap escB ++ [34]) := rfl
  rw [e]
  refine lex_one (k := 3) (by unfold plainB; decide) fun rest _ => ?_
  rw [List.cons_append, tokP_quo (by decide) (by decide) rfl, List.append_assoc, show [(34 : UInt8)] ++ rest = 34 :: rest from rfl, quo_esc tx rest 1 [] h]
  simp
  omega
theorem lex_sign {g : List UInt8} (h : g ∈ signs) : Lexes g [(4, g)] okS := by
  have key : ∀ (c : UInt8) (r : List UInt8), letN c.toNat = false → digN c.toNat = false → c.toNat ≠ 34 → plainB c → (∀ rest : List UInt8, (∀ x, rest.head? = some x → okS x) → signP (c :: r ++ rest) = some (c :: r)) → Lexes (c :: r) [(4, c :: r)] okS := by
    intro c r h0 h1 h2 h3 h4
    refine lex_one (k := 4) h3 fun rest hx => ?_
    have := h4 rest hx
    rw [List.cons_append] at this ⊢
    rw [tokP_sign h0 h1 h2 this]
  have hb : ∀ rest : List UInt8, (∀ x, rest.head? = some x → okS x) → ([61] : List UInt8).isPrefixOf rest = false := by
    intro rest hx
    cases rest with
    | nil => rfl
    | cons y r =>
      have : y ≠ 61 := hx y rfl
      simp [List.isPrefixOf, Ne.symm this]
  simp only [signs, List.mem_cons, List.not_mem_nil, or_false] at h
  rcases h with rfl | rfl | rfl | rfl | rfl | rfl | rfl | rfl | rfl | rfl | rfl | rfl | rfl | rfl <;>
    exact key _ _ (by decide) (by decide) (by decide) (by unfold plainB; decide) (fun rest hx => by have := hb rest hx; cases rest with | nil => simp [signP, signs, List.find?, List.isPrefixOf] | cons y t => have hy : ((61 : UInt8) == y) = false := beq_eq_false_iff_ne.2 (Ne.symm (hx y rfl)); simp [signP, signs, List.find?, List.isPrefixOf, hy])
/-- A sign that is no beginning of another one. -/
theorem lex_signA {g : List UInt8} (h : g ∈ signs) (h1 : g ≠ [60]) (h2 : g ≠ [61]) : Lexes g [(4, g)] okA := by
  have key : ∀ (c : UInt8) (r : List UInt8), letN c.toNat = false → digN c.toNat = false → c.toNat ≠ 34 → plainB c → (∀ rest : List UInt8, signP (c :: r ++ rest) = some (c :: r)) → Lexes (c :: r) [(4, c :: r)] okA := by
    intro c r h0 h1 h2 h3 h4
    refine lex_one (k := 4) h3 fun rest hx => ?_
    have := h4 rest
    rw [List.cons_append] at this ⊢
    rw [tokP_sign h0 h1 h2 this]
  simp only [signs, List.mem_cons, List.not_mem_nil, or_false] at h
  rcases h with rfl | rfl | rfl | rfl | rfl | rfl | rfl | rfl | rfl | rfl | rfl | rfl | rfl | rfl <;>
    first
      | exact absurd rfl h1
      | exact absurd rfl h2
      | exact key _ _ (by decide) (by decide) (by decide) (by unfold plainB; decide) (fun rest => by simp [signP, signs, List.find?, List.isPrefixOf])
end Go.Proofs.YtogkiifljdnjgaaDoor
