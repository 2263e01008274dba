/- In plain Lean: the canonical text of a program gives tokens that the grammar derives. Condition: a valid one. -/
import Derived.Test.YtogkiifljdnjgaaDoorDer
import Derived.Test.YtogkiifljdnjgaaDoorLineP
namespace Go.Proofs.YtogkiifljdnjgaaDoor
set_option linter.unusedVariables false
set_option linter.unusedSimpArgs false

/-- A text whose tokens give a tree. -/
structure WE (c : Cat) (ok : UInt8 → Prop) (s : List UInt8) (t : Tree) : Prop where
  der : ∃ ks, Der c ks t ∧ Lexes s ks ok
  hd : ∃ x r, s = x :: r ∧ x ≠ 61
theorem WE.map {c d : Cat} {ok : UInt8 → Prop} {s : List UInt8} {t u : Tree} (h : WE c ok s t) (f : ∀ ks, Der c ks t → Der d ks u) : WE d ok s u := by
  obtain ⟨⟨ks, h1, h2⟩, h3⟩ := h
  exact ⟨⟨ks, f ks h1, h2⟩, h3⟩
theorem WE.mono {c : Cat} {ok ok2 : UInt8 → Prop} {s : List UInt8} {t : Tree} (h : WE c ok s t) (g : ∀ x, ok2 x → ok x) : WE c ok2 s t := by
  obtain ⟨⟨ks, h1, h2⟩, h3⟩ := h
  exact ⟨⟨ks, h1, h2.mono g⟩, h3⟩
/-- The category of a level. -/
def catL (i : Int) : Cat := if i = 1 then .expr else if i = 2 then .conj else if i = 3 then .neg else if i = 4 then .comp else if i = 5 then .sum else if i = 6 then .prod else .atom
theorem up6 {ok : UInt8 → Prop} {s : List UInt8} {t : Tree} (h : WE .atom ok s t) : WE .prod ok s t := h.map fun _ => .p1
theorem up5 {ok : UInt8 → Prop} {s : List UInt8} {t : Tree} (h : WE .prod ok s t) : WE .sum ok s t := h.map fun _ => .s1
theorem up4 {ok : UInt8 → Prop} {s : List UInt8} {t : Tree} (h : WE .sum ok s t) : WE .comp ok s t := h.map fun _ => .m1
theorem up3 {ok : UInt8 → Prop} {s : List UInt8} {t : Tree} (h : WE .comp ok s t) : WE .neg ok s t := h.map fun _ => .n1
theorem up2 {ok : UInt8 → Prop} {s : List UInt8} {t : Tree} (h : WE .neg ok s t) : WE .conj ok s t := h.map fun _ => .c1
theorem up1 {ok : UInt8 → Prop} {s : List UInt8} {t : Tree} (h : WE .conj ok s t) : WE .expr ok s t := h.map fun _ => .e1
theorem catL_1 : catL 1 = .expr := by simp [catL]
theorem catL_2 : catL 2 = .conj := by simp [catL]
theorem catL_3 : catL 3 = .neg := by simp [catL]
theorem catL_4 : catL 4 = .comp := by simp [catL]
theorem catL_5 : catL 5 = .sum := by simp [catL]
theorem catL_6 : catL 6 = .prod := by simp [catL]
theorem catL_7 : catL 7 = .atom := by simp [catL]
theorem up_all {ok : UInt8 → Prop} {s : List UInt8} {t : Tree} {i j : Int} (h1 : 1 ≤ i) (h : i ≤ j) (h7 : j ≤ 7) (hw : WE (catL j) ok s t) : WE (catL i) ok s t := by
  have hj : j = 1 ∨ j = 2 ∨ j = 3 ∨ j = 4 ∨ j = 5 ∨ j = 6 ∨ j = 7 := by omega
  have hi : i = 1 ∨ i = 2 ∨ i = 3 ∨ i = 4 ∨ i = 5 ∨ i = 6 ∨ i = 7 := by omega
  rcases hj with rfl | rfl | rfl | rfl | rfl | rfl | rfl <;> rcases hi with rfl | rfl | rfl | rfl | rfl | rfl | rfl <;>
    first
      | (exfalso; omega)
      | (simp only [catL_1, catL_2, catL_3, catL_4, catL_5, catL_6, catL_7] at hw ⊢
         first
           | exact hw
           | exact up6 hw
           | exact up5 hw
           | exact up4 hw
           | exact up3 hw
           | exact up2 hw
           | exact up1 hw
           | exact up5 (up6 hw)
           | exact up4 (up5 hw)
           | exact up3 (up4 hw)
           | exact up2 (up3 hw)
           | exact up1 (up2 hw)
           | exact up4 (up5 (up6 hw))
           | exact up3 (up4 (up5 hw))
           | exact up2 (up3 (up4 hw))
           | exact up1 (up2 (up3 hw))
           | exact up3 (up4 (up5 (up6 hw)))
           | exact up2 (up3 (up4 (up5 hw)))
           | exact up1 (up2 (up3 (up4 hw)))
           | exact up2 (up3 (up4 (up5 (up6 hw))))
           | exact up1 (up2 (up3 (up4 (up5 hw))))
           | exact up1 (up2 (up3 (up4 (up5 (up6 hw))))))
theorem level_in (k : Int) : 1 ≤ levelP k ∧ levelP k ≤ 7 := by
  unfold levelP
  repeat' split
  all_goals decide
theorem lex_lpar : Lexes [40] [(4, [40])] okA := lex_signA (by decide) (by decide) (by decide)
theorem lex_rpar : Lexes [41] [(4, [41])] okA := lex_signA (by decide) (by decide) (by decide)
/-- In parentheses. -/
theorem we_par {ok : UInt8 → Prop} {s : List UInt8} {t : Tree} (h : WE .expr ok s t) (hk : ok 41) : WE .atom okA (40 :: (s ++ [41])) t := by
  obtain ⟨⟨ks, h1, h2⟩, x, r, h3, h4⟩ := h
  refine ⟨⟨_, .par h1, ?_⟩, 40, _, rfl, by decide⟩
  exact Lexes.cons lex_lpar (Lexes.cons h2 lex_rpar 41 rfl hk) x (by rw [h3]; rfl) trivial
theorem we_bound {s : List UInt8} {t : Tree} (i : Int) (h1 : 1 ≤ i) (h7 : i ≤ 7) (h : WE (catL (levelP t.kind)) okW s t) : WE (catL i) okW (parL i (levelP t.kind, s)) t := by
  obtain ⟨l1, l7⟩ := level_in t.kind
  unfold parL
  dsimp only
  split
  · have he : WE .expr okW s t := by rw [← catL_1]; exact up_all (by omega) l1 l7 h
    refine up_all h1 h7 (by omega) ?_
    rw [catL_7]
    exact (we_par he (by unfold okW; decide)).mono fun _ _ => trivial
  · exact up_all h1 (by omega) l7 h
/-- Two operands. -/
theorem we_in {cA cB c : Cat} {ok1 ok2 ok3 : UInt8 → Prop} {A B op : List UInt8} {x y t : Tree} {h : KT} (hA : WE cA ok1 A x) (hB : WE cB ok3 B y) (ho : Lexes op [h] ok2) (h1 : ∃ z r, op = z :: r ∧ ok1 z) (h2 : ∀ z r, B = z :: r → z ≠ 61 → ok2 z)
    (hd : ∀ a b, Der cA a x → Der cB b y → Der c (a ++ h :: b) t) : WE c ok3 (A ++ (op ++ B)) t := by
  obtain ⟨⟨ka, a1, a2⟩, xa, ra, rfl, a4⟩ := hA
  obtain ⟨⟨kb, b1, b2⟩, xb, rb, rfl, b4⟩ := hB
  obtain ⟨z, r, rfl, hz⟩ := h1
  refine ⟨⟨_, hd ka kb a1 b1, ?_⟩, xa, _, rfl, a4⟩
  refine Lexes.cons a2 (t2 := h :: kb) ?_ z rfl hz
  exact Lexes.cons (t1 := [h]) ho b2 xb rfl (h2 xb rb rfl b4)
theorem okW_32 : okW 32 := by unfold okW; decide
theorem lex_sp {w : List UInt8} {h : KT} {ok : UInt8 → Prop} (hw : Lexes w [h] ok) (h32 : ok 32) : Lexes (32 :: (w ++ [32])) [h] okA := by
  have h1 : Lexes (w ++ [32]) ([h] ++ []) okA := Lexes.cons hw lex_blank 32 rfl h32
  cases hwc : w with
  | nil =>
    subst hwc
    have := Lexes.append (s1 := [32]) lex_blank h1 (fun _ _ => trivial) (fun _ _ _ => trivial)
    exact this
  | cons a r =>
    subst hwc
    exact Lexes.append (s1 := [32]) lex_blank h1 (fun _ _ => trivial) (fun _ _ _ => trivial)
theorem we_leaf {s : List UInt8} {h : KT} {t : Tree} {ok : UInt8 → Prop} (hl : Lexes s [h] ok) (hd : Der .atom [h] t) (hh : ∃ x r, s = x :: r ∧ x ≠ 61) : WE .atom ok s t := ⟨⟨_, hd, hl⟩, hh⟩
/-- What a name is. -/
theorem named_parts {tx : List UInt8} (h : namedP tx = true) : ∃ c r, tx = c :: r ∧ letN c.toNat = true ∧ r.all wordB = true ∧ tx ∉ kws := by
  have hl : tx.length ≤ 4096 := by
    by_cases e : tx.length ≤ 4096
    · exact e
    · rw [namedP_large e] at h; cases h
  cases hs : splitT tx with
  | none => rw [namedP_none hs] at h; cases h
  | some es =>
    by_cases hn : es.length = 2
    rotate_left
    · rw [namedP_other hs hn] at h; cases h
    obtain ⟨a, b, rfl⟩ : ∃ a b, es = [a, b] := by
      rcases es with _ | ⟨a, _ | ⟨b, _ | ⟨c, r⟩⟩⟩ <;> simp at hn
      exact ⟨a, b, rfl⟩
    rw [namedP_two hl hs] at h
    simp only [Bool.and_eq_true, beq_iff_eq, Bool.not_eq_true', decide_eq_false_iff_not] at h
    obtain ⟨h1, h2, h3⟩ := h
    have hword : ∀ (s : List UInt8) (k : Nat) (l c : Int) (ts : List Tok), splitS s k l c = some ts → ∀ u ∈ ts, u.kind = 1 → ∃ c r, u.text = c :: r ∧ letN c.toNat = true ∧ r.all wordB = true := by
      intro s
      induction s with
      | nil =>
        intro k l c ts hs u hu hk
        cases k <;> simp only [splitS, Option.some.injEq] at hs <;> subst hs <;> obtain rfl := List.mem_singleton.1 hu <;> simp at hk
      | cons x r ih =>
        intro k l c ts hs u hu hk
        cases k with
        | succ k => rw [splitS] at hs; exact ih _ _ _ _ hs u hu hk
        | zero =>
          rw [splitS] at hs
          split at hs
          · exact ih _ _ _ _ hs u hu hk
          split at hs
          · exact ih _ _ _ _ hs u hu hk
          split at hs
          · exact ih _ _ _ _ hs u hu hk
          split at hs
          · cases hs
          obtain ⟨ts', h', rfl⟩ := Option.map_eq_some_iff.1 hs
          rcases List.mem_cons.1 hu with rfl | hu
          · dsimp only at hk ⊢
            cases hx : letN x.toNat with
            | true =>
              rw [tokP_word hx]
              exact ⟨x, _, rfl, hx, takeWhile_all r⟩
            | false =>
              exfalso
              rw [tokP, if_neg (by rw [hx]; decide)] at hk
              split at hk
              · split at hk <;> simp at hk
              split at hk
              · simp at hk
              split at hk <;> simp at hk
          · exact ih _ _ _ _ h' u hu hk
    obtain ⟨c, r, g1, g2, g3⟩ := hword _ _ _ _ _ hs a (by simp) h1
    rw [h2] at g1
    exact ⟨c, r, g1, g2, g3, h3⟩
theorem letN_61 {c : UInt8} (h : letN c.toNat = true) : c ≠ 61 := by
  rintro rfl
  exact absurd h (by decide)
theorem lex_name {tx : List UInt8} (h : namedP tx = true) : Lexes tx [(1, tx)] okW ∧ (∃ x r, tx = x :: r ∧ x ≠ 61) ∧ tx ∉ kws := by
  obtain ⟨c, r, rfl, h1, h2, h3⟩ := named_parts h
  exact ⟨lex_word h1 h2, ⟨c, r, rfl, letN_61 h1⟩, h3⟩
theorem lex_kw {c : UInt8} {r : List UInt8} (h : (letN c.toNat && r.all wordB) = true) : Lexes (c :: r) [(1, c :: r)] okW := by
  rw [Bool.and_eq_true] at h
  exact lex_word h.1 h.2
theorem cmp_lex {tx : List UInt8} (h : (cmpW 4 tx || cmpW 1 tx) = true) : ∃ k, cmpW k tx = true ∧ ∃ ok : UInt8 → Prop, ok 32 ∧ ok 40 ∧ Lexes tx [(k, tx)] ok := by
  by_cases h4 : tx = [61, 61] ∨ tx = [33, 61] ∨ tx = [60] ∨ tx = [60, 61]
  · refine ⟨4, by unfold cmpW; rw [if_pos h4]; rfl, okS, by unfold okS; decide, by unfold okS; decide, lex_sign ?_⟩
    rcases h4 with rfl | rfl | rfl | rfl <;> decide
  · by_cases h1 : tx = [115, 116, 97, 114, 116, 115] ∨ tx = [101, 110, 100, 115] ∨ tx = [99, 111, 110, 116, 97, 105, 110, 115]
    · refine ⟨1, by unfold cmpW; rw [if_neg h4, if_pos h1]; rfl, okW, okW_32, by unfold okW; decide, ?_⟩
      rcases h1 with rfl | rfl | rfl <;> exact lex_kw (by decide)
    · unfold cmpW at h
      rw [if_neg h4, if_neg h1, if_neg h4, if_neg h1] at h
      cases h
theorem cmp_ne {tx : List UInt8} (h : (cmpW 4 tx || cmpW 1 tx) = true) : tx ≠ [] := by
  rintro rfl
  exact absurd h (by decide)
theorem lex_digits {tx : List UInt8} (h : digitsP tx = true) : Lexes tx [(2, tx)] okW ∧ ∃ x r, tx = x :: r ∧ x ≠ 61 := by
  unfold digitsP at h
  rw [Bool.and_eq_true, decide_eq_true_iff] at h
  obtain ⟨h1, h2, h3⟩ := h
  cases tx with
  | nil => simp at h2
  | cons c r =>
    refine ⟨lex_num h1 h3, c, r, rfl, ?_⟩
    rintro rfl
    rw [List.all_cons, Bool.and_eq_true] at h1
    exact absurd h1.1 (by decide)
/-- The arguments of a call. -/
def argT (ls : List (List UInt8)) : List UInt8 := joinP ls ++ [41]
theorem we_args : ∀ (ls : List (List UInt8)) (ts : List Tree), ls.length = ts.length → ts ≠ [] → (∀ (i : Nat) (s : List UInt8) (t : Tree), ls[i]? = some s → ts[i]? = some t → WE .expr okW s t) → WE .argl okA (argT ls) (lst ts)
  | [], [], _, h, _ => absurd rfl h
  | [a], [x], _, _, h => by
    obtain ⟨⟨ka, a1, a2⟩, xa, ra, rfl, a4⟩ := h 0 a x rfl rfl
    refine ⟨⟨_, .l1 a1, ?_⟩, xa, _, rfl, a4⟩
    exact Lexes.cons a2 lex_rpar 41 rfl (by unfold okW; decide)
  | a :: b :: ls, x :: y :: ts, hl, _, h => by
    have ih := we_args (b :: ls) (y :: ts) (by simpa using hl) (by simp) (fun i s t hs ht => h (i + 1) s t (by simpa using hs) (by simpa using ht))
    obtain ⟨⟨ka, a1, a2⟩, xa, ra, hxa, a4⟩ := h 0 a x rfl rfl
    obtain ⟨⟨kb, b1, b2⟩, xb, rb, hb, b4⟩ := ih
    refine ⟨⟨_, .l2 a1 b1, ?_⟩, xa, ra ++ (44 :: 32 :: argT (b :: ls)), by rw [argT, argT, joinP, hxa]; simp, a4⟩
    rw [argT, joinP, List.append_assoc]
    refine Lexes.cons a2 (t2 := (4, [44]) :: kb) ?_ 44 rfl (by unfold okW; decide)
    show Lexes ([44] ++ ([32] ++ argT (b :: ls))) ([(4, [44])] ++ ([] ++ kb)) okA
    have hc : Lexes [44] [(4, [44])] okA := lex_signA (by decide) (by decide) (by decide)
    exact hc.append (lex_blank.append b2 (fun _ _ => trivial) (fun _ _ _ => trivial)) (fun _ _ => trivial) (fun _ _ _ => trivial)
  | [], _ :: _, hl, _, _ => by simp at hl
  | [_], [], hl, _, _ => by simp at hl
  | [_], _ :: _ :: _, hl, _, _ => by simp at hl
  | _ :: _ :: _, [], hl, _, _ => by simp at hl
  | _ :: _ :: _, [_], hl, _, _ => by simp at hl
theorem we_call {tx : List UInt8} {ls : List (List UInt8)} {ts : List Tree} {l : Int} (hn : namedP tx = true) (hl : ls.length = ts.length) (h : ∀ (i : Nat) (s : List UInt8) (t : Tree), ls[i]? = some s → ts[i]? = some t → WE .expr okW s t) : WE .atom okW (tx ++ (40 :: (joinP ls ++ [41]))) (.node 24 tx ts l) := by
  obtain ⟨g1, ⟨x, r, g2, g3⟩, g4⟩ := lex_name hn
  have key : ∀ (s : List UInt8) (ks : List KT) (u : Tree), Der .args ks u → Lexes s ks okA → WE .atom okW (tx ++ (40 :: s)) (.node 24 tx u.kids l) := by
    intro s ks u hd hx
    refine ⟨⟨_, .call g4 hd, ?_⟩, x, r ++ (40 :: s), by rw [g2]; rfl, g3⟩
    refine Lexes.cons (t1 := [(1, tx)]) g1 (t2 := (4, [40]) :: ks) ?_ 40 rfl (by unfold okW; decide)
    exact lex_lpar.append (hx.mono (fun _ _ => trivial)) (fun _ _ => trivial) (fun _ _ _ => trivial)
  cases ts with
  | nil =>
    obtain rfl := List.eq_nil_of_length_eq_zero hl
    exact key [41] _ (lst []) .a0 lex_rpar
  | cons t ts =>
    obtain ⟨⟨ks, h1, h2⟩, _⟩ := we_args ls (t :: ts) hl (by simp) h
    exact key _ ks (lst (t :: ts)) (.a1 h1) h2
end Go.Proofs.YtogkiifljdnjgaaDoor

namespace Go.Proofs.YtogkiifljdnjgaaDoor
set_option linter.unusedVariables false
set_option linter.unusedSimpArgs false

theorem writL_map : ∀ ts : List Tree, writL ts = ts.map (fun t => (levelP t.kind, writP t))
  | [] => by rw [writL_nil]; rfl
  | t :: ts => by rw [writL_cons, writL_map ts]; rfl
theorem ar_n {m : Int} {ks : List Tree} (h0 : 0 ≤ m) (h : arOK m ks.length = true) : (ks.length : Int) = m := by
  unfold arOK at h
  rw [Bool.and_eq_true, Bool.or_eq_true, decide_eq_true_iff, decide_eq_true_iff, decide_eq_true_iff] at h
  rcases h.2 with h | h
  · omega
  · exact h
theorem ar_bad {n : Nat} : ¬ arOK (-2) n = true := by simp [arOK]
theorem ar_2 {ks : List Tree} {c : Prop} [Decidable c] (h : arOK (if c then 2 else -2) ks.length = true) : c ∧ ∃ x y, ks = [x, y] := by
  split at h
  · rename_i hc
    have := ar_n (by decide) h
    rcases ks with _ | ⟨a, _ | ⟨b, _ | ⟨d, r⟩⟩⟩ <;> simp only [List.length_cons, List.length_nil] at this <;> first | omega | exact ⟨hc, _, _, rfl⟩
  · exact absurd h ar_bad
theorem ar_1 {ks : List Tree} {c : Prop} [Decidable c] (h : arOK (if c then 1 else -2) ks.length = true) : c ∧ ∃ x, ks = [x] := by
  split at h
  · rename_i hc
    have := ar_n (by decide) h
    rcases ks with _ | ⟨a, _ | ⟨b, r⟩⟩ <;> simp only [List.length_cons, List.length_nil] at this <;> first | omega | exact ⟨hc, _, rfl⟩
  · exact absurd h ar_bad
theorem ar_0 {ks : List Tree} {c : Prop} [Decidable c] (h : arOK (if c then 0 else -2) ks.length = true) : c ∧ ks = [] := by
  split at h
  · rename_i hc
    have := ar_n (by decide) h
    exact ⟨hc, List.eq_nil_of_length_eq_zero (by omega)⟩
  · exact absurd h ar_bad
theorem ar_m {ks : List Tree} {c : Prop} [Decidable c] (h : arOK (if c then -1 else -2) ks.length = true) : c := by
  split at h
  · assumption
  · exact absurd h ar_bad
/-- What kinds an expression has. -/
inductive ExK : Int → List UInt8 → List Tree → Prop
  | or x y : ExK 13 [] [x, y]
  | and x y : ExK 14 [] [x, y]
  | not x : ExK 15 [] [x]
  | cmp tx x y : (cmpW 4 tx || cmpW 1 tx) = true → ExK 16 tx [x, y]
  | add x y : ExK 17 [] [x, y]
  | sub x y : ExK 18 [] [x, y]
  | mul x y : ExK 19 [] [x, y]
  | num tx : digitsP tx = true → ExK 20 tx []
  | str tx : tx.all okB = true → ExK 21 tx []
  | boo tx : boolP tx = true → ExK 22 tx []
  | nam tx : namedP tx = true → ExK 23 tx []
  | call tx ks : namedP tx = true → ExK 24 tx ks
theorem ex_kinds {k : Int} {tx : List UInt8} {ks : List Tree} (h : arOK (operandsP k tx) ks.length = true) : ExK k tx ks := by
  unfold operandsP at h
  split at h
  · rename_i hk
    obtain ⟨rfl, x, y, rfl⟩ := ar_2 h
    rcases hk with rfl | rfl | rfl | rfl | rfl
    · exact .or x y
    · exact .and x y
    · exact .add x y
    · exact .sub x y
    · exact .mul x y
  split at h
  · rename_i hk
    subst hk
    obtain ⟨rfl, x, rfl⟩ := ar_1 h
    exact .not x
  split at h
  · rename_i hk
    subst hk
    obtain ⟨hc, x, y, rfl⟩ := ar_2 h
    exact .cmp tx x y hc
  split at h
  · rename_i hk
    subst hk
    obtain ⟨hc, rfl⟩ := ar_0 h
    exact .num tx hc
  split at h
  · rename_i hk
    subst hk
    obtain ⟨hc, rfl⟩ := ar_0 h
    exact .str tx hc
  split at h
  · rename_i hk
    subst hk
    obtain ⟨hc, rfl⟩ := ar_0 h
    exact .boo tx hc
  split at h
  · rename_i hk
    subst hk
    obtain ⟨hc, rfl⟩ := ar_0 h
    exact .nam tx hc
  split at h
  · rename_i hk
    subst hk
    exact .call tx ks (ar_m h)
  · exact absurd h ar_bad
theorem boo_parts {tx : List UInt8} (h : boolP tx = true) : tx = [116, 114, 117, 101] ∨ tx = [102, 97, 108, 115, 101] := by
  unfold boolP at h
  simpa using h
theorem lev_13 : levelP 13 = 1 := by decide
theorem lev_14 : levelP 14 = 2 := by decide
theorem lev_15 : levelP 15 = 3 := by decide
theorem lev_16 : levelP 16 = 4 := by decide
theorem lev_17 : levelP 17 = 5 := by decide
theorem lev_18 : levelP 18 = 5 := by decide
theorem lev_19 : levelP 19 = 6 := by decide
theorem lev_20 : levelP 20 = 7 := by decide
theorem lev_21 : levelP 21 = 7 := by decide
theorem lev_22 : levelP 22 = 7 := by decide
theorem lev_23 : levelP 23 = 7 := by decide
theorem lev_24 : levelP 24 = 7 := by decide
def WT (t : Tree) : Prop := WE (catL (levelP t.kind)) okW (writP t) t
theorem asm_we {k : Int} {tx : List UInt8} {ks : List Tree} {l : Int} (h : ExK k tx ks) (hk : ∀ t ∈ ks, WT t) : WE (catL (levelP k)) okW (asmP k tx (writL ks)) (.node k tx ks l) := by
  rw [writL_map]
  cases h with
  | or x y =>
    rw [lev_13, catL_1]
    refine we_in (cA := .expr) (cB := .conj) (ok1 := okW) (ok2 := okA) (h := (1, [111, 114])) (A := parL 1 (levelP x.kind, writP x)) (B := parL 2 (levelP y.kind, writP y)) (op := [32, 111, 114, 32]) ?_ ?_ (lex_sp (w := [111, 114]) (lex_kw (by decide)) okW_32) ⟨_, _, rfl, okW_32⟩ (fun _ _ _ _ => trivial) (fun a b g1 g2 => .e2 g1 g2)
    · have := we_bound 1 (by decide) (by decide) (hk x (by simp)); rwa [catL_1] at this
    · have := we_bound 2 (by decide) (by decide) (hk y (by simp)); rwa [catL_2] at this
  | and x y =>
    rw [lev_14, catL_2]
    refine we_in (cA := .conj) (cB := .neg) (ok1 := okW) (ok2 := okA) (h := (1, [97, 110, 100])) (A := parL 2 (levelP x.kind, writP x)) (B := parL 3 (levelP y.kind, writP y)) (op := [32, 97, 110, 100, 32]) ?_ ?_ (lex_sp (w := [97, 110, 100]) (lex_kw (by decide)) okW_32) ⟨_, _, rfl, okW_32⟩ (fun _ _ _ _ => trivial) (fun a b g1 g2 => .c2 g1 g2)
    · have := we_bound 2 (by decide) (by decide) (hk x (by simp)); rwa [catL_2] at this
    · have := we_bound 3 (by decide) (by decide) (hk y (by simp)); rwa [catL_3] at this
  | not x =>
    rw [lev_15, catL_3]
    have hx := we_bound 3 (by decide) (by decide) (hk x (by simp))
    rw [catL_3] at hx
    obtain ⟨⟨kx, a1, a2⟩, xa, ra, a3, a4⟩ := hx
    refine ⟨⟨_, .n2 a1, ?_⟩, 110, _, rfl, by decide⟩
    show Lexes ([110, 111, 116] ++ ([32] ++ parL 3 (levelP x.kind, writP x))) ([(1, [110, 111, 116])] ++ ([] ++ kx)) okW
    exact Lexes.cons (lex_kw (by decide)) (lex_blank.append a2 (fun _ _ => trivial) (fun _ _ _ => trivial)) 32 rfl okW_32
  | cmp tx x y hc =>
    rw [lev_16, catL_4]
    obtain ⟨kc, hkc, ok, ok32, ok40, hlex⟩ := cmp_lex hc
    refine we_in (cA := .sum) (cB := .sum) (ok1 := okW) (ok2 := okA) (h := (kc, tx)) (A := parL 5 (levelP x.kind, writP x)) (B := parL 5 (levelP y.kind, writP y)) (op := 32 :: (tx ++ [32])) ?_ ?_ (lex_sp hlex ok32) ⟨_, _, rfl, okW_32⟩ (fun _ _ _ _ => trivial) (fun a b g1 g2 => .m2 hkc g1 g2)
    · have := we_bound 5 (by decide) (by decide) (hk x (by simp)); rwa [catL_5] at this
    · have := we_bound 5 (by decide) (by decide) (hk y (by simp)); rwa [catL_5] at this
  | add x y =>
    rw [lev_17, catL_5]
    refine we_in (cA := .sum) (cB := .prod) (ok1 := okW) (ok2 := okA) (h := (4, [43])) (A := parL 5 (levelP x.kind, writP x)) (B := parL 6 (levelP y.kind, writP y)) (op := [32, 43, 32]) ?_ ?_ (lex_sp (w := [43]) (lex_signA (by decide) (by decide) (by decide)) trivial) ⟨_, _, rfl, okW_32⟩ (fun _ _ _ _ => trivial) (fun a b g1 g2 => .s2 g1 g2)
    · have := we_bound 5 (by decide) (by decide) (hk x (by simp)); rwa [catL_5] at this
    · have := we_bound 6 (by decide) (by decide) (hk y (by simp)); rwa [catL_6] at this
  | sub x y =>
    rw [lev_18, catL_5]
    refine we_in (cA := .sum) (cB := .prod) (ok1 := okW) (ok2 := okA) (h := (4, [45])) (A := parL 5 (levelP x.kind, writP x)) (B := parL 6 (levelP y.kind, writP y)) (op := [32, 45, 32]) ?_ ?_ (lex_sp (w := [45]) (lex_signA (by decide) (by decide) (by decide)) trivial) ⟨_, _, rfl, okW_32⟩ (fun _ _ _ _ => trivial) (fun a b g1 g2 => .s3 g1 g2)
    · have := we_bound 5 (by decide) (by decide) (hk x (by simp)); rwa [catL_5] at this
    · have := we_bound 6 (by decide) (by decide) (hk y (by simp)); rwa [catL_6] at this
  | mul x y =>
    rw [lev_19, catL_6]
    refine we_in (cA := .prod) (cB := .atom) (ok1 := okW) (ok2 := okA) (h := (4, [42])) (A := parL 6 (levelP x.kind, writP x)) (B := parL 7 (levelP y.kind, writP y)) (op := [32, 42, 32]) ?_ ?_ (lex_sp (w := [42]) (lex_signA (by decide) (by decide) (by decide)) trivial) ⟨_, _, rfl, okW_32⟩ (fun _ _ _ _ => trivial) (fun a b g1 g2 => .p2 g1 g2)
    · have := we_bound 6 (by decide) (by decide) (hk x (by simp)); rwa [catL_6] at this
    · have := we_bound 7 (by decide) (by decide) (hk y (by simp)); rwa [catL_7] at this
  | num tx h =>
    rw [lev_20, catL_7]
    exact we_leaf (lex_digits h).1 .num (lex_digits h).2
  | str tx h =>
    rw [lev_21, catL_7]
    exact we_leaf ((lex_str h).mono fun _ _ => trivial) .str ⟨34, _, rfl, by decide⟩
  | boo tx h =>
    rw [lev_22, catL_7]
    have hb := boo_parts h
    refine we_leaf (h := (1, tx)) ?_ (.boo hb) ?_
    · rcases hb with rfl | rfl <;> exact lex_kw (by decide)
    · rcases hb with rfl | rfl <;> exact ⟨_, _, rfl, by decide⟩
  | nam tx h =>
    rw [lev_23, catL_7]
    obtain ⟨g1, g2, g3⟩ := lex_name h
    exact we_leaf g1 (.nam g3) g2
  | call tx ks h =>
    rw [lev_24, catL_7]
    show WE .atom okW (tx ++ (40 :: (joinP ((ks.map (fun t => (levelP t.kind, writP t))).map (·.2)) ++ [41]))) _
    rw [List.map_map]
    refine we_call h (by simp) ?_
    intro i s t hs ht
    rw [List.getElem?_map, ht] at hs
    simp only [Option.map_some, Function.comp, Option.some.injEq] at hs
    subst hs
    obtain ⟨l1, l7⟩ := level_in t.kind
    rw [← catL_1]
    exact up_all (by decide) l1 l7 (hk t (List.mem_of_getElem? ht))
mutual
theorem writ_we : ∀ t : Tree, exprOK t = true → WT t
  | .node k tx ks l, h => by
    rw [exprOK_node, Bool.and_eq_true] at h
    unfold WT
    rw [writP_node]
    exact asm_we (ex_kinds h.1) (writL_we ks h.2)
theorem writL_we : ∀ ts : List Tree, exprsOK ts = true → ∀ t ∈ ts, WT t
  | [], _ => fun t ht => absurd ht (by simp)
  | x :: ts, h => by
    rw [exprsOK_cons, Bool.and_eq_true] at h
    have h1 := writ_we x h.1
    have h2 := writL_we ts h.2
    intro t ht
    rcases List.mem_cons.1 ht with e | ht
    · rw [e]; exact h1
    · exact h2 t ht
end
theorem writ_expr {t : Tree} (h : exprOK t = true) : WE .expr okW (writP t) t := by
  obtain ⟨l1, l7⟩ := level_in t.kind
  rw [← catL_1]
  exact up_all (by decide) l1 l7 (writ_we t h)
theorem lexA {s1 s2 : List UInt8} {t1 t2 : List KT} {ok : UInt8 → Prop} (h1 : Lexes s1 t1 okA) (h2 : Lexes s2 t2 ok) : Lexes (s1 ++ s2) (t1 ++ t2) ok := h1.append h2 (fun _ _ => trivial) (fun _ _ _ => trivial)
theorem lex_kws {c : UInt8} {r : List UInt8} (h : (letN c.toNat && r.all wordB) = true) : Lexes (c :: (r ++ [32])) [(1, c :: r)] okA := by
  have := Lexes.cons (lex_kw h) lex_blank 32 rfl okW_32
  rwa [List.append_nil] at this
theorem lex_semi : Lexes [59] [(4, [59])] okA := lex_signA (by decide) (by decide) (by decide)
theorem lex_eq : Lexes [32, 61, 32] [(4, [61])] okA := lex_sp (w := [61]) (lex_sign (by decide)) (by unfold okS; decide)
theorem lex_end {s : List UInt8} {ks : List KT} (h : Lexes s ks okW) : Lexes (s ++ [59]) (ks ++ [(4, [59])]) okA := Lexes.cons h lex_semi 59 rfl (by unfold okW; decide)
theorem lex_val {s : List UInt8} {ks : List KT} (h : Lexes s ks okW) : Lexes ([32, 61, 32] ++ (s ++ [59])) ((4, [61]) :: (ks ++ [(4, [59])])) okA := lexA lex_eq (lex_end h)
theorem lex_blanks : ∀ bl : List UInt8, (∀ x ∈ bl, x = 32) → Lexes bl [] okA
  | [], _ => Lexes.nil _
  | x :: bl, h => by
    obtain rfl := h x (by simp)
    exact lexA lex_blank (lex_blanks bl (fun y hy => h y (by simp [hy])))
def WS (c : Cat) (s : List UInt8) (t : Tree) : Prop := ∃ ks, Der c ks t ∧ Lexes s ks okA
theorem line0_ws {k : Int} {tx : List UInt8} {l : Int} (h : head0 k tx = true) : WS .stmt (line0 k tx) (.node k tx [] l) := by
  unfold head0 at h
  split at h
  · rename_i hk
    subst hk
    refine ⟨_, .svry, ?_⟩
    exact lexA (t1 := [(1, [118, 97, 114, 121])]) (lex_kws (r := [97, 114, 121]) (by decide)) (lexA (t1 := [(3, tx)]) (lex_str h) lex_semi)
  split at h
  · rename_i hk
    rw [decide_eq_true_iff] at h
    subst h
    rcases hk with rfl | rfl
    · refine ⟨_, .spas, ?_⟩
      exact Lexes.cons (t1 := [(1, [112, 97, 115, 115])]) (lex_kw (r := [97, 115, 115]) (by decide)) lex_semi 59 rfl (by unfold okW; decide)
    · refine ⟨_, .stok, ?_⟩
      exact Lexes.cons (t1 := [(1, [116, 111, 107, 101, 110])]) (lex_kw (r := [111, 107, 101, 110]) (by decide)) lex_semi 59 rfl (by unfold okW; decide)
  · cases h
theorem line1_ws {k : Int} {tx : List UInt8} {e : Tree} {l : Int} (h : head1 k tx = true) (he : exprOK e = true) : WS .stmt (line1 k tx (writP e)) (.node k tx [e] l) := by
  obtain ⟨⟨ke, hd, hl⟩, _⟩ := writ_expr he
  unfold head1 at h
  split at h
  · rename_i hk
    subst hk
    obtain ⟨g1, g2, g3⟩ := lex_name h
    refine ⟨_, .slet g3 hd, ?_⟩
    exact lexA (t1 := [(1, [108, 101, 116])]) (lex_kws (r := [101, 116]) (by decide)) (Lexes.cons (t1 := [(1, tx)]) g1 (lex_val hl) 32 rfl okW_32)
  split at h
  · rename_i hk
    subst hk
    have h2 : tx = [112, 97, 116, 104] ∨ tx = [113, 117, 101, 114, 121] := by simpa using h
    refine ⟨_, .sset h2 hd, ?_⟩
    refine Lexes.cons (t1 := [(1, tx)]) ?_ (lex_val hl) 32 rfl okW_32
    rcases h2 with rfl | rfl <;> exact lex_kw (by decide)
  split at h
  · rename_i hk
    subst hk
    refine ⟨_, .shdr hd, ?_⟩
    exact lexA (t1 := [(1, [104, 101, 97, 100, 101, 114])]) (lex_kws (r := [101, 97, 100, 101, 114]) (by decide)) (lexA (t1 := [(3, tx)]) (lex_str h) (lex_val hl))
  split at h
  · rename_i hk
    rw [decide_eq_true_iff] at h
    subst h
    rcases hk with rfl | rfl | rfl
    · exact ⟨_, .stag hd, lexA (t1 := [(1, [116, 97, 103])]) (lex_kws (r := [97, 103]) (by decide)) (lex_end hl)⟩
    · exact ⟨_, .sttl hd, lexA (t1 := [(1, [116, 116, 108])]) (lex_kws (r := [116, 108]) (by decide)) (lex_end hl)⟩
    · exact ⟨_, .sdny hd, lexA (t1 := [(1, [100, 101, 110, 121])]) (lex_kws (r := [101, 110, 121]) (by decide)) (lex_end hl)⟩
  · cases h
theorem lex_if {s b : List UInt8} {ks kb : List KT} (h : Lexes s ks okW) (hb : Lexes b kb okA) : Lexes (lineI s b) ((1, [105, 102]) :: (ks ++ kb)) okA := by
  refine lexA (t1 := [(1, [105, 102])]) (lex_kws (r := [102]) (by decide)) ?_
  exact Lexes.cons h (t2 := kb) (lexA (s1 := [32]) (t1 := []) lex_blank hb) 32 rfl okW_32
/-- An if's text has the tokens of a choice behind 'if'. -/
def WI (s : List UInt8) (t : Tree) : Prop := ∃ ks, Der .chosen ks t ∧ Lexes s ((1, [105, 102]) :: ks) okA
theorem WI.ws {s : List UInt8} {t : Tree} (h : WI s t) : WS .stmt s t := by
  obtain ⟨ks, h1, h2⟩ := h
  exact ⟨_, .sif h1, h2⟩
theorem lex_else : Lexes [32, 101, 108, 115, 101, 32] [(1, [101, 108, 115, 101])] okA := lex_sp (w := [101, 108, 115, 101]) (lex_kw (by decide)) okW_32
theorem headI_parts {k : Int} {tx : List UInt8} (h : headI k tx = true) : k = 2 ∧ tx = [] := by
  unfold headI at h
  simpa using h
theorem lex_nl' : Lexes [10] [] okA := lex_nl
theorem blOK_parts {k : Int} {tx : List UInt8} {ks : List Tree} {l : Int} (h : blOK (.node k tx ks l) = true) : k = 12 ∧ tx = [] ∧ stsOK ks = true := by
  rw [blOK_node, Bool.and_eq_true, Bool.and_eq_true, decide_eq_true_iff, decide_eq_true_iff] at h
  exact ⟨h.1.1, h.1.2, h.2⟩
theorem blOK_kind {t : Tree} (h : blOK t = true) : t.kind = 12 := by
  obtain ⟨k, tx, ks, l⟩ := t
  exact (blOK_parts h).1
theorem bl_more {bl : List UInt8} (h : ∀ x ∈ bl, x = 32) : ∀ x ∈ bl ++ [32, 32], x = 32 := by
  intro x hx
  rcases List.mem_append.1 hx with hx | hx
  · exact h x hx
  · simpa using hx
mutual
theorem line_ws : ∀ (t : Tree) (bl : List UInt8), stOK t = true → (∀ x ∈ bl, x = 32) → WS .stmt (lineP t bl) t ∧ (t.kind = 2 → WI (lineP t bl) t)
  | .node k tx [] l, bl, h, hb => by
    rw [stOK_0] at h
    rw [lineP_0]
    refine ⟨line0_ws h, fun e => ?_⟩
    rw [show k = 2 from e] at h
    exact absurd h (by simp [head0])
  | .node k tx [e] l, bl, h, hb => by
    rw [stOK_1, Bool.and_eq_true] at h
    rw [lineP_1]
    refine ⟨line1_ws h.1 h.2, fun e => ?_⟩
    rw [show k = 2 from e] at h
    exact absurd h.1 (by simp [head1])
  | .node k tx [e, b] l, bl, h, hb => by
    rw [stOK_2, Bool.and_eq_true, Bool.and_eq_true] at h
    obtain ⟨h1, h2, h3⟩ := h
    obtain ⟨rfl, rfl⟩ := headI_parts h1
    obtain ⟨⟨ke, hd, hl⟩, _⟩ := writ_expr h2
    obtain ⟨kb, bd, hbl⟩ := brace_ws b bl h3 hb
    have hw : WI (lineP (.node 2 [] [e, b] l) bl) (.node 2 [] [e, b] l) := by
      rw [lineP_2]
      exact ⟨_, .ch2 hd bd, lex_if hl hbl⟩
    exact ⟨hw.ws, fun _ => hw⟩
  | .node k tx [e, b, x] l, bl, h, hb => by
    rw [stOK_3, Bool.and_eq_true, Bool.and_eq_true, Bool.and_eq_true, Bool.or_eq_true, Bool.and_eq_true, decide_eq_true_iff] at h
    obtain ⟨h1, h2, h3, h4⟩ := h
    obtain ⟨rfl, rfl⟩ := headI_parts h1
    obtain ⟨⟨ke, hd, hl⟩, _⟩ := writ_expr h2
    obtain ⟨kb, bd, hbl⟩ := brace_ws b bl h3 hb
    have hw : WI (lineP (.node 2 [] [e, b, x] l) bl) (.node 2 [] [e, b, x] l) := by
      rw [lineP_3]
      rcases h4 with h4 | ⟨h4, h5⟩
      · obtain ⟨kx, xd, hx⟩ := brace_ws x bl h4 hb
        rw [if_neg (by rw [blOK_kind h4]; decide)]
        refine ⟨_, .chb hd bd xd, ?_⟩
        have := lexA (lex_if hl hbl) (lexA lex_else hx)
        simpa using this
      · obtain ⟨kx, xd, hx⟩ := (line_ws x bl h5 hb).2 h4
        rw [if_pos h4]
        refine ⟨_, .chc hd bd xd, ?_⟩
        have := lexA (lex_if hl hbl) (lexA lex_else hx)
        simpa using this
    exact ⟨hw.ws, fun _ => hw⟩
  | .node k tx (a :: b :: c :: d :: r) l, bl, h, hb => by
    rw [stOK_4 (by simp)] at h
    cases h
theorem brace_ws : ∀ (t : Tree) (bl : List UInt8), blOK t = true → (∀ x ∈ bl, x = 32) → WS .block (braceP t bl) t
  | .node k tx ks l, bl, h, hb => by
    obtain ⟨rfl, rfl, h3⟩ := blOK_parts h
    obtain ⟨kk, hd, hl⟩ := lines_ws ks (bl ++ [32, 32]) h3 (bl_more hb)
    rw [braceP_node]
    refine ⟨_, .blk hd, ?_⟩
    have ho : Lexes [123] [(4, [123])] okA := lex_signA (by decide) (by decide) (by decide)
    have hc : Lexes [125] [(4, [125])] okA := lex_signA (by decide) (by decide) (by decide)
    have := lexA (lexA ho lex_nl) (lexA hl (lexA (lex_blanks bl hb) hc))
    simpa using this
theorem lines_ws : ∀ (ts : List Tree) (bl : List UInt8), stsOK ts = true → (∀ x ∈ bl, x = 32) → WS .stl (linesP ts bl) (lst ts)
  | [], bl, _, hb => by
    rw [linesP_nil]
    exact ⟨_, .t0, Lexes.nil _⟩
  | t :: ts, bl, h, hb => by
    rw [stsOK_cons, Bool.and_eq_true] at h
    obtain ⟨k1, d1, l1⟩ := (line_ws t bl h.1 hb).1
    obtain ⟨k2, d2, l2⟩ := lines_ws ts bl h.2 hb
    rw [linesP_cons]
    refine ⟨_, .t1 d1 d2, ?_⟩
    have := lexA (lexA (lex_blanks bl hb) (lexA l1 lex_nl)) l2
    simpa using this
end
end Go.Proofs.YtogkiifljdnjgaaDoor
