/- In plain Lean: the canonical text of an expression gives tokens that the grammar derives. Condition: an expression. -/
import Derived.Test.YtogkiifljdnjgaaDoorDer
import Derived.Test.YtogkiifljdnjgaaDoorLineP
namespace Go.Proofs.YtogkiifljdnjgaaDoor
set_option linter.unusedVariables false
set_option linter.unusedSimpArgs false

/-- A text whose tokens give a tree. -/
structure WE (c : Cat) (ok : UInt8 → Prop) (s : List UInt8) (t : Tree) : Prop where
  der : ∃ ks, Der c ks t ∧ Lexes s ks ok
  hd : ∃ x r, s = x :: r ∧ x ≠ 61
theorem WE.map {c d : Cat} {ok : UInt8 → Prop} {s : List UInt8} {t u : Tree} (h : WE c ok s t) (f : ∀ ks, Der c ks t → Der d ks u) : WE d ok s u := by
  obtain ⟨⟨ks, h1, h2⟩, h3⟩ := h
  exact ⟨⟨ks, f ks h1, h2⟩, h3⟩
theorem WE.mono {c : Cat} {ok ok2 : UInt8 → Prop} {s : List UInt8} {t : Tree} (h : WE c ok s t) (g : ∀ x, ok2 x → ok x) : WE c ok2 s t := by
  obtain ⟨⟨ks, h1, h2⟩, h3⟩ := h
  exact ⟨⟨ks, h1, h2.mono g⟩, h3⟩
/-- The category of a level. -/
def catL (i : Int) : Cat := if i = 1 then .expr else if i = 2 then .conj else if i = 3 then .neg else if i = 4 then .comp else if i = 5 then .sum else if i = 6 then .prod else .atom
theorem up6 {ok : UInt8 → Prop} {s : List UInt8} {t : Tree} (h : WE .atom ok s t) : WE .prod ok s t := h.map fun _ => .p1
theorem up5 {ok : UInt8 → Prop} {s : List UInt8} {t : Tree} (h : WE .prod ok s t) : WE .sum ok s t := h.map fun _ => .s1
theorem up4 {ok : UInt8 → Prop} {s : List UInt8} {t : Tree} (h : WE .sum ok s t) : WE .comp ok s t := h.map fun _ => .m1
theorem up3 {ok : UInt8 → Prop} {s : List UInt8} {t : Tree} (h : WE .comp ok s t) : WE .neg ok s t := h.map fun _ => .n1
theorem up2 {ok : UInt8 → Prop} {s : List UInt8} {t : Tree} (h : WE .neg ok s t) : WE .conj ok s t := h.map fun _ => .c1
theorem up1 {ok : UInt8 → Prop} {s : List UInt8} {t : Tree} (h : WE .conj ok s t) : WE .expr ok s t := h.map fun _ => .e1
theorem catL_1 : catL 1 = .expr := by simp [catL]
theorem catL_2 : catL 2 = .conj := by simp [catL]
theorem catL_3 : catL 3 = .neg := by simp [catL]
theorem catL_4 : catL 4 = .comp := by simp [catL]
theorem catL_5 : catL 5 = .sum := by simp [catL]
theorem catL_6 : catL 6 = .prod := by simp [catL]
theorem catL_7 : catL 7 = .atom := by simp [catL]
theorem up_all {ok : UInt8 → Prop} {s : List UInt8} {t : Tree} {i j : Int} (h1 : 1 ≤ i) (h : i ≤ j) (h7 : j ≤ 7) (hw : WE (catL j) ok s t) : WE (catL i) ok s t := by
  have hj : j = 1 ∨ j = 2 ∨ j = 3 ∨ j = 4 ∨ j = 5 ∨ j = 6 ∨ j = 7 := by omega
  have hi : i = 1 ∨ i = 2 ∨ i = 3 ∨ i = 4 ∨ i = 5 ∨ i = 6 ∨ i = 7 := by omega
  rcases hj with rfl | rfl | rfl | rfl | rfl | rfl | rfl <;> rcases hi with rfl | rfl | rfl | rfl | rfl | rfl | rfl <;>
    first
      | (exfalso; omega)
      | (simp only [catL_1, catL_2, catL_3, catL_4, catL_5, catL_6, catL_7] at hw ⊢
         first
           | exact hw
           | exact up6 hw
           | exact up5 hw
           | exact up4 hw
           | exact up3 hw
           | exact up2 hw
           | exact up1 hw
           | exact up5 (up6 hw)
           | exact up4 (up5 hw)
           | exact up3 (up4 hw)
           | exact up2 (up3 hw)
           | exact up1 (up2 hw)
           | exact up4 (up5 (up6 hw))
           | exact up3 (up4 (up5 hw))
           | exact up2 (up3 (up4 hw))
           | exact up1 (up2 (up3 hw))
           | exact up3 (up4 (up5 (up6 hw)))
           | exact up2 (up3 (up4 (up5 hw)))
           | exact up1 (up2 (up3 (up4 hw)))
           | exact up2 (up3 (up4 (up5 (up6 hw))))
           | exact up1 (up2 (up3 (up4 (up5 hw))))
           | exact up1 (up2 (up3 (up4 (up5 (up6 hw))))))
theorem level_in (k : Int) : 1 ≤ levelP k ∧ levelP k ≤ 7 := by
  unfold levelP
  repeat' split
  all_goals decide
theorem lex_lpar : Lexes [40] [(4, [40])] okA := lex_signA (by decide) (by decide) (by decide)
theorem lex_rpar : Lexes [41] [(4, [41])] okA := lex_signA (by decide) (by decide) (by decide)
/-- In parentheses. -/
theorem we_par {ok : UInt8 → Prop} {s : List UInt8} {t : Tree} (h : WE .expr ok s t) (hk : ok 41) : WE .atom okA (40 :: (s ++ [41])) t := by
  obtain ⟨⟨ks, h1, h2⟩, x, r, h3, h4⟩ := h
  refine ⟨⟨_, .par h1, ?_⟩, 40, _, rfl, by decide⟩
  exact Lexes.cons lex_lpar (Lexes.cons h2 lex_rpar 41 rfl hk) x (by rw [h3]; rfl) trivial
theorem we_bound {s : List UInt8} {t : Tree} (i : Int) (h1 : 1 ≤ i) (h7 : i ≤ 7) (h : WE (catL (levelP t.kind)) okW s t) : WE (catL i) okW (parL i (levelP t.kind, s)) t := by
  obtain ⟨l1, l7⟩ := level_in t.kind
  unfold parL
  dsimp only
  split
  · have he : WE .expr okW s t := by rw [← catL_1]; exact up_all (by omega) l1 l7 h
    refine up_all h1 h7 (by omega) ?_
    rw [catL_7]
    exact (we_par he (by unfold okW; decide)).mono fun _ _ => trivial
  · exact up_all h1 (by omega) l7 h
/-- Two operands. -/
theorem we_in {cA cB c : Cat} {ok1 ok2 ok3 : UInt8 → Prop} {A B op : List UInt8} {x y t : Tree} {h : KT} (hA : WE cA ok1 A x) (hB : WE cB ok3 B y) (ho : Lexes op [h] ok2) (h1 : ∃ z r, op = z :: r ∧ ok1 z) (h2 : ∀ z r, B = z :: r → z ≠ 61 → ok2 z)
    (hd : ∀ a b, Der cA a x → Der cB b y → Der c (a ++ h :: b) t) : WE c ok3 (A ++ (op ++ B)) t := by
  obtain ⟨⟨ka, a1, a2⟩, xa, ra, rfl, a4⟩ := hA
  obtain ⟨⟨kb, b1, b2⟩, xb, rb, rfl, b4⟩ := hB
  obtain ⟨z, r, rfl, hz⟩ := h1
  refine ⟨⟨_, hd ka kb a1 b1, ?_⟩, xa, _, rfl, a4⟩
  refine Lexes.cons a2 (t2 := h :: kb) ?_ z rfl hz
  exact Lexes.cons (t1 := [h]) ho b2 xb rfl (h2 xb rb rfl b4)
theorem okW_32 : okW 32 := by unfold okW; decide
theorem lex_sp {w : List UInt8} {h : KT} {ok : UInt8 → Prop} (hw : Lexes w [h] ok) (h32 : ok 32) : Lexes (32 :: (w ++ [32])) [h] okA := by
  have h1 : Lexes (w ++ [32]) ([h] ++ []) okA := Lexes.cons hw lex_blank 32 rfl h32
  cases hwc : w with
  | nil =>
    subst hwc
    have := Lexes.append (s1 := [32]) lex_blank h1 (fun _ _ => trivial) (fun _ _ _ => trivial)
    exact this
  | cons a r =>
    subst hwc
    exact Lexes.append (s1 := [32]) lex_blank h1 (fun _ _ => trivial) (fun _ _ _ => trivial)
theorem we_leaf {s : List UInt8} {h : KT} {t : Tree} {ok : UInt8 → Prop} (hl : Lexes s [h] ok) (hd : Der .atom [h] t) (hh : ∃ x r, s = x :: r ∧ x ≠ 61) : WE .atom ok s t := ⟨⟨_, hd, hl⟩, hh⟩
/-- What a name is. -/
theorem named_parts {tx : List UInt8} (h : namedP tx = true) : ∃ c r, tx = c :: r ∧ letN c.toNat = true ∧ r.all wordB = true ∧ tx ∉ kws := by
  have hl : tx.length ≤ 4096 := by
    by_cases e : tx.length ≤ 4096
    · exact e
    · rw [namedP_large e] at h; cases h
  cases hs : splitT tx with
  | none => rw [namedP_none hs] at h; cases h
  | some es =>
    by_cases hn : es.length = 2
    rotate_left
    · rw [namedP_other hs hn] at h; cases h
    obtain ⟨a, b, rfl⟩ : ∃ a b, es = [a, b] := by
      rcases es with _ | ⟨a, _ | ⟨b, _ | ⟨c, r⟩⟩⟩ <;> simp at hn
      exact ⟨a, b, rfl⟩
    rw [namedP_two hl hs] at h
    simp only [Bool.and_eq_true, beq_iff_eq, Bool.not_eq_true', decide_eq_false_iff_not] at h
    obtain ⟨h1, h2, h3⟩ := h
    have hword : ∀ (s : List UInt8) (k : Nat) (l c : Int) (ts : List Tok), splitS s k l c = some ts → ∀ u ∈ ts, u.kind = 1 → ∃ c r, u.text = c :: r ∧ letN c.toNat = true ∧ r.all wordB = true := by
      intro s
      induction s with
      | nil =>
        intro k l c ts hs u hu hk
        cases k <;> simp only [splitS, Option.some.injEq] at hs <;> subst hs <;> obtain rfl := List.mem_singleton.1 hu <;> simp at hk
      | cons x r ih =>
        intro k l c ts hs u hu hk
        cases k with
        | succ k => rw [splitS] at hs; exact ih _ _ _ _ hs u hu hk
        | zero =>
          rw [splitS] at hs
          split at hs
          · exact ih _ _ _ _ hs u hu hk
          split at hs
          · exact ih _ _ _ _ hs u hu hk
          split at hs
          · exact ih _ _ _ _ hs u hu hk
          split at hs
          · cases hs
          obtain ⟨ts', h', rfl⟩ := Option.map_eq_some_iff.1 hs
          rcases List.mem_cons.1 hu with rfl | hu
          · dsimp only at hk ⊢
            cases hx : letN x.toNat with
            | true =>
              rw [tokP_word hx]
              exact ⟨x, _, rfl, hx, takeWhile_all r⟩
            | false =>
              exfalso
              rw [tokP, if_neg (by rw [hx]; decide)] at hk
              split at hk
              · split at hk <;> simp at hk
              split at hk
              · simp at hk
              split at hk <;> simp at hk
          · exact ih _ _ _ _ h' u hu hk
    obtain ⟨c, r, g1, g2, g3⟩ := hword _ _ _ _ _ hs a (by simp) h1
    rw [h2] at g1
    exact ⟨c, r, g1, g2, g3, h3⟩
theorem letN_61 {c : UInt8} (h : letN c.toNat = true) : c ≠ 61 := by
  rintro rfl
  exact absurd h (by decide)
theorem lex_name {tx : List UInt8} (h : namedP tx = true) : Lexes tx [(1, tx)] okW ∧ (∃ x r, tx = x :: r ∧ x ≠ 61) ∧ tx ∉ kws := by
  obtain ⟨c, r, rfl, h1, h2, h3⟩ := named_parts h
  exact ⟨lex_word h1 h2, ⟨c, r, rfl, letN_61 h1⟩, h3⟩
theorem lex_kw {c : UInt8} {r : List UInt8} (h : (letN c.toNat && r.all wordB) = true) : Lexes (c :: r) [(1, c :: r)] okW := by
  rw [Bool.and_eq_true] at h
  exact lex_word h.1 h.2
theorem cmp_lex {tx : List UInt8} (h : (cmpW 4 tx || cmpW 1 tx) = true) : ∃ k, cmpW k tx = true ∧ ∃ ok : UInt8 → Prop, ok 32 ∧ ok 40 ∧ Lexes tx [(k, tx)] ok := by
  by_cases h4 : tx = [61, 61] ∨ tx = [33, 61] ∨ tx = [60] ∨ tx = [60, 61]
  · refine ⟨4, by unfold cmpW; rw [if_pos h4]; rfl, okS, by unfold okS; decide, by unfold okS; decide, lex_sign ?_⟩
    rcases h4 with rfl | rfl | rfl | rfl <;> decide
  · by_cases h1 : tx = [115, 116, 97, 114, 116, 115] ∨ tx = [101, 110, 100, 115] ∨ tx = [99, 111, 110, 116, 97, 105, 110, 115]
    · refine ⟨1, by unfold cmpW; rw [if_neg h4, if_pos h1]; rfl, okW, okW_32, by unfold okW; decide, ?_⟩
      rcases h1 with rfl | rfl | rfl <;> exact lex_kw (by decide)
    · unfold cmpW at h
      rw [if_neg h4, if_neg h1, if_neg h4, if_neg h1] at h
      cases h
theorem cmp_ne {tx : List UInt8} (h : (cmpW 4 tx || cmpW 1 tx) = true) : tx ≠ [] := by
  rintro rfl
  exact absurd h (by decide)
theorem lex_digits {tx : List UInt8} (h : digitsP tx = true) : Lexes tx [(2, tx)] okW ∧ ∃ x r, tx = x :: r ∧ x ≠ 61 := by
  unfold digitsP at h
  rw [Bool.and_eq_true, decide_eq_true_iff] at h
  obtain ⟨h1, h2, h3⟩ := h
  cases tx with
  | nil => simp at h2
  | cons c r =>
    refine ⟨lex_num h1 h3, c, r, rfl, ?_⟩
    rintro rfl
    rw [List.all_cons, Bool.and_eq_true] at h1
    exact absurd h1.1 (by decide)
/-- The arguments of a call. -/
def argT (ls : List (List UInt8)) : List UInt8 := joinP ls ++ [41]
theorem we_args : ∀ (ls : List (List UInt8)) (ts : List Tree), ls.length = ts.length → ts ≠ [] → (∀ (i : Nat) (s : List UInt8) (t : Tree), ls[i]? = some s → ts[i]? = some t → WE .expr okW s t) → WE .argl okA (argT ls) (lst ts)
  | [], [], _, h, _ => absurd rfl h
  | [a], [x], _, _, h => by
    obtain ⟨⟨ka, a1, a2⟩, xa, ra, rfl, a4⟩ := h 0 a x rfl rfl
    refine ⟨⟨_, .l1 a1, ?_⟩, xa, _, rfl, a4⟩
    exact Lexes.cons a2 lex_rpar 41 rfl (by unfold okW; decide)
  | a :: b :: ls, x :: y :: ts, hl, _, h => by
    have ih := we_args (b :: ls) (y :: ts) (by simpa using hl) (by simp) (fun i s t hs ht => h (i + 1) s t (by simpa using hs) (by simpa using ht))
    obtain ⟨⟨ka, a1, a2⟩, xa, ra, hxa, a4⟩ := h 0 a x rfl rfl
    obtain ⟨⟨kb, b1, b2⟩, xb, rb, hb, b4⟩ := ih
    refine ⟨⟨_, .l2 a1 b1, ?_⟩, xa, ra ++ (44 :: 32 :: argT (b :: ls)), by rw [argT, argT, joinP, hxa]; simp, a4⟩
    rw [argT, joinP, List.append_assoc]
    refine Lexes.cons a2 (t2 := (4, [44]) :: kb) ?_ 44 rfl (by unfold okW; decide)
    show Lexes ([44] ++ ([32] ++ argT (b :: ls))) ([(4, [44])] ++ ([] ++ kb)) okA
    have hc : Lexes [44] [(4, [44])] okA := lex_signA (by decide) (by decide) (by decide)
    exact hc.append (lex_blank.append b2 (fun _ _ => trivial) (fun _ _ _ => trivial)) (fun _ _ => trivial) (fun _ _ _ => trivial)
  | [], _ :: _, hl, _, _ => by simp at hl
  | [_], [], hl, _, _ => by simp at hl
  | [_], _ :: _ :: _, hl, _, _ => by simp at hl
  | _ :: _ :: _, [], hl, _, _ => by simp at hl
  | _ :: _ :: _, [_], hl, _, _ => by simp at hl
theorem we_call {tx : List UInt8} {ls : List (List UInt8)} {ts : List Tree} {l : Int} (hn : namedP tx = true) (hl : ls.length = ts.length) (h : ∀ (i : Nat) (s : List UInt8) (t : Tree), ls[i]? = some s → ts[i]? = some t → WE .expr okW s t) : WE .atom okW (tx ++ (40 :: (joinP ls ++ [41]))) (.node 24 tx ts l) := by
  obtain ⟨g1, ⟨x, r, g2, g3⟩, g4⟩ := lex_name hn
  have key : ∀ (s : List UInt8) (ks : List KT) (u : Tree), Der .args ks u → Lexes s ks okA → WE .atom okW (tx ++ (40 :: s)) (.node 24 tx u.kids l) := by
    intro s ks u hd hx
    refine ⟨⟨_, .call g4 hd, ?_⟩, x, r ++ (40 :: s), by rw [g2]; rfl, g3⟩
    refine Lexes.cons (t1 := [(1, tx)]) g1 (t2 := (4, [40]) :: ks) ?_ 40 rfl (by unfold okW; decide)
    exact lex_lpar.append (hx.mono (fun _ _ => trivial)) (fun _ _ => trivial) (fun _ _ _ => trivial)
  cases ts with
  | nil =>
    obtain rfl := List.eq_nil_of_length_eq_zero hl
    exact key [41] _ (lst []) .a0 lex_rpar
  | cons t ts =>
    obtain ⟨⟨ks, h1, h2⟩, _⟩ := we_args ls (t :: ts) hl (by simp) h
    exact key _ ks (lst (t :: ts)) (.a1 h1) h2
end Go.Proofs.YtogkiifljdnjgaaDoor
