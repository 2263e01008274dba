/- In plain Lean: the text of an expression, of a statement with every operand in parentheses, and what it derives. Condition: an expression, a statement. -/
import Derived.Test.YtogkiifljdnjgaaDoorCan
namespace Go.Proofs.YtogkiifljdnjgaaDoor
set_option linter.unusedVariables false
set_option linter.unusedSimpArgs false

/-- Texts with a separator between them. -/
def joinG (sep : List UInt8) : List (List UInt8) → List UInt8
  | [] => []
  | [x] => x
  | x :: y :: r => x ++ (sep ++ joinG sep (y :: r))
theorem joinP_G : ∀ L : List (List UInt8), joinP L = joinG [44, 32] L
  | [] => rfl
  | [x] => rfl
  | x :: y :: r => by rw [joinP, joinG, joinP_G (y :: r)]; rfl
theorem joinG_snoc (sep x : List UInt8) : ∀ L : List (List UInt8), L ≠ [] → joinG sep (L ++ [x]) = joinG sep L ++ (sep ++ x)
  | [], h => absurd rfl h
  | [a], _ => rfl
  | a :: b :: r, _ => by
    have ih := joinG_snoc sep x (b :: r) (by simp)
    rw [List.cons_append, List.cons_append, joinG, joinG]
    rw [List.cons_append] at ih
    rw [ih]
    simp only [List.append_assoc]
theorem joinG_len (sep : List UInt8) (h2 : sep.length ≤ 2) : ∀ (L : List (List UInt8)) (s : Nat), (L.map (fun x => x.length + 2)).sum ≤ s → (joinG sep L).length ≤ s
  | [], s, _ => by simp [joinG]
  | [x], s, h => by simp [joinG] at *; omega
  | x :: y :: r, s, h => by
    rw [List.map_cons, List.sum_cons] at h
    have := joinG_len sep h2 (y :: r) (s - (x.length + 2)) (by omega)
    rw [joinG]
    simp only [List.length_append]
    omega
def inW (op : List UInt8) : List (List UInt8) → List UInt8
  | [a, b] => a ++ (op ++ b)
  | _ => []
def asmW (k : Int) (tx : List UInt8) (ls : List (List UInt8)) : List UInt8 :=
  if k = 13 then inW [111, 114] ls
  else if k = 14 then inW [97, 110, 100] ls
  else if k = 15 then match ls with | [a] => [110, 111, 116] ++ a | _ => []
  else if k = 16 then inW tx ls
  else if k = 17 then inW [43] ls
  else if k = 18 then inW [45] ls
  else if k = 19 then inW [42] ls
  else if k = 21 then quoL tx
  else if k = 24 then tx ++ (40 :: (joinG [44] ls ++ [41]))
  else tx
mutual
def wrapP : Tree → List UInt8
  | .node k tx ks _ => 40 :: (asmW k tx (wrapL ks) ++ [41])
def wrapL : List Tree → List (List UInt8)
  | [] => []
  | t :: ts => wrapP t :: wrapL ts
end
theorem wrapP_node {k : Int} {tx : List UInt8} {ks : List Tree} {l : Int} : wrapP (.node k tx ks l) = 40 :: (asmW k tx (wrapL ks) ++ [41]) := by rw [wrapP]
theorem wrapL_map : ∀ ts : List Tree, wrapL ts = ts.map wrapP
  | [] => by rw [wrapL]; rfl
  | t :: ts => by rw [wrapL, wrapL_map ts]; rfl
theorem wrapP_hd (t : Tree) : ∃ r, wrapP t = 40 :: r := by
  obtain ⟨k, tx, ks, l⟩ := t
  rw [wrapP_node]
  exact ⟨_, rfl⟩
theorem asmW_len (k : Int) (tx : List UInt8) (ls : List (List UInt8)) (s : Nat) (h : tx.length ≤ 100000) (hs : (ls.map (fun x => x.length + 4)).sum ≤ s) : (asmW k tx ls).length ≤ 200100 + s := by
  have hi : ∀ (op : List UInt8), op.length ≤ 100100 → (inW op ls).length ≤ 200100 + s := by
    intro op ho
    unfold inW
    split
    · rename_i a b
      simp only [List.map_cons, List.sum_cons, List.map_nil, List.sum_nil] at hs
      simp only [List.length_append]
      omega
    · simp
  unfold asmW
  have hq := quoL_len tx
  split
  · exact hi _ (by decide)
  split
  · exact hi _ (by decide)
  split
  · split
    · rename_i a
      simp only [List.map_cons, List.sum_cons, List.map_nil, List.sum_nil] at hs
      simp only [List.length_append, List.length_cons, List.length_nil]
      omega
    · simp
  split
  · exact hi _ (by omega)
  split
  · exact hi _ (by decide)
  split
  · exact hi _ (by decide)
  split
  · exact hi _ (by decide)
  split
  · omega
  split
  · have h1 := joinG_len [44] (by decide) ls s (by
      refine Nat.le_trans ?_ hs
      clear hs hi
      induction ls with
      | nil => simp
      | cons a r ih => simp only [List.map_cons, List.sum_cons]; omega)
    simp only [List.length_append, List.length_cons, List.length_nil]
    omega
  · omega
mutual
theorem wrapP_len : ∀ t : Tree, shortT t → (wrapP t).length + 4 ≤ 300000 * sizeT t
  | .node k tx ks l, h => by
    rw [shortT_node] at h
    rw [wrapP_node, sizeT_node]
    have h1 := wrapL_len ks h.2
    have h2 := asmW_len k tx (wrapL ks) _ h.1 h1
    simp only [List.length_append, List.length_cons, List.length_nil]
    omega
theorem wrapL_len : ∀ ts : List Tree, shortL ts → ((wrapL ts).map (fun x => x.length + 4)).sum ≤ 300000 * sizeL ts
  | [], _ => by rw [wrapL]; simp
  | t :: ts, h => by
    rw [shortL_cons] at h
    rw [wrapL, sizeL_cons, List.map_cons, List.sum_cons]
    have h1 := wrapP_len t h.1
    have h2 := wrapL_len ts h.2
    omega
end

/-! ### What it derives -/
theorem up_atom {c : Cat} {ok : UInt8 → Prop} {s : List UInt8} {t : Tree} (h : WE .atom ok s t) (i : Int) (h1 : 1 ≤ i) (h7 : i ≤ 7) : WE (catL i) ok s t := up_all h1 h7 (by decide) (by rw [catL_7]; exact h)
theorem wrap_par {ok : UInt8 → Prop} {s : List UInt8} {t : Tree} (i : Int) (h1 : 1 ≤ i) (h7 : i ≤ 7) (h : WE (catL i) ok s t) (hk : ok 41) : WE .atom okA (40 :: (s ++ [41])) t :=
  we_par (by rw [← catL_1]; exact up_all (by decide) h1 h7 h) hk
theorem argsW : ∀ (ls : List (List UInt8)) (ts : List Tree), ls.length = ts.length → ts ≠ [] → (∀ (i : Nat) (s : List UInt8) (t : Tree), ls[i]? = some s → ts[i]? = some t → WE .expr okA s t) → WE .argl okA (joinG [44] ls ++ [41]) (lst ts)
  | [], [], _, h, _ => absurd rfl h
  | [a], [x], _, _, h => by
    obtain ⟨⟨ka, a1, a2⟩, xa, ra, rfl, a4⟩ := h 0 a x rfl rfl
    refine ⟨⟨_, .l1 a1, ?_⟩, xa, _, rfl, a4⟩
    exact Lexes.cons a2 lex_rpar 41 rfl trivial
  | a :: b :: ls, x :: y :: ts, hl, _, h => by
    have ih := argsW (b :: ls) (y :: ts) (by simpa using hl) (by simp) (fun i s t hs ht => h (i + 1) s t (by simpa using hs) (by simpa using ht))
    obtain ⟨⟨ka, a1, a2⟩, xa, ra, hxa, a4⟩ := h 0 a x rfl rfl
    obtain ⟨⟨kb, b1, b2⟩, xb, rb, hb, b4⟩ := ih
    refine ⟨⟨_, .l2 a1 b1, ?_⟩, xa, ra ++ (44 :: (joinG [44] (b :: ls) ++ [41])), by rw [joinG, hxa]; simp, a4⟩
    rw [joinG, List.append_assoc]
    refine Lexes.cons a2 (t2 := (4, [44]) :: kb) ?_ 44 rfl trivial
    show Lexes ([44] ++ (joinG [44] (b :: ls) ++ [41])) ([(4, [44])] ++ kb) okA
    have hc : Lexes [44] [(4, [44])] okA := lex_signA (by decide) (by decide) (by decide)
    exact hc.append b2 (fun _ _ => trivial) (fun _ _ _ => trivial)
  | [], _ :: _, hl, _, _ => by simp at hl
  | [_], [], hl, _, _ => by simp at hl
  | [_], _ :: _ :: _, hl, _, _ => by simp at hl
  | _ :: _ :: _, [], hl, _, _ => by simp at hl
  | _ :: _ :: _, [_], hl, _, _ => by simp at hl
theorem wrap_call {tx : List UInt8} {ls : List (List UInt8)} {ts : List Tree} {l : Int} (hn : namedP tx = true) (hl : ls.length = ts.length) (h : ∀ (i : Nat) (s : List UInt8) (t : Tree), ls[i]? = some s → ts[i]? = some t → WE .expr okA s t) : WE .atom okA (tx ++ (40 :: (joinG [44] ls ++ [41]))) (.node 24 tx ts l) := by
  obtain ⟨g1, ⟨x, r, g2, g3⟩, g4⟩ := lex_name hn
  have key : ∀ (s : List UInt8) (ks : List KT) (u : Tree), Der .args ks u → Lexes s ks okA → WE .atom okA (tx ++ (40 :: s)) (.node 24 tx u.kids l) := by
    intro s ks u hd hx
    refine ⟨⟨_, .call g4 hd, ?_⟩, x, r ++ (40 :: s), by rw [g2]; rfl, g3⟩
    refine Lexes.cons (t1 := [(1, tx)]) g1 (t2 := (4, [40]) :: ks) ?_ 40 rfl (by unfold okW; decide)
    exact lex_lpar.append hx (fun _ _ => trivial) (fun _ _ _ => trivial)
  cases ts with
  | nil =>
    obtain rfl := List.eq_nil_of_length_eq_zero hl
    exact key [41] _ (lst []) .a0 lex_rpar
  | cons t ts =>
    obtain ⟨⟨ks, h1, h2⟩, _⟩ := argsW ls (t :: ts) hl (by simp) h
    exact key _ ks (lst (t :: ts)) (.a1 h1) h2
theorem okW_40 : okW 40 := by unfold okW; decide
theorem okW_41 : okW 41 := by unfold okW; decide
theorem after40 {ok : UInt8 → Prop} (h : ok 40) (t : Tree) : ∀ z r, wrapP t = z :: r → z ≠ 61 → ok z := by
  intro z r hz _
  obtain ⟨q, hq⟩ := wrapP_hd t
  rw [hq] at hz
  obtain ⟨rfl, _⟩ := List.cons.inj hz
  exact h
theorem asmW_we {k : Int} {tx : List UInt8} {ks : List Tree} {l : Int} (h : ExK k tx ks) (hk : ∀ t ∈ ks, WE .atom okA (wrapP t) t) : WE .atom okA (40 :: (asmW k tx (wrapL ks) ++ [41])) (.node k tx ks l) := by
  rw [wrapL_map]
  have cats : ∀ t ∈ ks, ∀ i, 1 ≤ i → i ≤ 7 → WE (catL i) okA (wrapP t) t := fun t ht i h1 h7 => up_atom (c := .atom) (hk t ht) i h1 h7
  cases h with
  | or x y =>
    refine wrap_par (ok := okA) 1 (by decide) (by decide) ?_ trivial
    rw [catL_1]
    refine we_in (cA := .expr) (cB := .conj) (ok1 := okA) (ok2 := okW) (h := (1, [111, 114])) (A := wrapP x) (B := wrapP y) (op := [111, 114]) ?_ ?_ (lex_kw (by decide)) ⟨_, _, rfl, trivial⟩ (after40 okW_40 y) (fun a b g1 g2 => .e2 g1 g2)
    · have := cats x (by simp) 1 (by decide) (by decide); rwa [catL_1] at this
    · have := cats y (by simp) 2 (by decide) (by decide); rwa [catL_2] at this
  | and x y =>
    refine wrap_par (ok := okA) 2 (by decide) (by decide) ?_ trivial
    rw [catL_2]
    refine we_in (cA := .conj) (cB := .neg) (ok1 := okA) (ok2 := okW) (h := (1, [97, 110, 100])) (A := wrapP x) (B := wrapP y) (op := [97, 110, 100]) ?_ ?_ (lex_kw (by decide)) ⟨_, _, rfl, trivial⟩ (after40 okW_40 y) (fun a b g1 g2 => .c2 g1 g2)
    · have := cats x (by simp) 2 (by decide) (by decide); rwa [catL_2] at this
    · have := cats y (by simp) 3 (by decide) (by decide); rwa [catL_3] at this
  | not x =>
    refine wrap_par (ok := okA) 3 (by decide) (by decide) ?_ trivial
    rw [catL_3]
    have hx := cats x (by simp) 3 (by decide) (by decide)
    rw [catL_3] at hx
    obtain ⟨⟨kx, a1, a2⟩, _⟩ := hx
    obtain ⟨q, hq⟩ := wrapP_hd x
    refine ⟨⟨_, .n2 a1, ?_⟩, 110, _, rfl, by decide⟩
    show Lexes ([110, 111, 116] ++ wrapP x) ([(1, [110, 111, 116])] ++ kx) okA
    exact Lexes.cons (lex_kw (by decide)) a2 40 (by rw [hq]; rfl) okW_40
  | cmp tx x y hc =>
    refine wrap_par (ok := okA) 4 (by decide) (by decide) ?_ trivial
    rw [catL_4]
    obtain ⟨kc, hkc, ok, ok32, ok40, hlex⟩ := cmp_lex hc
    refine we_in (cA := .sum) (cB := .sum) (ok1 := okA) (ok2 := ok) (h := (kc, tx)) (A := wrapP x) (B := wrapP y) (op := tx) ?_ ?_ hlex ?_ (after40 ok40 y) (fun a b g1 g2 => .m2 hkc g1 g2)
    · have := cats x (by simp) 5 (by decide) (by decide); rwa [catL_5] at this
    · have := cats y (by simp) 5 (by decide) (by decide); rwa [catL_5] at this
    · cases tx with
      | nil => exact absurd rfl (cmp_ne hc)
      | cons z r => exact ⟨z, r, rfl, trivial⟩
  | add x y =>
    refine wrap_par (ok := okA) 5 (by decide) (by decide) ?_ trivial
    rw [catL_5]
    refine we_in (cA := .sum) (cB := .prod) (ok1 := okA) (ok2 := okA) (h := (4, [43])) (A := wrapP x) (B := wrapP y) (op := [43]) ?_ ?_ (lex_signA (by decide) (by decide) (by decide)) ⟨_, _, rfl, trivial⟩ (fun _ _ _ _ => trivial) (fun a b g1 g2 => .s2 g1 g2)
    · have := cats x (by simp) 5 (by decide) (by decide); rwa [catL_5] at this
    · have := cats y (by simp) 6 (by decide) (by decide); rwa [catL_6] at this
  | sub x y =>
    refine wrap_par (ok := okA) 5 (by decide) (by decide) ?_ trivial
    rw [catL_5]
    refine we_in (cA := .sum) (cB := .prod) (ok1 := okA) (ok2 := okA) (h := (4, [45])) (A := wrapP x) (B := wrapP y) (op := [45]) ?_ ?_ (lex_signA (by decide) (by decide) (by decide)) ⟨_, _, rfl, trivial⟩ (fun _ _ _ _ => trivial) (fun a b g1 g2 => .s3 g1 g2)
    · have := cats x (by simp) 5 (by decide) (by decide); rwa [catL_5] at this
    · have := cats y (by simp) 6 (by decide) (by decide); rwa [catL_6] at this
  | mul x y =>
    refine wrap_par (ok := okA) 6 (by decide) (by decide) ?_ trivial
    rw [catL_6]
    refine we_in (cA := .prod) (cB := .atom) (ok1 := okA) (ok2 := okA) (h := (4, [42])) (A := wrapP x) (B := wrapP y) (op := [42]) ?_ ?_ (lex_signA (by decide) (by decide) (by decide)) ⟨_, _, rfl, trivial⟩ (fun _ _ _ _ => trivial) (fun a b g1 g2 => .p2 g1 g2)
    · have := cats x (by simp) 6 (by decide) (by decide); rwa [catL_6] at this
    · have := cats y (by simp) 7 (by decide) (by decide); rwa [catL_7] at this
  | num tx h =>
    refine wrap_par (ok := okW) 7 (by decide) (by decide) ?_ okW_41
    rw [catL_7]
    exact we_leaf (lex_digits h).1 .num (lex_digits h).2
  | str tx h =>
    refine wrap_par (ok := okA) 7 (by decide) (by decide) ?_ trivial
    rw [catL_7]
    exact we_leaf (lex_str h) .str ⟨34, _, rfl, by decide⟩
  | boo tx h =>
    refine wrap_par (ok := okW) 7 (by decide) (by decide) ?_ okW_41
    rw [catL_7]
    have hb := boo_parts h
    refine we_leaf (h := (1, tx)) ?_ (.boo hb) ?_
    · rcases hb with rfl | rfl <;> exact lex_kw (by decide)
    · rcases hb with rfl | rfl <;> exact ⟨_, _, rfl, by decide⟩
  | nam tx h =>
    refine wrap_par (ok := okW) 7 (by decide) (by decide) ?_ okW_41
    rw [catL_7]
    obtain ⟨g1, g2, g3⟩ := lex_name h
    exact we_leaf g1 (.nam g3) g2
  | call tx ks h =>
    refine wrap_par (ok := okA) 7 (by decide) (by decide) ?_ trivial
    rw [catL_7]
    show WE .atom okA (tx ++ (40 :: (joinG [44] (ks.map wrapP) ++ [41]))) _
    refine wrap_call h (by simp) ?_
    intro i s t hs ht
    rw [List.getElem?_map, ht] at hs
    simp only [Option.map_some, Option.some.injEq] at hs
    subst hs
    have := cats t (List.mem_of_getElem? ht) 1 (by decide) (by decide)
    rwa [catL_1] at this
mutual
theorem wrap_we : ∀ t : Tree, exprOK t = true → WE .atom okA (wrapP t) t
  | .node k tx ks l, h => by
    rw [exprOK_node, Bool.and_eq_true] at h
    rw [wrapP_node]
    exact asmW_we (ex_kinds h.1) (wrapL_we ks h.2)
theorem wrapL_we : ∀ ts : List Tree, exprsOK ts = true → ∀ t ∈ ts, WE .atom okA (wrapP t) t
  | [], _ => fun t ht => absurd ht (by simp)
  | x :: ts, h => by
    rw [exprsOK_cons, Bool.and_eq_true] at h
    have h1 := wrap_we x h.1
    have h2 := wrapL_we ts h.2
    intro t ht
    rcases List.mem_cons.1 ht with e | ht
    · rw [e]; exact h1
    · exact h2 t ht
end
theorem wrap_expr {t : Tree} (h : exprOK t = true) : WE .expr okA (wrapP t) t := by
  rw [← catL_1]
  exact up_atom (c := .atom) (wrap_we t h) 1 (by decide) (by decide)

/-! ### Statements -/
def full0 (k : Int) (tx : List UInt8) : List UInt8 := if k = 6 then [118, 97, 114, 121] ++ (quoL tx ++ [59]) else if k = 10 then [112, 97, 115, 115, 59] else [116, 111, 107, 101, 110, 32, 59]
def full1 (k : Int) (tx s : List UInt8) : List UInt8 :=
  if k = 3 then [108, 101, 116, 32] ++ (tx ++ (61 :: (s ++ [59])))
  else if k = 4 then tx ++ (61 :: (s ++ [59]))
  else if k = 5 then [104, 101, 97, 100, 101, 114] ++ (quoL tx ++ (61 :: (s ++ [59])))
  else if k = 7 then [116, 97, 103] ++ (s ++ [59])
  else if k = 8 then [116, 116, 108] ++ (s ++ [59])
  else [100, 101, 110, 121] ++ (s ++ [59])
def fullI (s b : List UInt8) : List UInt8 := [105, 102, 32] ++ (s ++ b)
mutual
/-- The text of a statement with every operand in parentheses. -/
def fullP : Tree → List UInt8
  | .node k tx [] _ => full0 k tx
  | .node k tx [e] _ => full1 k tx (wrapP e)
  | .node k tx [e, b] _ => fullI (wrapP e) (bodyP b)
  | .node k tx [e, b, x] _ => fullI (wrapP e) (bodyP b) ++ (if x.kind = 2 then [101, 108, 115, 101, 32] ++ fullP x else [101, 108, 115, 101] ++ bodyP x)
  | .node _ _ (_ :: _ :: _ :: _ :: _) _ => []
def bodyP : Tree → List UInt8
  | .node _ _ ks _ => 123 :: (fullsP ks ++ [125])
def fullsP : List Tree → List UInt8
  | [] => []
  | t :: ts => fullP t ++ fullsP ts
end
theorem fullP_0 {k : Int} {tx : List UInt8} {l : Int} : fullP (.node k tx [] l) = full0 k tx := by rw [fullP]
theorem fullP_1 {k : Int} {tx : List UInt8} {e : Tree} {l : Int} : fullP (.node k tx [e] l) = full1 k tx (wrapP e) := by rw [fullP]
theorem fullP_2 {k : Int} {tx : List UInt8} {e b : Tree} {l : Int} : fullP (.node k tx [e, b] l) = fullI (wrapP e) (bodyP b) := by rw [fullP]
theorem fullP_3 {k : Int} {tx : List UInt8} {e b x : Tree} {l : Int} : fullP (.node k tx [e, b, x] l) = fullI (wrapP e) (bodyP b) ++ (if x.kind = 2 then [101, 108, 115, 101, 32] ++ fullP x else [101, 108, 115, 101] ++ bodyP x) := by rw [fullP]
theorem bodyP_node {k : Int} {tx : List UInt8} {ks : List Tree} {l : Int} : bodyP (.node k tx ks l) = 123 :: (fullsP ks ++ [125]) := by rw [bodyP]
theorem fullsP_nil : fullsP [] = [] := by rw [fullsP]
theorem fullsP_cons {t : Tree} {ts : List Tree} : fullsP (t :: ts) = fullP t ++ fullsP ts := by rw [fullsP]
theorem fullsP_append : ∀ (xs ys : List Tree), fullsP (xs ++ ys) = fullsP xs ++ fullsP ys
  | [], ys => by rw [fullsP_nil]; rfl
  | x :: xs, ys => by rw [List.cons_append, fullsP_cons, fullsP_cons, fullsP_append xs ys, List.append_assoc]
theorem fullsP_take {ks : List Tree} {q : Nat} {t : Tree} (h : ks[q]? = some t) : fullsP (ks.take (q + 1)) = fullsP (ks.take q) ++ fullP t := by
  rw [take_next h, fullsP_append, fullsP_cons, fullsP_nil, List.append_nil]
theorem full0_len (k : Int) (tx : List UInt8) (h : tx.length ≤ 100000) : (full0 k tx).length ≤ 200100 := by
  have := quoL_len tx
  unfold full0
  split
  · simp only [List.length_append, List.length_cons, List.length_nil]; omega
  split <;> simp
theorem full1_len (k : Int) (tx s : List UInt8) (h : tx.length ≤ 100000) : (full1 k tx s).length ≤ 200100 + s.length := by
  have := quoL_len tx
  unfold full1
  repeat' split
  all_goals
    simp only [List.length_append, List.length_cons, List.length_nil]
    omega
mutual
theorem fullP_len : ∀ (t : Tree), shortT t → (fullP t).length + 10 ≤ 703000 * sizeT t
  | .node k tx [] l, h => by
    rw [shortT_node] at h
    rw [fullP_0, sizeT_node]
    have := full0_len k tx h.1
    omega
  | .node k tx [e] l, h => by
    rw [shortT_node, shortL_cons] at h
    rw [fullP_1, sizeT_node, sizeL_cons]
    have h1 := full1_len k tx (wrapP e) h.1
    have h2 := wrapP_len e h.2.1
    omega
  | .node k tx [e, b] l, h => by
    rw [shortT_node, shortL_cons, shortL_cons] at h
    rw [fullP_2, sizeT_node, sizeL_cons, sizeL_cons, fullI]
    have h2 := wrapP_len e h.2.1
    have h3 := bodyP_len b h.2.2.1
    simp only [List.length_append, List.length_cons, List.length_nil]
    omega
  | .node k tx [e, b, x] l, h => by
    rw [shortT_node, shortL_cons, shortL_cons, shortL_cons] at h
    rw [fullP_3, sizeT_node, sizeL_cons, sizeL_cons, sizeL_cons, fullI]
    have h2 := wrapP_len e h.2.1
    have h3 := bodyP_len b h.2.2.1
    have h4 := bodyP_len x h.2.2.2.1
    have h5 := fullP_len x h.2.2.2.1
    have h6 : (if x.kind = 2 then [101, 108, 115, 101, 32] ++ fullP x else [101, 108, 115, 101] ++ bodyP x).length ≤ 703000 * sizeT x := by
      split <;> simp only [List.length_append, List.length_cons, List.length_nil] <;> omega
    simp only [List.length_append, List.length_cons, List.length_nil]
    omega
  | .node k tx (a :: b :: c :: d :: r) l, h => by
    rw [fullP, sizeT_node]
    simp only [List.length_nil]
    omega
theorem bodyP_len : ∀ (t : Tree), shortT t → (bodyP t).length + 10 ≤ 703000 * sizeT t
  | .node k tx ks l, h => by
    rw [shortT_node] at h
    rw [bodyP_node, sizeT_node]
    have h2 := fullsP_len ks h.2
    simp only [List.length_append, List.length_cons, List.length_nil]
    omega
theorem fullsP_len : ∀ (ts : List Tree), shortL ts → (fullsP ts).length ≤ 703000 * sizeL ts
  | [], _ => by rw [fullsP_nil]; simp
  | t :: ts, h => by
    rw [shortL_cons] at h
    rw [fullsP_cons, sizeL_cons]
    have h2 := fullP_len t h.1
    have h3 := fullsP_len ts h.2
    simp only [List.length_append]
    omega
end
theorem lexA_end {s : List UInt8} {ks : List KT} (h : Lexes s ks okA) : Lexes (s ++ [59]) (ks ++ [(4, [59])]) okA := lexA h lex_semi
theorem lex_eq40 {s : List UInt8} {ks : List KT} (h : Lexes s ks okA) (hs : ∃ r, s = 40 :: r) : Lexes (61 :: (s ++ [59])) ((4, [61]) :: (ks ++ [(4, [59])])) okA := by
  obtain ⟨r, rfl⟩ := hs
  exact Lexes.cons (s1 := [61]) (t1 := [(4, [61])]) (lex_sign (by decide)) (lexA_end h) 40 rfl (by unfold okS; decide)
theorem lex_kw40 {c : UInt8} {r s : List UInt8} {ks : List KT} (hk : (letN c.toNat && r.all wordB) = true) (h : Lexes s ks okA) (hs : ∃ q, s = 40 :: q) : Lexes (c :: (r ++ s)) ((1, c :: r) :: ks) okA := by
  obtain ⟨q, rfl⟩ := hs
  exact Lexes.cons (lex_kw hk) h 40 rfl okW_40
theorem quoL_hd (tx : List UInt8) : ∃ q, quoL tx = 34 :: q := ⟨_, rfl⟩
theorem full0_ws {k : Int} {tx : List UInt8} {l : Int} (h : head0 k tx = true) : WS .stmt (full0 k tx) (.node k tx [] l) := by
  unfold head0 at h
  split at h
  · rename_i hk
    subst hk
    refine ⟨_, .svry, ?_⟩
    exact Lexes.cons (t1 := [(1, [118, 97, 114, 121])]) (lex_kw (r := [97, 114, 121]) (by decide)) (lexA (t1 := [(3, tx)]) (lex_str h) lex_semi) 34 rfl (by unfold okW; decide)
  split at h
  · rename_i hk
    rw [decide_eq_true_iff] at h
    subst h
    rcases hk with rfl | rfl
    · refine ⟨_, .spas, ?_⟩
      exact Lexes.cons (t1 := [(1, [112, 97, 115, 115])]) (lex_kw (r := [97, 115, 115]) (by decide)) lex_semi 59 rfl (by unfold okW; decide)
    · refine ⟨_, .stok, ?_⟩
      exact lexA (t1 := [(1, [116, 111, 107, 101, 110])]) (lex_kws (r := [111, 107, 101, 110]) (by decide)) lex_semi
  · cases h
theorem full1_ws {k : Int} {tx : List UInt8} {e : Tree} {l : Int} (h : head1 k tx = true) (he : exprOK e = true) : WS .stmt (full1 k tx (wrapP e)) (.node k tx [e] l) := by
  obtain ⟨⟨ke, hd, hl⟩, _⟩ := wrap_expr he
  have h40 := wrapP_hd e
  have hv := lex_eq40 hl h40
  unfold head1 at h
  split at h
  · rename_i hk
    subst hk
    obtain ⟨g1, g2, g3⟩ := lex_name h
    refine ⟨_, .slet g3 hd, ?_⟩
    exact lexA (t1 := [(1, [108, 101, 116])]) (lex_kws (r := [101, 116]) (by decide)) (Lexes.cons (t1 := [(1, tx)]) g1 hv 61 rfl (by unfold okW; decide))
  split at h
  · rename_i hk
    subst hk
    have h2 : tx = [112, 97, 116, 104] ∨ tx = [113, 117, 101, 114, 121] := by simpa using h
    refine ⟨_, .sset h2 hd, ?_⟩
    refine Lexes.cons (ok1 := okW) (t1 := [(1, tx)]) ?_ hv 61 rfl (by unfold okW; decide)
    rcases h2 with rfl | rfl <;> exact lex_kw (by decide)
  split at h
  · rename_i hk
    subst hk
    refine ⟨_, .shdr hd, ?_⟩
    exact Lexes.cons (t1 := [(1, [104, 101, 97, 100, 101, 114])]) (lex_kw (r := [101, 97, 100, 101, 114]) (by decide)) (lexA (t1 := [(3, tx)]) (lex_str h) hv) 34 rfl (by unfold okW; decide)
  split at h
  · rename_i hk
    rw [decide_eq_true_iff] at h
    subst h
    have h41 : ∃ q, wrapP e ++ [59] = 40 :: q := by obtain ⟨q, hq⟩ := h40; exact ⟨q ++ [59], by rw [hq]; rfl⟩
    rcases hk with rfl | rfl | rfl
    · exact ⟨_, .stag hd, lex_kw40 (r := [97, 103]) (by decide) (lexA_end hl) h41⟩
    · exact ⟨_, .sttl hd, lex_kw40 (r := [116, 108]) (by decide) (lexA_end hl) h41⟩
    · exact ⟨_, .sdny hd, lex_kw40 (r := [101, 110, 121]) (by decide) (lexA_end hl) h41⟩
  · cases h
theorem fullI_lex {s b : List UInt8} {ks kb : List KT} (h : Lexes s ks okA) (hb : Lexes b kb okA) : Lexes (fullI s b) ((1, [105, 102]) :: (ks ++ kb)) okA :=
  lexA (t1 := [(1, [105, 102])]) (lex_kws (r := [102]) (by decide)) (lexA h hb)
theorem bodyP_hd (t : Tree) : ∃ q, bodyP t = 123 :: q := by
  obtain ⟨k, tx, ks, l⟩ := t
  rw [bodyP_node]
  exact ⟨_, rfl⟩
mutual
theorem full_ws : ∀ (t : Tree), stOK t = true → WS .stmt (fullP t) t ∧ (t.kind = 2 → WI (fullP t) t)
  | .node k tx [] l, h => by
    rw [stOK_0] at h
    rw [fullP_0]
    refine ⟨full0_ws h, fun e => ?_⟩
    rw [show k = 2 from e] at h
    exact absurd h (by simp [head0])
  | .node k tx [e] l, h => by
    rw [stOK_1, Bool.and_eq_true] at h
    rw [fullP_1]
    refine ⟨full1_ws h.1 h.2, fun e => ?_⟩
    rw [show k = 2 from e] at h
    exact absurd h.1 (by simp [head1])
  | .node k tx [e, b] l, h => by
    rw [stOK_2, Bool.and_eq_true, Bool.and_eq_true] at h
    obtain ⟨h1, h2, h3⟩ := h
    obtain ⟨rfl, rfl⟩ := headI_parts h1
    obtain ⟨⟨ke, hd, hl⟩, _⟩ := wrap_expr h2
    obtain ⟨kb, bd, hbl⟩ := body_ws b h3
    have hw : WI (fullP (.node 2 [] [e, b] l)) (.node 2 [] [e, b] l) := by
      rw [fullP_2]
      exact ⟨_, .ch2 hd bd, fullI_lex hl hbl⟩
    exact ⟨hw.ws, fun _ => hw⟩
  | .node k tx [e, b, x] l, h => by
    rw [stOK_3, Bool.and_eq_true, Bool.and_eq_true, Bool.and_eq_true, Bool.or_eq_true, Bool.and_eq_true, decide_eq_true_iff] at h
    obtain ⟨h1, h2, h3, h4⟩ := h
    obtain ⟨rfl, rfl⟩ := headI_parts h1
    obtain ⟨⟨ke, hd, hl⟩, _⟩ := wrap_expr h2
    obtain ⟨kb, bd, hbl⟩ := body_ws b h3
    have hw : WI (fullP (.node 2 [] [e, b, x] l)) (.node 2 [] [e, b, x] l) := by
      rw [fullP_3]
      rcases h4 with h4 | ⟨h4, h5⟩
      · obtain ⟨kx, xd, hx⟩ := body_ws x h4
        obtain ⟨q, hq⟩ := bodyP_hd x
        rw [if_neg (by rw [blOK_kind h4]; decide)]
        refine ⟨_, .chb hd bd xd, ?_⟩
        have := lexA (fullI_lex hl hbl) (Lexes.cons (t1 := [(1, [101, 108, 115, 101])]) (lex_kw (r := [108, 115, 101]) (by decide)) hx 123 (by rw [hq]; rfl) (by unfold okW; decide))
        simpa using this
      · obtain ⟨kx, xd, hx⟩ := (full_ws x h5).2 h4
        rw [if_pos h4]
        refine ⟨_, .chc hd bd xd, ?_⟩
        have := lexA (fullI_lex hl hbl) (lexA (lex_kws (c := 101) (r := [108, 115, 101]) (by decide)) hx)
        simpa using this
    exact ⟨hw.ws, fun _ => hw⟩
  | .node k tx (a :: b :: c :: d :: r) l, h => by
    rw [stOK_4 (by simp)] at h
    cases h
theorem body_ws : ∀ (t : Tree), blOK t = true → WS .block (bodyP t) t
  | .node k tx ks l, h => by
    obtain ⟨rfl, rfl, h3⟩ := blOK_parts h
    obtain ⟨kk, hd, hl⟩ := fulls_ws ks h3
    rw [bodyP_node]
    refine ⟨_, .blk hd, ?_⟩
    have ho : Lexes [123] [(4, [123])] okA := lex_signA (by decide) (by decide) (by decide)
    have hc : Lexes [125] [(4, [125])] okA := lex_signA (by decide) (by decide) (by decide)
    exact lexA ho (lexA hl hc)
theorem fulls_ws : ∀ (ts : List Tree), stsOK ts = true → WS .stl (fullsP ts) (lst ts)
  | [], _ => by
    rw [fullsP_nil]
    exact ⟨_, .t0, Lexes.nil _⟩
  | t :: ts, h => by
    rw [stsOK_cons, Bool.and_eq_true] at h
    obtain ⟨k1, d1, l1⟩ := (full_ws t h.1).1
    obtain ⟨k2, d2, l2⟩ := fulls_ws ts h.2
    rw [fullsP_cons]
    exact ⟨_, .t1 d1 d2, lexA l1 l2⟩
end
end Go.Proofs.YtogkiifljdnjgaaDoor
