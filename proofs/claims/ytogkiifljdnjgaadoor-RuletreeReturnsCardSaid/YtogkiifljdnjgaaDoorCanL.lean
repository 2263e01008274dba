/- In plain Lean: the canonical text of a program gives tokens that the grammar derives. Condition: a valid one. -/
import Derived.Test.YtogkiifljdnjgaaDoorCanE
namespace Go.Proofs.YtogkiifljdnjgaaDoor
set_option linter.unusedVariables false
set_option linter.unusedSimpArgs false

theorem writL_map : ∀ ts : List Tree, writL ts = ts.map (fun t => (levelP t.kind, writP t))
  | [] => by rw [writL_nil]; rfl
  | t :: ts => by rw [writL_cons, writL_map ts]; rfl
theorem ar_n {m : Int} {ks : List Tree} (h0 : 0 ≤ m) (h : arOK m ks.length = true) : (ks.length : Int) = m := by
  unfold arOK at h
  rw [Bool.and_eq_true, Bool.or_eq_true, decide_eq_true_iff, decide_eq_true_iff, decide_eq_true_iff] at h
  rcases h.2 with h | h
  · omega
  · exact h
theorem ar_bad {n : Nat} : ¬ arOK (-2) n = true := by simp [arOK]
theorem ar_2 {ks : List Tree} {c : Prop} [Decidable c] (h : arOK (if c then 2 else -2) ks.length = true) : c ∧ ∃ x y, ks = [x, y] := by
  split at h
  · rename_i hc
    have := ar_n (by decide) h
    rcases ks with _ | ⟨a, _ | ⟨b, _ | ⟨d, r⟩⟩⟩ <;> simp only [List.length_cons, List.length_nil] at this <;> first | omega | exact ⟨hc, _, _, rfl⟩
  · exact absurd h ar_bad
theorem ar_1 {ks : List Tree} {c : Prop} [Decidable c] (h : arOK (if c then 1 else -2) ks.length = true) : c ∧ ∃ x, ks = [x] := by
  split at h
  · rename_i hc
    have := ar_n (by decide) h
    rcases ks with _ | ⟨a, _ | ⟨b, r⟩⟩ <;> simp only [List.length_cons, List.length_nil] at this <;> first | omega | exact ⟨hc, _, rfl⟩
  · exact absurd h ar_bad
theorem ar_0 {ks : List Tree} {c : Prop} [Decidable c] (h : arOK (if c then 0 else -2) ks.length = true) : c ∧ ks = [] := by
  split at h
  · rename_i hc
    have := ar_n (by decide) h
    exact ⟨hc, List.eq_nil_of_length_eq_zero (by omega)⟩
  · exact absurd h ar_bad
theorem ar_m {ks : List Tree} {c : Prop} [Decidable c] (h : arOK (if c then -1 else -2) ks.length = true) : c := by
  split at h
  · assumption
  · exact absurd h ar_bad
/-- What kinds an expression has. -/
inductive ExK : Int → List UInt8 → List Tree → Prop
  | or x y : ExK 13 [] [x, y]
  | and x y : ExK 14 [] [x, y]
  | not x : ExK 15 [] [x]
  | cmp tx x y : (cmpW 4 tx || cmpW 1 tx) = true → ExK 16 tx [x, y]
  | add x y : ExK 17 [] [x, y]
  | sub x y : ExK 18 [] [x, y]
  | mul x y : ExK 19 [] [x, y]
  | num tx : digitsP tx = true → ExK 20 tx []
  | str tx : tx.all okB = true → ExK 21 tx []
  | boo tx : boolP tx = true → ExK 22 tx []
  | nam tx : namedP tx = true → ExK 23 tx []
  | call tx ks : namedP tx = true → ExK 24 tx ks
theorem ex_kinds {k : Int} {tx : List UInt8} {ks : List Tree} (h : arOK (operandsP k tx) ks.length = true) : ExK k tx ks := by
  unfold operandsP at h
  split at h
  · rename_i hk
    obtain ⟨rfl, x, y, rfl⟩ := ar_2 h
    rcases hk with rfl | rfl | rfl | rfl | rfl
    · exact .or x y
    · exact .and x y
    · exact .add x y
    · exact .sub x y
    · exact .mul x y
  split at h
  · rename_i hk
    subst hk
    obtain ⟨rfl, x, rfl⟩ := ar_1 h
    exact .not x
  split at h
  · rename_i hk
    subst hk
    obtain ⟨hc, x, y, rfl⟩ := ar_2 h
    exact .cmp tx x y hc
  split at h
  · rename_i hk
    subst hk
    obtain ⟨hc, rfl⟩ := ar_0 h
    exact .num tx hc
  split at h
  · rename_i hk
    subst hk
    obtain ⟨hc, rfl⟩ := ar_0 h
    exact .str tx hc
  split at h
  · rename_i hk
    subst hk
    obtain ⟨hc, rfl⟩ := ar_0 h
    exact .boo tx hc
  split at h
  · rename_i hk
    subst hk
    obtain ⟨hc, rfl⟩ := ar_0 h
    exact .nam tx hc
  split at h
  · rename_i hk
    subst hk
    exact .call tx ks (ar_m h)
  · exact absurd h ar_bad
theorem boo_parts {tx : List UInt8} (h : boolP tx = true) : tx = [116, 114, 117, 101] ∨ tx = [102, 97, 108, 115, 101] := by
  unfold boolP at h
  simpa using h
theorem lev_13 : levelP 13 = 1 := by decide
theorem lev_14 : levelP 14 = 2 := by decide
theorem lev_15 : levelP 15 = 3 := by decide
theorem lev_16 : levelP 16 = 4 := by decide
theorem lev_17 : levelP 17 = 5 := by decide
theorem lev_18 : levelP 18 = 5 := by decide
theorem lev_19 : levelP 19 = 6 := by decide
theorem lev_20 : levelP 20 = 7 := by decide
theorem lev_21 : levelP 21 = 7 := by decide
theorem lev_22 : levelP 22 = 7 := by decide
theorem lev_23 : levelP 23 = 7 := by decide
theorem lev_24 : levelP 24 = 7 := by decide
def WT (t : Tree) : Prop := WE (catL (levelP t.kind)) okW (writP t) t
theorem asm_we {k : Int} {tx : List UInt8} {ks : List Tree} {l : Int} (h : ExK k tx ks) (hk : ∀ t ∈ ks, WT t) : WE (catL (levelP k)) okW (asmP k tx (writL ks)) (.node k tx ks l) := by
  rw [writL_map]
  cases h with
  | or x y =>
    rw [lev_13, catL_1]
    refine we_in (cA := .expr) (cB := .conj) (ok1 := okW) (ok2 := okA) (h := (1, [111, 114])) (A := parL 1 (levelP x.kind, writP x)) (B := parL 2 (levelP y.kind, writP y)) (op := [32, 111, 114, 32]) ?_ ?_ (lex_sp (w := [111, 114]) (lex_kw (by decide)) okW_32) ⟨_, _, rfl, okW_32⟩ (fun _ _ _ _ => trivial) (fun a b g1 g2 => .e2 g1 g2)
    · have := we_bound 1 (by decide) (by decide) (hk x (by simp)); rwa [catL_1] at this
    · have := we_bound 2 (by decide) (by decide) (hk y (by simp)); rwa [catL_2] at this
  | and x y =>
    rw [lev_14, catL_2]
    refine we_in (cA := .conj) (cB := .neg) (ok1 := okW) (ok2 := okA) (h := (1, [97, 110, 100])) (A := parL 2 (levelP x.kind, writP x)) (B := parL 3 (levelP y.kind, writP y)) (op := [32, 97, 110, 100, 32]) ?_ ?_ (lex_sp (w := [97, 110, 100]) (lex_kw (by decide)) okW_32) ⟨_, _, rfl, okW_32⟩ (fun _ _ _ _ => trivial) (fun a b g1 g2 => .c2 g1 g2)
    · have := we_bound 2 (by decide) (by decide) (hk x (by simp)); rwa [catL_2] at this
    · have := we_bound 3 (by decide) (by decide) (hk y (by simp)); rwa [catL_3] at this
  | not x =>
    rw [lev_15, catL_3]
    have hx := we_bound 3 (by decide) (by decide) (hk x (by simp))
    rw [catL_3] at hx
    obtain ⟨⟨kx, a1, a2⟩, xa, ra, a3, a4⟩ := hx
    refine ⟨⟨_, .n2 a1, ?_⟩, 110, _, rfl, by decide⟩
    show Lexes ([110, 111, 116] ++ ([32] ++ parL 3 (levelP x.kind, writP x))) ([(1, [110, 111, 116])] ++ ([] ++ kx)) okW
    exact Lexes.cons (lex_kw (by decide)) (lex_blank.append a2 (fun _ _ => trivial) (fun _ _ _ => trivial)) 32 rfl okW_32
  | cmp tx x y hc =>
    rw [lev_16, catL_4]
    obtain ⟨kc, hkc, ok, ok32, ok40, hlex⟩ := cmp_lex hc
    refine we_in (cA := .sum) (cB := .sum) (ok1 := okW) (ok2 := okA) (h := (kc, tx)) (A := parL 5 (levelP x.kind, writP x)) (B := parL 5 (levelP y.kind, writP y)) (op := 32 :: (tx ++ [32])) ?_ ?_ (lex_sp hlex ok32) ⟨_, _, rfl, okW_32⟩ (fun _ _ _ _ => trivial) (fun a b g1 g2 => .m2 hkc g1 g2)
    · have := we_bound 5 (by decide) (by decide) (hk x (by simp)); rwa [catL_5] at this
    · have := we_bound 5 (by decide) (by decide) (hk y (by simp)); rwa [catL_5] at this
  | add x y =>
    rw [lev_17, catL_5]
    refine we_in (cA := .sum) (cB := .prod) (ok1 := okW) (ok2 := okA) (h := (4, [43])) (A := parL 5 (levelP x.kind, writP x)) (B := parL 6 (levelP y.kind, writP y)) (op := [32, 43, 32]) ?_ ?_ (lex_sp (w := [43]) (lex_signA (by decide) (by decide) (by decide)) trivial) ⟨_, _, rfl, okW_32⟩ (fun _ _ _ _ => trivial) (fun a b g1 g2 => .s2 g1 g2)
    · have := we_bound 5 (by decide) (by decide) (hk x (by simp)); rwa [catL_5] at this
    · have := we_bound 6 (by decide) (by decide) (hk y (by simp)); rwa [catL_6] at this
  | sub x y =>
    rw [lev_18, catL_5]
    refine we_in (cA := .sum) (cB := .prod) (ok1 := okW) (ok2 := okA) (h := (4, [45])) (A := parL 5 (levelP x.kind, writP x)) (B := parL 6 (levelP y.kind, writP y)) (op := [32, 45, 32]) ?_ ?_ (lex_sp (w := [45]) (lex_signA (by decide) (by decide) (by decide)) trivial) ⟨_, _, rfl, okW_32⟩ (fun _ _ _ _ => trivial) (fun a b g1 g2 => .s3 g1 g2)
    · have := we_bound 5 (by decide) (by decide) (hk x (by simp)); rwa [catL_5] at this
    · have := we_bound 6 (by decide) (by decide) (hk y (by simp)); rwa [catL_6] at this
  | mul x y =>
    rw [lev_19, catL_6]
    refine we_in (cA := .prod) (cB := .atom) (ok1 := okW) (ok2 := okA) (h := (4, [42])) (A := parL 6 (levelP x.kind, writP x)) (B := parL 7 (levelP y.kind, writP y)) (op := [32, 42, 32]) ?_ ?_ (lex_sp (w := [42]) (lex_signA (by decide) (by decide) (by decide)) trivial) ⟨_, _, rfl, okW_32⟩ (fun _ _ _ _ => trivial) (fun a b g1 g2 => .p2 g1 g2)
    · have := we_bound 6 (by decide) (by decide) (hk x (by simp)); rwa [catL_6] at this
    · have := we_bound 7 (by decide) (by decide) (hk y (by simp)); rwa [catL_7] at this
  | num tx h =>
    rw [lev_20, catL_7]
    exact we_leaf (lex_digits h).1 .num (lex_digits h).2
  | str tx h =>
    rw [lev_21, catL_7]
    exact we_leaf ((lex_str h).mono fun _ _ => trivial) .str ⟨34, _, rfl, by decide⟩
  | boo tx h =>
    rw [lev_22, catL_7]
    have hb := boo_parts h
    refine we_leaf (h := (1, tx)) ?_ (.boo hb) ?_
    · rcases hb with rfl | rfl <;> exact lex_kw (by decide)
    · rcases hb with rfl | rfl <;> exact ⟨_, _, rfl, by decide⟩
  | nam tx h =>
    rw [lev_23, catL_7]
    obtain ⟨g1, g2, g3⟩ := lex_name h
    exact we_leaf g1 (.nam g3) g2
  | call tx ks h =>
    rw [lev_24, catL_7]
    show WE .atom okW (tx ++ (40 :: (joinP ((ks.map (fun t => (levelP t.kind, writP t))).map (·.2)) ++ [41]))) _
    rw [List.map_map]
    refine we_call h (by simp) ?_
    intro i s t hs ht
    rw [List.getElem?_map, ht] at hs
    simp only [Option.map_some, Function.comp, Option.some.injEq] at hs
    subst hs
    obtain ⟨l1, l7⟩ := level_in t.kind
    rw [← catL_1]
    exact up_all (by decide) l1 l7 (hk t (List.mem_of_getElem? ht))
mutual
theorem writ_we : ∀ t : Tree, exprOK t = true → WT t
  | .node k tx ks l, h => by
    rw [exprOK_node, Bool.and_eq_true] at h
    unfold WT
    rw [writP_node]
    exact asm_we (ex_kinds h.1) (writL_we ks h.2)
theorem writL_we : ∀ ts : List Tree, exprsOK ts = true → ∀ t ∈ ts, WT t
  | [], _ => fun t ht => absurd ht (by simp)
  | x :: ts, h => by
    rw [exprsOK_cons, Bool.and_eq_true] at h
    have h1 := writ_we x h.1
    have h2 := writL_we ts h.2
    intro t ht
    rcases List.mem_cons.1 ht with e | ht
    · rw [e]; exact h1
    · exact h2 t ht
end
theorem writ_expr {t : Tree} (h : exprOK t = true) : WE .expr okW (writP t) t := by
  obtain ⟨l1, l7⟩ := level_in t.kind
  rw [← catL_1]
  exact up_all (by decide) l1 l7 (writ_we t h)
theorem lexA {s1 s2 : List UInt8} {t1 t2 : List KT} {ok : UInt8 → Prop} (h1 : Lexes s1 t1 okA) (h2 : Lexes s2 t2 ok) : Lexes (s1 ++ s2) (t1 ++ t2) ok := h1.append h2 (fun _ _ => trivial) (fun _ _ _ => trivial)
theorem lex_kws {c : UInt8} {r : List UInt8} (h : (letN c.toNat && r.all wordB) = true) : Lexes (c :: (r ++ [32])) [(1, c :: r)] okA := by
  have := Lexes.cons (lex_kw h) lex_blank 32 rfl okW_32
  rwa [List.append_nil] at this
theorem lex_semi : Lexes [59] [(4, [59])] okA := lex_signA (by decide) (by decide) (by decide)
theorem lex_eq : Lexes [32, 61, 32] [(4, [61])] okA := lex_sp (w := [61]) (lex_sign (by decide)) (by unfold okS; decide)
theorem lex_end {s : List UInt8} {ks : List KT} (h : Lexes s ks okW) : Lexes (s ++ [59]) (ks ++ [(4, [59])]) okA := Lexes.cons h lex_semi 59 rfl (by unfold okW; decide)
theorem lex_val {s : List UInt8} {ks : List KT} (h : Lexes s ks okW) : Lexes ([32, 61, 32] ++ (s ++ [59])) ((4, [61]) :: (ks ++ [(4, [59])])) okA := lexA lex_eq (lex_end h)
theorem lex_blanks : ∀ bl : List UInt8, (∀ x ∈ bl, x = 32) → Lexes bl [] okA
  | [], _ => Lexes.nil _
  | x :: bl, h => by
    obtain rfl := h x (by simp)
    exact lexA lex_blank (lex_blanks bl (fun y hy => h y (by simp [hy])))
def WS (c : Cat) (s : List UInt8) (t : Tree) : Prop := ∃ ks, Der c ks t ∧ Lexes s ks okA
theorem line0_ws {k : Int} {tx : List UInt8} {l : Int} (h : head0 k tx = true) : WS .stmt (line0 k tx) (.node k tx [] l) := by
  unfold head0 at h
  split at h
  · rename_i hk
    subst hk
    refine ⟨_, .svry, ?_⟩
    exact lexA (t1 := [(1, [118, 97, 114, 121])]) (lex_kws (r := [97, 114, 121]) (by decide)) (lexA (t1 := [(3, tx)]) (lex_str h) lex_semi)
  split at h
  · rename_i hk
    rw [decide_eq_true_iff] at h
    subst h
    rcases hk with rfl | rfl
    · refine ⟨_, .spas, ?_⟩
      exact Lexes.cons (t1 := [(1, [112, 97, 115, 115])]) (lex_kw (r := [97, 115, 115]) (by decide)) lex_semi 59 rfl (by unfold okW; decide)
    · refine ⟨_, .stok, ?_⟩
      exact Lexes.cons (t1 := [(1, [116, 111, 107, 101, 110])]) (lex_kw (r := [111, 107, 101, 110]) (by decide)) lex_semi 59 rfl (by unfold okW; decide)
  · cases h
theorem line1_ws {k : Int} {tx : List UInt8} {e : Tree} {l : Int} (h : head1 k tx = true) (he : exprOK e = true) : WS .stmt (line1 k tx (writP e)) (.node k tx [e] l) := by
  obtain ⟨⟨ke, hd, hl⟩, _⟩ := writ_expr he
  unfold head1 at h
  split at h
  · rename_i hk
    subst hk
    obtain ⟨g1, g2, g3⟩ := lex_name h
    refine ⟨_, .slet g3 hd, ?_⟩
    exact lexA (t1 := [(1, [108, 101, 116])]) (lex_kws (r := [101, 116]) (by decide)) (Lexes.cons (t1 := [(1, tx)]) g1 (lex_val hl) 32 rfl okW_32)
  split at h
  · rename_i hk
    subst hk
    have h2 : tx = [112, 97, 116, 104] ∨ tx = [113, 117, 101, 114, 121] := by simpa using h
    refine ⟨_, .sset h2 hd, ?_⟩
    refine Lexes.cons (t1 := [(1, tx)]) ?_ (lex_val hl) 32 rfl okW_32
    rcases h2 with rfl | rfl <;> exact lex_kw (by decide)
  split at h
  · rename_i hk
    subst hk
    refine ⟨_, .shdr hd, ?_⟩
    exact lexA (t1 := [(1, [104, 101, 97, 100, 101, 114])]) (lex_kws (r := [101, 97, 100, 101, 114]) (by decide)) (lexA (t1 := [(3, tx)]) (lex_str h) (lex_val hl))
  split at h
  · rename_i hk
    rw [decide_eq_true_iff] at h
    subst h
    rcases hk with rfl | rfl | rfl
    · exact ⟨_, .stag hd, lexA (t1 := [(1, [116, 97, 103])]) (lex_kws (r := [97, 103]) (by decide)) (lex_end hl)⟩
    · exact ⟨_, .sttl hd, lexA (t1 := [(1, [116, 116, 108])]) (lex_kws (r := [116, 108]) (by decide)) (lex_end hl)⟩
    · exact ⟨_, .sdny hd, lexA (t1 := [(1, [100, 101, 110, 121])]) (lex_kws (r := [101, 110, 121]) (by decide)) (lex_end hl)⟩
  · cases h
theorem lex_if {s b : List UInt8} {ks kb : List KT} (h : Lexes s ks okW) (hb : Lexes b kb okA) : Lexes (lineI s b) ((1, [105, 102]) :: (ks ++ kb)) okA := by
  refine lexA (t1 := [(1, [105, 102])]) (lex_kws (r := [102]) (by decide)) ?_
  exact Lexes.cons h (t2 := kb) (lexA (s1 := [32]) (t1 := []) lex_blank hb) 32 rfl okW_32
/-- An if's text has the tokens of a choice behind 'if'. -/
def WI (s : List UInt8) (t : Tree) : Prop := ∃ ks, Der .chosen ks t ∧ Lexes s ((1, [105, 102]) :: ks) okA
theorem WI.ws {s : List UInt8} {t : Tree} (h : WI s t) : WS .stmt s t := by
  obtain ⟨ks, h1, h2⟩ := h
  exact ⟨_, .sif h1, h2⟩
theorem lex_else : Lexes [32, 101, 108, 115, 101, 32] [(1, [101, 108, 115, 101])] okA := lex_sp (w := [101, 108, 115, 101]) (lex_kw (by decide)) okW_32
theorem headI_parts {k : Int} {tx : List UInt8} (h : headI k tx = true) : k = 2 ∧ tx = [] := by
  unfold headI at h
  simpa using h
theorem lex_nl' : Lexes [10] [] okA := lex_nl
theorem blOK_parts {k : Int} {tx : List UInt8} {ks : List Tree} {l : Int} (h : blOK (.node k tx ks l) = true) : k = 12 ∧ tx = [] ∧ stsOK ks = true := by
  rw [blOK_node, Bool.and_eq_true, Bool.and_eq_true, decide_eq_true_iff, decide_eq_true_iff] at h
  exact ⟨h.1.1, h.1.2, h.2⟩
theorem blOK_kind {t : Tree} (h : blOK t = true) : t.kind = 12 := by
  obtain ⟨k, tx, ks, l⟩ := t
  exact (blOK_parts h).1
theorem bl_more {bl : List UInt8} (h : ∀ x ∈ bl, x = 32) : ∀ x ∈ bl ++ [32, 32], x = 32 := by
  intro x hx
  rcases List.mem_append.1 hx with hx | hx
  · exact h x hx
  · simpa using hx
mutual
theorem line_ws : ∀ (t : Tree) (bl : List UInt8), stOK t = true → (∀ x ∈ bl, x = 32) → WS .stmt (lineP t bl) t ∧ (t.kind = 2 → WI (lineP t bl) t)
  | .node k tx [] l, bl, h, hb => by
    rw [stOK_0] at h
    rw [lineP_0]
    refine ⟨line0_ws h, fun e => ?_⟩
    rw [show k = 2 from e] at h
    exact absurd h (by simp [head0])
  | .node k tx [e] l, bl, h, hb => by
    rw [stOK_1, Bool.and_eq_true] at h
    rw [lineP_1]
    refine ⟨line1_ws h.1 h.2, fun e => ?_⟩
    rw [show k = 2 from e] at h
    exact absurd h.1 (by simp [head1])
  | .node k tx [e, b] l, bl, h, hb => by
    rw [stOK_2, Bool.and_eq_true, Bool.and_eq_true] at h
    obtain ⟨h1, h2, h3⟩ := h
    obtain ⟨rfl, rfl⟩ := headI_parts h1
    obtain ⟨⟨ke, hd, hl⟩, _⟩ := writ_expr h2
    obtain ⟨kb, bd, hbl⟩ := brace_ws b bl h3 hb
    have hw : WI (lineP (.node 2 [] [e, b] l) bl) (.node 2 [] [e, b] l) := by
      rw [lineP_2]
      exact ⟨_, .ch2 hd bd, lex_if hl hbl⟩
    exact ⟨hw.ws, fun _ => hw⟩
  | .node k tx [e, b, x] l, bl, h, hb => by
    rw [stOK_3, Bool.and_eq_true, Bool.and_eq_true, Bool.and_eq_true, Bool.or_eq_true, Bool.and_eq_true, decide_eq_true_iff] at h
    obtain ⟨h1, h2, h3, h4⟩ := h
    obtain ⟨rfl, rfl⟩ := headI_parts h1
    obtain ⟨⟨ke, hd, hl⟩, _⟩ := writ_expr h2
    obtain ⟨kb, bd, hbl⟩ := brace_ws b bl h3 hb
    have hw : WI (lineP (.node 2 [] [e, b, x] l) bl) (.node 2 [] [e, b, x] l) := by
      rw [lineP_3]
      rcases h4 with h4 | ⟨h4, h5⟩
      · obtain ⟨kx, xd, hx⟩ := brace_ws x bl h4 hb
        rw [if_neg (by rw [blOK_kind h4]; decide)]
        refine ⟨_, .chb hd bd xd, ?_⟩
        have := lexA (lex_if hl hbl) (lexA lex_else hx)
        simpa using this
      · obtain ⟨kx, xd, hx⟩ := (line_ws x bl h5 hb).2 h4
        rw [if_pos h4]
        refine ⟨_, .chc hd bd xd, ?_⟩
        have := lexA (lex_if hl hbl) (lexA lex_else hx)
        simpa using this
    exact ⟨hw.ws, fun _ => hw⟩
  | .node k tx (a :: b :: c :: d :: r) l, bl, h, hb => by
    rw [stOK_4 (by simp)] at h
    cases h
theorem brace_ws : ∀ (t : Tree) (bl : List UInt8), blOK t = true → (∀ x ∈ bl, x = 32) → WS .block (braceP t bl) t
  | .node k tx ks l, bl, h, hb => by
    obtain ⟨rfl, rfl, h3⟩ := blOK_parts h
    obtain ⟨kk, hd, hl⟩ := lines_ws ks (bl ++ [32, 32]) h3 (bl_more hb)
    rw [braceP_node]
    refine ⟨_, .blk hd, ?_⟩
    have ho : Lexes [123] [(4, [123])] okA := lex_signA (by decide) (by decide) (by decide)
    have hc : Lexes [125] [(4, [125])] okA := lex_signA (by decide) (by decide) (by decide)
    have := lexA (lexA ho lex_nl) (lexA hl (lexA (lex_blanks bl hb) hc))
    simpa using this
theorem lines_ws : ∀ (ts : List Tree) (bl : List UInt8), stsOK ts = true → (∀ x ∈ bl, x = 32) → WS .stl (linesP ts bl) (lst ts)
  | [], bl, _, hb => by
    rw [linesP_nil]
    exact ⟨_, .t0, Lexes.nil _⟩
  | t :: ts, bl, h, hb => by
    rw [stsOK_cons, Bool.and_eq_true] at h
    obtain ⟨k1, d1, l1⟩ := (line_ws t bl h.1 hb).1
    obtain ⟨k2, d2, l2⟩ := lines_ws ts bl h.2 hb
    rw [linesP_cons]
    refine ⟨_, .t1 d1 d2, ?_⟩
    have := lexA (lexA (lex_blanks bl hb) (lexA l1 lex_nl)) l2
    simpa using this
end
end Go.Proofs.YtogkiifljdnjgaaDoor
