/- In plain Lean: whatever the grammar derives, the parser reads. No condition. -/
import Derived.Test.YtogkiifljdnjgaaDoorDerQ
namespace Go.Proofs.YtogkiifljdnjgaaDoor
set_option linter.unusedVariables false
set_option linter.unusedSimpArgs false

theorem hd_kt {us r : List Tok} {g : KT} {b : List KT} (h : us.map kt = g :: b) : kt (hdT (us ++ r)) = g := by
  obtain ⟨o, ub, rfl, h1, h2⟩ := split1 h
  exact h1
theorem r_ops {n : Nat} {C nt : NT} {kind : Int} {op : List UInt8} {k : Int} {f : Nat} {t' y' x y : Tree} {l : Int} {o : Tok} {ub r s : List Tok} (hb : body (pRun n) C (s, 0) = opsF (pRun n) nt kind op k f t' (o :: (ub ++ r), 0))
    (hx : erT t' = erT x) (hf : (o :: (ub ++ r)).length ≤ f) (ho : kt o = (kind, op)) (hr : r ≠ []) (hy : pRun n nt (ub ++ r, 0) = (y', (r, 0))) (hye : erT y' = erT y) :
    ∃ t2 f2, erT t2 = erT (.node k [] [x, y] l) ∧ r.length ≤ f2 ∧ body (pRun n) C (s, 0) = opsF (pRun n) nt kind op k f2 t2 (r, 0) := by
  obtain ⟨g, rfl⟩ : ∃ g, f = g + 1 := ⟨f - 1, by simp only [List.length_cons] at hf; omega⟩
  refine ⟨binT k [] t' y', g, erT_bin hx hye, ?_, by rw [hb, opsF_go ho (app_ne hr) hy]⟩
  simp only [List.length_cons, List.length_append] at hf
  omega
theorem q_e1 {a : List KT} {x : Tree} (ih : Q .conj a x) : Q .expr a x := by
  intro n us r hu hr hn hf
  obtain ⟨t', e, hp⟩ := fin_conj ih n us r hu hr (by simp only [rkC] at hn; omega) hf
  exact ⟨t', r.length, e, Nat.le_refl _, by show opsF _ _ _ _ _ _ _ _ = _; rw [hp]⟩
theorem q_c1 {a : List KT} {x : Tree} (ih : Q .neg a x) : Q .conj a x := by
  intro n us r hu hr hn hf
  obtain ⟨t', e, hp⟩ := fin_neg ih n us r hu hr (by simp only [rkC] at hn; omega) hf
  exact ⟨t', r.length, e, Nat.le_refl _, by show opsF _ _ _ _ _ _ _ _ = _; rw [hp]⟩
theorem q_s1 {a : List KT} {x : Tree} (ih : Q .prod a x) : Q .sum a x := by
  intro n us r hu hr hn hf
  obtain ⟨t', e, hp⟩ := fin_prod ih n us r hu hr (by simp only [rkC] at hn; omega) hf
  exact ⟨t', r.length, e, Nat.le_refl _, by show sumF _ _ _ _ = _; rw [hp]⟩
theorem q_p1 {a : List KT} {x : Tree} (ih : Q .atom a x) : Q .prod a x := by
  intro n us r hu hr hn hf
  obtain ⟨t', e, hp⟩ := fin_atom ih n us r hu hr (by simp only [rkC] at hn; omega) hf
  exact ⟨t', r.length, e, Nat.le_refl _, by show opsF _ _ _ _ _ _ _ _ = _; rw [hp]⟩
theorem q_e2 {a b : List KT} {x y : Tree} {l : Int} (iha : Q .expr a x) (ihb : Q .conj b y) : Q .expr (a ++ (1, [111, 114]) :: b) (.node 13 [] [x, y] l) := by
  intro n us r hu hr hn hf
  obtain ⟨ua, o, ub, rfl, h1, h2, h3⟩ := split3 hu
  simp only [rkC, List.length_append, List.length_cons] at hn
  rw [List.append_assoc, List.cons_append]
  obtain ⟨t', f, e1, e2, e3⟩ := iha n ua (o :: (ub ++ r)) h1 (by simp) (by simp only [rkC, List.length_append, List.length_cons]; omega) (by show lev _ < 2; rw [lev_hd h2]; decide)
  obtain ⟨y', g1, g2⟩ := fin_conj ihb n ub r h3 hr (by omega) hf
  exact r_ops e3 e1 e2 h2 hr g2 g1
theorem q_c2 {a b : List KT} {x y : Tree} {l : Int} (iha : Q .conj a x) (ihb : Q .neg b y) : Q .conj (a ++ (1, [97, 110, 100]) :: b) (.node 14 [] [x, y] l) := by
  intro n us r hu hr hn hf
  obtain ⟨ua, o, ub, rfl, h1, h2, h3⟩ := split3 hu
  simp only [rkC, List.length_append, List.length_cons] at hn
  rw [List.append_assoc, List.cons_append]
  obtain ⟨t', f, e1, e2, e3⟩ := iha n ua (o :: (ub ++ r)) h1 (by simp) (by simp only [rkC, List.length_append, List.length_cons]; omega) (by show lev _ < 4; rw [lev_hd h2]; decide)
  obtain ⟨y', g1, g2⟩ := fin_neg ihb n ub r h3 hr (by omega) hf
  exact r_ops e3 e1 e2 h2 hr g2 g1
theorem q_p2 {a b : List KT} {x y : Tree} {l : Int} (iha : Q .prod a x) (ihb : Q .atom b y) : Q .prod (a ++ (4, [42]) :: b) (.node 19 [] [x, y] l) := by
  intro n us r hu hr hn hf
  obtain ⟨ua, o, ub, rfl, h1, h2, h3⟩ := split3 hu
  simp only [rkC, List.length_append, List.length_cons] at hn
  rw [List.append_assoc, List.cons_append]
  obtain ⟨t', f, e1, e2, e3⟩ := iha n ua (o :: (ub ++ r)) h1 (by simp) (by simp only [rkC, List.length_append, List.length_cons]; omega) (by show lev _ < 8; rw [lev_hd h2]; decide)
  obtain ⟨y', g1, g2⟩ := fin_atom ihb n ub r h3 hr (by omega) hf
  exact r_ops e3 e1 e2 h2 hr g2 g1
theorem q_s2 {a b : List KT} {x y : Tree} {l : Int} (iha : Q .sum a x) (ihb : Q .prod b y) : Q .sum (a ++ (4, [43]) :: b) (.node 17 [] [x, y] l) := by
  intro n us r hu hr hn hf
  obtain ⟨ua, o, ub, rfl, h1, h2, h3⟩ := split3 hu
  simp only [rkC, List.length_append, List.length_cons] at hn
  rw [List.append_assoc, List.cons_append]
  obtain ⟨t', f, e1, e2, e3⟩ := iha n ua (o :: (ub ++ r)) h1 (by simp) (by simp only [rkC, List.length_append, List.length_cons]; omega) (by show lev _ < 6; rw [lev_hd h2]; decide)
  obtain ⟨y', g1, g2⟩ := fin_prod ihb n ub r h3 hr (by omega) hf
  simp only [List.length_append, List.length_cons] at e2
  obtain ⟨g, rfl⟩ : ∃ g, f = g + 1 := ⟨f - 1, by omega⟩
  exact ⟨binT 17 [] t' y', g, erT_bin e1 g1, by omega, by rw [e3, sumF_go h2 (app_ne hr) g2]⟩
theorem q_s3 {a b : List KT} {x y : Tree} {l : Int} (iha : Q .sum a x) (ihb : Q .prod b y) : Q .sum (a ++ (4, [45]) :: b) (.node 18 [] [x, y] l) := by
  intro n us r hu hr hn hf
  obtain ⟨ua, o, ub, rfl, h1, h2, h3⟩ := split3 hu
  simp only [rkC, List.length_append, List.length_cons] at hn
  rw [List.append_assoc, List.cons_append]
  obtain ⟨t', f, e1, e2, e3⟩ := iha n ua (o :: (ub ++ r)) h1 (by simp) (by simp only [rkC, List.length_append, List.length_cons]; omega) (by show lev _ < 6; rw [lev_hd h2]; decide)
  obtain ⟨y', g1, g2⟩ := fin_prod ihb n ub r h3 hr (by omega) hf
  simp only [List.length_append, List.length_cons] at e2
  obtain ⟨g, rfl⟩ : ∃ g, f = g + 1 := ⟨f - 1, by omega⟩
  exact ⟨binT 18 [] t' y', g, erT_bin e1 g1, by omega, by rw [e3, sumF_go2 h2 (app_ne hr) g2]⟩
theorem q_n1 {a : List KT} {x : Tree} (ha : Der .comp a x) (ih : Q .comp a x) : Q .neg a x := by
  intro n us r hu hr hn hf
  obtain ⟨g, b, rfl, hg⟩ := der_head ha nofun
  obtain ⟨t', e, hp⟩ := fin_comp ih n us r hu hr (by simp only [rkC] at hn; omega) hf
  refine ⟨t', e, ?_⟩
  show negB _ _ = _
  unfold negB
  rw [if_neg (by dsimp only; rw [isW_no (by rw [hd_kt hu]; exact aHead_not hg)]; decide), hp]
theorem q_n2 {a : List KT} {x : Tree} {l : Int} (ih : Q .neg a x) : Q .neg ((1, [110, 111, 116]) :: a) (.node 15 [] [x] l) := by
  intro n us r hu hr hn hf
  obtain ⟨o, ub, rfl, h1, h2⟩ := split1 hu
  simp only [rkC, List.length_cons] at hn
  obtain ⟨t', e, hp⟩ := fin_neg ih n ub r h2 hr (by omega) hf
  refine ⟨.node 15 [] [t'] o.line, by simp only [erT_node, erL_cons, erL_nil, e], ?_⟩
  show negB _ _ = _
  unfold negB
  rw [List.cons_append, if_pos (isW_yes h1)]
  dsimp only
  rw [nxt_cons (app_ne hr), hp]
  rfl
theorem q_m1 {a : List KT} {x : Tree} (ih : Q .sum a x) : Q .comp a x := by
  intro n us r hu hr hn hf
  have hf' : lev r < 4 := hf
  obtain ⟨t', e, hp⟩ := fin_sum ih n us r hu hr (by simp only [rkC] at hn; omega) (show lev r < 5 by omega)
  refine ⟨t', e, ?_⟩
  show compB _ _ = _
  unfold compB
  rw [hp]
  dsimp only
  rw [if_neg (fun h => by rw [cmp_lev hf'] at h; exact absurd h.2 (by decide))]
theorem q_m2 {a b : List KT} {x y : Tree} {k l : Int} {tx : List UInt8} (hc : cmpW k tx = true) (iha : Q .sum a x) (ihb : Q .sum b y) : Q .comp (a ++ (k, tx) :: b) (.node 16 tx [x, y] l) := by
  intro n us r hu hr hn hf
  have hf' : lev r < 4 := hf
  obtain ⟨ua, o, ub, rfl, h1, h2, h3⟩ := split3 hu
  simp only [rkC, List.length_append, List.length_cons] at hn
  rw [List.append_assoc, List.cons_append]
  obtain ⟨x', e, hp⟩ := fin_sum iha n ua (o :: (ub ++ r)) h1 (by simp) (by simp only [List.length_append, List.length_cons]; omega) (by show lev _ < 5; rw [lev_cmp (r := o :: (ub ++ r)) h2 hc]; decide)
  obtain ⟨y', g1, g2⟩ := fin_sum ihb n ub r h3 hr (by omega) (show lev r < 5 by omega)
  refine ⟨binT 16 tx x' y', erT_bin e g1, ?_⟩
  show compB _ _ = _
  unfold compB
  rw [hp]
  dsimp only
  rw [show hdT (o :: (ub ++ r)) = o from rfl, kt_kind h2, kt_text h2, if_pos ⟨rfl, hc⟩, nxt_cons (app_ne hr), g2]
theorem q_num {tx : List UInt8} {l : Int} : Q .atom [(2, tx)] (.node 20 tx [] l) := by
  intro n us r hu hr hn hf
  obtain ⟨o, ub, rfl, h1, h2⟩ := split1 hu
  obtain rfl := List.map_eq_nil_iff.1 h2
  refine ⟨.node 20 tx [] o.line, by simp only [erT_node], ?_⟩
  show atomB _ _ = _
  unfold atomB
  dsimp only
  rw [List.cons_append, List.nil_append, show hdT (o :: r) = o from rfl, kt_kind h1, kt_text h1, if_pos rfl, nxt_cons hr]
theorem q_str {tx : List UInt8} {l : Int} : Q .atom [(3, tx)] (.node 21 tx [] l) := by
  intro n us r hu hr hn hf
  obtain ⟨o, ub, rfl, h1, h2⟩ := split1 hu
  obtain rfl := List.map_eq_nil_iff.1 h2
  refine ⟨.node 21 tx [] o.line, by simp only [erT_node], ?_⟩
  show atomB _ _ = _
  unfold atomB
  dsimp only
  rw [List.cons_append, List.nil_append, show hdT (o :: r) = o from rfl, kt_kind h1, kt_text h1, if_neg (by decide), if_pos rfl, nxt_cons hr]
theorem q_boo {tx : List UInt8} {l : Int} (h : tx = [116, 114, 117, 101] ∨ tx = [102, 97, 108, 115, 101]) : Q .atom [(1, tx)] (.node 22 tx [] l) := by
  intro n us r hu hr hn hf
  obtain ⟨o, ub, rfl, h1, h2⟩ := split1 hu
  obtain rfl := List.map_eq_nil_iff.1 h2
  refine ⟨.node 22 tx [] o.line, by simp only [erT_node], ?_⟩
  show atomB _ _ = _
  unfold atomB
  dsimp only
  have hc : isW (o :: r) 1 [116, 114, 117, 101] = true ∨ isW (o :: r) 1 [102, 97, 108, 115, 101] = true := by
    rcases h with rfl | rfl
    · exact .inl (isW_yes h1)
    · exact .inr (isW_yes h1)
  rw [List.cons_append, List.nil_append, show hdT (o :: r) = o from rfl, kt_kind h1, kt_text h1, if_neg (by decide), if_neg (by decide), if_pos hc, nxt_cons hr]
theorem nam_no {tx : List UInt8} {o : Tok} {l : List Tok} (h : tx ∉ kws) (h1 : kt o = (1, tx)) : ¬ (isW (o :: l) 1 [116, 114, 117, 101] = true ∨ isW (o :: l) 1 [102, 97, 108, 115, 101] = true) := by
  rintro (e | e)
  · have := (Prod.mk.inj (h1.symm.trans (isW_kt.1 e))).2
    rw [this] at h
    exact h (by decide)
  · have := (Prod.mk.inj (h1.symm.trans (isW_kt.1 e))).2
    rw [this] at h
    exact h (by decide)
theorem q_nam {tx : List UInt8} {l : Int} (h : tx ∉ kws) : Q .atom [(1, tx)] (.node 23 tx [] l) := by
  intro n us r hu hr hn hf
  obtain ⟨o, ub, rfl, h1, h2⟩ := split1 hu
  obtain rfl := List.map_eq_nil_iff.1 h2
  refine ⟨.node 23 tx [] o.line, by simp only [erT_node], ?_⟩
  show atomB _ _ = _
  unfold atomB
  dsimp only
  rw [List.cons_append, List.nil_append, show hdT (o :: r) = o from rfl, kt_kind h1, kt_text h1, if_neg (by decide), if_neg (by decide), if_neg (nam_no h h1), if_pos ⟨rfl, h⟩, nxt_cons hr, if_neg (by rw [isW_lev (show lev r < 8 from hf) (by decide)]; decide)]
theorem q_call {tx : List UInt8} {a : List KT} {x : Tree} {l : Int} (h : tx ∉ kws) (ih : Q .args a x) : Q .atom ((1, tx) :: (4, [40]) :: a) (.node 24 tx x.kids l) := by
  intro n us r hu hr hn hf
  obtain ⟨o, u2, rfl, h1, h2⟩ := split1 hu
  obtain ⟨p, ub, rfl, h3, h4⟩ := split1 h2
  simp only [rkC, List.length_cons] at hn
  obtain ⟨ks', e, hp⟩ := fin_args ih n ub r h4 hr (by omega)
  refine ⟨.node 24 tx ks' o.line, by simp only [erT_node, e], ?_⟩
  show atomB _ _ = _
  unfold atomB
  dsimp only
  rw [List.cons_append, List.cons_append, show hdT (o :: p :: (ub ++ r)) = o from rfl, kt_kind h1, kt_text h1, if_neg (by decide), if_neg (by decide), if_neg (nam_no h h1), if_pos ⟨rfl, h⟩, nxt_cons (by simp), if_pos (isW_yes h3), nxt_cons (app_ne hr), hp]
  rfl
theorem q_par {a : List KT} {x : Tree} (ih : Q .expr a x) : Q .atom ((4, [40]) :: (a ++ [(4, [41])])) x := by
  intro n us r hu hr hn hf
  obtain ⟨o, u2, rfl, h1, h2⟩ := split1 hu
  obtain ⟨ua, p, ub, rfl, h3, h4, h5⟩ := split3 h2
  obtain rfl := List.map_eq_nil_iff.1 h5
  simp only [rkC, List.length_cons, List.length_append, List.length_nil] at hn
  obtain ⟨x', e, hp⟩ := fin_expr ih n ua (p :: r) h3 (by simp) (by simp only [List.length_cons]; omega) (by show lev _ < 1; rw [lev_hd h4]; decide)
  refine ⟨x', e, ?_⟩
  show atomB _ _ = _
  unfold atomB
  dsimp only
  rw [List.cons_append, List.append_assoc, List.cons_append, List.nil_append, show hdT (o :: (ua ++ p :: r)) = o from rfl, kt_kind h1, if_neg (by decide), if_neg (by decide), if_neg (by rw [isW_dif h1 (by decide), isW_dif h1 (by decide)]; decide), if_neg (fun e => absurd e.1 (by decide)), if_pos (isW_yes h1), nxt_cons (by simp), hp]
  dsimp only
  rw [if_pos rfl, signF_ok h4 hr]
theorem q_a0 : Q .args [(4, [41])] (lst []) := by
  intro n us r hu hr hn hf
  obtain ⟨o, ub, rfl, h1, h2⟩ := split1 hu
  obtain rfl := List.map_eq_nil_iff.1 h2
  refine ⟨[], rfl, ?_⟩
  show argsB _ _ = _
  unfold argsB
  rw [List.cons_append, List.nil_append, if_pos (isW_yes h1), nxt_cons hr]
theorem q_a1 {a : List KT} {x : Tree} (ha : Der .argl a x) (ih : Q .argl a x) : Q .args a x := by
  intro n us r hu hr hn hf
  obtain ⟨g, b, rfl, hg⟩ := der_head ha nofun
  obtain ⟨ks', e, hp⟩ := ih n us r hu hr hn trivial ((us ++ r).length + 1) [] (Nat.le_succ _)
  refine ⟨ks', e, ?_⟩
  show argsB _ _ = _
  unfold argsB
  rw [if_neg (by dsimp only; rw [isW_no (by rw [hd_kt hu]; exact eHead_par hg)]; decide), hp, List.nil_append]
theorem q_l1 {a : List KT} {x : Tree} (ih : Q .expr a x) : Q .argl (a ++ [(4, [41])]) (lst [x]) := by
  intro n us r hu hr hn hf
  obtain ⟨ua, p, ub, rfl, h3, h4, h5⟩ := split3 hu
  obtain rfl := List.map_eq_nil_iff.1 h5
  simp only [rkC, List.length_cons, List.length_append, List.length_nil] at hn
  obtain ⟨x', e, hp⟩ := fin_expr ih n ua (p :: r) h3 (by simp) (by simp only [List.length_cons]; omega) (by show lev _ < 1; rw [lev_hd h4]; decide)
  intro f acc hfl
  simp only [List.length_cons, List.length_append, List.length_nil] at hfl
  obtain ⟨g, rfl⟩ : ∃ g, f = g + 1 := ⟨f - 1, by omega⟩
  refine ⟨[x'], by show erL [x'] = erL [x]; simp only [erL_cons, erL_nil, e], ?_⟩
  unfold argsF
  rw [List.append_assoc, List.cons_append, List.nil_append, if_neg (fun e => e rfl), hp]
  dsimp only
  rw [if_neg (fun e => e rfl), if_neg (by rw [isW_dif h4 (by decide)]; decide), signF_ok h4 hr]
theorem q_l2 {a b : List KT} {x y : Tree} (iha : Q .expr a x) (ihb : Q .argl b y) : Q .argl (a ++ (4, [44]) :: b) (lst (x :: y.kids)) := by
  intro n us r hu hr hn hf
  obtain ⟨ua, p, ub, rfl, h3, h4, h5⟩ := split3 hu
  simp only [rkC, List.length_cons, List.length_append, List.length_nil] at hn
  obtain ⟨x', e, hp⟩ := fin_expr iha n ua (p :: (ub ++ r)) h3 (by simp) (by simp only [List.length_cons, List.length_append]; omega) (by show lev _ < 1; rw [lev_hd h4]; decide)
  intro f acc hfl
  simp only [List.length_cons, List.length_append, List.length_nil] at hfl
  obtain ⟨g, rfl⟩ : ∃ g, f = g + 1 := ⟨f - 1, by omega⟩
  obtain ⟨ks', e2, hq⟩ := ihb n ub r h5 hr (by simp only [rkC]; omega) trivial g (acc ++ [x']) (by rw [List.length_append]; omega)
  refine ⟨x' :: ks', by show erL (x' :: ks') = erL (x :: y.kids); rw [erL_cons, erL_cons, e, e2], ?_⟩
  unfold argsF
  rw [List.append_assoc, List.cons_append, if_neg (fun e => e rfl), hp]
  dsimp only
  rw [if_neg (fun e => e rfl), if_pos (isW_yes h4), nxt_cons (app_ne hr), hq, List.append_assoc]
  rfl
theorem q_t0 : Q .stl [] (lst []) := by
  intro n us r hu hr hn hf f acc hfl
  obtain rfl := List.map_eq_nil_iff.1 hu
  obtain ⟨g, rfl⟩ : ∃ g, f = g + 1 := ⟨f - 1, by omega⟩
  refine ⟨[], rfl, ?_⟩
  unfold stmtsF
  rw [List.nil_append, List.append_nil, if_neg]
  rintro ⟨_, h1, h2⟩
  rcases hf with h | h
  · exact h1 h
  · dsimp only at h2
    rw [h] at h2
    cases h2
theorem q_t1 {a b : List KT} {x y : Tree} (ha : Der .stmt a x) (hb : Der .stl b y) (iha : Q .stmt a x) (ihb : Q .stl b y) : Q .stl (a ++ b) (lst (x :: y.kids)) := by
  intro n us r hu hr hn hf f acc hfl
  obtain ⟨ua, ub, rfl, h1, h2⟩ := split2 hu
  obtain ⟨g, b', rfl, hg⟩ := der_head ha nofun
  simp only [rkC, List.length_append] at hn hfl
  have hul : 1 ≤ ua.length := by
    have := congrArg List.length h1
    simp only [List.length_map, List.length_cons] at this
    omega
  obtain ⟨f', rfl⟩ : ∃ f', f = f' + 1 := ⟨f - 1, by omega⟩
  have hfo : isW (ub ++ r) 1 [101, 108, 115, 101] = false := by
    rcases der_stl hb with rfl | ⟨q, b2, rfl, hq⟩
    · obtain rfl := List.map_eq_nil_iff.1 h2
      rw [List.nil_append]
      refine isW_no fun e => ?_
      rcases hf with h | h
      · rw [kt_kind e] at h
        exact absurd h (by decide)
      · rw [isW_kt] at h
        rw [h] at e
        exact absurd e (by decide)
    · refine isW_no ?_
      rw [hd_kt h2]
      rintro rfl
      exact hq.2 rfl
  obtain ⟨x', e, hp⟩ := fin_stmt iha n ua (ub ++ r) h1 (app_ne hr) (by rw [List.length_append]; omega) hfo
  obtain ⟨ks', e2, hq⟩ := ihb n ub r h2 hr (by simp only [rkC]; omega) hf f' (acc ++ [x']) (by rw [List.length_append]; omega)
  refine ⟨x' :: ks', by show erL (x' :: ks') = erL (x :: y.kids); rw [erL_cons, erL_cons, e, e2], ?_⟩
  have hk := hd_kt (r := ub ++ r) h1
  unfold stmtsF
  rw [List.append_assoc, if_pos, hp, hq, List.append_assoc]
  · rfl
  · refine ⟨rfl, ?_, ?_⟩
    · dsimp only
      intro e
      have := hg.1
      rw [← hk] at this
      rw [show (hdT (ua ++ (ub ++ r))).kind = 1 from this] at e
      exact absurd e (by decide)
    · dsimp only
      refine isW_no ?_
      rw [hk]
      rintro rfl
      exact absurd hg.1 (by decide)
end Go.Proofs.YtogkiifljdnjgaaDoor
