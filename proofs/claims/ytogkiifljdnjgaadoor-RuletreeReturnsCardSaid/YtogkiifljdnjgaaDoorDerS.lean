/- In plain Lean: whatever the grammar derives, the parser reads (statements, all rules). No condition. -/
import Derived.Test.YtogkiifljdnjgaaDoorDerR
namespace Go.Proofs.YtogkiifljdnjgaaDoor
set_option linter.unusedVariables false
set_option linter.unusedSimpArgs false

theorem q_sif {a : List KT} {x : Tree} (ih : Q .chosen a x) : Q .stmt ((1, [105, 102]) :: a) x := by
  intro n us r hu hr hn hf
  obtain ⟨o, ub, rfl, h1, h2⟩ := split1 hu
  simp only [rkC, List.length_cons] at hn
  obtain ⟨t', e, hp⟩ := fin_chosen ih o.line n ub r h2 hr (by omega) hf
  refine ⟨t', e, ?_⟩
  show stmtB _ _ = _
  unfold stmtB
  dsimp only
  rw [List.cons_append, show hdT (o :: (ub ++ r)) = o from rfl, kt_kind h1, kt_text h1, if_neg (by decide), if_pos rfl, nxt_cons (app_ne hr), hp]
theorem q_slet {a : List KT} {x : Tree} {l : Int} {nm : List UInt8} (hk : nm ∉ kws) (ih : Q .expr a x) : Q .stmt ((1, [108, 101, 116]) :: (1, nm) :: (4, [61]) :: (a ++ [(4, [59])])) (.node 3 nm [x] l) := by
  intro n us r hu hr hn hf
  obtain ⟨o, u2, rfl, h1, h2⟩ := split1 hu
  obtain ⟨p, u3, rfl, h3, h4⟩ := split1 h2
  obtain ⟨q, u4, rfl, h5, h6⟩ := split1 h4
  obtain ⟨ua, z, ub, rfl, h7, h8, h9⟩ := split3 h6
  obtain rfl := List.map_eq_nil_iff.1 h9
  simp only [rkC, List.length_cons, List.length_append, List.length_nil] at hn
  obtain ⟨x', e, hp⟩ := fin_value ih n q z ua r [61] h5 h8 h7 (by decide) hr (by omega)
  refine ⟨.node 3 nm [x'] o.line, by simp only [erT_node, erL_cons, erL_nil, e], ?_⟩
  show stmtB _ _ = _
  unfold stmtB
  dsimp only
  rw [List.cons_append, List.cons_append, List.cons_append, List.append_assoc, List.cons_append, List.nil_append, show hdT (o :: p :: q :: (ua ++ z :: r)) = o from rfl, kt_kind h1, kt_text h1, if_neg (by decide), if_neg (by decide), if_pos rfl, nxt_cons (by simp), show hdT (p :: q :: (ua ++ z :: r)) = p from rfl, kt_kind h3, kt_text h3, if_neg (fun e => e.elim (fun h => h rfl) hk), nxt_cons (by simp), hp]
  rfl
theorem q_sset {a : List KT} {x : Tree} {l : Int} {nm : List UInt8} (hk : nm = [112, 97, 116, 104] ∨ nm = [113, 117, 101, 114, 121]) (ih : Q .expr a x) : Q .stmt ((1, nm) :: (4, [61]) :: (a ++ [(4, [59])])) (.node 4 nm [x] l) := by
  intro n us r hu hr hn hf
  obtain ⟨o, u2, rfl, h1, h2⟩ := split1 hu
  obtain ⟨q, u4, rfl, h5, h6⟩ := split1 h2
  obtain ⟨ua, z, ub, rfl, h7, h8, h9⟩ := split3 h6
  obtain rfl := List.map_eq_nil_iff.1 h9
  simp only [rkC, List.length_cons, List.length_append, List.length_nil] at hn
  obtain ⟨x', e, hp⟩ := fin_value ih n q z ua r [61] h5 h8 h7 (by decide) hr (by omega)
  refine ⟨.node 4 nm [x'] o.line, by simp only [erT_node, erL_cons, erL_nil, e], ?_⟩
  show stmtB _ _ = _
  unfold stmtB
  dsimp only
  rw [List.cons_append, List.cons_append, List.append_assoc, List.cons_append, List.nil_append, show hdT (o :: q :: (ua ++ z :: r)) = o from rfl, kt_kind h1, kt_text h1, if_neg (by decide), if_neg (by rcases hk with rfl | rfl <;> decide), if_neg (by rcases hk with rfl | rfl <;> decide), if_pos hk, nxt_cons (by simp), hp]
  rfl
theorem textF_ok {o : Tok} {l : List Tok} {tx : List UInt8} (h : kt o = (3, tx)) (hl : l ≠ []) : textF (o :: l, 0) = (tx, (l, 0)) := by
  unfold textF
  dsimp only
  rw [show hdT (o :: l) = o from rfl, kt_kind h, kt_text h, if_pos rfl, nxt_cons hl]
theorem q_shdr {a : List KT} {x : Tree} {l : Int} {tx : List UInt8} (ih : Q .expr a x) : Q .stmt ((1, [104, 101, 97, 100, 101, 114]) :: (3, tx) :: (4, [61]) :: (a ++ [(4, [59])])) (.node 5 tx [x] l) := by
  intro n us r hu hr hn hf
  obtain ⟨o, u2, rfl, h1, h2⟩ := split1 hu
  obtain ⟨p, u3, rfl, h3, h4⟩ := split1 h2
  obtain ⟨q, u4, rfl, h5, h6⟩ := split1 h4
  obtain ⟨ua, z, ub, rfl, h7, h8, h9⟩ := split3 h6
  obtain rfl := List.map_eq_nil_iff.1 h9
  simp only [rkC, List.length_cons, List.length_append, List.length_nil] at hn
  obtain ⟨x', e, hp⟩ := fin_value ih n q z ua r [61] h5 h8 h7 (by decide) hr (by omega)
  refine ⟨.node 5 tx [x'] o.line, by simp only [erT_node, erL_cons, erL_nil, e], ?_⟩
  show stmtB _ _ = _
  unfold stmtB
  dsimp only
  rw [List.cons_append, List.cons_append, List.cons_append, List.append_assoc, List.cons_append, List.nil_append, show hdT (o :: p :: q :: (ua ++ z :: r)) = o from rfl, kt_kind h1, kt_text h1, if_neg (by decide), if_neg (by decide), if_neg (by decide), if_neg (by decide), if_pos rfl, nxt_cons (by simp), textF_ok h3 (by simp)]
  dsimp only
  rw [if_pos rfl, hp]
  rfl
theorem q_svry {l : Int} {tx : List UInt8} : Q .stmt [(1, [118, 97, 114, 121]), (3, tx), (4, [59])] (.node 6 tx [] l) := by
  intro n us r hu hr hn hf
  obtain ⟨o, u2, rfl, h1, h2⟩ := split1 hu
  obtain ⟨p, u3, rfl, h3, h4⟩ := split1 h2
  obtain ⟨z, u4, rfl, h8, h6⟩ := split1 h4
  obtain rfl := List.map_eq_nil_iff.1 h6
  refine ⟨.node 6 tx [] o.line, by simp only [erT_node, erL_nil], ?_⟩
  show stmtB _ _ = _
  unfold stmtB
  dsimp only
  rw [List.cons_append, List.cons_append, List.cons_append, List.nil_append, show hdT (o :: p :: z :: r) = o from rfl, kt_kind h1, kt_text h1, if_neg (by decide), if_neg (by decide), if_neg (by decide), if_neg (by decide), if_neg (by decide), if_pos rfl, nxt_cons (by simp), textF_ok h3 (by simp)]
  dsimp only
  rw [if_pos rfl, signF_ok h8 hr]
theorem q_stag {a : List KT} {x : Tree} {l : Int} (ih : Q .expr a x) : Q .stmt ((1, [116, 97, 103]) :: (a ++ [(4, [59])])) (.node 7 [] [x] l) := by
  intro n us r hu hr hn hf
  obtain ⟨o, u2, rfl, h1, h2⟩ := split1 hu
  obtain ⟨ua, z, ub, rfl, h7, h8, h9⟩ := split3 h2
  obtain rfl := List.map_eq_nil_iff.1 h9
  simp only [rkC, List.length_cons, List.length_append, List.length_nil] at hn
  by_cases hn2 : 10 * (ua.length + r.length) + 20 ≤ n
  rotate_left
  · exact absurd hn2 (by omega)
  obtain ⟨x', e, hp⟩ := fin_value0 ih n z ua r h8 h7 hr hn2
  refine ⟨.node 7 [] [x'] o.line, by simp only [erT_node, erL_cons, erL_nil, e], ?_⟩
  show stmtB _ _ = _
  unfold stmtB
  dsimp only
  rw [List.cons_append, List.append_assoc, List.cons_append, List.nil_append, show hdT (o :: (ua ++ z :: r)) = o from rfl, kt_kind h1, kt_text h1, if_neg (by decide), if_neg (by decide), if_neg (by decide), if_neg (by decide), if_neg (by decide), if_neg (by decide), if_pos rfl, nxt_cons (by simp), hp]
  rfl
theorem q_sttl {a : List KT} {x : Tree} {l : Int} (ih : Q .expr a x) : Q .stmt ((1, [116, 116, 108]) :: (a ++ [(4, [59])])) (.node 8 [] [x] l) := by
  intro n us r hu hr hn hf
  obtain ⟨o, u2, rfl, h1, h2⟩ := split1 hu
  obtain ⟨ua, z, ub, rfl, h7, h8, h9⟩ := split3 h2
  obtain rfl := List.map_eq_nil_iff.1 h9
  simp only [rkC, List.length_cons, List.length_append, List.length_nil] at hn
  obtain ⟨x', e, hp⟩ := fin_value0 ih n z ua r h8 h7 hr (by omega)
  refine ⟨.node 8 [] [x'] o.line, by simp only [erT_node, erL_cons, erL_nil, e], ?_⟩
  show stmtB _ _ = _
  unfold stmtB
  dsimp only
  rw [List.cons_append, List.append_assoc, List.cons_append, List.nil_append, show hdT (o :: (ua ++ z :: r)) = o from rfl, kt_kind h1, kt_text h1, if_neg (by decide), if_neg (by decide), if_neg (by decide), if_neg (by decide), if_neg (by decide), if_neg (by decide), if_neg (by decide), if_pos rfl, nxt_cons (by simp), hp]
  rfl
theorem q_sdny {a : List KT} {x : Tree} {l : Int} (ih : Q .expr a x) : Q .stmt ((1, [100, 101, 110, 121]) :: (a ++ [(4, [59])])) (.node 9 [] [x] l) := by
  intro n us r hu hr hn hf
  obtain ⟨o, u2, rfl, h1, h2⟩ := split1 hu
  obtain ⟨ua, z, ub, rfl, h7, h8, h9⟩ := split3 h2
  obtain rfl := List.map_eq_nil_iff.1 h9
  simp only [rkC, List.length_cons, List.length_append, List.length_nil] at hn
  obtain ⟨x', e, hp⟩ := fin_value0 ih n z ua r h8 h7 hr (by omega)
  refine ⟨.node 9 [] [x'] o.line, by simp only [erT_node, erL_cons, erL_nil, e], ?_⟩
  show stmtB _ _ = _
  unfold stmtB
  dsimp only
  rw [List.cons_append, List.append_assoc, List.cons_append, List.nil_append, show hdT (o :: (ua ++ z :: r)) = o from rfl, kt_kind h1, kt_text h1, if_neg (by decide), if_neg (by decide), if_neg (by decide), if_neg (by decide), if_neg (by decide), if_neg (by decide), if_neg (by decide), if_neg (by decide), if_pos rfl, nxt_cons (by simp), hp]
  rfl
theorem q_spas {l : Int} : Q .stmt [(1, [112, 97, 115, 115]), (4, [59])] (.node 10 [] [] l) := by
  intro n us r hu hr hn hf
  obtain ⟨o, u2, rfl, h1, h2⟩ := split1 hu
  obtain ⟨z, u4, rfl, h8, h6⟩ := split1 h2
  obtain rfl := List.map_eq_nil_iff.1 h6
  refine ⟨.node 10 [] [] o.line, by simp only [erT_node, erL_nil], ?_⟩
  show stmtB _ _ = _
  unfold stmtB
  dsimp only
  rw [List.cons_append, List.cons_append, List.nil_append, show hdT (o :: z :: r) = o from rfl, kt_kind h1, kt_text h1, if_neg (by decide), if_neg (by decide), if_neg (by decide), if_neg (by decide), if_neg (by decide), if_neg (by decide), if_neg (by decide), if_neg (by decide), if_neg (by decide), if_pos rfl, nxt_cons (by simp), signF_ok h8 hr]
theorem q_stok {l : Int} : Q .stmt [(1, [116, 111, 107, 101, 110]), (4, [59])] (.node 11 [] [] l) := by
  intro n us r hu hr hn hf
  obtain ⟨o, u2, rfl, h1, h2⟩ := split1 hu
  obtain ⟨z, u4, rfl, h8, h6⟩ := split1 h2
  obtain rfl := List.map_eq_nil_iff.1 h6
  refine ⟨.node 11 [] [] o.line, by simp only [erT_node, erL_nil], ?_⟩
  show stmtB _ _ = _
  unfold stmtB
  dsimp only
  rw [List.cons_append, List.cons_append, List.nil_append, show hdT (o :: z :: r) = o from rfl, kt_kind h1, kt_text h1, if_neg (by decide), if_neg (by decide), if_neg (by decide), if_neg (by decide), if_neg (by decide), if_neg (by decide), if_neg (by decide), if_neg (by decide), if_neg (by decide), if_neg (by decide), if_pos rfl, nxt_cons (by simp), signF_ok h8 hr]
theorem q_blk {a : List KT} {x : Tree} {l : Int} (ih : Q .stl a x) : Q .block ((4, [123]) :: (a ++ [(4, [125])])) (.node 12 [] x.kids l) := by
  intro n us r hu hr hn hf
  obtain ⟨o, u2, rfl, h1, h2⟩ := split1 hu
  obtain ⟨ua, z, ub, rfl, h7, h8, h9⟩ := split3 h2
  obtain rfl := List.map_eq_nil_iff.1 h9
  simp only [rkC, List.length_cons, List.length_append, List.length_nil] at hn
  obtain ⟨ks', e, hp⟩ := fin_stl ih n ua (z :: r) h7 (by simp) (by simp only [List.length_cons]; omega) (.inr (isW_yes h8))
  refine ⟨.node 12 [] ks' o.line, by simp only [erT_node, e], ?_⟩
  show blockB _ _ = _
  unfold blockB
  rw [List.cons_append, List.append_assoc, List.cons_append, List.nil_append, signF_ok h1 (by simp)]
  dsimp only
  rw [if_pos rfl, hp]
  dsimp only
  rw [signF_ok h8 hr]
  rfl
theorem q_ch2 {a b : List KT} {x y : Tree} {l : Int} (ha : Der .expr a x) (hb : Der .block b y) (iha : Q .expr a x) (ihb : Q .block b y) : Q .chosen (a ++ b) (.node 2 [] [x, y] l) := by
  intro n us r hu hr hn hf l2
  obtain ⟨ua, ub, rfl, h1, h2⟩ := split2 hu
  obtain ⟨g, b', rfl, hg⟩ := der_head hb nofun
  obtain ⟨g2, a', rfl, hg2⟩ := der_head ha nofun
  have hul := congrArg List.length h1
  simp only [List.length_map, List.length_cons] at hul
  simp only [rkC, List.length_append] at hn
  obtain ⟨x', e, hp⟩ := fin_expr iha n ua (ub ++ r) h1 (app_ne hr) (by rw [List.length_append]; omega) (by show lev _ < 1; unfold lev; rw [hd_kt h2, show g = (4, [123]) from hg]; decide)
  obtain ⟨y', e2, hq⟩ := fin_block ihb n ub r h2 hr (by omega) trivial
  refine ⟨.node 2 [] [x', y'] l2, by simp only [erT_node, erL_cons, erL_nil, e, e2], ?_⟩
  show chosenB _ _ _ = _
  unfold chosenB
  dsimp only
  rw [List.append_assoc, hp]
  dsimp only
  rw [if_neg (fun e => e rfl), hq]
  dsimp only
  rw [if_pos (.inr hf)]
theorem q_chb {a b c : List KT} {x y z : Tree} {l : Int} (ha : Der .expr a x) (hb : Der .block b y) (hc : Der .block c z) (iha : Q .expr a x) (ihb : Q .block b y) (ihc : Q .block c z) : Q .chosen (a ++ (b ++ (1, [101, 108, 115, 101]) :: c)) (.node 2 [] [x, y, z] l) := by
  intro n us r hu hr hn hf l2
  obtain ⟨ua, u2, rfl, h1, h2⟩ := split2 hu
  obtain ⟨ub, o, uc, rfl, h3, h4, h5⟩ := split3 h2
  obtain ⟨g, b', rfl, hg⟩ := der_head hb nofun
  obtain ⟨g2, a', rfl, hg2⟩ := der_head ha nofun
  obtain ⟨g3, c', rfl, hg3⟩ := der_head hc nofun
  have hul := congrArg List.length h1
  simp only [List.length_map, List.length_cons] at hul
  simp only [rkC, List.length_append, List.length_cons] at hn
  obtain ⟨x', e, hp⟩ := fin_expr iha n ua (ub ++ o :: (uc ++ r)) h1 (by simp) (by simp only [List.length_append, List.length_cons]; omega) (by show lev _ < 1; unfold lev; rw [hd_kt h3, show g = (4, [123]) from hg]; decide)
  obtain ⟨y', e2, hq⟩ := fin_block ihb n ub (o :: (uc ++ r)) h3 (by simp) (by simp only [List.length_append, List.length_cons]; omega) trivial
  obtain ⟨z', e3, hz⟩ := fin_block ihc n uc r h5 hr (by omega) trivial
  refine ⟨.node 2 [] [x', y', z'] l2, by simp only [erT_node, erL_cons, erL_nil, e, e2, e3], ?_⟩
  show chosenB _ _ _ = _
  unfold chosenB
  dsimp only
  rw [List.append_assoc, List.append_assoc, List.cons_append, hp]
  dsimp only
  rw [if_neg (fun e => e rfl), hq]
  dsimp only
  rw [if_neg (fun h => h.elim (fun h => h rfl) (fun h => by rw [isW_yes h4] at h; cases h)), nxt_cons (app_ne hr), if_neg (by rw [isW_no (by rw [hd_kt h5, show g3 = (4, [123]) from hg3]; decide)]; decide), hz]
theorem q_chc {a b c : List KT} {x y z : Tree} {l : Int} (ha : Der .expr a x) (hb : Der .block b y) (iha : Q .expr a x) (ihb : Q .block b y) (ihc : Q .chosen c z) : Q .chosen (a ++ (b ++ (1, [101, 108, 115, 101]) :: (1, [105, 102]) :: c)) (.node 2 [] [x, y, z] l) := by
  intro n us r hu hr hn hf l2
  obtain ⟨ua, u2, rfl, h1, h2⟩ := split2 hu
  obtain ⟨ub, o, u4, rfl, h3, h4, h5⟩ := split3 h2
  obtain ⟨p, uc, rfl, h6, h7⟩ := split1 h5
  obtain ⟨g, b', rfl, hg⟩ := der_head hb nofun
  obtain ⟨g2, a', rfl, hg2⟩ := der_head ha nofun
  have hul := congrArg List.length h1
  simp only [List.length_map, List.length_cons] at hul
  simp only [rkC, List.length_append, List.length_cons] at hn
  obtain ⟨x', e, hp⟩ := fin_expr iha n ua (ub ++ o :: p :: (uc ++ r)) h1 (by simp) (by simp only [List.length_append, List.length_cons]; omega) (by show lev _ < 1; unfold lev; rw [hd_kt h3, show g = (4, [123]) from hg]; decide)
  obtain ⟨y', e2, hq⟩ := fin_block ihb n ub (o :: p :: (uc ++ r)) h3 (by simp) (by simp only [List.length_append, List.length_cons]; omega) trivial
  obtain ⟨z', e3, hz⟩ := fin_chosen ihc p.line n uc r h7 hr (by omega) hf
  refine ⟨.node 2 [] [x', y', z'] l2, by simp only [erT_node, erL_cons, erL_nil, e, e2, e3], ?_⟩
  show chosenB _ _ _ = _
  unfold chosenB
  dsimp only
  rw [List.append_assoc, List.append_assoc, List.cons_append, List.cons_append, hp]
  dsimp only
  rw [if_neg (fun e => e rfl), hq]
  dsimp only
  rw [if_neg (fun h => h.elim (fun h => h rfl) (fun h => by rw [isW_yes h4] at h; cases h)), nxt_cons (by simp), if_pos (isW_yes h6), nxt_cons (app_ne hr), show hdT (p :: (uc ++ r)) = p from rfl, hz]
/-- All rules. -/
theorem der_run {c : Cat} {ks : List KT} {t : Tree} (h : Der c ks t) : Q c ks t := by
  induction h with
  | e1 _ ih => exact q_e1 ih
  | e2 _ _ ih ih2 => exact q_e2 ih ih2
  | c1 _ ih => exact q_c1 ih
  | c2 _ _ ih ih2 => exact q_c2 ih ih2
  | n1 h ih => exact q_n1 h ih
  | n2 _ ih => exact q_n2 ih
  | m1 _ ih => exact q_m1 ih
  | m2 h _ _ ih ih2 => exact q_m2 h ih ih2
  | s1 _ ih => exact q_s1 ih
  | s2 _ _ ih ih2 => exact q_s2 ih ih2
  | s3 _ _ ih ih2 => exact q_s3 ih ih2
  | p1 _ ih => exact q_p1 ih
  | p2 _ _ ih ih2 => exact q_p2 ih ih2
  | num => exact q_num
  | str => exact q_str
  | boo h => exact q_boo h
  | nam h => exact q_nam h
  | call h _ ih => exact q_call h ih
  | par _ ih => exact q_par ih
  | a0 => exact q_a0
  | a1 h ih => exact q_a1 h ih
  | l1 _ ih => exact q_l1 ih
  | l2 _ _ ih ih2 => exact q_l2 ih ih2
  | t0 => exact q_t0
  | t1 h1 h2 ih ih2 => exact q_t1 h1 h2 ih ih2
  | sif _ ih => exact q_sif ih
  | slet h _ ih => exact q_slet h ih
  | sset h _ ih => exact q_sset h ih
  | shdr _ ih => exact q_shdr ih
  | svry => exact q_svry
  | stag _ ih => exact q_stag ih
  | sttl _ ih => exact q_sttl ih
  | sdny _ ih => exact q_sdny ih
  | spas => exact q_spas
  | stok => exact q_stok
  | blk _ ih => exact q_blk ih
  | ch2 h1 h2 ih ih2 => exact q_ch2 h1 h2 ih ih2
  | chb h1 h2 h3 ih ih2 ih3 => exact q_chb h1 h2 h3 ih ih2 ih3
  | chc h1 h2 _ ih ih2 ih3 => exact q_chc h1 h2 ih ih2 ih3
/-- A text that gives the tokens of statements is parsed. -/
theorem parse_der {ks : List KT} {t : Tree} (h : Der .stl ks t) (es : List Tok) (z : Tok) (hu : es.map kt = ks) (hz : z.kind = 5) : ∃ ks', erL ks' = erL t.kids ∧ parseR (es ++ [z]) = (lst ks', ([z], 0)) := by
  obtain ⟨ks', e, hp⟩ := fin_stl (der_run h) (10 * (es ++ [z]).length + 2) es [z] hu (by simp) (by simp) (.inl hz)
  exact ⟨ks', e, hp⟩
end Go.Proofs.YtogkiifljdnjgaaDoor
