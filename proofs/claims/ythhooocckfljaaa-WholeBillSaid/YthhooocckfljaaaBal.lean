/- Plain: the logs of nodes, and what a set of entries out of them adds up to. No condition. -/
import Derived.Test.YthhooocckfljaaaGaps
namespace Go.Proofs.Ythhooocckfljaaa
open Go.RowKit Go.Maps Go.Shelf
set_option linter.unusedVariables false
set_option linter.unusedSimpArgs false

/-- What is torn off a log is read back up to the last whole entry. -/
theorem torn_any (L : List Ent) (hL : ∀ e ∈ L, codeE e = 0) (n : Nat) : ∃ k, k ≤ L.length ∧ sizeK L k ≤ n ∧ decsP ((L.flatMap recE).take n) = (L.take k, sizeK L k) ∧ ((L.flatMap recE).length ≤ n → k = L.length) := by
  by_cases hn : (L.flatMap recE).length ≤ n
  · refine ⟨L.length, Nat.le_refl _, by rw [sizeK_all]; exact hn, ?_, fun _ => rfl⟩
    rw [List.take_of_length_le hn]
    have := torn_law L L.length (L.flatMap recE).length hL (Nat.le_refl _) (sizeK_le L _) (Nat.le_refl _) (.inl rfl)
    rw [List.take_of_length_le (Nat.le_refl _)] at this
    exact this
  · have hlt : n < (L.flatMap recE).length := by omega
    have key : ∀ d k, L.length - k = d → k ≤ L.length → sizeK L k ≤ n → ∃ j e, L[j]? = some e ∧ sizeK L j ≤ n ∧ n < sizeK L j + (recE e).length := by
      intro d
      induction d with
      | zero =>
        intro k hd hk hs
        obtain rfl : k = L.length := by omega
        rw [sizeK_all] at hs
        omega
      | succ d ih =>
        intro k hd hk hs
        have hkl : k < L.length := by omega
        have he : L[k]? = some L[k] := List.getElem?_eq_getElem hkl
        by_cases h : n < sizeK L k + (recE L[k]).length
        · exact ⟨k, L[k], he, hs, h⟩
        · exact ih (k + 1) (by omega) (by omega) (by rw [sizeK_more he]; omega)
    obtain ⟨j, e, he, hs, hl⟩ := key L.length 0 rfl (Nat.zero_le _) (Nat.zero_le _)
    have hj : j < L.length := (List.getElem?_eq_some_iff.1 he).1
    exact ⟨j, by omega, hs, torn_law L j n hL (by omega) hs (by omega) (.inr ⟨e, he, hl⟩), fun h => absurd h hn⟩

/-! ### Sums -/
theorem totP_nonneg (f : Ent → Bool) (g : Ent → Int) : ∀ es : List Ent, (∀ e ∈ es, 0 ≤ g e) → 0 ≤ totP f g es
  | [], _ => Int.le_refl 0
  | e :: es, h => by
    have h1 := h e (by simp)
    have h2 := totP_nonneg f g es fun x hx => h x (by simp [hx])
    simp only [totP]
    split <;> omega
theorem totP_sub (f : Ent → Bool) (g : Ent → Int) : ∀ A B : List Ent, A.Nodup → (∀ e ∈ A, e ∈ B) → (∀ e ∈ B, 0 ≤ g e) → totP f g A ≤ totP f g B
  | [], B, _, _, hg => totP_nonneg f g B hg
  | a :: A, B, hA, hs, hg => by
    obtain ⟨s, t, rfl⟩ := List.append_of_mem (hs a (by simp))
    have hA' := List.nodup_cons.1 hA
    have ih := totP_sub f g A (s ++ t) hA'.2 (fun e he => by
      have h1 := hs e (by simp [he])
      rcases List.mem_append.1 h1 with h1 | h1
      · simp [h1]
      · rcases List.mem_cons.1 h1 with rfl | h1
        · exact absurd he hA'.1
        · simp [h1]) (fun e he => hg e (by
      rcases List.mem_append.1 he with h1 | h1
      · simp [h1]
      · simp [h1]))
    rw [totP_app] at ih ⊢
    simp only [totP]
    omega
theorem totP_congr (f f' : Ent → Bool) (g : Ent → Int) : ∀ es : List Ent, (∀ e ∈ es, f e = f' e) → totP f g es = totP f' g es
  | [], _ => rfl
  | e :: es, h => by
    simp only [totP]
    rw [h e (by simp), totP_congr f f' g es fun x hx => h x (by simp [hx])]
theorem totP_none (f : Ent → Bool) (g : Ent → Int) : ∀ es : List Ent, (∀ e ∈ es, f e = false) → totP f g es = 0
  | [], _ => rfl
  | e :: es, h => by
    simp only [totP]
    rw [h e (by simp), totP_none f g es fun x hx => h x (by simp [hx])]
    simp
/-- Where hits are at least one each, no hits are no bytes. -/
theorem totP_zero (f : Ent → Bool) : ∀ es : List Ent, (∀ e ∈ es, 1 ≤ e.hits) → totP f Ent.hits es = 0 → totP f Ent.bytes es = 0
  | [], _, _ => rfl
  | e :: es, h, h0 => by
    have h1 := h e (by simp)
    have h2 := totP_nonneg f Ent.hits es fun x hx => by have := h x (by simp [hx]); omega
    simp only [totP] at h0 ⊢
    by_cases he : f e = true
    · rw [if_pos he] at h0; omega
    · rw [if_neg he] at h0 ⊢
      rw [totP_zero f es (fun x hx => h x (by simp [hx])) (by omega)]
      rfl

/-! ### One log -/
/-- What each entry of a node's log is. -/
def Good (nd : List UInt8) (e : Ent) : Prop := codeE e = 0 ∧ e.node = nd ∧ 1 ≤ e.hits ∧ (0 ≤ e.ten ∧ e.ten ≤ 2) ∧ (0 ≤ e.att ∧ e.att < 1000)
/-- A node's log, where its meter stands at the boot bt and the number sq. -/
structure LogOk (nd : List UInt8) (l : List Ent) (bt sq : Int) : Prop where
  ok : ∀ e ∈ l, Good nd e
  up : l.Pairwise fun x y => x.boot < y.boot ∨ (x.boot = y.boot ∧ x.seq < y.seq)
  low : ∀ e ∈ l, e.boot < bt ∨ (e.boot = bt ∧ e.seq ≤ sq)
  pre : ∀ e ∈ l, 2 ≤ e.seq → ∃ f ∈ l, f.boot = e.boot ∧ f.seq = e.seq - 1
  last : 1 ≤ sq → ∃ f ∈ l, f.boot = bt ∧ f.seq = sq
theorem LogOk.nil (nd : List UInt8) (bt : Int) : LogOk nd [] bt 0 :=
  ⟨fun e he => (by cases he), List.Pairwise.nil, fun e he => (by cases he), fun e he => (by cases he), fun h => (by omega)⟩
theorem LogOk.boot {nd : List UInt8} {l : List Ent} {bt sq : Int} (h : LogOk nd l bt sq) : LogOk nd l (bt + 1) 0 :=
  ⟨h.ok, h.up, fun e he => by rcases h.low e he with h1 | h1 <;> omega, h.pre, fun h => (by omega)⟩
theorem LogOk.app {nd : List UInt8} {l : List Ent} {bt sq : Int} (h : LogOk nd l bt sq) (e : Ent) (he : Good nd e) (hb : e.boot = bt) (hs : e.seq = sq + 1) : LogOk nd (l ++ [e]) bt (sq + 1) := by
  refine ⟨fun x hx => ?_, ?_, fun x hx => ?_, fun x hx h2 => ?_, fun _ => ⟨e, by simp, hb, hs⟩⟩
  · rcases List.mem_append.1 hx with hx | hx
    · exact h.ok x hx
    · rw [List.mem_singleton.1 hx]; exact he
  · rw [List.pairwise_append]
    refine ⟨h.up, List.pairwise_singleton _ _, fun x hx y hy => ?_⟩
    rw [List.mem_singleton.1 hy]
    rcases h.low x hx with h1 | h1 <;> omega
  · rcases List.mem_append.1 hx with hx | hx
    · rcases h.low x hx with h1 | h1 <;> omega
    · rw [List.mem_singleton.1 hx]; omega
  · rcases List.mem_append.1 hx with hx | hx
    · obtain ⟨f, hf, h3⟩ := h.pre x hx h2
      exact ⟨f, by simp [hf], h3⟩
    · rw [List.mem_singleton.1 hx] at h2 ⊢
      obtain ⟨f, hf, h3, h4⟩ := h.last (by omega)
      exact ⟨f, by simp [hf], by omega, by omega⟩
theorem pair_uniq : ∀ l : List Ent, (l.Pairwise fun x y => x.boot < y.boot ∨ (x.boot = y.boot ∧ x.seq < y.seq)) → ∀ x ∈ l, ∀ y ∈ l, x.boot = y.boot → x.seq = y.seq → x = y
  | [], _, x, hx, _, _, _, _ => (by cases hx)
  | a :: l, h, x, hx, y, hy, h1, h2 => by
    have hh := List.pairwise_cons.1 h
    rcases List.mem_cons.1 hx with e1 | hx2
    · rcases List.mem_cons.1 hy with e2 | hy2
      · rw [e1, e2]
      · have := hh.1 y hy2; rw [e1] at h1 h2; omega
    · rcases List.mem_cons.1 hy with e2 | hy2
      · have := hh.1 x hx2; rw [e2] at h1 h2; omega
      · exact pair_uniq l hh.2 x hx2 y hy2 h1 h2
theorem LogOk.uniq {nd : List UInt8} {l : List Ent} {bt sq : Int} (h : LogOk nd l bt sq) : ∀ x ∈ l, ∀ y ∈ l, x.boot = y.boot → x.seq = y.seq → x = y := pair_uniq l h.up
theorem LogOk.nodup {nd : List UInt8} {l : List Ent} {bt sq : Int} (h : LogOk nd l bt sq) : l.Nodup := by
  refine h.up.imp fun {x y} h1 e => ?_
  subst e
  omega
theorem code_mk (nd : List UInt8) (bt sq tn ht by' at' : Int) (hn : namedB nd = true) (h1 : 0 ≤ bt ∧ bt ≤ 1000000000) (h2 : 1 ≤ sq ∧ sq ≤ 1000000000) (h3 : 0 ≤ tn ∧ tn ≤ 15) (h4 : 0 ≤ ht ∧ ht ≤ 1000000000) (h5 : 0 ≤ by' ∧ by' ≤ 1000000000) (h6 : 0 ≤ at' ∧ at' ≤ 1000000000) :
    codeE ⟨nd, bt, sq, tn, ht, by', at'⟩ = 0 := by
  unfold codeE
  rw [if_pos hn, if_pos]
  unfold rangeE inR
  dsimp only
  omega
/-- What a Flush adds to a log. -/
theorem LogOk.flush {nd : List UInt8} {l : List Ent} {m : Mtr} (h : LogOk nd l m.boot m.seq) (hn : namedB nd = true) (hm : m.node = nd) (hb : 0 ≤ m.boot ∧ m.boot ≤ 1000) (hs : 0 ≤ m.seq ∧ m.seq ≤ 1000000)
    (hp : ∀ t, 0 ≤ m.H t ∧ m.H t ≤ 1000 ∧ 0 ≤ m.Y t ∧ m.Y t ≤ 100000000 ∧ (3 ≤ t → m.H t = 0)) (a : Int) (ha : 0 ≤ a ∧ a < 1000) : ∀ k, k ≤ 16 → LogOk nd (l ++ (flushEs m a k).2) m.boot (flushEs m a k).1
  | 0, _ => by simpa [flushEs] using h
  | k + 1, hk => by
    have ih := LogOk.flush h hn hm hb hs hp a ha k (by omega)
    have hbd := flushEs_bd m a k
    have hpk := hp k
    by_cases h0 : m.H k = 0
    · simp only [flushEs, if_pos h0]; exact ih
    · simp only [flushEs, if_neg h0]
      rw [← List.append_assoc]
      have hk3 : k < 3 := by
        rcases Nat.lt_or_ge k 3 with h3 | h3
        · exact h3
        · exact absurd (hpk.2.2.2.2 h3) h0
      refine ih.app _ ?_ rfl rfl
      refine ⟨by rw [hm]; exact code_mk nd _ _ _ _ _ _ hn (by omega) (by omega) (by omega) (by omega) (by omega) (by omega), hm, ?_, ?_, ?_⟩
      all_goals dsimp only
      all_goals omega
theorem flush_tot (m : Mtr) (a : Int) (t : Nat) (g : Ent → Int) (G : Nat → Int) (hg : ∀ k s, g ⟨m.node, m.boot, s, (k : Nat), m.H k, m.Y k, a⟩ = G k) (h0 : m.H t = 0 → G t = 0) : ∀ k, totP (ofT t) g (flushEs m a k).2 = if t < k then G t else 0
  | 0 => by simp [flushEs, totP]
  | k + 1 => by
    have ih := flush_tot m a t g G hg h0 k
    by_cases hk : m.H k = 0
    · simp only [flushEs, if_pos hk]
      rw [ih]
      by_cases htk : t = k
      · subst htk
        rw [if_neg (Nat.lt_irrefl _), if_pos (Nat.lt_succ_self _), h0 hk]
      · by_cases h1 : t < k
        · rw [if_pos h1, if_pos (by omega)]
        · rw [if_neg h1, if_neg (by omega)]
    · simp only [flushEs, if_neg hk]
      rw [totP_app, ih]
      simp only [totP, ofT, hg, Int.add_zero]
      by_cases htk : t = k
      · subst htk
        simp
      · have hd : decide ((k : Int) = (t : Int)) = false := by simp; omega
        rw [hd]
        by_cases h1 : t < k
        · simp [h1, show t < k + 1 by omega]
        · simp [h1, show ¬ t < k + 1 by omega]

/-! ### Three nodes -/
def nodeN (i : Nat) : List UInt8 := [110, UInt8.ofNat (48 + i)]
theorem node_inj {i j : Nat} (hi : i < 3) (hj : j < 3) (h : nodeN i = nodeN j) : i = j := by
  match i, hi, j, hj with
  | 0, _, 0, _ | 1, _, 1, _ | 2, _, 2, _ => rfl
  | 0, _, 1, _ | 0, _, 2, _ | 1, _, 0, _ | 1, _, 2, _ | 2, _, 0, _ | 2, _, 1, _ => exact absurd h (by decide)
theorem node_named {i : Nat} (hi : i < 3) : namedB (nodeN i) = true := by
  match i, hi with
  | 0, _ | 1, _ | 2, _ => decide
/-- What the nodes and the ledger have. -/
structure Sts where
  m : Nat → Mtr
  logs : Nat → List Ent
  sure : Nat → Nat
  S : List Ent
  sH : Nat → Int
  sY : Nat → Int
def Sts.all (s : Sts) : List Ent := s.logs 0 ++ (s.logs 1 ++ s.logs 2)
def Sts.firm (s : Sts) : List Ent := (s.logs 0).take (s.sure 0) ++ ((s.logs 1).take (s.sure 1) ++ (s.logs 2).take (s.sure 2))
theorem Sts.mem_all {s : Sts} {e : Ent} : e ∈ s.all ↔ ∃ i, i < 3 ∧ e ∈ s.logs i := by
  unfold Sts.all
  simp only [List.mem_append]
  constructor
  · rintro (h | h | h)
    · exact ⟨0, by omega, h⟩
    · exact ⟨1, by omega, h⟩
    · exact ⟨2, by omega, h⟩
  · rintro ⟨i, hi, h⟩
    match i, hi with
    | 0, _ => exact .inl h
    | 1, _ => exact .inr (.inl h)
    | 2, _ => exact .inr (.inr h)
theorem Sts.mem_firm {s : Sts} {e : Ent} : e ∈ s.firm ↔ ∃ i, i < 3 ∧ e ∈ (s.logs i).take (s.sure i) := by
  unfold Sts.firm
  simp only [List.mem_append]
  constructor
  · rintro (h | h | h)
    · exact ⟨0, by omega, h⟩
    · exact ⟨1, by omega, h⟩
    · exact ⟨2, by omega, h⟩
  · rintro ⟨i, hi, h⟩
    match i, hi with
    | 0, _ => exact .inl h
    | 1, _ => exact .inr (.inl h)
    | 2, _ => exact .inr (.inr h)
def Sts.pH (s : Sts) (t : Nat) : Int := (s.m 0).H t + ((s.m 1).H t + (s.m 2).H t)
def Sts.pY (s : Sts) (t : Nat) : Int := (s.m 0).Y t + ((s.m 1).Y t + (s.m 2).Y t)
/-- What holds behind `now` counts and `ns` sendings. -/
structure Inv (s : Sts) (now ns : Nat) : Prop where
  log : ∀ i, i < 3 → LogOk (nodeN i) (s.logs i) (s.m i).boot (s.m i).seq
  node : ∀ i, i < 3 → (s.m i).node = nodeN i
  boot : ∀ i, i < 3 → 0 ≤ (s.m i).boot ∧ (s.m i).boot ≤ now
  seq : ∀ i, i < 3 → 0 ≤ (s.m i).seq ∧ (s.m i).seq ≤ 16 * now
  len : ∀ i, i < 3 → (s.logs i).length ≤ 16 * now
  pend : ∀ i, i < 3 → ∀ t, 0 ≤ (s.m i).H t ∧ (s.m i).H t ≤ now ∧ 0 ≤ (s.m i).Y t ∧ (s.m i).Y t ≤ 65535 * now ∧ ((s.m i).H t = 0 → (s.m i).Y t = 0) ∧ (3 ≤ t → (s.m i).H t = 0)
  sub : ∀ e ∈ s.S, e ∈ s.all
  has : ∀ e ∈ s.firm, e ∈ s.S
  slen : s.S.length ≤ 960 * ns
  sure : ∀ i, i < 3 → s.sure i ≤ (s.logs i).length
  srvH : ∀ t : Nat, t < 3 → totP (ofT t) Ent.hits s.all + s.pH t ≤ s.sH t ∧ s.sH t ≤ now
  srvY : ∀ t : Nat, t < 3 → totP (ofT t) Ent.bytes s.all + s.pY t ≤ s.sY t ∧ s.sY t ≤ 65535 * now
namespace Inv
variable {s : Sts} {now ns : Nat} (h : Inv s now ns)
include h
theorem good {e : Ent} (he : e ∈ s.all) : codeE e = 0 ∧ 1 ≤ e.hits ∧ 0 ≤ e.bytes ∧ (0 ≤ e.ten ∧ e.ten ≤ 2) ∧ (0 ≤ e.att ∧ e.att < 1000) := by
  obtain ⟨i, hi, hm⟩ := Sts.mem_all.1 he
  obtain ⟨h1, _, h3, h4, h5⟩ := (h.log i hi).ok e hm
  exact ⟨h1, h3, (sums_of e h1).2.1, h4, h5⟩
theorem uniq {x y : Ent} (hx : x ∈ s.all) (hy : y ∈ s.all) (hk : sameK x y) : x = y := by
  obtain ⟨i, hi, hm⟩ := Sts.mem_all.1 hx
  obtain ⟨j, hj, hn⟩ := Sts.mem_all.1 hy
  have e1 := ((h.log i hi).ok x hm).2.1
  have e2 := ((h.log j hj).ok y hn).2.1
  obtain ⟨k0, k1, k2⟩ := hk
  rw [e1, e2] at k0
  have := node_inj hi hj k0
  subst this
  exact (h.log i hi).uniq x hm y hn k1 k2
theorem nodup : s.all.Nodup := by
  have hd : ∀ i j, i < 3 → j < 3 → i ≠ j → ∀ a ∈ s.logs i, ∀ b ∈ s.logs j, a ≠ b := by
    intro i j hi hj hne a ha b hb e
    subst e
    have e1 := ((h.log i hi).ok a ha).2.1
    have e2 := ((h.log j hj).ok a hb).2.1
    exact hne (node_inj hi hj (e1.symm.trans e2))
  unfold Sts.all
  rw [List.nodup_append, List.nodup_append]
  refine ⟨(h.log 0 (by omega)).nodup, ⟨(h.log 1 (by omega)).nodup, (h.log 2 (by omega)).nodup, hd 1 2 (by omega) (by omega) (by omega)⟩, fun a ha b hb => ?_⟩
  rcases List.mem_append.1 hb with hb | hb
  · exact hd 0 1 (by omega) (by omega) (by omega) a ha b hb
  · exact hd 0 2 (by omega) (by omega) (by omega) a ha b hb
theorem firm_nodup : s.firm.Nodup := by
  refine List.Nodup.sublist ?_ h.nodup
  exact (List.take_sublist _ _).append ((List.take_sublist _ _).append (List.take_sublist _ _))
/-- A total lies between what has surely come and what was written. -/
theorem mid {es : List Ent} (hA : AllOf s.S es) (t : Nat) :
    (totP (ofT t) Ent.hits s.firm ≤ totP (ofT t) Ent.hits es ∧ totP (ofT t) Ent.hits es ≤ totP (ofT t) Ent.hits s.all) ∧
    (totP (ofT t) Ent.bytes s.firm ≤ totP (ofT t) Ent.bytes es ∧ totP (ofT t) Ent.bytes es ≤ totP (ofT t) Ent.bytes s.all) := by
  have h1 : ∀ e ∈ s.firm, e ∈ es := fun e he => (hA.2 e).2 (h.has e he)
  have h2 : ∀ e ∈ es, e ∈ s.all := fun e he => h.sub e ((hA.2 e).1 he)
  have h3 : ∀ e ∈ s.all, 0 ≤ e.hits := fun e he => by have := (h.good he).2.1; omega
  have h4 : ∀ e ∈ s.all, 0 ≤ e.bytes := fun e he => (h.good he).2.2.1
  exact ⟨⟨totP_sub _ _ _ _ h.firm_nodup h1 fun e he => h3 e (h2 e he), totP_sub _ _ _ _ hA.1 h2 h3⟩, ⟨totP_sub _ _ _ _ h.firm_nodup h1 fun e he => h4 e (h2 e he), totP_sub _ _ _ _ hA.1 h2 h4⟩⟩
theorem pend_nonneg (t : Nat) : 0 ≤ s.pH t ∧ 0 ≤ s.pY t := by
  have h0 := h.pend 0 (by omega) t
  have h1 := h.pend 1 (by omega) t
  have h2 := h.pend 2 (by omega) t
  unfold Sts.pH Sts.pY
  omega
theorem tot_nonneg (t : Nat) : (0 ≤ totP (ofT t) Ent.hits s.all ∧ 0 ≤ totP (ofT t) Ent.bytes s.all) ∧ (0 ≤ totP (ofT t) Ent.hits s.firm ∧ 0 ≤ totP (ofT t) Ent.bytes s.firm) := by
  have h3 : ∀ e ∈ s.all, 0 ≤ e.hits := fun e he => by have := (h.good he).2.1; omega
  have h4 : ∀ e ∈ s.all, 0 ≤ e.bytes := fun e he => (h.good he).2.2.1
  have h5 : ∀ e ∈ s.firm, e ∈ s.all := fun e he => h.sub e (h.has e he)
  exact ⟨⟨totP_nonneg _ _ _ h3, totP_nonneg _ _ _ h4⟩, ⟨totP_nonneg _ _ _ fun e he => h3 e (h5 e he), totP_nonneg _ _ _ fun e he => h4 e (h5 e he)⟩⟩
/-- Where all has come, the set is all that was written. -/
theorem full (hs : ∀ i, i < 3 → s.sure i = (s.logs i).length) {es : List Ent} (hA : AllOf s.S es) : es.Perm s.all := by
  have hf : s.firm = s.all := by
    unfold Sts.firm Sts.all
    rw [hs 0 (by omega), hs 1 (by omega), hs 2 (by omega), List.take_length, List.take_length, List.take_length]
  exact (List.perm_ext_iff_of_nodup hA.1 h.nodup).2 fun e => ⟨fun he => h.sub e ((hA.2 e).1 he), fun he => (hA.2 e).2 (h.has e (hf ▸ he))⟩
theorem noGap (hs : ∀ i, i < 3 → s.sure i = (s.logs i).length) : ∀ es, AllOf s.S es → Ordered es → NoGap es := by
  intro es hA hO k e hk
  have hp := h.full hs hA
  have he : e ∈ es := List.mem_of_getElem? hk
  have hkl : k < es.length := (List.getElem?_eq_some_iff.1 hk).1
  by_cases h2 : 2 ≤ e.seq
  · obtain ⟨i, hi, hm⟩ := Sts.mem_all.1 (hp.mem_iff.1 he)
    obtain ⟨f, hf, f1, f2⟩ := (h.log i hi).pre e hm h2
    have fn := ((h.log i hi).ok f hf).2.1
    have en := ((h.log i hi).ok e hm).2.1
    have hfe : f ∈ es := hp.mem_iff.2 (Sts.mem_all.2 ⟨i, hi, hf⟩)
    obtain ⟨j, hj⟩ := List.getElem?_of_mem hfe
    have hjl : j < es.length := (List.getElem?_eq_some_iff.1 hj).1
    have hlt : ltE f e := .inr ⟨fn.trans en.symm, by omega⟩
    have ord : ∀ (a b : Nat) (x y : Ent), a < b → es[a]? = some x → es[b]? = some y → ¬ ltE y x := by
      intro a b x y hab ha hb
      obtain ⟨ha1, ha2⟩ := List.getElem?_eq_some_iff.1 ha
      obtain ⟨hb1, hb2⟩ := List.getElem?_eq_some_iff.1 hb
      have := (List.pairwise_iff_getElem.1 hO) a b ha1 hb1 hab
      rw [ha2, hb2] at this
      exact this
    have hjk : j < k := by
      rcases Nat.lt_trichotomy j k with h3 | h3 | h3
      · exact h3
      · subst h3
        rw [hk] at hj
        cases hj
        exact absurd hlt (ltE_irrefl _)
      · exact absurd hlt (ord k j e f h3 hk hj)
    have hx : es[k - 1]? = some es[k - 1] := List.getElem?_eq_getElem (by omega)
    have hpx : prevE es k = es[k - 1] := by
      unfold prevE
      rw [if_neg (by omega), List.getD_eq_getElem?_getD, hx]
      rfl
    have a1 := ord (k - 1) k _ e (by omega) hx hk
    have a2 : ¬ ltE es[k - 1] f := by
      by_cases hjk1 : j = k - 1
      · have : es[k - 1] = f := by
          rw [hjk1, hx] at hj
          exact Option.some.inj hj
        rw [this]
        exact ltE_irrefl f
      · exact ord j (k - 1) f _ (by omega) hj hx
    rw [hpx]
    generalize es[k - 1] = x at *
    rcases ltE_total x e with g | g | g
    · rcases ltE_total f x with q | q | q
      · have hnn : x.node = e.node := by
          rcases g with g | ⟨g, _⟩
          · rcases q with q | ⟨q, _⟩
            · have := less_trans _ _ _ q g
              rw [fn, en, less_irrefl] at this
              cases this
            · rw [← q, fn, en, less_irrefl] at g
              cases g
          · exact g
        have g2 : x.boot < e.boot ∨ (x.boot = e.boot ∧ x.seq < e.seq) := by
          rcases g with g | ⟨_, g⟩
          · rw [hnn, less_irrefl] at g; cases g
          · exact g
        have q2 : f.boot < x.boot ∨ (f.boot = x.boot ∧ f.seq < x.seq) := by
          rcases q with q | ⟨_, q⟩
          · rw [hnn, fn, en, less_irrefl] at q; cases q
          · exact q
        omega
      · obtain ⟨q0, q1, q2⟩ := q
        have c : k ≠ 0 ∧ e.node = x.node ∧ e.boot = x.boot := ⟨by omega, by rw [← q0, fn, en], by omega⟩
        rw [if_pos c]
        omega
      · exact absurd q a2
    · obtain ⟨g0, g1, g2⟩ := g
      rw [if_pos ⟨by omega, g0.symm, g1.symm⟩]
      omega
    · exact absurd g a1
  · split
    · rename_i hc
      have hx : es[k - 1]? = some es[k - 1] := List.getElem?_eq_getElem (by omega)
      have hpx : prevE es k = es[k - 1] := by
        unfold prevE
        rw [if_neg hc.1, List.getD_eq_getElem?_getD, hx]
        rfl
      have h1 := (codeE_ok (h.good (hp.mem_iff.1 (List.mem_of_getElem? hx))).1).2
      unfold rangeE at h1
      rw [hpx]
      omega
    · omega
end Inv
end Go.Proofs.Ythhooocckfljaaa
