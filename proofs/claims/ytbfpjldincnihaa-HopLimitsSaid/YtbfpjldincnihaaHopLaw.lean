/- The plain laws of messages and their bytes: what Encode wrote is read again, and bytes of which one is changed, cut off or added are refused. No program in sight. -/
import Derived.Test.YtbfpjldincnihaaHopDec
import Derived.Test.YtbfpjldincnihaaCanon
import Derived.Test.YtbfpjldincnihaaSumLaw
import Derived.Test.YtbfpjldincnihaaDecLaw
namespace Go.Proofs.Ytbfpjldincnihaa
set_option linter.unusedVariables false
set_option linter.unusedSimpArgs false

theorem xor_zero_iff {x y : Nat} (h : x ^^^ y = 0) : x = y := by
  have := congrArg (· ^^^ y) h
  simpa [Nat.xor_assoc] using this
theorem bitS_zero {z : Nat} (h : Word z) (h0 : bitS z = 0) : z = 0 := by
  unfold bitS at h0
  split at h0
  · have := xor_zero_iff h0
    unfold Word at h
    unfold poly at this
    omega
  · omega
theorem itS_zero : ∀ (k : Nat) {z : Nat}, Word z → itS k z = 0 → z = 0
  | 0, _, _, h => h
  | k + 1, _, hw, h => bitS_zero hw (itS_zero k hw.bit h)
theorem itS_inj {k x y : Nat} (hx : Word x) (hy : Word y) (h : itS k x = itS k y) : x = y := by
  apply xor_zero_iff
  apply itS_zero k (hx.xor hy)
  rw [itS_xor, h, Nat.xor_self]
theorem bitS_two (x : Nat) : bitS (2 * x) = x := by
  unfold bitS
  rw [if_neg (by omega)]
  omega
theorem itS_shift (x : Nat) : itS 8 (x * 256) = x := by
  rw [show x * 256 = 2 * (2 * (2 * (2 * (2 * (2 * (2 * (2 * x))))))) by omega]
  simp only [itS, bitS_two]
theorem itS0 (k : Nat) : itS k 0 = 0 := by
  induction k with
  | zero => rfl
  | succ k ih => exact ih
theorem byteS_zero {x : Nat} {c : UInt8} (hx : Word x) (h : byteS x c = 0) : x = c.toNat := by
  unfold byteS at h
  exact xor_zero_iff (itS_zero 8 (hx.xor (word_byte c)) h)
theorem byteS_eq {x t : Nat} {c : UInt8} (hx : Word x) (ht : t < 16777216) (h : byteS x c = t) : x = t * 256 ^^^ c.toNat := by
  unfold byteS at h
  rw [← itS_shift t] at h
  have h2 := itS_inj (hx.xor (word_byte c)) (show Word (t * 256) by unfold Word; omega) h
  rw [← h2, Nat.xor_assoc, Nat.xor_self, Nat.xor_zero]
theorem xor_lt {x y m : Nat} (k : Nat) (hk : 2 ^ k = m) (hx : x < m) (hy : y < m) : x ^^^ y < m := by subst hk; exact Nat.xor_lt_two_pow hx hy
theorem mul_small {z b : Nat} (h : z * 256 = b) (hb : b < 256) : z = 0 := by omega
theorem four_zero (a b c d : UInt8) (h : sumS 0 [a, b, c, d] = 0) : a.toNat = 0 ∧ b.toNat = 0 ∧ c.toNat = 0 ∧ d.toNat = 0 := by
  have ha : a.toNat < 256 := a.toNat_lt
  have hb : b.toNat < 256 := b.toNat_lt
  have hc : c.toNat < 256 := c.toNat_lt
  have hd : d.toNat < 256 := d.toNat_lt
  have w0 : Word 0 := by unfold Word; omega
  have e4 : byteS (byteS (byteS (byteS 0 a) b) c) d = 0 := h
  have h3 := byteS_zero (((w0.byte a).byte b).byte c) e4
  have h2 := byteS_eq ((w0.byte a).byte b) (by omega) h3
  have l2 : d.toNat * 256 ^^^ c.toNat < 65536 := xor_lt 16 (by decide) (by omega) (by omega)
  have h1 := byteS_eq (w0.byte a) (by omega) h2
  have l1 : (d.toNat * 256 ^^^ c.toNat) * 256 ^^^ b.toNat < 16777216 := xor_lt 24 (by decide) (by omega) (by omega)
  have h0 := byteS_eq w0 l1 h1
  have k1 := xor_zero_iff h0.symm
  have k1' : ((d.toNat * 256 ^^^ c.toNat) * 256 ^^^ b.toNat) * 256 = a.toNat := k1
  have k2 := mul_small k1' ha
  have k3 := xor_zero_iff k2
  have k4 := mul_small k3 hb
  have k5 := xor_zero_iff k4
  have z1 := mul_small k5 hc
  clear e4 h3 h2 l2 h1 l1 h0
  rw [z1] at k5
  rw [k4] at k3
  rw [k2] at k1'
  exact ⟨k1'.symm.trans (Nat.zero_mul 256), k3.symm.trans (Nat.zero_mul 256), k5.symm.trans (Nat.zero_mul 256), z1⟩
theorem sumS_app (s : Nat) (a b : List UInt8) : sumS s (a ++ b) = sumS (sumS s a) b := by unfold sumS; rw [List.foldl_append]
theorem sumS_zeros (n : Nat) : sumS 0 (List.replicate n 0) = 0 := by
  induction n with
  | zero => rfl
  | succ n ih =>
    rw [List.replicate_succ]
    show sumS (byteS 0 0) (List.replicate n 0) = 0
    have : byteS 0 0 = 0 := by unfold byteS; simpa using itS0 8
    rw [this, ih]
theorem sumS_tail {x : Nat} (hx : Word x) (n : Nat) (h : sumS x (List.replicate n 0) = 0) : x = 0 := by
  induction n generalizing x with
  | zero => exact h
  | succ n ih =>
    rw [List.replicate_succ] at h
    have h2 : byteS x 0 = 0 := ih (hx.byte 0) h
    simpa using byteS_zero hx h2
theorem short_zero (E : List UInt8) (hl : E.length ≤ 4) (h : sumS 0 E = 0) : ∀ e ∈ E, e = 0 := by
  have h4 : sumS 0 (E ++ List.replicate (4 - E.length) 0) = 0 := by rw [sumS_app, h, sumS_zeros]
  have z : ∀ e : UInt8, e.toNat = 0 → e = 0 := fun e he => UInt8.toNat_inj.1 he
  match E, hl with
  | [], _ => intro e he; cases he
  | [a], _ =>
    have := four_zero a 0 0 0 h4
    intro e he; simp only [List.mem_singleton] at he; subst he; exact z _ this.1
  | [a, b], _ =>
    have := four_zero a b 0 0 h4
    intro e he; simp only [List.mem_cons, List.not_mem_nil, or_false] at he
    rcases he with rfl | rfl
    · exact z _ this.1
    · exact z _ this.2.1
  | [a, b, c], _ =>
    have := four_zero a b c 0 h4
    intro e he; simp only [List.mem_cons, List.not_mem_nil, or_false] at he
    rcases he with rfl | rfl | rfl
    · exact z _ this.1
    · exact z _ this.2.1
    · exact z _ this.2.2.1
  | [a, b, c, d], _ =>
    have := four_zero a b c d h4
    intro e he; simp only [List.mem_cons, List.not_mem_nil, or_false] at he
    rcases he with rfl | rfl | rfl | rfl
    · exact z _ this.1
    · exact z _ this.2.1
    · exact z _ this.2.2.1
    · exact z _ this.2.2.2
  | a :: b :: c :: d :: e :: r, hl => simp at hl
/-- A change of up to four adjacent bytes turns the sum. -/
theorem burst_sum (A Y Z E : List UInt8) (hY : Y.length = E.length) (hl : E.length ≤ 4) (h : sumP (A ++ List.zipWith (· ^^^ ·) Y E ++ Z) = sumP (A ++ Y ++ Z)) : ∀ e ∈ E, e = 0 := by
  unfold sumP at h
  have h1 : sumS full (A ++ List.zipWith (· ^^^ ·) Y E ++ Z) = sumS full (A ++ Y ++ Z) := by
    have := congrArg (full ^^^ ·) h
    simpa [← Nat.xor_assoc] using this
  rw [sumS_app, sumS_app, sumS_app, sumS_app] at h1
  have hs : Word (sumS full A) := Word.sum word_full A
  generalize sumS full A = s at h1 hs
  have e1 : sumS s (List.zipWith (· ^^^ ·) Y E) = sumS s Y ^^^ sumS 0 E := by
    conv => lhs; rw [← Nat.xor_zero s]
    exact sumS_xor Y E s 0 hY
  rw [e1] at h1
  have hz : sumS (sumS s Y ^^^ sumS 0 E) Z = sumS (sumS s Y) Z ^^^ sumS (sumS 0 E) (List.replicate Z.length 0) := by
    conv => lhs; rw [← zip_zero Z]
    exact sumS_xor Z _ _ _ (by simp)
  rw [hz] at h1
  have h2 : sumS (sumS 0 E) (List.replicate Z.length 0) = 0 := by
    have := congrArg (sumS (sumS s Y) Z ^^^ ·) h1
    simpa [← Nat.xor_assoc] using this
  exact short_zero E hl (sumS_tail (Word.sum (by unfold Word; omega) E) _ h2)
theorem textB_ne (s : List UInt8) : textB s ≠ [] := by unfold textB; simp [numB_ne]
theorem wordsF_texts : ∀ (ts : List (List UInt8)) (t : List UInt8), (∀ s ∈ ts, s.length ≤ 4611686018427387904) → wordsF ts.length (ts.flatMap textB ++ t) = some (ts, t)
  | [], t, _ => by simp [wordsF]
  | s :: ts, t, h => by
    rw [List.flatMap_cons, List.append_assoc, List.length_cons]
    simp only [wordsF]
    rw [wordR_text s _ (h s (by simp))]
    simp only []
    rw [wordsF_texts ts t (fun s hs => h s (by simp [hs]))]
    rfl
theorem flat_len_ge (ts : List (List UInt8)) : ts.length ≤ (ts.flatMap textB).length := by
  induction ts with
  | nil => simp
  | cons s r ih =>
    have : 1 ≤ (textB s).length := by
      rcases Nat.eq_zero_or_pos (textB s).length with h | h
      · exact absurd (List.eq_nil_of_length_eq_zero h) (textB_ne s)
      · exact h
    rw [List.flatMap_cons, List.length_append, List.length_cons]
    omega
theorem wordsR_texts (ts : List (List UInt8)) (t : List UInt8) (hl : ts.length ≤ 4611686018427387904) (h : ∀ s ∈ ts, s.length ≤ 4611686018427387904) : wordsR (textsB ts ++ t) = some (ts, t) := by
  have hg := flat_len_ge ts
  unfold wordsR textsB
  rw [List.append_assoc, numR_num _ _ hl]
  simp only []
  rw [if_pos (by rw [List.length_append]; omega), wordsF_texts ts t h]


theorem four_inj {x y : Nat} (hx : Word x) (hy : Word y) (h : four x = four y) : x = y := by
  have := congrArg be4 h
  rwa [be4_four _ hx, be4_four _ hy] at this
theorem xor_back (d c : UInt8) : d ^^^ (d ^^^ c) = c := by rw [← UInt8.xor_assoc, UInt8.xor_self, UInt8.zero_xor]
theorem set_split (H : List UInt8) (i : Nat) (c d : UInt8) (h : H[i]? = some d) : H = H.take i ++ [d] ++ H.drop (i + 1) ∧ H.set i c = H.take i ++ [c] ++ H.drop (i + 1) := by
  obtain ⟨hi, he⟩ := List.getElem?_eq_some_iff.1 h
  constructor
  · rw [List.append_assoc, List.singleton_append, ← he, ← List.drop_eq_getElem_cons hi, List.take_append_drop]
  · rw [List.set_eq_take_append_cons_drop, if_pos hi, List.append_assoc, List.singleton_append]
/-- A record of which one byte is changed is no record's bytes. -/
theorem enc_spoil (k n k' n' : Nat) (p p' : List UInt8) (i : Nat) (c d : UInt8) (hd : (encP k n p)[i]? = some d) (hne : d ≠ c) : (encP k n p).set i c ≠ encP k' n' p' := by
  intro h
  unfold encP at h hd
  have hw := word_sumP (headP k n p)
  have hw' := word_sumP (headP k' n' p')
  generalize headP k n p = H at *
  generalize headP k' n' p' = H' at *
  have hlen : H.length = H'.length := by
    have := congrArg List.length h
    simp [four] at this
    exact this
  rcases Nat.lt_or_ge i H.length with hi | hi
  · rw [List.set_append_left _ _ hi] at h
    have h2 := List.append_inj h (by rw [List.length_set]; exact hlen)
    have hs := four_inj hw hw' h2.2
    rw [List.getElem?_append_left hi] at hd
    obtain ⟨e1, e2⟩ := set_split H i c d hd
    rw [← h2.1, e2] at hs
    conv at hs => lhs; rw [e1]
    have hz : List.zipWith (· ^^^ ·) [d] [d ^^^ c] = [c] := by simp [xor_back]
    have := burst_sum (H.take i) [d] (H.drop (i + 1)) [d ^^^ c] rfl (by simp) (by rw [hz]; exact hs.symm) (d ^^^ c) (by simp)
    exact hne (by have h9 := xor_back d c; rw [this, UInt8.xor_zero] at h9; exact h9)
  · rw [List.set_append_right _ _ hi] at h
    have h2 := List.append_inj h hlen
    rw [← h2.1] at h2
    rw [List.getElem?_append_right hi] at hd
    have h3 : (four (sumP H)).set (i - H.length) c = four (sumP H) := h2.2
    obtain ⟨hj, he⟩ := List.getElem?_eq_some_iff.1 hd
    have h4 : ((four (sumP H)).set (i - H.length) c)[i - H.length]? = some c := by rw [List.getElem?_set_self hj]
    rw [h3, hd] at h4
    exact hne (Option.some.inj h4)

theorem codeM_ok {m : Msg} (h : codeM m = 0) : okK m.kind = true ∧ rightM m (usesF m.kind) = true ∧ rangeM m ∧ largeM m = false ∧ (payM m (usesF m.kind)).length ≤ 131072 := by
  unfold codeM at h
  split at h
  · cases h
  · rename_i h1
    split at h
    · cases h
    · rename_i h2
      split at h
      · cases h
      · rename_i h3
        split at h
        · cases h
        · rename_i h4
          simp only [Bool.not_eq_false, Bool.and_eq_true] at h1
          exact ⟨h1.1, h1.2, Decidable.not_not.1 h2, by simpa using h3, by omega⟩
theorem hdec_enc {b : List UInt8} {m : Msg} (h : hdecP b = some m) : codeM m = 0 ∧ encM m = b ∧ m.lst.length ≤ 1024 := by
  unfold hdecP at h
  split at h
  · cases h
  · split at h
    · rename_i h9
      obtain ⟨_, _, _, h1, h2⟩ := h9
      simp only [Option.some.injEq] at h
      subst h
      refine ⟨h1, h2, ?_⟩
      have := (codeM_ok h1).2.2.2.1
      simp only [largeM, Bool.or_eq_false_iff, decide_eq_false_iff_not] at this
      omega
    · cases h
theorem rdN_ok (b : Bool) (v : Int) (t : List UInt8) (hv : inR v) (h : b = true ∨ v = 0) : rdN b (some ((if b then numI v else []) ++ t)) = v ∧ rdNO b (some ((if b then numI v else []) ++ t)) = some t := by
  obtain ⟨h1, h2⟩ := hv
  cases b with
  | true =>
    have e : clampN v = v.toNat := by unfold clampN; omega
    have := numR_num (clampN v) t (by omega)
    simp [rdN, rdNO, numV, numO, numI, this]
    omega
  | false =>
    rcases h with h | h
    · cases h
    · simp [rdN, rdNO, h]
theorem rdT_ok (b : Bool) (v t : List UInt8) (hv : v.length ≤ 4611686018427387904) (h : b = true ∨ v = []) : rdT b (some ((if b then textB v else []) ++ t)) = v ∧ rdTO b (some ((if b then textB v else []) ++ t)) = some t := by
  cases b with
  | true =>
    have := wordR_text v t hv
    simp [rdT, rdTO, wordV, wordO, this]
  | false =>
    rcases h with h | h
    · cases h
    · simp [rdT, rdTO, h]
theorem rdL_ok (b : Bool) (v : List (List UInt8)) (t : List UInt8) (hv : v.length ≤ 4611686018427387904) (hs : ∀ s ∈ v, s.length ≤ 4611686018427387904) (h : b = true ∨ v = []) : rdL b (some ((if b then textsB v else []) ++ t)) = v ∧ rdLO b (some ((if b then textsB v else []) ++ t)) = some t := by
  cases b with
  | true =>
    have := wordsR_texts v t hv hs
    simp [rdL, rdLO, wordsV, wordsO, this]
  | false =>
    rcases h with h | h
    · cases h
    · simp [rdL, rdLO, h]
theorem parse_pay {m : Msg} (h : codeM m = 0) : parseM (usesF m.kind) m.kind.toNat m.id.toNat (payM m (usesF m.kind)) = (m, some []) := by
  obtain ⟨hk, hr, ⟨g0, g1, g2, g3⟩, hl, _⟩ := codeM_ok h
  unfold rightM at hr
  simp only [Bool.and_eq_true, Bool.or_eq_true, decide_eq_true_eq] at hr
  obtain ⟨⟨⟨⟨⟨⟨r0, r1⟩, r2⟩, r3⟩, r4⟩, r5⟩, r6⟩ := hr
  simp only [largeM, Bool.or_eq_false_iff, decide_eq_false_iff_not, List.any_eq_false, longT, decide_eq_true_eq] at hl
  obtain ⟨⟨⟨l1, l2⟩, l3⟩, l4⟩ := hl
  have hk2 : 1 ≤ m.kind ∧ m.kind ≤ 12 := by simpa [okK] using hk
  obtain ⟨i0, _⟩ := g0
  obtain ⟨k, id, nm, tt, of, tx, ls, dt⟩ := m
  dsimp only at *
  generalize usesF k = u at *
  unfold payM
  dsimp only
  rw [show (if u.dat then textB dt else []) = (if u.dat then textB dt else []) ++ [] by simp]
  obtain ⟨a1, b1⟩ := rdN_ok u.num nm ((if u.tot then numI tt else []) ++ ((if u.off then numI of else []) ++ ((if u.txt then textB tx else []) ++ ((if u.lst then textsB ls else []) ++ ((if u.dat then textB dt else []) ++ []))))) g1 r1
  obtain ⟨a2, b2⟩ := rdN_ok u.tot tt ((if u.off then numI of else []) ++ ((if u.txt then textB tx else []) ++ ((if u.lst then textsB ls else []) ++ ((if u.dat then textB dt else []) ++ [])))) g2 r2
  obtain ⟨a3, b3⟩ := rdN_ok u.off of ((if u.txt then textB tx else []) ++ ((if u.lst then textsB ls else []) ++ ((if u.dat then textB dt else []) ++ []))) g3 r3
  obtain ⟨a4, b4⟩ := rdT_ok u.txt tx ((if u.lst then textsB ls else []) ++ ((if u.dat then textB dt else []) ++ [])) (by omega) r4
  obtain ⟨a5, b5⟩ := rdL_ok u.lst ls ((if u.dat then textB dt else []) ++ []) (by omega) (fun s hs => by have := l4 s hs; omega) r5
  obtain ⟨a6, b6⟩ := rdT_ok u.dat dt [] (by omega) r6
  unfold parseM
  rw [a1, b1, a2, b2, a3, b3, a4, b4, a5, b5, a6, b6]
  rw [show ((k.toNat : Nat) : Int) = k by omega, show ((id.toNat : Nat) : Int) = id by omega]
/-- Decode undoes Encode. -/
theorem hdec_back {m : Msg} (h : codeM m = 0) : hdecP (encM m) = some m := by
  obtain ⟨hk, hr, hg, hl, hp⟩ := codeM_ok h
  have hk2 : 1 ≤ m.kind ∧ m.kind ≤ 12 := by simpa [okK] using hk
  have hpp := parse_pay h
  have he : encM m = encP m.kind.toNat m.id.toNat (payM m (usesF m.kind)) := by unfold encM; rw [if_pos h]
  have hd := dec_enc m.kind.toNat m.id.toNat (payM m (usesF m.kind)) [] (by omega) (by have := hg.1.2; omega) hp
  rw [List.append_nil, ← he] at hd
  unfold hdecP
  rw [hd]
  dsimp only
  rw [show ((m.kind.toNat : Nat) : Int) = m.kind by omega, hpp]
  dsimp only
  rw [if_pos ⟨rfl, hk, by simp, h, rfl⟩]
theorem enc_of {m : Msg} (h : codeM m = 0) : encM m = encP m.kind.toNat m.id.toNat (payM m (usesF m.kind)) ∧ (1 ≤ m.kind.toNat ∧ m.kind.toNat ≤ 127) ∧ m.id.toNat ≤ 1099511627776 ∧ (payM m (usesF m.kind)).length ≤ 131072 := by
  obtain ⟨hk, hr, hg, hl, hp⟩ := codeM_ok h
  have hk2 : 1 ≤ m.kind ∧ m.kind ≤ 12 := by simpa [okK] using hk
  exact ⟨by unfold encM; rw [if_pos h], by omega, by have := hg.1.2; omega, hp⟩
theorem hdec_spoil {m : Msg} (h : codeM m = 0) (i : Nat) (c d : UInt8) (hd : (encM m)[i]? = some d) (hne : d ≠ c) : hdecP ((encM m).set i c) = none := by
  cases hx : hdecP ((encM m).set i c) with
  | none => rfl
  | some m' =>
    obtain ⟨h1, h2, _⟩ := hdec_enc hx
    rw [(enc_of h1).1, (enc_of h).1] at h2
    rw [(enc_of h).1] at hd
    exact absurd h2.symm (enc_spoil _ _ _ _ _ _ i c d hd hne)
theorem hdec_cut {m : Msg} (h : codeM m = 0) (i : Nat) (hi : i < (encM m).length) : hdecP ((encM m).take i) = none := by
  obtain ⟨he, h1, h2, h3⟩ := enc_of h
  rw [he] at hi ⊢
  unfold hdecP
  rw [dec_pre _ _ _ i h1 h2 h3 hi]
theorem hdec_more {m : Msg} (h : codeM m = 0) (t : List UInt8) (ht : t ≠ []) : hdecP (encM m ++ t) = none := by
  obtain ⟨he, h1, h2, h3⟩ := enc_of h
  rw [he]
  unfold hdecP
  rw [dec_enc _ _ _ t h1 h2 h3]
  dsimp only
  have : 0 < t.length := List.length_pos_iff.2 ht
  rw [if_neg (by rw [List.length_append]; omega)]
theorem enc_inj {a b : Msg} (ha : codeM a = 0) (hb : codeM b = 0) : encM a = encM b ↔ a = b := by
  constructor
  · intro h
    have h1 := hdec_back ha
    rw [h, hdec_back hb] at h1
    exact (Option.some.inj h1).symm
  · intro h; rw [h]
/-- A record that is decoded is the record of that message. -/
theorem hdec_record {k n : Nat} {p : List UInt8} {m : Msg} (hk : 1 ≤ k ∧ k ≤ 127) (hn : n ≤ 1099511627776) (hl : p.length ≤ 131072) (h : hdecP (encP k n p) = some m) : m.kind = k ∧ m.id = n ∧ codeM m = 0 ∧ payM m (usesF m.kind) = p := by
  obtain ⟨h1, h2, _⟩ := hdec_enc h
  obtain ⟨he, g1, g2, g3⟩ := enc_of h1
  have d1 := dec_enc k n p [] hk hn hl
  have d2 := dec_enc _ _ _ [] g1 g2 g3
  rw [← he, h2, d1] at d2
  simp only [Sum.inr.injEq, Prod.mk.injEq] at d2
  obtain ⟨e1, e2, e3, _⟩ := d2
  obtain ⟨hk', _, hg, _⟩ := codeM_ok h1
  have hk2 : 1 ≤ m.kind ∧ m.kind ≤ 12 := by simpa [okK] using hk'
  exact ⟨by omega, by have := hg.1.1; omega, h1, e3.symm⟩
end Go.Proofs.Ytbfpjldincnihaa
