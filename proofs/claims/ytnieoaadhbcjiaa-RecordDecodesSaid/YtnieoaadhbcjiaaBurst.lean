/- The plain law: up to four adjacent bytes of a payload, or of the sum, that are changed are found. No program in sight. -/
import Derived.Test.YtnieoaadhbcjiaaDecLaw
import Derived.Test.YtnieoaadhbcjiaaScan
import Derived.Test.YtnieoaadhbcjiaaSumLaw
namespace Go.Proofs.Ytnieoaadhbcjiaa
set_option linter.unusedVariables false
set_option linter.unusedSimpArgs false

theorem xor_zero_iff {x y : Nat} (h : x ^^^ y = 0) : x = y := by
  have := congrArg (· ^^^ y) h
  simpa [Nat.xor_assoc] using this
theorem bitS_zero {z : Nat} (h : Word z) (h0 : bitS z = 0) : z = 0 := by
  unfold bitS at h0
  split at h0
  · have := xor_zero_iff h0
    unfold Word at h
    unfold poly at this
    omega
  · omega
theorem itS_zero : ∀ (k : Nat) {z : Nat}, Word z → itS k z = 0 → z = 0
  | 0, _, _, h => h
  | k + 1, _, hw, h => bitS_zero hw (itS_zero k hw.bit h)
theorem itS_inj {k x y : Nat} (hx : Word x) (hy : Word y) (h : itS k x = itS k y) : x = y := by
  apply xor_zero_iff
  apply itS_zero k (hx.xor hy)
  rw [itS_xor, h, Nat.xor_self]
theorem bitS_two (x : Nat) : bitS (2 * x) = x := by
  unfold bitS
  rw [if_neg (by omega)]
  omega
theorem itS_shift (x : Nat) : itS 8 (x * 256) = x := by
  rw [show x * 256 = 2 * (2 * (2 * (2 * (2 * (2 * (2 * (2 * x))))))) by omega]
  simp only [itS, bitS_two]
theorem itS0 (k : Nat) : itS k 0 = 0 := by
  induction k with
  | zero => rfl
  | succ k ih => exact ih
theorem byteS_zero {x : Nat} {c : UInt8} (hx : Word x) (h : byteS x c = 0) : x = c.toNat := by
  unfold byteS at h
  exact xor_zero_iff (itS_zero 8 (hx.xor (word_byte c)) h)
theorem byteS_eq {x t : Nat} {c : UInt8} (hx : Word x) (ht : t < 16777216) (h : byteS x c = t) : x = t * 256 ^^^ c.toNat := by
  unfold byteS at h
  rw [← itS_shift t] at h
  have h2 := itS_inj (hx.xor (word_byte c)) (show Word (t * 256) by unfold Word; omega) h
  rw [← h2, Nat.xor_assoc, Nat.xor_self, Nat.xor_zero]
theorem xor_lt {x y m : Nat} (k : Nat) (hk : 2 ^ k = m) (hx : x < m) (hy : y < m) : x ^^^ y < m := by subst hk; exact Nat.xor_lt_two_pow hx hy
theorem mul_small {z b : Nat} (h : z * 256 = b) (hb : b < 256) : z = 0 := by omega
theorem four_zero (a b c d : UInt8) (h : sumS 0 [a, b, c, d] = 0) : a.toNat = 0 ∧ b.toNat = 0 ∧ c.toNat = 0 ∧ d.toNat = 0 := by
  have ha : a.toNat < 256 := a.toNat_lt
  have hb : b.toNat < 256 := b.toNat_lt
  have hc : c.toNat < 256 := c.toNat_lt
  have hd : d.toNat < 256 := d.toNat_lt
  have w0 : Word 0 := by unfold Word; omega
  have e4 : byteS (byteS (byteS (byteS 0 a) b) c) d = 0 := h
  have h3 := byteS_zero (((w0.byte a).byte b).byte c) e4
  have h2 := byteS_eq ((w0.byte a).byte b) (by omega) h3
  have l2 : d.toNat * 256 ^^^ c.toNat < 65536 := xor_lt 16 (by decide) (by omega) (by omega)
  have h1 := byteS_eq (w0.byte a) (by omega) h2
  have l1 : (d.toNat * 256 ^^^ c.toNat) * 256 ^^^ b.toNat < 16777216 := xor_lt 24 (by decide) (by omega) (by omega)
  have h0 := byteS_eq w0 l1 h1
  have k1 := xor_zero_iff h0.symm
  have k1' : ((d.toNat * 256 ^^^ c.toNat) * 256 ^^^ b.toNat) * 256 = a.toNat := k1
  have k2 := mul_small k1' ha
  have k3 := xor_zero_iff k2
  have k4 := mul_small k3 hb
  have k5 := xor_zero_iff k4
  have z1 := mul_small k5 hc
  clear e4 h3 h2 l2 h1 l1 h0
  rw [z1] at k5
  rw [k4] at k3
  rw [k2] at k1'
  exact ⟨k1'.symm.trans (Nat.zero_mul 256), k3.symm.trans (Nat.zero_mul 256), k5.symm.trans (Nat.zero_mul 256), z1⟩
theorem sumS_app (s : Nat) (a b : List UInt8) : sumS s (a ++ b) = sumS (sumS s a) b := by unfold sumS; rw [List.foldl_append]
theorem sumS_zeros (n : Nat) : sumS 0 (List.replicate n 0) = 0 := by
  induction n with
  | zero => rfl
  | succ n ih =>
    rw [List.replicate_succ]
    show sumS (byteS 0 0) (List.replicate n 0) = 0
    have : byteS 0 0 = 0 := by unfold byteS; simpa using itS0 8
    rw [this, ih]
theorem sumS_tail {x : Nat} (hx : Word x) (n : Nat) (h : sumS x (List.replicate n 0) = 0) : x = 0 := by
  induction n generalizing x with
  | zero => exact h
  | succ n ih =>
    rw [List.replicate_succ] at h
    have h2 : byteS x 0 = 0 := ih (hx.byte 0) h
    simpa using byteS_zero hx h2
theorem short_zero (E : List UInt8) (hl : E.length ≤ 4) (h : sumS 0 E = 0) : ∀ e ∈ E, e = 0 := by
  have h4 : sumS 0 (E ++ List.replicate (4 - E.length) 0) = 0 := by rw [sumS_app, h, sumS_zeros]
  have z : ∀ e : UInt8, e.toNat = 0 → e = 0 := fun e he => UInt8.toNat_inj.1 he
  match E, hl with
  | [], _ => intro e he; cases he
  | [a], _ =>
    have := four_zero a 0 0 0 h4
    intro e he; simp only [List.mem_singleton] at he; subst he; exact z _ this.1
  | [a, b], _ =>
    have := four_zero a b 0 0 h4
    intro e he; simp only [List.mem_cons, List.not_mem_nil, or_false] at he
    rcases he with rfl | rfl
    · exact z _ this.1
    · exact z _ this.2.1
  | [a, b, c], _ =>
    have := four_zero a b c 0 h4
    intro e he; simp only [List.mem_cons, List.not_mem_nil, or_false] at he
    rcases he with rfl | rfl | rfl
    · exact z _ this.1
    · exact z _ this.2.1
    · exact z _ this.2.2.1
  | [a, b, c, d], _ =>
    have := four_zero a b c d h4
    intro e he; simp only [List.mem_cons, List.not_mem_nil, or_false] at he
    rcases he with rfl | rfl | rfl | rfl
    · exact z _ this.1
    · exact z _ this.2.1
    · exact z _ this.2.2.1
    · exact z _ this.2.2.2
  | a :: b :: c :: d :: e :: r, hl => simp at hl
/-- A change of up to four adjacent bytes turns the sum. -/
theorem burst_sum (A Y Z E : List UInt8) (hY : Y.length = E.length) (hl : E.length ≤ 4) (h : sumP (A ++ List.zipWith (· ^^^ ·) Y E ++ Z) = sumP (A ++ Y ++ Z)) : ∀ e ∈ E, e = 0 := by
  unfold sumP at h
  have h1 : sumS full (A ++ List.zipWith (· ^^^ ·) Y E ++ Z) = sumS full (A ++ Y ++ Z) := by
    have := congrArg (full ^^^ ·) h
    simpa [← Nat.xor_assoc] using this
  rw [sumS_app, sumS_app, sumS_app, sumS_app] at h1
  have hs : Word (sumS full A) := Word.sum word_full A
  generalize sumS full A = s at h1 hs
  have e1 : sumS s (List.zipWith (· ^^^ ·) Y E) = sumS s Y ^^^ sumS 0 E := by
    conv => lhs; rw [← Nat.xor_zero s]
    exact sumS_xor Y E s 0 hY
  rw [e1] at h1
  have hz : sumS (sumS s Y ^^^ sumS 0 E) Z = sumS (sumS s Y) Z ^^^ sumS (sumS 0 E) (List.replicate Z.length 0) := by
    conv => lhs; rw [← zip_zero Z]
    exact sumS_xor Z _ _ _ (by simp)
  rw [hz] at h1
  have h2 : sumS (sumS 0 E) (List.replicate Z.length 0) = 0 := by
    have := congrArg (sumS (sumS s Y) Z ^^^ ·) h1
    simpa [← Nat.xor_assoc] using this
  exact short_zero E hl (sumS_tail (Word.sum (by unfold Word; omega) E) _ h2)
theorem zip_self (Y E : List UInt8) (hY : Y.length = E.length) (h : List.zipWith (· ^^^ ·) Y E = Y) : ∀ e ∈ E, e = 0 := by
  induction Y generalizing E with
  | nil => cases E with
    | nil => intro e he; cases he
    | cons => simp at hY
  | cons y Y ih =>
    cases E with
    | nil => intro e he; cases he
    | cons x E =>
      simp only [List.zipWith_cons_cons, List.cons.injEq] at h
      intro e he
      rcases List.mem_cons.1 he with rfl | he
      · have h3 := congrArg (y ^^^ ·) h.1
        simpa [← UInt8.xor_assoc] using h3
      · exact ih E (by simpa using hY) h.2 e he
theorem be4_inj {q r : List UInt8} (hq : q.length = 4) (hr : r.length = 4) (h : be4 q = be4 r) : q = r := by
  match q, r, hq, hr with
  | [a, b, c, d], [a', b', c', d'], _, _ =>
    simp only [be4] at h
    have := a.toNat_lt
    have := b.toNat_lt
    have := c.toNat_lt
    have := d.toNat_lt
    have := a'.toNat_lt
    have := b'.toNat_lt
    have := c'.toNat_lt
    have := d'.toNat_lt
    have e1 : a.toNat = a'.toNat := by omega
    have e2 : b.toNat = b'.toNat := by omega
    have e3 : c.toNat = c'.toNat := by omega
    have e4 : d.toNat = d'.toNat := by omega
    rw [UInt8.toNat_inj.1 e1, UInt8.toNat_inj.1 e2, UInt8.toNat_inj.1 e3, UInt8.toNat_inj.1 e4]

/-- The bytes from p on are changed. -/
def xorL : List UInt8 → Nat → List UInt8 → List UInt8
  | L, _, [] => L
  | L, p, e :: E => xorL (L.set p (L.getD p 0 ^^^ e)) (p + 1) E
theorem xorL_len : ∀ (E L : List UInt8) (p : Nat), (xorL L p E).length = L.length
  | [], _, _ => rfl
  | e :: E, L, p => by rw [xorL, xorL_len E]; simp
theorem xorL_snoc : ∀ (E L : List UInt8) (p : Nat) (e : UInt8), xorL L p (E ++ [e]) = (xorL L p E).set (p + E.length) ((xorL L p E).getD (p + E.length) 0 ^^^ e)
  | [], L, p, e => rfl
  | x :: E, L, p, e => by
    rw [List.cons_append, xorL, xorL, xorL_snoc E]
    simp only [List.length_cons]
    rw [show p + 1 + E.length = p + (E.length + 1) by omega]
theorem xorL_app : ∀ (E A Y Z : List UInt8), Y.length = E.length → xorL (A ++ Y ++ Z) A.length E = A ++ List.zipWith (· ^^^ ·) Y E ++ Z
  | [], A, [], Z, _ => rfl
  | [], A, y :: Y, Z, h => by simp at h
  | e :: E, A, [], Z, h => by simp at h
  | e :: E, A, y :: Y, Z, h => by
    rw [xorL]
    have h1 : (A ++ y :: Y ++ Z).getD A.length 0 = y := by simp [List.getD]
    have h2 : (A ++ y :: Y ++ Z).set A.length (y ^^^ e) = (A ++ [y ^^^ e]) ++ Y ++ Z := by simp [List.set_append]
    rw [h1, h2, show A.length + 1 = (A ++ [y ^^^ e]).length by simp, xorL_app E _ Y Z (by simpa using h)]
    simp
theorem xorL_shift : ∀ (E A L : List UInt8) (p : Nat), xorL (A ++ L) (A.length + p) E = A ++ xorL L p E
  | [], _, _, _ => rfl
  | e :: E, A, L, p => by
    rw [xorL, xorL]
    have h1 : (A ++ L).getD (A.length + p) 0 = L.getD p 0 := by simp [List.getD, List.getElem?_append_right]
    have h2 : (A ++ L).set (A.length + p) (L.getD p 0 ^^^ e) = A ++ L.set p (L.getD p 0 ^^^ e) := by simp [List.set_append]
    rw [h1, h2, Nat.add_assoc, xorL_shift E]
/-- A spoilt record. -/
theorem spoil_dec (k n : Nat) (l E : List UInt8) (i : Nat) (hk : 1 ≤ k ∧ k ≤ 127) (hn : n ≤ 1099511627776) (hl : l.length ≤ 131072) (hE : E.length ≤ 4) (hi : i + E.length ≤ l.length ∨ (i = l.length ∧ E.length = 4)) (hne : ¬ ∀ e ∈ E, e = 0) :
    decP (xorL (encP k n l) ((encP k n l).length - 4 - l.length + i) E) = .inl 12 := by
  have hlen := encP_len k n l
  have hh := headP_len k n l
  obtain ⟨F, hF⟩ : ∃ F, F = [UInt8.ofNat k] ++ numB n ++ numB l.length := ⟨_, rfl⟩
  have hFl : F.length = 1 + (numB n).length + (numB l.length).length := by rw [hF]; simp; omega
  have hH : ∀ l' : List UInt8, l'.length = l.length → headP k n l' = F ++ l' := fun l' h => by unfold headP; rw [h, hF]
  have hp : (encP k n l).length - 4 - l.length + i = F.length + i := by omega
  rw [hp]
  have hS : four (sumP (headP k n l)) = four (sumP (F ++ l)) := by rw [hH l rfl]
  rcases hi with hi | ⟨hi, hE4⟩
  · obtain ⟨X, Y, Z, rfl, hX, hY⟩ : ∃ X Y Z, l = X ++ Y ++ Z ∧ X.length = i ∧ Y.length = E.length := ⟨l.take i, (l.drop i).take E.length, (l.drop i).drop E.length, by rw [List.append_assoc, List.take_append_drop, List.take_append_drop], by simp; omega, by simp; omega⟩
    have hz : (List.zipWith (· ^^^ ·) Y E).length = Y.length := by simp; omega
    have e1 : encP k n (X ++ Y ++ Z) = (F ++ X) ++ Y ++ (Z ++ four (sumP (F ++ (X ++ Y ++ Z)))) := by unfold encP; rw [hH _ rfl]; simp
    have e2 := xorL_app E (F ++ X) Y (Z ++ four (sumP (F ++ (X ++ Y ++ Z)))) hY
    rw [← e1, show (F ++ X).length = F.length + i by simp; omega] at e2
    rw [e2]
    have hl2 : (X ++ List.zipWith (· ^^^ ·) Y E ++ Z).length = (X ++ Y ++ Z).length := by simp only [List.length_append, hz]
    have e3 : F ++ X ++ List.zipWith (· ^^^ ·) Y E ++ (Z ++ four (sumP (F ++ (X ++ Y ++ Z)))) = headP k n (X ++ List.zipWith (· ^^^ ·) Y E ++ Z) ++ four (sumP (F ++ (X ++ Y ++ Z))) ++ [] := by rw [hH _ hl2]; simp
    rw [e3, dec_parts k n _ _ [] hk hn (by rw [hl2]; exact hl) rfl, if_neg]
    rw [be4_four _ (word_sumP _), hH _ hl2]
    intro hc
    apply hne
    refine burst_sum (F ++ X) Y Z E hY hE ?_
    simpa only [List.append_assoc] using hc.symm
  · have hq : (four (sumP (F ++ l))).length = 4 := rfl
    have e1 : encP k n l = (F ++ l) ++ four (sumP (F ++ l)) ++ [] := by unfold encP; rw [hH _ rfl]; simp
    have e2 := xorL_app E (F ++ l) (four (sumP (F ++ l))) [] (by rw [hq, hE4])
    rw [← e1, show (F ++ l).length = F.length + i by simp; omega] at e2
    rw [e2, ← hH l rfl, dec_parts k n l _ [] hk hn hl (by simp [four]; omega), if_neg]
    intro hc
    apply hne
    rw [hH l rfl] at hc
    refine zip_self (four (sumP (F ++ l))) E (by rw [hq, hE4]) ?_
    refine be4_inj (by simp [four]; omega) rfl ?_
    rw [hc, be4_four _ (word_sumP _)]
/-- A record, and a spoilt one behind it. -/
theorem spoil_scan (k n : Nat) (l b' : List UInt8) (hk : 1 ≤ k ∧ k ≤ 127) (hn : n ≤ 1099511627776) (hl : l.length ≤ 131072) (h : decP b' = .inl 12) : scanP (encP k n l ++ b') = ([(k, n, l)], (encP k n l).length) := by
  rw [scanP_ok (dec_enc k n l b' hk hn hl), List.drop_left, scanP_err h]
  rfl
end Go.Proofs.Ytnieoaadhbcjiaa
