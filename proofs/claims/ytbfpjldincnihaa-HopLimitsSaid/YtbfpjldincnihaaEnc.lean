/- The walk of hop.Encode. No condition beyond lengths that memory allows. -/
import Derived.Test.YtbfpjldincnihaaPay
import Derived.Test.YtbfpjldincnihaaEncode
namespace Go.Proofs.Ytbfpjldincnihaa
open Go.RowKit
set_option linter.unusedVariables false
set_option linter.unusedSimpArgs false

theorem vec_cases (k : Int) (h : okK k = true) :
    usesF k = ⟨true, true, false, false, true, true, false⟩ ∨ usesF k = ⟨true, true, true, false, true, false, false⟩ ∨ usesF k = ⟨true, false, false, true, false, false, true⟩ ∨ usesF k = ⟨true, false, false, false, false, false, false⟩ ∨
    usesF k = ⟨true, true, false, false, false, false, false⟩ ∨ usesF k = ⟨true, false, false, false, true, false, false⟩ ∨ usesF k = ⟨false, true, true, false, false, true, false⟩ ∨ usesF k = ⟨false, true, false, false, false, false, false⟩ ∨ usesF k = ⟨true, true, true, false, false, false, false⟩ := by
  unfold okK at h
  simp only [decide_eq_true_eq] at h
  have hk : k = 1 ∨ k = 2 ∨ k = 3 ∨ k = 4 ∨ k = 5 ∨ k = 6 ∨ k = 7 ∨ k = 8 ∨ k = 9 ∨ k = 10 ∨ k = 11 ∨ k = 12 := by omega
  rcases hk with rfl | rfl | rfl | rfl | rfl | rfl | rfl | rfl | rfl | rfl | rfl | rfl <;> simp [usesF]
theorem right_any (m : Msg) (la da : Option Addr) (lc dc : Nat) (w : World) (h : okK m.kind = true) :
    Calls Try.prog 28 #[m.val (.slice la m.lst.length lc) (.slice da m.dat.length dc), (usesF m.kind).val] w fun e w' => e = .returned (.bool (rightM m (usesF m.kind))) ∧ Below w.heap.size w w' := by
  obtain ⟨k, id, nm, tt, of, tx, ls, dt⟩ := m
  dsimp only at h ⊢
  rcases vec_cases k h with e | e | e | e | e | e | e | e | e <;> rw [e]
  · exact right_1 k id nm tt of tx ls dt la da lc dc w
  · exact right_2 k id nm tt of tx ls dt la da lc dc w
  · exact right_3 k id nm tt of tx ls dt la da lc dc w
  · exact right_4 k id nm tt of tx ls dt la da lc dc w
  · exact right_5 k id nm tt of tx ls dt la da lc dc w
  · exact right_6 k id nm tt of tx ls dt la da lc dc w
  · exact right_8 k id nm tt of tx ls dt la da lc dc w
  · exact right_9 k id nm tt of tx ls dt la da lc dc w
  · exact right_12 k id nm tt of tx ls dt la da lc dc w
theorem pay_any (m : Msg) (la da : Option Addr) (lc dc : Nat) (w : World) (h : okK m.kind = true)
    (hT : IsT w (.slice la m.lst.length lc) m.lst) (hD : IsB w (.slice da m.dat.length dc) m.dat) (hS : SmallM m) :
    Calls Try.prog 30 #[m.val (.slice la m.lst.length lc) (.slice da m.dat.length dc), (usesF m.kind).val] w fun e w' => ∃ u, e = .returned u ∧ OwnB w' w.heap.size u (payM m (usesF m.kind)) ∧ Below w.heap.size w w' := by
  obtain ⟨k, id, nm, tt, of, tx, ls, dt⟩ := m
  dsimp only at h hT hD ⊢
  rcases vec_cases k h with e | e | e | e | e | e | e | e | e <;> rw [e]
  · exact pay_1 k id nm tt of tx ls dt la da lc dc w hT hD hS
  · exact pay_2 k id nm tt of tx ls dt la da lc dc w hT hD hS
  · exact pay_3 k id nm tt of tx ls dt la da lc dc w hT hD hS
  · exact pay_4 k id nm tt of tx ls dt la da lc dc w hT hD hS
  · exact pay_5 k id nm tt of tx ls dt la da lc dc w hT hD hS
  · exact pay_6 k id nm tt of tx ls dt la da lc dc w hT hD hS
  · exact pay_8 k id nm tt of tx ls dt la da lc dc w hT hD hS
  · exact pay_9 k id nm tt of tx ls dt la da lc dc w hT hD hS
  · exact pay_12 k id nm tt of tx ls dt la da lc dc w hT hD hS

def inR (n : Int) : Prop := 0 ≤ n ∧ n ≤ 1099511627776
instance (n : Int) : Decidable (inR n) := inferInstanceAs (Decidable (_ ∧ _))
def nM (id nm tt of : Int) : Nat → Int
  | 0 => id
  | 1 => nm
  | 2 => tt
  | _ => of
def rangeM (m : Msg) : Prop := inR m.id ∧ inR m.num ∧ inR m.tot ∧ inR m.off
instance (m : Msg) : Decidable (rangeM m) := inferInstanceAs (Decidable (_ ∧ _ ∧ _ ∧ _))
/-- The number of the error of Encode. -/
def codeM (m : Msg) : Int :=
  if (okK m.kind && rightM m (usesF m.kind)) = false then 2 else if ¬ rangeM m then 1 else if largeM m = true then 5 else if 131072 < (payM m (usesF m.kind)).length then 5 else 0
def errV (c : Int) : Value := if c = 0 then .nilIface else .iface 43 (.int .i64 c)
def encM (m : Msg) : List UInt8 := if codeM m = 0 then encP m.kind.toNat m.id.toNat (payM m (usesF m.kind)) else []
theorem texts_len (ts : List (List UInt8)) (h : ts.any longT = false) (hl : ts.length ≤ 1024) : (textsB ts).length ≤ 3000000 := by
  have g : ∀ l : List (List UInt8), l.any longT = false → (l.flatMap textB).length ≤ 2058 * l.length := by
    intro l
    induction l with
    | nil => simp
    | cons s l ih =>
      intro hh
      simp only [List.any_cons, Bool.or_eq_false_iff] at hh
      have h1 := ih hh.2
      have h2 := hh.1
      unfold longT at h2
      simp only [decide_eq_false_iff_not] at h2
      have h3 := numB_len s.length
      simp only [List.flatMap_cons, List.length_append, List.length_cons, textB]
      omega
  have := g ts h
  have := numB_len ts.length
  unfold textsB
  rw [List.length_append]
  omega
theorem small_of {m : Msg} (h : largeM m = false) : SmallM m := by
  unfold largeM at h
  simp only [Bool.or_eq_false_iff, decide_eq_false_iff_not] at h
  obtain ⟨⟨⟨h1, h2⟩, h3⟩, h4⟩ := h
  exact ⟨by omega, by omega, by omega, texts_len _ h4 (by omega)⟩
end Go.Proofs.Ytbfpjldincnihaa
