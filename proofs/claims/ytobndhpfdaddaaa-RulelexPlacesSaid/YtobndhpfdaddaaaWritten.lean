/- The walk of written. No condition beyond a text's length. -/
import Derived.Test.YtobndhpfdaddaaaPlain3
import Derived.BigQuiet
namespace Go.Proofs.Ytobndhpfdaddaaa
open Go.RowKit
set_option linter.unusedVariables false
set_option linter.unusedSimpArgs false

theorem writK_len {kd : Int} {tx : List UInt8} : tx.length ≤ (writK kd tx).length := by
  unfold writK
  split
  · unfold quoL
    have : ∀ l : List UInt8, l.length ≤ (l.flatMap escB).length := by
      intro l
      induction l with
      | nil => simp
      | cons a r ih =>
        rw [List.flatMap_cons, List.length_append]
        have : 1 ≤ (escB a).length := by unfold escB; split <;> simp
        simp only [List.length_cons]; omega
    have := this tx
    simp only [List.length_append, List.length_cons, List.length_nil]; omega
  · exact Nat.le_refl _
theorem goodL_at {N : Nat} : ∀ (ts : List Tok) (k : Nat) (t : Tok), goodL N ts → ts[k]? = some t → (t.kind = 3 → t.text.all okB = true) ∧ (writK t.kind t.text).length ≤ N
  | [], _, _, h, _ => absurd h id
  | [e], k, t, h, hk => by
    cases k with
    | zero =>
      simp at hk
      subst hk
      refine ⟨fun e => absurd (h.1.symm.trans e) (by decide), ?_⟩
      rw [writK, h.1, h.2, if_neg (by decide)]
      simp
    | succ k => simp at hk
  | a :: b :: r, k, t, h, hk => by
    cases k with
    | zero =>
      simp at hk
      subst hk
      exact ⟨h.2.1.1, h.1⟩
    | succ k => exact goodL_at (b :: r) k t h.2.2 (by simpa using hk)
set_option maxRecDepth 20000 in
set_option maxHeartbeats 2000000 in
theorem written_any (kd l c : Int) (tx : List UInt8) (hok : kd = 3 → tx.all okB = true) (hl : tx.length ≤ 100000) (w : World) :
    Calls Try.prog 15 #[.agg #[.int .i64 kd, .string ⟨tx.toArray⟩, .int .i64 l, .int .i64 c]] w fun e w' => e = .returned (.tuple #[.string ⟨(writK kd tx).toArray⟩, .bool true]) ∧ Below w.heap.size w w' := by
  by_cases h3 : kd = 3
  · subst h3
    have HQ := Lib.hid (show ∀ W, Calls Try.prog 16 #[.string ⟨tx.toArray⟩] W fun e w' => e = .returned (.tuple #[.string ⟨(quoL tx).toArray⟩, .nilIface]) ∧ Below W.heap.size W w' by
      intro W
      have := quote_any ⟨tx.toArray⟩ W (by rw [mk_size]; exact hl)
      rw [data_list, quoV, if_pos (hok rfl)] at this
      exact this)
    have hw : writK 3 tx = quoL tx := by rw [writK, if_pos rfl]
    rw [hw]
    clear hok hl hw
    go_enter Try.func15, Try.ntmps15
    go_wp2_with (go_at_call 16; refine (HQ.out _).mono ?_; rintro e w1 ⟨rfl, hb1⟩)
    go_quiet (fail)
    go_wp2_with fail
    go_ret2
    exact ⟨rfl, bel_drewN (bel_step (bel_new _ _) hb1)⟩
  · have hw : writK kd tx = tx := by rw [writK, if_neg h3]
    have h3b : (kd != 3) = true := bne_iff_ne.2 h3
    rw [hw]
    clear hok hl hw
    go_enter Try.func15, Try.ntmps15
    go_wp2_with fail
    go_ret2
    exact ⟨rfl, bel_new _ _⟩
end Go.Proofs.Ytobndhpfdaddaaa
