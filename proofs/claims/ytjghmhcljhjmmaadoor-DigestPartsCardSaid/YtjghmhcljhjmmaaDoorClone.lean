/- The walk of Clone; bytes from a word; the length's eight bytes. No condition beyond the sizes. -/
import Derived.Test.YtjghmhcljhjmmaaDoorWrite
namespace Go.Proofs.YtjghmhcljhjmmaaDoor
open Go.RowKit
set_option linter.unusedVariables false
set_option linter.unusedSimpArgs false

/-- New bytes of the call's own, and nothing else has turned. -/
def OwnR (w : World) (l : List UInt8) (e : Ending) (w' : World) : Prop := ∃ v', e = .returned v' ∧ OwnB w' w.heap.size v' l ∧ Below w.heap.size w w'
set_option maxRecDepth 20000 in
set_option maxHeartbeats 1000000 in
theorem clone_any (v : Value) (l : List UInt8) (w : World) (hv : IsB w v l) (hl : l.length ≤ 1099511627776) : Calls Tryd.prog 29 #[v] w (OwnR w l) := by
  have HV := Lib.hid hv
  have hlb : 0 + l.length ≤ 140737488355328 := by omega
  obtain ⟨a, cap, hva, h1, h2, h3⟩ := hv.shape
  cases a with
  | none =>
    have hc0 := h3 rfl
    have hl0 : l = [] := List.eq_nil_of_length_eq_zero (by omega)
    subst hc0 hl0
    have hE : ∀ W, (binOp .eql 22 v (.slice none 0 0)).run Tryd.prog W = .ok (.bool true) W := by
      intro W
      rw [hva]
      exact Lib.run_eql_slice_nil W 22 5 none _ _ _ _ Tryd.underlying22
    have hG : ∀ W, (eqGuard .eql 22 (.tmp 3) (.const (.slice none 0 0)) v (.slice none 0 0)).run Tryd.prog W = .ok () W := by
      intro W
      rw [hva]
      simp [eqGuard, go_sem]
    clear hv h1 h2 h3 hlb hva
    go_enter Tryd.func29, Tryd.ntmps29
    go_wp2_with fail
    go_ret
    exact ⟨_, rfl, OwnB.nil _ _, Below.refl _ _⟩
  | some ad =>
    have hE : ∀ W, (binOp .eql 22 v (.slice none 0 0)).run Tryd.prog W = .ok (.bool false) W := by
      intro W
      rw [hva]
      exact Lib.run_eql_slice_nil W 22 5 (some ad) _ _ _ _ Tryd.underlying22
    have hG : ∀ W, (eqGuard .eql 22 (.tmp 3) (.const (.slice none 0 0)) v (.slice none 0 0)).run Tryd.prog W = .ok () W := by
      intro W
      rw [hva]
      simp [eqGuard, go_sem]
    clear h1 h2 h3 hva hv
    have HO := Lib.hid (OwnB.made w w.heap.size (Nat.le_refl _))
    have HB := Lib.hid (bel_new w (.cells #[] 5))
    have HV1 := Lib.hid (HV.out.step HB.out)
    have hbs : w.heap.size ≤ (w.alloc (.cells #[] 5)).heap.size := by simp [go_sem]
    go_enter Tryd.func29, Tryd.ntmps29
    go_wp2_with (at_builtin; refine wpList_app rfl (.tmp 5) (.tmp 6) rfl w.heap.size _ [] rfl HO.out _ l rfl HV1.out hlb hbs ?_; intro v2 w2 hO2 hB2 hs2 hn2; have HO2 := Lib.hid hO2; have HB2 := Lib.hid (HB.out.trans (hB2)); clear hO2 hB2 hn2)
    go_ret
    exact ⟨_, rfl, HO2.out, HB2.out⟩
end Go.Proofs.YtjghmhcljhjmmaaDoor
