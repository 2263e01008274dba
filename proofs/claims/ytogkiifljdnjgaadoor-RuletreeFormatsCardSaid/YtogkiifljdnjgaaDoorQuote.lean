/- The walks of Quote, the program's and the reference's. No condition beyond a text's length. -/
import Derived.Test.YtogkiifljdnjgaaDoorBase
namespace Go.Proofs.YtogkiifljdnjgaaDoor
open Go.RowKit
set_option linter.unusedVariables false
set_option linter.unusedSimpArgs false

def okB (c : UInt8) : Bool := decide (¬ c.toNat < 32 ∧ ¬ 126 < c.toNat)
def escB (c : UInt8) : List UInt8 := if c.toNat = 34 ∨ c.toNat = 92 then [92, c] else [c]
def quoL (l : List UInt8) : List UInt8 := 34 :: l.flatMap escB ++ [34]
def quoV (l : List UInt8) : Value := if l.all okB = true then .tuple #[.string ⟨(quoL l).toArray⟩, .nilIface] else .tuple #[.string ⟨#[]⟩, .iface 52 (.int .i64 2)]
def rquoV (l : List UInt8) : Value := if l.all okB = true then .tuple #[.string ⟨(quoL l).toArray⟩, .bool true] else .tuple #[.string ⟨#[]⟩, .bool false]
theorem take_one (s : ByteArray) (k : Nat) (h : k < s.size) : s.data.toList.take (k + 1) = s.data.toList.take k ++ [s[k]] := by
  rw [List.take_succ_eq_append_getElem (by rw [size_list]; exact h)]
  rfl
theorem esc_len (l : List UInt8) : (l.flatMap escB).length ≤ 2 * l.length := by
  induction l with
  | nil => simp
  | cons a r ih =>
    rw [List.flatMap_cons, List.length_append]
    have : (escB a).length ≤ 2 := by unfold escB; split <;> simp
    simp only [List.length_cons]; omega
theorem esc_step (s : ByteArray) (k : Nat) (h : k < s.size) : (s.data.toList.take (k + 1)).flatMap escB = (s.data.toList.take k).flatMap escB ++ escB s[k] := by
  rw [take_one s k h, List.flatMap_append]
  simp
theorem all_bad (s : ByteArray) (k : Nat) (h : k < s.size) (hb : okB s[k] = false) : s.data.toList.all okB = false := by
  rw [Bool.eq_false_iff]
  intro ha
  rw [List.all_eq_true] at ha
  have := ha s[k] (by have : s[k] = s.data[k]'h := rfl; rw [this]; simp)
  rw [hb] at this
  cases this

set_option maxRecDepth 20000 in
set_option maxHeartbeats 2000000 in
theorem quote_any (s : ByteArray) (w : World) (hs : s.size ≤ 100000) :
    Calls Tryd.prog 62 #[.string s] w fun e w' => e = .returned (quoV s.data.toList) ∧ Below w.heap.size w w' := by
  have hsi : (s.size : Int) ≤ 100000 := by omega
  obtain ⟨R, hR⟩ : ∃ R, quoV s.data.toList = R := ⟨_, rfl⟩
  rw [hR]
  have HR := Lib.hid hR
  clear hR
  go_enter Tryd.func62, Tryd.ntmps62
  go_wp2_with fail
  go_loopw [4, 9] (fun u i wr => ∃ k : Nat, i = .int .i64 k ∧ k ≤ s.size ∧ OwnB wr w.heap.size u (34 :: (s.data.toList.take k).flatMap escB) ∧ (s.data.toList.take k).all okB = true ∧ Below w.heap.size w wr) (fun _ i _ => s.size - (intOf i).toNat)
  case atStart => exact ⟨0, rfl, by omega, OwnB.one _ _ _ _ rfl (Nat.le_refl _), rfl, bel_new _ _⟩
  case round =>
    obtain ⟨k, rfl, hk, ho, hall, hb⟩ := hrel
    have HO := Lib.hid ho
    have HB := Lib.hid hb
    have HA := Lib.hid hall
    have hlen : (34 :: (s.data.toList.take k).flatMap escB).length ≤ 200001 := by
      have := esc_len (s.data.toList.take k)
      rw [List.length_take] at this
      simp only [List.length_cons]; omega
    have HL := Lib.hid hlen
    clear ho hb hall hlen
    by_cases hlt : k < s.size
    · have hcb := s[k].toNat_lt
      have hk0 : (0 : Int) ≤ (k : Int) := by omega
      have hki : (k : Int) < (s.size : Int) := by omega
      cases hok : okB s[k] with
      | false =>
        have HQ := Lib.hid (all_bad s k hlt hok)
        have hbi : (s[k].toNat : Int) < 32 ∨ (¬ (s[k].toNat : Int) < 32 ∧ 126 < (s[k].toNat : Int)) := by
          simp only [okB, decide_eq_false_iff_not] at hok
          omega
        clear hok hcb
        rcases hbi with g1 | ⟨g1, g2⟩
        all_goals
          go_wp2_with fail
          go_ret2
          exact ⟨by rw [← HR.out, quoV, HQ.out]; rfl, HB.out⟩
      | true =>
        have HA2 := Lib.hid (show (s.data.toList.take (k + 1)).all okB = true by rw [take_one s k hlt, List.all_append, HA.out]; simp [hok])
        have HE := Lib.hid (esc_step s k hlt)
        have g1 : ¬ (s[k].toNat : Int) < 32 := by simp only [okB, decide_eq_true_iff] at hok; omega
        have g2 : ¬ 126 < (s[k].toNat : Int) := by simp only [okB, decide_eq_true_iff] at hok; omega
        by_cases hq : s[k].toNat = 34 ∨ s[k].toNat = 92
        · have HE2 := Lib.hid (show escB s[k] = [92, s[k]] by rw [escB, if_pos hq])
          have hq3 : (((s[k].toNat : Int) == 34) = true) ∨ (((s[k].toNat : Int) == 34) = false ∧ ((s[k].toNat : Int) == 92) = true) := by
            rcases hq with h | h <;> simp [h]
          clear hok hcb hq
          rcases hq3 with f1 | ⟨f1, f2⟩
          all_goals
            go_wp2_with (first | (at_builtin; refine wpList_app rfl (.tmp 33) (.tmp 34) rfl w.heap.size _ _ rfl (HO.out.step (bel_new _ _)) _ [92] rfl (IsB.one _ _ _ rfl) (by have := HL.out; simp only [List.length_cons, List.length_nil] at this ⊢; omega) (by have := HB.out.size; simp; omega) ?_; intro v1 w1 ho1 hb1 hz1 hne1; have HO1 := Lib.hid ho1; have HB1 := Lib.hid ((HB.out.trans ((bel_new wr _).mono HB.out.size)).trans hb1); clear hb1 ho1 hne1) | (at_builtin; refine wpList_app rfl (.tmp 36) (.tmp 40) rfl w.heap.size _ _ rfl (HO1.out.step (bel_new _ _)) _ [s[k]] rfl (IsB.one _ _ _ rfl) (by have := HL.out; simp only [List.length_cons, List.length_nil, List.length_append] at this ⊢; omega) (by have := HB1.out.size; simp; omega) ?_; intro v2 w2 ho2 hb2 hz2 hne2))
            go_roundw
            case rel => exact ⟨k + 1, by go_num, by omega, by rw [HE.out, HE2.out]; simpa using ho2, HA2.out, (HB1.out.trans ((bel_new w1 _).mono HB1.out.size)).trans hb2⟩
            case measure => simp [intOf]; omega
        · have HE2 := Lib.hid (show escB s[k] = [s[k]] by rw [escB, if_neg hq])
          have f1 : ((s[k].toNat : Int) == 34) = false := beq_eq_false_iff_ne.2 (by omega)
          have f2 : ((s[k].toNat : Int) == 92) = false := beq_eq_false_iff_ne.2 (by omega)
          clear hok hcb hq
          go_wp2_with (at_builtin; refine wpList_app rfl (.tmp 36) (.tmp 40) rfl w.heap.size _ _ rfl (HO.out.step (bel_new _ _)) _ [s[k]] rfl (IsB.one _ _ _ rfl) (by have := HL.out; simp only [List.length_cons, List.length_nil, List.length_append] at this ⊢; omega) (by have := HB.out.size; simp; omega) ?_; intro v2 w2 ho2 hb2 hz2 hne2)
          go_roundw
          case rel => exact ⟨k + 1, by go_num, by omega, by rw [HE.out, HE2.out]; simpa using ho2, HA2.out, (HB.out.trans ((bel_new wr _).mono HB.out.size)).trans hb2⟩
          case measure => simp [intOf]; omega
    · obtain rfl : k = s.size := by omega
      rw [List.take_of_length_le (by rw [size_list]; omega)] at HO HA HL
      go_wp2_with (at_builtin; refine wpList_app rfl (.tmp 43) (.tmp 44) rfl w.heap.size _ _ rfl (HO.out.step (bel_new _ _)) _ [34] rfl (IsB.one _ _ _ rfl) (by have := HL.out; simp only [List.length_cons, List.length_nil, List.length_append] at this ⊢; omega) (by have := HB.out.size; simp; omega) ?_; intro v2 w2 ho2 hb2 hz2 hne2; have HO2 := Lib.hid ho2; have hst := run_str w2 v2 _ ho2.isB; clear ho2 hne2)
      go_ret2
      exact ⟨by rw [← HR.out, quoV, HA.out]; rfl, (HB.out.trans ((bel_new wr _).mono HB.out.size)).trans hb2⟩
end Go.Proofs.YtogkiifljdnjgaaDoor
