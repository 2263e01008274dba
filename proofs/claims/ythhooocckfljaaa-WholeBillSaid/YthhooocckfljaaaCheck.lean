/- The walks of Check and Code. No condition beyond that an int fits. -/
import Derived.Test.YthhooocckfljaaaNames
namespace Go.Proofs.Ythhooocckfljaaa
open Go.RowKit
set_option linter.unusedVariables false
set_option linter.unusedSimpArgs false

structure Ent where
  node : List UInt8
  boot : Int
  seq : Int
  ten : Int
  hits : Int
  bytes : Int
  att : Int
def Ent.val (e : Ent) : Value := .agg #[.string ⟨e.node.toArray⟩, .int .i64 e.boot, .int .i64 e.seq, .int .i64 e.ten, .int .i64 e.hits, .int .i64 e.bytes, .int .i64 e.att]
def inR (n : Int) : Prop := 0 ≤ n ∧ n ≤ 1099511627776
instance (n : Int) : Decidable (inR n) := inferInstanceAs (Decidable (_ ∧ _))
def rangeE (e : Ent) : Prop := inR e.boot ∧ inR e.seq ∧ inR e.ten ∧ inR e.hits ∧ inR e.bytes ∧ inR e.att ∧ 1 ≤ e.seq ∧ e.ten ≤ 15
instance (e : Ent) : Decidable (rangeE e) := inferInstanceAs (Decidable (_ ∧ _ ∧ _ ∧ _ ∧ _ ∧ _ ∧ _ ∧ _))
def codeE (e : Ent) : Int := if namedB e.node = true then (if rangeE e then 0 else 1) else 8
def errV (c : Int) : Value := if c = 0 then .nilIface else .iface 94 (.int .i64 c)

theorem wrap64_def (n : Int) : wrap64 n = (n + 9223372036854775808) % 18446744073709551616 - 9223372036854775808 := by unfold wrap64; rfl
def listE (bt s1 tn ht by' at' : Int) : Nat → Int
  | 0 => bt
  | 1 => s1
  | 2 => tn
  | 3 => ht
  | 4 => by'
  | _ => at'
theorem code_bad (nd : List UInt8) (bt sq tn ht by' at' s1 : Int) (hs : inR s1 ↔ 1 ≤ sq ∧ sq ≤ 1099511627777) (k : Nat) (hk : k < 6) (h : ¬ inR (listE bt s1 tn ht by' at' k)) : ¬ rangeE ⟨nd, bt, sq, tn, ht, by', at'⟩ := by
  rintro ⟨h0, h1, h2, h3, h4, h5, h6, h7⟩
  dsimp only at *
  match k, hk with
  | 0, _ => exact h h0
  | 1, _ => exact h (hs.2 ⟨h6, by have := h1.2; omega⟩)
  | 2, _ => exact h h2
  | 3, _ => exact h h3
  | 4, _ => exact h h4
  | 5, _ => exact h h5
theorem code_good (nd : List UInt8) (bt sq tn ht by' at' s1 : Int) (hs : inR s1 ↔ 1 ≤ sq ∧ sq ≤ 1099511627777) (h : ∀ j, j < 6 → inR (listE bt s1 tn ht by' at' j)) (h1 : sq ≤ 1099511627776) (h2 : tn ≤ 15) : rangeE ⟨nd, bt, sq, tn, ht, by', at'⟩ := by
  have a0 := h 0 (by omega)
  have a1 := hs.1 (h 1 (by omega))
  have a2 := h 2 (by omega)
  have a3 := h 3 (by omega)
  have a4 := h 4 (by omega)
  have a5 := h 5 (by omega)
  exact ⟨a0, ⟨by dsimp only; omega, h1⟩, a2, a3, a4, a5, a1.1, h2⟩

set_option maxRecDepth 20000 in
set_option maxHeartbeats 1000000 in
theorem check_any (e : Ent) (w : World) (hn : e.node.length ≤ 9223372036854775807) (hs : -9223372036854775808 ≤ e.seq ∧ e.seq ≤ 9223372036854775807) :
    Calls Try.prog 17 #[e.val] w fun r w' => r = .returned (errV (codeE e)) ∧ Below w.heap.size w w' := by
  obtain ⟨nd, bt, sq, tn, ht, by', at'⟩ := e
  have hN := fun W => named_any ⟨nd.toArray⟩ W (by simpa [ByteArray.size] using hn)
  have HN := Lib.hid hN
  have HS := Lib.hid hs
  unfold Ent.val codeE
  dsimp only at *
  clear hN hn hs
  cases hb : namedB nd
  · rw [hb] at HN
    clear hb
    go_enter Try.func17, Try.ntmps17
    go_wp2_with (go_at_call 33; refine (HN.out _).mono ?_; rintro e w' ⟨rfl, rfl⟩)
    go_ret
    exact ⟨rfl, bel_new _ _⟩
  · rw [hb] at HN
    clear hb
    go_enter Try.func17, Try.ntmps17
    go_wp2_with (go_at_call 33; refine (HN.out _).mono ?_; rintro e w' ⟨rfl, rfl⟩)
    generalize hw1 : wrap64 (sq - 1) = s1 at *
    have hs1 : (inR s1 ↔ 1 ≤ sq ∧ sq ≤ 1099511627777) := by
      have := HS.out
      rw [← hw1, wrap64_def]
      unfold inR
      omega
    have HS1 := Lib.hid hs1
    clear hw1 hs1
    have hbx : ∀ k, k < 6 → (((w.alloc (.cells #[.string ⟨nd.toArray⟩, .int .i64 bt, .int .i64 sq, .int .i64 tn, .int .i64 ht, .int .i64 by', .int .i64 at'] 46)).alloc (.cells #[.int .i64 bt, .int .i64 s1, .int .i64 tn, .int .i64 ht, .int .i64 by', .int .i64 at'] 3)).cell? ⟨w.heap.size + 1, k, none⟩ = some (.int .i64 (listE bt s1 tn ht by' at' k))) := by
      intro k hk
      match k, hk with
      | 0, _ => simp [go_sem, listE]
      | 1, _ => simp [go_sem, listE]
      | 2, _ => simp [go_sem, listE]
      | 3, _ => simp [go_sem, listE]
      | 4, _ => simp [go_sem, listE]
      | 5, _ => simp [go_sem, listE]
    have q2 : (((w.alloc (.cells #[.string ⟨nd.toArray⟩, .int .i64 bt, .int .i64 sq, .int .i64 tn, .int .i64 ht, .int .i64 by', .int .i64 at'] 46)).alloc (.cells #[.int .i64 bt, .int .i64 s1, .int .i64 tn, .int .i64 ht, .int .i64 by', .int .i64 at'] 3)).cell? ⟨w.heap.size, 2, none⟩ = some (.int .i64 sq)) := by simp [go_sem]
    have q3 : (((w.alloc (.cells #[.string ⟨nd.toArray⟩, .int .i64 bt, .int .i64 sq, .int .i64 tn, .int .i64 ht, .int .i64 by', .int .i64 at'] 46)).alloc (.cells #[.int .i64 bt, .int .i64 s1, .int .i64 tn, .int .i64 ht, .int .i64 by', .int .i64 at'] 3)).cell? ⟨w.heap.size, 3, none⟩ = some (.int .i64 tn)) := by simp [go_sem]
    have hB := bel_alloc (x := .cells #[.int .i64 bt, .int .i64 s1, .int .i64 tn, .int .i64 ht, .int .i64 by', .int .i64 at'] 3) (bel_new w (.cells #[.string ⟨nd.toArray⟩, .int .i64 bt, .int .i64 sq, .int .i64 tn, .int .i64 ht, .int .i64 by', .int .i64 at'] 46))
    have HBX := Lib.hid hbx
    have HB := Lib.hid hB
    clear hbx hB
    generalize (w.alloc (.cells #[.string ⟨nd.toArray⟩, .int .i64 bt, .int .i64 sq, .int .i64 tn, .int .i64 ht, .int .i64 by', .int .i64 at'] 46)).alloc (.cells #[.int .i64 bt, .int .i64 s1, .int .i64 tn, .int .i64 ht, .int .i64 by', .int .i64 at'] 3) = W at *
    go_loop [25] (fun i => ∃ k : Nat, k ≤ 6 ∧ i = .int .i64 k ∧ ∀ j, j < k → inR (listE bt s1 tn ht by' at' j)) (fun i => 6 - (intOf i).toNat)
    case atStart => exact ⟨0, by omega, rfl, fun j hj => absurd hj (by omega)⟩
    case round =>
      obtain ⟨k, hk, rfl, hall⟩ := hrel
      have HA := Lib.hid hall
      clear hall
      by_cases hlt : k < 6
      · have hcell := HBX.out k hlt
        have hk0 : (0 : Int) ≤ (k : Int) := by omega
        have hk1 : (k : Int) < 6 := by omega
        by_cases hr : inR (listE bt s1 tn ht by' at' k)
        · have HR := Lib.hid hr
          obtain ⟨r1, r2⟩ := hr
          generalize hx : listE bt s1 tn ht by' at' k = x at *
          have HX := Lib.hid hx
          clear hx
          go_wp2_with fail
          go_round
          case rel => exact ⟨k + 1, by omega, by go_num, fun j hj => by
            rcases Nat.lt_or_ge j k with h | h
            · exact HA.out j h
            · obtain rfl : j = k := by omega
              rw [HX.out]; exact HR.out⟩
          case measure => simp [intOf]; omega
        · have HR := Lib.hid hr
          have hr2 : listE bt s1 tn ht by' at' k < 0 ∨ (¬ listE bt s1 tn ht by' at' k < 0 ∧ 1099511627776 < listE bt s1 tn ht by' at' k) := by unfold inR at hr; omega
          clear hr
          have HC := Lib.hid (code_bad nd bt sq tn ht by' at' s1 HS1.out k hlt HR.out)
          clear HR
          generalize listE bt s1 tn ht by' at' k = x at *
          rcases hr2 with r1 | ⟨r1, r2⟩
          all_goals
            go_wp2_with fail
            go_ret
            exact ⟨(show Ending.returned (.iface 94 (.int .i64 1)) = _ from by first | rfl | (rw [if_pos rfl, if_neg HC.out]; rfl) | (rw [if_neg HC.out]; rfl)), HB.out⟩
      · obtain rfl : k = 6 := by omega
        have HAL := Lib.hid HA.out
        by_cases h1 : 1099511627776 < sq
        · have HC : Hid (¬ rangeE ⟨nd, bt, sq, tn, ht, by', at'⟩) := Lib.hid (fun h => by have := h.2.1.2; dsimp only at this; omega)
          go_wp2_with fail
          all_goals
            go_ret
            exact ⟨(show Ending.returned (.iface 94 (.int .i64 1)) = _ from by first | rfl | (rw [if_pos rfl, if_neg HC.out]; rfl) | (rw [if_neg HC.out]; rfl)), HB.out⟩
        · by_cases h2 : 16 ≤ tn
          · have HC : Hid (¬ rangeE ⟨nd, bt, sq, tn, ht, by', at'⟩) := Lib.hid (fun h => by have := h.2.2.2.2.2.2.2; dsimp only at this; omega)
            go_wp2_with fail
            all_goals
              go_ret
              exact ⟨(show Ending.returned (.iface 94 (.int .i64 1)) = _ from by first | rfl | (rw [if_pos rfl, if_neg HC.out]; rfl) | (rw [if_neg HC.out]; rfl)), HB.out⟩
          · have HC := Lib.hid (code_good nd bt sq tn ht by' at' s1 HS1.out HA.out (by omega) (by omega))
            go_wp2_with fail
            all_goals
              go_ret
              exact ⟨(show Ending.returned .nilIface = _ from by first | rfl | (rw [if_pos rfl, if_pos HC.out]; rfl) | (rw [if_pos HC.out]; rfl)), HB.out⟩
theorem code_bad2 (nd : List UInt8) (bt sq tn ht by' at' : Int) (k : Nat) (hk : k < 6) (h : ¬ inR (listE bt sq tn ht by' at' k)) : ¬ rangeE ⟨nd, bt, sq, tn, ht, by', at'⟩ := by
  rintro ⟨h0, h1, h2, h3, h4, h5, h6, h7⟩
  dsimp only at *
  match k, hk with
  | 0, _ => exact h h0
  | 1, _ => exact h h1
  | 2, _ => exact h h2
  | 3, _ => exact h h3
  | 4, _ => exact h h4
  | 5, _ => exact h h5
theorem code_good2 (nd : List UInt8) (bt sq tn ht by' at' : Int) (h : ∀ j, j < 6 → inR (listE bt sq tn ht by' at' j)) (h1 : 1 ≤ sq) (h2 : tn ≤ 15) : rangeE ⟨nd, bt, sq, tn, ht, by', at'⟩ :=
  ⟨h 0 (by omega), h 1 (by omega), h 2 (by omega), h 3 (by omega), h 4 (by omega), h 5 (by omega), h1, h2⟩

end Go.Proofs.Ythhooocckfljaaa
