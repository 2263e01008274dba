/- The walk of the law RulelexKeywords: it returns true wherever the keywords lie as the program's text lays them. -/
import Derived.Test.YtobndhpfdaddaaaDoorLists
import Derived.Laws.Concat
namespace Go.Proofs.YtobndhpfdaddaaaDoor
open Go.RowKit
set_option linter.unusedVariables false
set_option linter.unusedSimpArgs false

def kws : List (List UInt8) := [[105, 102], [101, 108, 115, 101], [108, 101, 116], [118, 97, 114, 121], [116, 97, 103], [116, 116, 108], [100, 101, 110, 121], [112, 97, 115, 115], [116, 111, 107, 101, 110], [111, 114], [97, 110, 100], [110, 111, 116], [115, 116, 97, 114, 116, 115], [101, 110, 100, 115], [99, 111, 110, 116, 97, 105, 110, 115], [116, 114, 117, 101], [102, 97, 108, 115, 101]]
/-- The texts L lie from a place on. -/
def TextsAt (w : World) (b off : Nat) (L : List (List UInt8)) : Prop := ∀ i g, L[i]? = some g → w.cell? ⟨b, off + i, none⟩ = some (.string ⟨g.toArray⟩)
theorem TextsAt.step {w w' : World} {b off : Nat} {L : List (List UInt8)} (h : TextsAt w b off L) (hb : Below w.heap.size w w') : TextsAt w' b off L := fun i g hi => keep_at hb (h i g hi)
/-- What the keywords' variable holds. -/
def KW (w : World) : Prop := ∃ b off cap, w.cell? ⟨0, 0, none⟩ = some (.slice (some ⟨b, off, none⟩) 17 cap) ∧ TextsAt w b off kws
theorem KW.step {w w' : World} (h : KW w) (hb : Below w.heap.size w w') : KW w' := by
  obtain ⟨b, off, cap, h1, h2⟩ := h
  exact ⟨b, off, cap, keep_at hb h1, h2.step hb⟩
/-- What an index says of a text. -/
def IdxE (s : List UInt8) (L : List (List UInt8)) (e : Ending) : Prop := ∃ j : Int, e = .returned (.int .i64 j) ∧ (0 ≤ j ↔ s ∈ L)
set_option maxRecDepth 20000 in
set_option maxHeartbeats 1000000 in
theorem index_any (s : ByteArray) (L : List (List UInt8)) (b off cap : Nat) (w : World) (h : TextsAt w b off L) (hl : L.length ≤ 1000) :
    Calls Tryd.prog 15 #[.slice (some ⟨b, off, none⟩) L.length cap, .string s] w fun e w' => IdxE s.data.toList L e ∧ w = w' := by
  have H := Lib.hid h
  have hli : (L.length : Int) ≤ 1000 := by omega
  clear h
  go_enter Tryd.func15, Tryd.ntmps15
  go_wp2_with fail
  go_loop [8] (fun i => ∃ k : Nat, i = .int .i64 k ∧ k ≤ L.length ∧ s.data.toList ∉ L.take k) (fun i => L.length - (intOf i).toNat)
  case atStart => exact ⟨0, rfl, by omega, by simp⟩
  case round =>
    obtain ⟨k, rfl, hk, hno⟩ := hrel
    have HNO := Lib.hid hno
    clear hno
    by_cases hlt : k < L.length
    · have hg := List.getElem?_eq_getElem hlt
      generalize hgg : L[k] = g at hg
      have hcell := H.out k g hg
      have HG := Lib.hid hg
      have hk0 : (0 : Int) ≤ (k : Int) := by omega
      have hki : (k : Int) < (L.length : Int) := by omega
      have HT := Lib.hid (show L.take (k + 1) = L.take k ++ [g] by rw [List.take_succ_eq_append_getElem hlt, hgg])
      clear hg hgg
      by_cases heq : s.data.toList = g
      · have hcmp : (s.toList == g) = true := by rw [ByteArray.toList_eq, heq]; simp
        have HM := Lib.hid (show s.data.toList ∈ L by rw [heq]; exact List.mem_of_getElem? HG.out)
        clear heq
        go_wp2_with fail
        go_ret
        exact ⟨⟨k, rfl, by simp [HM.out]⟩, rfl⟩
      · have hcmp : (s.toList == g) = false := by rw [ByteArray.toList_eq]; exact beq_eq_false_iff_ne.2 heq
        have HM := Lib.hid (show s.data.toList ∉ L.take (k + 1) by rw [HT.out]; simp [HNO.out, heq])
        clear heq
        go_wp2_with fail
        go_round
        case rel => exact ⟨k + 1, by go_num, by omega, HM.out⟩
        case measure => simp [intOf]; omega
    · obtain rfl : k = L.length := by omega
      have HM := Lib.hid (show s.data.toList ∉ L by have := HNO.out; rwa [List.take_length] at this)
      go_wp2_with fail
      go_ret
      exact ⟨⟨-1, rfl, by simp [HM.out]⟩, rfl⟩
theorem contains_any (s : ByteArray) (L : List (List UInt8)) (b off cap : Nat) (w : World) (h : TextsAt w b off L) (hl : L.length ≤ 1000) :
    Calls Tryd.prog 10 #[.slice (some ⟨b, off, none⟩) L.length cap, .string s] w fun e w' => e = .returned (.bool (decide (s.data.toList ∈ L))) ∧ w = w' := by
  have HI := Lib.hid (index_any s L b off cap w h hl)
  clear h
  go_enter Tryd.func10, Tryd.ntmps10
  go_wp2_with (go_at_call 15; refine HI.out.mono ?_; rintro e w' ⟨⟨j, rfl, hj⟩, rfl⟩; have HJ := Lib.hid hj; clear hj)
  go_ret
  exact ⟨ret_bool (by rw [Bool.eq_iff_iff]; simp [HJ.out]), rfl⟩
theorem keyword_any (s : ByteArray) (w : World) (h : KW w) :
    Calls Tryd.prog 7 #[.string s] w fun e w' => e = .returned (.bool (decide (s.data.toList ∈ kws))) ∧ w = w' := by
  obtain ⟨b, off, cap, h1, h2⟩ := h
  have HI := Lib.hid (contains_any s kws b off cap w h2 (by decide))
  clear h2
  go_enter Tryd.func7, Tryd.ntmps7
  go_wp2_with (go_at_call 10; refine HI.out.mono ?_; rintro e w' ⟨rfl, rfl⟩)
  go_ret
  exact ⟨rfl, rfl⟩
def kwCells : Array Value := (kws.map fun g => Value.string ⟨g.toArray⟩).toArray
theorem kw_cell (w : World) : TextsAt (w.alloc (.cells kwCells 9)) w.heap.size 0 kws := by
  intro j g h
  rw [cell_of_row _ _ _ _ _ _ (heap_alloc_new w _)]
  simp [kwCells, h]
def KwsE (w' : World) (B : Nat) (e : Ending) : Prop := ∃ b, e = .returned (.slice (some ⟨b, 0, none⟩) 17 17) ∧ TextsAt w' b 0 kws
theorem keywords_any (w : World) : Calls Tryd.prog 5 #[] w fun e w' => KwsE w' w.heap.size e ∧ Below w.heap.size w w' := by
  have HK := Lib.hid (kw_cell w)
  go_enter Tryd.func5, Tryd.ntmps5
  go_wp2_with fail
  go_ret
  exact ⟨⟨_, rfl, HK.out⟩, bel_new _ _⟩
set_option maxRecDepth 20000 in
set_option maxHeartbeats 1000000 in
theorem rkeyword_any (s : ByteArray) (w : World) :
    Calls Tryd.prog 8 #[.string s] w fun e w' => e = .returned (.bool (decide (s.data.toList ∈ kws))) ∧ Below w.heap.size w w' := by
  obtain ⟨R, hR⟩ : ∃ R, decide (s.data.toList ∈ kws) = R := ⟨_, rfl⟩
  rw [hR]
  have HR := Lib.hid hR
  clear hR
  go_enter Tryd.func8, Tryd.ntmps8
  go_wp2_with (go_at_call 5; refine (keywords_any _).mono ?_; rintro e w1 ⟨⟨b, rfl, ht⟩, hb⟩; have HT := Lib.hid ht; have HB := Lib.hid hb; clear ht hb)
  go_loop [8] (fun i => ∃ k : Nat, i = .int .i64 k ∧ k ≤ 17 ∧ s.data.toList ∉ kws.take k) (fun i => 17 - (intOf i).toNat)
  case atStart => exact ⟨0, rfl, by omega, by simp⟩
  case round =>
    obtain ⟨k, rfl, hk, hno⟩ := hrel
    have HNO := Lib.hid hno
    clear hno
    by_cases hlt : k < 17
    · have hg : kws[k]? = some (kws[k]'hlt) := List.getElem?_eq_getElem hlt
      have htk : kws.take (k + 1) = kws.take k ++ [kws[k]'hlt] := List.take_succ_eq_append_getElem hlt
      generalize kws[k]'hlt = g at hg htk
      have hcell := HT.out k g hg
      have HG := Lib.hid hg
      have HTK := Lib.hid htk
      have hk0 : (0 : Int) ≤ (k : Int) := by omega
      rw [Nat.zero_add] at hcell
      clear hg htk
      by_cases heq : s.data.toList = g
      · have hcmp : (g == s.toList) = true := by rw [ByteArray.toList_eq, heq]; simp
        have HM := Lib.hid (show true = R by rw [← HR.out]; symm; rw [decide_eq_true_iff, heq]; exact List.mem_of_getElem? HG.out)
        clear heq
        go_wp2_with fail
        go_ret
        exact ⟨ret_bool HM.out, HB.out⟩
      · have hcmp : (g == s.toList) = false := by rw [ByteArray.toList_eq]; exact beq_eq_false_iff_ne.2 (Ne.symm heq)
        have HM := Lib.hid (show s.data.toList ∉ kws.take (k + 1) by rw [HTK.out]; simp [HNO.out, heq])
        clear heq
        go_wp2_with fail
        go_round
        case rel => exact ⟨k + 1, by go_num, by omega, HM.out⟩
        case measure => simp [intOf]; omega
    · obtain rfl : k = 17 := by omega
      have HM := Lib.hid (show false = R by
        rw [← HR.out]; symm
        rw [decide_eq_false_iff_not]
        have := HNO.out
        rwa [show kws.take 17 = kws from rfl] at this)
      go_wp2_with fail
      go_ret
      exact ⟨ret_bool HM.out, HB.out⟩
end Go.Proofs.YtobndhpfdaddaaaDoor
