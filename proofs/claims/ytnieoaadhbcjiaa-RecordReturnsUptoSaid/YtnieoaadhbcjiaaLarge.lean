/- The walk of the law RecordLarge: it returns true. No condition. -/
import Derived.Test.YtnieoaadhbcjiaaDecLaw
namespace Go.Proofs.Ytnieoaadhbcjiaa
open Go.RowKit
set_option linter.unusedVariables false
set_option linter.unusedSimpArgs false

def clipI (n a b : Int) : Int := max a (min n b)
theorem clip_bd (n a b : Int) (h : a ≤ b) : a ≤ clipI n a b ∧ clipI n a b ≤ b := by unfold clipI; omega
theorem clip_any (n a b : Int) (w : World) : Calls Try.prog 31 #[.int .i64 n, .int .i64 a, .int .i64 b] w fun e w' => e = .returned (.int .i64 (clipI n a b)) ∧ w = w' := by
  go_enter Try.func31, Try.ntmps31
  go_wp2
  all_goals
    go_ret
    have h : ∀ {x y : Int}, x = y → Ending.returned (.int .i64 x) = .returned (.int .i64 y) := fun h => by rw [h]
    exact ⟨h (by unfold clipI; omega), rfl⟩
theorem makeN (n : Nat) (h : n ≤ 200000) (w : World) : (Instr.makeSlice 23 (.int .i64 (n : Int)) (.int .i64 (n : Int))).run Try.prog w = .ok (.slice (some ⟨w.heap.size, 0, none⟩) n n) (w.alloc (.cells (madeCells #[.int .u8 0] n) 5)) :=
  run_make_row' 23 5 (.int .u8 0) 1 Try.underlying23 info5 rfl .i64 .i64 n (by omega) (by omega) w
theorem zeros_isB (n : Nat) (h : n ≤ 200000) (w : World) : IsB (w.alloc (.cells (madeCells #[.int .u8 0] n) 5)) (.slice (some ⟨w.heap.size, 0, none⟩) n n) (List.replicate n 0) := by
  have hr : (w.alloc (.cells (madeCells #[.int .u8 0] n) 5)).rowIs w.heap.size 5 (List.replicate n (0 : UInt8)).length (fun _ => .int .u8 0) := by
    rw [List.length_replicate]
    exact World.rowIs_made w (.int .u8 0) n 5
  have := rowB hr (l := List.replicate n 0) (fun i c hi => by
    obtain ⟨hi', rfl⟩ := List.getElem?_eq_some_iff.1 hi
    simp) (by simp [maxLen]; omega)
  rwa [List.length_replicate] at this

set_option maxHeartbeats 2000000 in
theorem large_walk (a : Int) (w : World) : Calls Try.prog 9 #[.int .i64 a] w fun e w' => e = .returned (.bool true) ∧ Below w.heap.size w w' := by
  have hb := clip_bd a (-2) 2 (by omega)
  obtain ⟨n, hn⟩ : ∃ n : Nat, 131072 + clipI a (-2) 2 = (n : Int) := ⟨(131072 + clipI a (-2) 2).toNat, by omega⟩
  have hn1 : 131070 ≤ n ∧ n ≤ 131074 := by omega
  have hC : ∀ W, Calls Try.prog 31 #[.int .i64 a, .int .i64 (-2), .int .i64 2] W fun e w' => e = .returned (.int .i64 ((n : Int) - 131072)) ∧ W = w' := fun W => by
    have := clip_any a (-2) 2 W
    rwa [show clipI a (-2) 2 = (n : Int) - 131072 by omega] at this
  have HC := Lib.hid hC
  clear hC hn hb
  have hmk := makeN n (by omega)
  have HN1 := Lib.hid hn1
  clear hn1
  go_enter Try.func9, Try.ntmps9
  go_wp2_with fail
  refine (awake_any _).mono ?_
  rintro e w1 ⟨rfl, hb⟩
  go_upto_region 4 with (go_at_call 31; refine (HC.out _).mono ?_; rintro e w' ⟨rfl, rfl⟩)
  have hwr : wrap64 (131072 + ((n : Int) - 131072)) = (n : Int) := by have := HN1.out; rw [show (131072 : Int) + ((n : Int) - 131072) = (n : Int) by omega]; unfold wrap64; omega
  rw [hwr]
  have hL : (List.replicate n (0 : UInt8)).length = n := List.length_replicate
  have hz := zeros_isB n (by have := HN1.out; omega)
  have HZ := Lib.hid hz
  have HL := Lib.hid hL
  clear hwr hL hz HC
  by_cases hn : 131072 < n
  · have hn' : (131072 : Int) < (n : Int) := by omega
    have HN := Lib.hid hn
    clear hn
    go_wp2_with fail
    refine (enc_large 1 0 _ (List.replicate n 0) _ rfl ((HZ.out _)) (by rw [HL.out]; exact HN.out)).mono ?_
    rintro e w2 ⟨rfl, hb2⟩
    have hB := bel_step (bel_alloc hb) hb2
    go_wp2_with (go_at_call 26; refine (is_yes 5 (by omega) _).mono ?_; rintro e w' ⟨rfl, rfl⟩)
    go_ret
    exact ⟨rfl, hB⟩
  · have hn' : (n : Int) ≤ 131072 := by omega
    have HN := Lib.hid hn
    have hE : (encP 1 0 (List.replicate n 0)).length = n + 9 := by
      have := HN1.out
      have h2 : (numB n).length = 3 := by
        unfold numB
        rw [numF_big 9 n (by omega), numF_big 8 _ (by omega), numF_small 7 _ (by omega)]
        rfl
      rw [encP_len, HL.out, h2]
      show 1 + 1 + 3 + n + 4 = _
      omega
    have hD : decP (encP 1 0 (List.replicate n 0)) = .inr (1, 0, List.replicate n 0, n + 9) := by
      have := dec_enc 1 0 (List.replicate n 0) [] (by omega) (by omega) (by rw [HL.out]; omega)
      rw [List.append_nil, hE] at this
      exact this
    have HE := Lib.hid hE
    have HD := Lib.hid hD
    clear hn hE hD
    go_wp2_with fail
    refine (enc_ok 1 0 _ (List.replicate n 0) _ (by omega) (by omega) ((HZ.out _)) (by rw [HL.out]; have := HN.out; omega)).mono ?_
    rintro e w2 ⟨u, rfl, ho, hb2⟩
    have hB := bel_step (bel_alloc hb) hb2
    have hI := ho.isB
    clear ho
    obtain ⟨E, hEE⟩ : ∃ E, E = encP 1 0 (List.replicate n 0) := ⟨_, rfl⟩
    rw [← hEE] at hI
    have hEl : E.length = n + 9 := by rw [hEE]; exact HE.out
    have hDE : decP E = .inr (1, 0, List.replicate n 0, n + 9) := by rw [hEE]; exact HD.out
    obtain ⟨a2, cp2, rfl, _⟩ := hI.shape
    rw [hEl] at hI
    have HI := Lib.hid hI
    have HEl := Lib.hid hEl
    have HDE := Lib.hid hDE
    clear hI hEE hDE HD HE
    rw [hEl]
    clear hEl
    go_wp2_with fail
    refine (dec_any _ E _ HI.out (by rw [HEl.out]; have := HN.out; omega)).mono ?_
    rintro e w3 h3
    rw [HDE.out] at h3
    obtain ⟨u3, rfl, ho3, hb3⟩ := h3
    have hI3 := ho3.isB
    have hB3 := bel_step hB hb3
    obtain ⟨a3, cp3, rfl, _⟩ := hI3.shape
    rw [HL.out]
    clear hI3 ho3
    have hn3 : (n : Int) + 9 ≤ 131081 := by omega
    go_wp2_with fail
    go_ret
    exact ⟨rfl, bel_alloc hB3⟩
end Go.Proofs.Ytnieoaadhbcjiaa
