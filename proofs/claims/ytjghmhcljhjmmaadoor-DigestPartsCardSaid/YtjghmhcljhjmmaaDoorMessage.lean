/- The walk of message: new bytes, at most 699. No condition. -/
import Derived.Test.YtjghmhcljhjmmaaDoorOpen
import Derived.Test.YtjghmhcljhjmmaaDoorMake
import Derived.Test.YtjghmhcljhjmmaaDoorBlk
namespace Go.Proofs.YtjghmhcljhjmmaaDoor
open Go.RowKit
set_option linter.unusedVariables false
set_option linter.unusedSimpArgs false

theorem made_zero (n : Nat) : madeCells #[.int .u8 0] n = ((List.replicate n (0 : UInt8)).map bcell).toArray := by
  apply Array.ext
  · simp [madeCells]
  · intro i h1 h2
    simp [madeCells, bcell, Nat.mod_one]
theorem make_full (n : Nat) (h : n ≤ 140737488355328) (w : World) : (Instr.makeSlice 22 (.int .i64 (n : Int)) (.int .i64 (n : Int))).run Tryd.prog w = .ok (.slice (some ⟨w.heap.size, 0, none⟩) n n) (w.alloc (.cells ((List.replicate n (0 : UInt8)).map bcell).toArray 5)) := by
  obtain ⟨i, hi, hzz⟩ := Option.map_eq_some_iff.1 info5
  simp only [Prod.mk.injEq] at hzz
  obtain ⟨hz, hs, hb⟩ := hzz
  have hr := run_make (P := Tryd.prog) w 22 5 i (.int .u8 0) Tryd.underlying22 hi hz .i64 .i64 n n (by omega) (Int.le_refl _) (by rw [hb]; omega) (by omega)
  simp only [Int.toNat_natCast, hs, Nat.mul_one] at hr
  rw [hr]
  rw [show (Value.int .u8 0).cells = #[.int .u8 0] from rfl, made_zero]
/-- A block of bytes, whole. -/
theorem VBlk.isB {w : World} {b : Nat} {l : List UInt8} (h : VBlk 5 w b (l.map bcell)) (hl : l.length ≤ 140737488355328) : IsB w (.slice (some ⟨b, 0, none⟩) l.length l.length) l := by
  by_cases h0 : l = []
  · subst h0
    exact IsB.empty w _ _ (Nat.zero_le _) (fun h => by cases h)
  · refine .inr ⟨h0, b, 0, l.length, rfl, Nat.le_refl _, by unfold maxLen; omega, fun i c hi => ?_⟩
    rw [h.cell, Nat.zero_add, List.getElem?_map, hi]
    rfl
/-- New bytes, so many at most. -/
def SomeB (m : Nat) (w : World) (e : Ending) (w' : World) : Prop := ∃ v l, e = .returned v ∧ IsB w' v l ∧ l.length ≤ m ∧ Below w.heap.size w w'
theorem bcell_of (op : BinOp) (x y : Int) : ∃ c : UInt8, Value.int .u8 (bits op .u8 x y) = bcell c := by
  obtain ⟨c, hc⟩ := byte_of (wf_bits op .u8 x y)
  exact ⟨c, by unfold bcell; rw [hc]⟩
set_option maxRecDepth 20000 in
set_option maxHeartbeats 2000000 in
theorem message_any (n : Nat) (s : Int) (w : World) (hn : n < 65536) : Calls Tryd.prog 15 #[.int .u16 (n : Int), .int .u8 s] w (SomeB 700 w) := by
  obtain ⟨N, hN⟩ : ∃ N, N = n % 700 := ⟨_, rfl⟩
  have hmk := make_full N (by omega) w
  have hNn : (n : Int) % 700 = (N : Int) := by omega
  have hN7 : N < 700 := by omega
  have HV := Lib.hid (VBlk.box 5 w ((List.replicate N (0 : UInt8)).map bcell))
  have HB := Lib.hid (bel_new w (.cells ((List.replicate N (0 : UInt8)).map bcell).toArray 5))
  generalize w.alloc (.cells ((List.replicate N (0 : UInt8)).map bcell).toArray 5) = W1 at *
  clear hN
  go_enter Tryd.func15, Tryd.ntmps15
  go_wp2_with fail
  obtain ⟨B, hBe⟩ : ∃ B, B = w.heap.size := ⟨_, rfl⟩
  rw [← hBe] at HV ⊢
  have hbw : w.heap.size ≤ B := by omega
  clear hBe hmk hNn
  go_loopw [13] (fun i wr => ∃ (k : Nat) (l : List UInt8), i = .int .i64 k ∧ k ≤ N ∧ Hid (l.length = N) ∧ VBlk 5 wr B (l.map bcell) ∧ Below w.heap.size w wr) (fun i _ => N - (intOf i).toNat)
  case atStart => exact ⟨0, _, rfl, by omega, Lib.hid (by simp), HV.out, HB.out⟩
  case round =>
    obtain ⟨k, l, rfl, hk, HL, hv, hbl⟩ := hrel
    have HV1 := Lib.hid hv
    have HB1 := Lib.hid hbl
    by_cases hlt : k < N
    · obtain ⟨c0, hc0⟩ : ∃ c, l[k]? = some c := ⟨_, List.getElem?_eq_getElem (by rw [HL.out]; exact hlt)⟩
      have hc : wr.cell? ⟨B, k, none⟩ = some (.int .u8 (c0.toNat : Int)) := by rw [hv.cell, List.getElem?_map, hc0]; rfl
      have hf := hv.frozen k
      have hk0 : (0 : Int) ≤ (k : Int) := by omega
      have hkN : (k : Int) < (N : Int) := by omega
      clear hv hbl hc0
      go_wp2_with fail
      obtain ⟨c, hcE⟩ := bcell_of .xor (wrap64 ((k : Int) * (k : Int)) % 256) s
      rw [hcE]
      refine ⟨⟨k + 1, l.set k c, by go_num, by omega, Lib.hid (by rw [List.length_set, HL.out]), ?_, HB1.out.setCell (p := ⟨B, k, none⟩) hbw _⟩, by simp [intOf]; omega⟩
      have := HV1.out.set k (bcell c)
      rwa [← List.map_set] at this
    · obtain rfl : k = N := by omega
      have HIB := Lib.hid (HV1.out.isB (by rw [HL.out]; omega))
      rw [HL.out] at HIB
      clear hv hbl HV1
      go_wp2_with fail
      go_ret
      exact ⟨_, _, rfl, HIB.out, by rw [HL.out]; omega, HB1.out⟩
end Go.Proofs.YtjghmhcljhjmmaaDoor
