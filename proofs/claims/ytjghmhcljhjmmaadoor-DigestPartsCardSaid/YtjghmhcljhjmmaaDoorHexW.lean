/- The walk of Hex. No condition beyond the sizes. -/
import Derived.Test.YtjghmhcljhjmmaaDoorMake
import Derived.Test.YtjghmhcljhjmmaaDoorHex
import Derived.Test.YtjghmhcljhjmmaaDoorBlk
namespace Go.Proofs.YtjghmhcljhjmmaaDoor
open Go.RowKit
set_option linter.unusedVariables false
set_option linter.unusedSimpArgs false
theorem shr8 : ∀ c : Fin 256, ((c.val : Int)) / (16 : Int) = ((c.val / 16 : Nat) : Int) := fun c => by omega
theorem dig_txt (q : Nat) (hq : q < 16) (h : q < (⟨#[48, 49, 50, 51, 52, 53, 54, 55, 56, 57, 97, 98, 99, 100, 101, 102]⟩ : ByteArray).size) :
    (((⟨#[48, 49, 50, 51, 52, 53, 54, 55, 56, 57, 97, 98, 99, 100, 101, 102]⟩ : ByteArray)[q]'h).toNat : Int) = ((hexD q).toNat : Int) := by
  have hk : q = 0 ∨ q = 1 ∨ q = 2 ∨ q = 3 ∨ q = 4 ∨ q = 5 ∨ q = 6 ∨ q = 7 ∨ q = 8 ∨ q = 9 ∨ q = 10 ∨ q = 11 ∨ q = 12 ∨ q = 13 ∨ q = 14 ∨ q = 15 := by omega
  rcases hk with rfl | rfl | rfl | rfl | rfl | rfl | rfl | rfl | rfl | rfl | rfl | rfl | rfl | rfl | rfl | rfl <;> rfl
theorem and_byte (c : UInt8) : bits .and .u8 (c.toNat : Int) (15 : Int) = ((c.toNat % 16 : Nat) : Int) := by
  have h := u8_and_nat c.toNat 15 (by have := c.toNat_lt; omega) (by omega)
  rw [show ((15 : Nat) : Int) = (15 : Int) from rfl] at h
  rw [h, show (15 : Nat) = 2 ^ 4 - 1 from rfl, Nat.and_two_pow_sub_one_eq_mod]
theorem IsB.two (w : World) {a b : Int} (c d : UInt8) (ha : a = (c.toNat : Int)) (hb : b = (d.toNat : Int)) : IsB (w.alloc (.cells #[.int .u8 a, .int .u8 b] 5)).drew (.slice (some ⟨w.heap.size, 0, none⟩) 2 2) [c, d] := by
  subst ha hb
  show IsB (w.alloc (.cells #[.int .u8 (c.toNat : Int), .int .u8 (d.toNat : Int)] 5)) (.slice (some ⟨w.heap.size, 0, none⟩) 2 2) [c, d]
  refine .inr ⟨by simp, w.heap.size, 0, 2, rfl, by simp, by unfold maxLen; omega, fun i x hi => ?_⟩
  match i, hi with
  | 0, hi => simp at hi; subst hi; simp [go_sem]
  | 1, hi => simp at hi; subst hi; simp [go_sem]
set_option maxRecDepth 20000 in
set_option maxHeartbeats 2000000 in
theorem hex_any (v : Value) (b : List UInt8) (w : World) (hv : IsB w v b) (hb : b.length ≤ 1099511627776) :
    Calls Tryd.prog 21 #[v] w fun e w' => e = .returned (.string ⟨(hexP b).toArray⟩) ∧ Below w.heap.size w w' := by
  have HV := Lib.hid hv
  have HLen := Lib.hid (hex_len b)
  obtain ⟨a, cap, hva, h1, h2, _⟩ := hv.shape
  subst hva
  clear hv
  obtain ⟨mv, hm, ho⟩ := make_own (2 * b.length) (by omega) w
  have hw : IntKind.i64.wrap (2 * (b.length : Int)) = 2 * (b.length : Int) := IntWalk.i64_in _ (by omega)
  rw [show ((2 * b.length : Nat) : Int) = 2 * (b.length : Int) by omega] at hm
  have HO := Lib.hid ho
  have HB := Lib.hid (bel_new w (.cells (madeCells #[.int .u8 0] (2 * b.length)) 5))
  clear ho
  generalize w.alloc (.cells (madeCells #[.int .u8 0] (2 * b.length)) 5) = W1 at *
  obtain ⟨n, hn⟩ : ∃ n, n = b.length := ⟨_, rfl⟩
  rw [← hn] at hb h1 hw hm HV ⊢
  have HN := Lib.hid hn
  clear hn
  have hi1 : (n : Int) ≤ 1099511627776 := by have := hb; omega
  go_enter Tryd.func21, Tryd.ntmps21
  go_upto_region 2 with fail
  go_wp2_with fail
  go_loopw [3, 12] (fun u i wr => ∃ k : Nat, i = .int .i64 k ∧ k ≤ n ∧ OwnB wr w.heap.size u (hexP (b.take k)) ∧ Below w.heap.size w wr) (fun _ i _ => n - (intOf i).toNat)
  case atStart => exact ⟨0, rfl, by omega, by rw [List.take_zero]; exact HO.out, HB.out⟩
  case round =>
    obtain ⟨k, rfl, hk, ho, hbl⟩ := hrel
    by_cases hlt : k < n
    · obtain ⟨c, hc⟩ : ∃ c, b[k]? = some c := ⟨b[k]'(by rw [← HN.out]; exact hlt), List.getElem?_eq_getElem _⟩
      rcases HV.out.step hbl with ⟨h0, _⟩ | ⟨_, bb, off, cap', he, _, _, hcl⟩
      · rw [h0] at hc; simp at hc
      have hck := hcl k c hc
      injection he with he1 he2 he3
      subst he1
      clear hcl he2 he3
      have HT := Lib.hid (show hexP (b.take (k + 1)) = hexP (b.take k) ++ [hexD (c.toNat / 16), hexD (c.toNat % 16)] by
        obtain ⟨hl, hx⟩ := List.getElem?_eq_some_iff.1 hc
        rw [List.take_succ_eq_append_getElem hl, hx, hex_snoc])
      have HLk := Lib.hid (show (hexP (b.take k)).length = 2 * k by rw [hex_len, List.length_take, ← HN.out]; omega)
      have HOr := Lib.hid ho
      have HBr := Lib.hid hbl
      have hk0 : (0 : Int) ≤ (k : Int) := by omega
      have hki : (k : Int) < (n : Int) := by omega
      clear ho hbl hc
      go_upto_region 5 with fail
      have hq1 := byte_hi c
      have hd1 := dig_at _ hq1
      have hq2 := byte_lo c
      have hd2 := dig_at _ hq2
      have hsh : (c.toNat : Int) / 16 = ((c.toNat / 16 : Nat) : Int) := by omega
      have hmo : bits .and .u8 (c.toNat : Int) (15 : Int) = ((c.toNat % 16 : Nat) : Int) := by
        have := and_byte c
        exact this
      generalize c.toNat / 16 = q1 at *
      generalize c.toNat % 16 = q2 at *
      have hlbb : (hexP (b.take k)).length + [hexD q1, hexD q2].length ≤ 140737488355328 := by rw [HLk.out]; simp only [List.length_cons, List.length_nil]; omega
      have hbs2 : w.heap.size ≤ wr.heap.size + 1 := by have := HBr.out.size; omega
      go_region_held3 (fun w' => True) (trivial) ((refine step_app ?_ (.tmp 16) (.tmp 23) ?_ w.heap.size u3 (hexP (b.take k)) ?_ ?_ (.slice (some ⟨wr.heap.size, 0, none⟩) 2 2) [hexD q1, hexD q2] ?_ ?_ hlbb ?_ ?_; rfl; rfl; rfl; exact HOr.out.step (bel_drew (bel_new wr _)); rfl; exact IsB.two wr _ _ (dig_txt _ hq1 _) (dig_txt _ hq2 _); (first | (simp [go_sem]; omega) | omega); intro v' w' ho' hb' hz'))
      all_goals
        have HO3 := Lib.hid ho'
        have HB3 := Lib.hid ((bel_step HBr.out (bel_drew (bel_new wr _))).trans hb')
        clear ho' hb' hz' hsh hmo hlbb hbs2
        go_wp2_with fail
        exact ⟨⟨k + 1, by go_num, by omega, by rw [HT.out]; exact HO3.out, HB3.out⟩, by simp [intOf]; omega⟩
    · obtain rfl : k = n := by omega
      rw [HN.out, List.take_length] at ho
      have hs := run_str wr _ _ ho.isB
      go_wp2_with fail
      go_ret
      exact ⟨rfl, hbl⟩
end Go.Proofs.YtjghmhcljhjmmaaDoor
