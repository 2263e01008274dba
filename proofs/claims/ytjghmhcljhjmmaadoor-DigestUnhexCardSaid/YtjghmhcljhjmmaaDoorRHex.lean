/- The walk of the reference's Hex. No condition beyond the sizes. -/
import Derived.Test.YtjghmhcljhjmmaaDoorHexW
namespace Go.Proofs.YtjghmhcljhjmmaaDoor
open Go.RowKit
set_option linter.unusedVariables false
set_option linter.unusedSimpArgs false

theorem mk_size (a : List UInt8) : (ByteArray.mk a.toArray).size = a.length := by simp [ByteArray.size]
theorem run_cat (a b : List UInt8) (ha : a.length ≤ 8388608) (hb : b.length ≤ 8388608) (W : World) :
    (Op.stringOp .add (⟨a.toArray⟩ : ByteArray) ⟨b.toArray⟩).run Tryd.prog W = .ok (.string ⟨(a ++ b).toArray⟩) W := by
  have h1 : ((ByteArray.mk a.toArray).size : Int) ≤ 8388608 := by rw [mk_size]; omega
  have h2 : ((ByteArray.mk b.toArray).size : Int) ≤ 8388608 := by rw [mk_size]; omega
  rw [run_string_add W _ _ h1 h2, ByteArray.mk_append_mk]
theorem cut_txt (q : Nat) (hq : q < 16) (W : World) : (Instr.slice 9 (.string ⟨#[48, 49, 50, 51, 52, 53, 54, 55, 56, 57, 97, 98, 99, 100, 101, 102]⟩) (some (.int .u8 (q : Int))) (some (.int .u8 ((q : Int) + 1))) none).run Tryd.prog W = .ok (.string ⟨[hexD q].toArray⟩) W := by
  have hk : q = 0 ∨ q = 1 ∨ q = 2 ∨ q = 3 ∨ q = 4 ∨ q = 5 ∨ q = 6 ∨ q = 7 ∨ q = 8 ∨ q = 9 ∨ q = 10 ∨ q = 11 ∨ q = 12 ∨ q = 13 ∨ q = 14 ∨ q = 15 := by omega
  rcases hk with rfl | rfl | rfl | rfl | rfl | rfl | rfl | rfl | rfl | rfl | rfl | rfl | rfl | rfl | rfl | rfl <;> rfl
theorem wrap_u8_of {n : Int} (h : 0 ≤ n ∧ n < 256) : IntKind.u8.wrap n = n := by
  rw [IntKind.wrap_u8']
  omega
set_option maxRecDepth 20000 in
set_option maxHeartbeats 4000000 in
theorem rhex_any (v : Value) (b : List UInt8) (w : World) (hv : IsB w v b) (hb : b.length ≤ 1000000) :
    Calls Tryd.prog 23 #[v] w fun e w' => e = .returned (.string ⟨(hexP b).toArray⟩) ∧ Below w.heap.size w w' := by
  have HV := Lib.hid hv
  obtain ⟨a, cap, hva, h1, h2, _⟩ := hv.shape
  subst hva
  clear hv
  obtain ⟨n, hn⟩ : ∃ n, n = b.length := ⟨_, rfl⟩
  rw [← hn] at hb h1 HV ⊢
  have HN := Lib.hid hn
  clear hn
  go_enter Tryd.func23, Tryd.ntmps23
  go_wp2_with fail
  go_loopw [3, 8] (fun u i wr => ∃ k : Nat, i = .int .i64 k ∧ k ≤ n ∧ u = .string ⟨(hexP (b.take k)).toArray⟩ ∧ Below w.heap.size w wr) (fun _ i _ => n - (intOf i).toNat)
  case atStart => exact ⟨0, rfl, by omega, rfl, Below.refl _ _⟩
  case round =>
    obtain ⟨k, rfl, hk, rfl, hbl⟩ := hrel
    by_cases hlt : k < n
    · obtain ⟨c, hc⟩ : ∃ c, b[k]? = some c := ⟨b[k]'(by rw [← HN.out]; exact hlt), List.getElem?_eq_getElem _⟩
      rcases HV.out.step hbl with ⟨h0, _⟩ | ⟨_, bb, off, cap', he, _, _, hcl⟩
      · rw [h0] at hc; simp at hc
      have hck := hcl k c hc
      injection he with he1 he2 he3
      subst he1
      clear hcl he2 he3
      go_upto_region 6 with fail
      have hq1 := byte_hi c
      have hq2 := byte_lo c
      have hsh : (c.toNat : Int) / 16 = ((c.toNat / 16 : Nat) : Int) := by omega
      have hsh2 : (c.toNat : Int).tdiv 16 = ((c.toNat / 16 : Nat) : Int) := by rw [Int.tdiv_eq_ediv_of_nonneg (by omega)]; omega
      have hmo : (c.toNat : Int) % 16 = ((c.toNat % 16 : Nat) : Int) := by omega
      have hmo2 : (c.toNat : Int).tmod 16 = ((c.toNat % 16 : Nat) : Int) := by rw [Int.tmod_eq_emod_of_nonneg (by omega)]; omega
      have HT := Lib.hid (show hexP (b.take (k + 1)) = hexP (b.take k) ++ [hexD (c.toNat / 16), hexD (c.toNat % 16)] by
        obtain ⟨hl, hx⟩ := List.getElem?_eq_some_iff.1 hc
        rw [List.take_succ_eq_append_getElem hl, hx, hex_snoc])
      have hlk : (hexP (b.take k)).length ≤ 2000000 := by rw [hex_len, List.length_take]; omega
      generalize hq : c.toNat / 16 = q1 at *
      generalize hr : c.toNat % 16 = q2 at *
      have hd1 := cut_txt q1 hq1
      have hd2 := cut_txt q2 hq2
      have hc1 := run_cat [hexD q1] [hexD q2] (by simp) (by simp)
      have hc2 := run_cat (hexP (b.take k)) [hexD q1, hexD q2] (by omega) (by simp)
      have hw1 : IntKind.u8.wrap ((q1 : Int) + 1) = (q1 : Int) + 1 := wrap_u8_of ⟨by omega, by omega⟩
      have hw2 : IntKind.u8.wrap ((q2 : Int) + 1) = (q2 : Int) + 1 := wrap_u8_of ⟨by omega, by omega⟩
      have hk0 : (0 : Int) ≤ (k : Int) := by omega
      have hki : (k : Int) < (n : Int) := by omega
      have HB := Lib.hid hbl
      clear hq hr hc hbl
      go_quiet (fail)
      have HB2 := Lib.hid (bel_draws HB.out nq)
      clear hd1 hd2 hc1 hc2 hw1 hw2 hsh hsh2 hmo hmo2
      generalize wr.drewN nq = W2 at *
      go_wp2_with fail
      go_roundw
      case rel => exact ⟨k + 1, by go_num, by omega, by rw [HT.out], HB2.out⟩
      case measure => simp [intOf]; omega
    · obtain rfl : k = n := by omega
      rw [HN.out, List.take_length]
      go_wp2_with fail
      go_ret
      exact ⟨rfl, hbl⟩
end Go.Proofs.YtjghmhcljhjmmaaDoor
