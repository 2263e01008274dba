/- The walk of hop.large. No condition. -/
import Derived.Test.YtbfpjldincnihaaMsg
namespace Go.Proofs.Ytbfpjldincnihaa
open Go.RowKit
set_option linter.unusedVariables false
set_option linter.unusedSimpArgs false

def longT (s : List UInt8) : Bool := decide (2048 < s.length)
theorem long_any (s : List UInt8) (w : World) : Calls Try.prog 46 #[.string ⟨s.toArray⟩] w fun e w' => e = .returned (.bool (longT s)) ∧ w = w' := by
  have hsz : ((ByteArray.mk s.toArray).size : Int) = (s.length : Int) := by simp [ByteArray.size]
  go_enter Try.func46, Try.ntmps46
  go_wp2
  go_ret
  exact ⟨ret_bool (by simp [longT]; try omega), rfl⟩

set_option maxHeartbeats 1000000 in
theorem index_any (v : Value) (ts : List (List UInt8)) (w : World) (h : IsT w v ts) (hl : ts.length ≤ 1000000) :
    Calls Try.prog 52 #[v, .func (.func 46) #[] #[]] w fun e w' => (∃ z : Int, e = .returned (.int .i64 z) ∧ (0 ≤ z ↔ ts.any longT = true)) ∧ w = w' := by
  obtain ⟨a, cap, rfl, _, _⟩ := h.shape
  have H := Lib.hid h
  have hl' : (ts.length : Int) ≤ 1000000 := by omega
  clear h hl
  go_enter Try.func52, Try.ntmps52
  go_wp2_with fail
  go_loopw [8] (fun i wr => ∃ k : Nat, i = .int .i64 k ∧ k ≤ ts.length ∧ (ts.take k).any longT = false ∧ wr = w) (fun i _ => ts.length - (intOf i).toNat)
  case atStart => exact ⟨0, rfl, Nat.zero_le _, rfl, rfl⟩
  case round =>
    obtain ⟨k, rfl, hk, hall, rfl⟩ := hrel
    have HA := Lib.hid hall
    clear hall
    by_cases hlt : k < ts.length
    · obtain ⟨g, o, cap', hv, hc⟩ := H.out.elem hlt
      simp only [Value.slice.injEq] at hv
      obtain ⟨rfl, _, rfl⟩ := hv
      have hq0 : (0 : Int) ≤ (k : Int) := by omega
      have hq1 : (k : Int) < (ts.length : Int) := by omega
      have HTK := Lib.hid (show ts.take (k + 1) = ts.take k ++ [ts[k]] by rw [List.take_add_one, List.getElem?_eq_getElem hlt]; rfl)
      have HME := Lib.hid (List.getElem_mem hlt)
      have HL := Lib.hid (fun W => long_any ts[k] W)
      generalize ts[k] = s at *
      cases hb : longT s with
      | true =>
        rw [hb] at HL
        have HB := Lib.hid hb
        clear hb
        go_wp2_with (go_at_call 46; refine (HL.out _).mono ?_; rintro r w1 ⟨rfl, rfl⟩)
        go_ret
        exact ⟨⟨k, rfl, by simp only [List.any_eq_true]; exact ⟨fun _ => ⟨s, HME.out, HB.out⟩, fun _ => hq0⟩⟩, rfl⟩
      | false =>
        rw [hb] at HL
        have HB := Lib.hid hb
        clear hb
        go_wp2_with (go_at_call 46; refine (HL.out _).mono ?_; rintro r w1 ⟨rfl, rfl⟩)
        go_roundw
        case rel => exact ⟨k + 1, by go_num, by omega, by rw [HTK.out, List.any_append, HA.out]; simp [HB.out], by first | rfl | trivial⟩
        case measure => simp [intOf]; omega
    · obtain rfl : k = ts.length := by omega
      have hn : ts.any longT = false := by have := HA.out; rwa [List.take_length] at this
      go_wp2_with fail
      go_ret
      exact ⟨⟨-1, rfl, by rw [hn]; simp⟩, rfl⟩
theorem contains_any (v : Value) (ts : List (List UInt8)) (w : World) (h : IsT w v ts) (hl : ts.length ≤ 1000000) :
    Calls Try.prog 45 #[v, .func (.func 46) #[] #[]] w fun e w' => e = .returned (.bool (ts.any longT)) ∧ w = w' := by
  obtain ⟨a, cap, rfl, _, _⟩ := h.shape
  have HI := Lib.hid (index_any _ ts w h hl)
  clear h hl
  go_enter Try.func45, Try.ntmps45
  go_wp2_with (go_at_call 52; refine (HI.out).mono ?_; rintro r w1 ⟨⟨z, rfl, hz⟩, rfl⟩; have HZ := Lib.hid hz; clear hz)
  go_ret
  refine ⟨ret_bool ?_, rfl⟩
  have hz := HZ.out
  cases ht : ts.any longT with
  | true => rw [ht] at hz; simpa using hz
  | false => rw [ht] at hz; simp at hz; simp; omega

def largeM (m : Msg) : Bool := decide (8192 < m.txt.length) || decide (65536 < m.dat.length) || decide (1024 < m.lst.length) || m.lst.any longT
set_option maxRecDepth 20000 in
set_option maxHeartbeats 2000000 in
theorem large_any (m : Msg) (la da : Option Addr) (lc dc : Nat) (w : World) (h : IsT w (.slice la m.lst.length lc) m.lst) :
    Calls Try.prog 29 #[m.val (.slice la m.lst.length lc) (.slice da m.dat.length dc)] w fun e w' => e = .returned (.bool (largeM m)) ∧ Below w.heap.size w w' := by
  obtain ⟨k, id, nm, tt, of, tx, ls, dt⟩ := m
  unfold Msg.val largeM
  dsimp only at h ⊢
  have hsz : ((ByteArray.mk tx.toArray).size : Int) = (tx.length : Int) := by simp [ByteArray.size]
  by_cases h1 : 8192 < tx.length
  · have h1' : (8192 : Int) < (tx.length : Int) := by omega
    clear h
    go_enter Try.func29, Try.ntmps29
    go_wp2_with fail
    go_ret
    exact ⟨ret_bool (by simp [h1]), bel_new _ _⟩
  · have h1' : ¬ (8192 : Int) < (tx.length : Int) := by omega
    by_cases h2 : 65536 < dt.length
    · have h2' : (65536 : Int) < (dt.length : Int) := by omega
      clear h
      go_enter Try.func29, Try.ntmps29
      go_wp2_with fail
      go_ret
      exact ⟨ret_bool (by simp [h1, h2]), bel_new _ _⟩
    · have h2' : ¬ (65536 : Int) < (dt.length : Int) := by omega
      by_cases h3 : 1024 < ls.length
      · have h3' : (1024 : Int) < (ls.length : Int) := by omega
        clear h
        go_enter Try.func29, Try.ntmps29
        go_wp2_with fail
        go_ret
        exact ⟨ret_bool (by simp [h1, h2, h3]), bel_new _ _⟩
      · have h3' : ¬ (1024 : Int) < (ls.length : Int) := by omega
        have HC := Lib.hid (fun W (hW : IsT W (.slice la ls.length lc) ls) => contains_any _ ls W hW (by omega))
        have HT := Lib.hid h
        clear h
        go_enter Try.func29, Try.ntmps29
        go_wp2_with (go_at_call 45; refine (HC.out _ (HT.out.step (bel_new _ _))).mono ?_; rintro r w1 ⟨rfl, rfl⟩)
        go_ret
        exact ⟨ret_bool (by simp [h1, h2, h3]), bel_new _ _⟩
end Go.Proofs.Ytbfpjldincnihaa
