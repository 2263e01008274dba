/- The walks of Clip, slices.Equal, hop.Same and the statements' own Same and empty. No condition beyond lists' lengths. -/
import Derived.Test.YtbfpjldincnihaaRefPay
import Derived.Test.YtbfpjldincnihaaHopDec
import Derived.BigQuiet
namespace Go.Proofs.Ytbfpjldincnihaa
open Go.RowKit
set_option linter.unusedVariables false
set_option linter.unusedSimpArgs false

theorem clip_any (n lo hi : Int) (w : World) : Calls Try.prog 24 #[.int .i64 n, .int .i64 lo, .int .i64 hi] w fun e w' => e = .returned (.int .i64 (max lo (min n hi))) ∧ w = w' := by
  by_cases h1 : hi < n
  · by_cases h2 : lo < hi
    · go_enter Try.func24, Try.ntmps24
      go_wp2
      go_ret
      exact ⟨ret_int (by omega), rfl⟩
    · go_enter Try.func24, Try.ntmps24
      go_wp2
      go_ret
      exact ⟨ret_int (by omega), rfl⟩
  · by_cases h2 : lo < n
    · go_enter Try.func24, Try.ntmps24
      go_wp2
      go_ret
      exact ⟨ret_int (by omega), rfl⟩
    · go_enter Try.func24, Try.ntmps24
      go_wp2
      go_ret
      exact ⟨ret_int (by omega), rfl⟩
theorem drewN_two (w : World) (n m : Nat) : (w.drewN n).drewN m = w.drewN (n + m) := by
  first | rfl | simp [World.drewN, Nat.add_assoc]
theorem take_more {α : Type} {ts : List α} {k : Nat} {s : α} (h : ts[k]? = some s) : ts.take (k + 1) = ts.take k ++ [s] := by
  rw [List.take_add_one, h]; rfl

set_option maxRecDepth 20000 in
set_option maxHeartbeats 1000000 in
theorem equalT_any (u v : Value) (es fs : List (List UInt8)) (w : World) (h : IsT w u es) (g : IsT w v fs) (hl : es.length ≤ 1000000) :
    Calls Try.prog 44 #[u, v] w fun r w' => ∃ b : Bool, r = .returned (.bool b) ∧ (b = true ↔ es = fs) ∧ ∃ n, w' = w.drewN n := by
  obtain ⟨a1, c1, rfl, _, _⟩ := h.shape
  obtain ⟨a2, c2, rfl, _, _⟩ := g.shape
  have H := Lib.hid h
  have G := Lib.hid g
  have hl9 : (es.length : Int) ≤ 1000000 := by omega
  clear h g hl
  go_enter Try.func44, Try.ntmps44
  by_cases hlen : es.length = fs.length
  · have HL := Lib.hid hlen
    rw [← hlen]
    rw [← hlen] at G
    clear hlen
    go_wp2_with fail
    go_loopw [5, 13] (fun _ i wr => ∃ k : Nat, i = .int .i64 k ∧ k ≤ es.length ∧ es.take k = fs.take k ∧ ∃ n, wr = w.drewN n) (fun _ i _ => es.length - (intOf i).toNat)
    case atStart => exact ⟨0, rfl, Nat.zero_le _, rfl, 0, rfl⟩
    case round =>
      obtain ⟨k, rfl, hk, heq, nd, hnd⟩ := hrel
      have HEQ := Lib.hid heq
      have HB := Lib.hid (show Below w.heap.size w wr by rw [hnd]; exact bel_drewN (n := nd) (Below.refl w.heap.size w))
      have HND := Lib.hid hnd
      clear heq hnd
      by_cases hlt : k < es.length
      · obtain ⟨g1, o1, p1, e, hv1, he, hat1⟩ := (H.out.step HB.out).elem2 hlt
        have hg := G.out.step HB.out
        rw [HL.out] at hg
        obtain ⟨g2, o2, p2, f, hv2, hf, hat2⟩ := hg.elem2 (k := k) (by have := HL.out; omega)
        simp only [Value.slice.injEq] at hv1 hv2
        obtain ⟨rfl, _, rfl⟩ := hv1
        obtain ⟨rfl, _, rfl⟩ := hv2
        have HE := Lib.hid he
        have HF := Lib.hid hf
        have hq0 : (0 : Int) ≤ (k : Int) := by omega
        have hq1 : (k : Int) < (es.length : Int) := by omega
        clear he hf hg
        by_cases hef : e = f
        · subst hef
          go_upto_region 6 with fail
          go_quiet (fail)
          go_wp2_with fail
          go_roundw
          case rel => exact ⟨k + 1, by go_num, by omega, by rw [take_more HE.out, take_more HF.out, HEQ.out], _, by rw [HND.out]; exact drewN_two _ _ _⟩
          case measure => simp [intOf]; omega
        · have HNE := Lib.hid (show es ≠ fs from fun h => hef (by
            have h1 := HE.out
            have h2 := HF.out
            rw [h, h2] at h1
            injection h1 with h1
            exact h1.symm))
          have hbe : (e == f) = false := by simpa using hef
          clear HE HF HEQ
          go_upto_region 6 with fail
          go_quiet (fail)
          go_wp2_with fail
          go_ret
          exact ⟨_, rfl, by simpa using HNE.out, _, by rw [HND.out]; exact drewN_two _ _ _⟩
      · obtain rfl : k = es.length := by omega
        go_wp2_with fail
        go_ret
        exact ⟨_, rfl, by have h1 := HEQ.out; rw [List.take_length, HL.out, List.take_length] at h1; simp [h1], nd, HND.out⟩
  · have hb : ((es.length : Int) == (fs.length : Int)) = false := by simp; omega
    have hb2 : ¬ (es.length : Int) = (fs.length : Int) := by omega
    have HN := Lib.hid (show es ≠ fs from fun h => hlen (by rw [h]))
    clear hlen
    go_wp2_with fail
    go_ret
    exact ⟨_, rfl, by simpa using HN.out, 0, rfl⟩

theorem msg_ne (a b : Msg) (h : a ≠ b) :
    a.kind ≠ b.kind ∨ (a.kind = b.kind ∧ (a.id ≠ b.id ∨ (a.id = b.id ∧ (a.num ≠ b.num ∨ (a.num = b.num ∧ (a.tot ≠ b.tot ∨ (a.tot = b.tot ∧ (a.off ≠ b.off ∨ (a.off = b.off ∧ (a.txt ≠ b.txt ∨ (a.txt = b.txt ∧ (a.lst ≠ b.lst ∨ (a.lst = b.lst ∧ a.dat ≠ b.dat))))))))))))) := by
  obtain ⟨a0, a1, a2, a3, a4, a5, a6, a7⟩ := a
  obtain ⟨b0, b1, b2, b3, b4, b5, b6, b7⟩ := b
  simp only [ne_eq, Msg.mk.injEq] at h ⊢
  by_cases h0 : a0 = b0
  · by_cases h1 : a1 = b1
    · by_cases h2 : a2 = b2
      · by_cases h3 : a3 = b3
        · by_cases h4 : a4 = b4
          · by_cases h5 : a5 = b5
            · by_cases h6 : a6 = b6
              · simp_all
              · simp_all
            · simp_all
          · simp_all
        · simp_all
      · simp_all
    · simp_all
  · exact .inl h0

set_option maxRecDepth 100000 in
set_option maxHeartbeats 8000000 in
theorem hsame_any (m n : Msg) (la da la2 da2 : Option Addr) (lc dc lc2 dc2 : Nat) (w : World) (hT : IsT w (.slice la m.lst.length lc) m.lst) (hD : IsB w (.slice da m.dat.length dc) m.dat)
    (hT2 : IsT w (.slice la2 n.lst.length lc2) n.lst) (hD2 : IsB w (.slice da2 n.dat.length dc2) n.dat) (hl : m.lst.length ≤ 1000000) :
    Calls Try.prog 26 #[m.val (.slice la m.lst.length lc) (.slice da m.dat.length dc), n.val (.slice la2 n.lst.length lc2) (.slice da2 n.dat.length dc2)] w fun e w' => ∃ b : Bool, e = .returned (.bool b) ∧ (b = true ↔ m = n) ∧ Below w.heap.size w w' := by
  have HT := Lib.hid hT
  have HD := Lib.hid hD
  have HT2 := Lib.hid hT2
  have HD2 := Lib.hid hD2
  have HEQ := Lib.hid (fun W h1 h2 => equalT_any (.slice la m.lst.length lc) (.slice la2 n.lst.length lc2) m.lst n.lst W h1 h2 hl)
  have HDQ := Lib.hid (fun W h1 h2 => equal_any (.slice da m.dat.length dc) (.slice da2 n.dat.length dc2) m.dat n.dat W h1 h2)
  have HB1 := Lib.hid (bel_alloc (x := (.cells #[.int .i64 n.kind, .int .i64 n.id, .int .i64 n.num, .int .i64 n.tot, .int .i64 n.off, .string ⟨n.txt.toArray⟩, .slice la2 n.lst.length lc2, .slice da2 n.dat.length dc2] 25)) (bel_new w (.cells #[.int .i64 m.kind, .int .i64 m.id, .int .i64 m.num, .int .i64 m.tot, .int .i64 m.off, .string ⟨m.txt.toArray⟩, .slice la m.lst.length lc, .slice da m.dat.length dc] 25)))
  have hb1 := bel_new (w.alloc (.cells #[.int .i64 m.kind, .int .i64 m.id, .int .i64 m.num, .int .i64 m.tot, .int .i64 m.off, .string ⟨m.txt.toArray⟩, .slice la m.lst.length lc, .slice da m.dat.length dc] 25)) (.cells #[.int .i64 n.kind, .int .i64 n.id, .int .i64 n.num, .int .i64 n.tot, .int .i64 n.off, .string ⟨n.txt.toArray⟩, .slice la2 n.lst.length lc2, .slice da2 n.dat.length dc2] 25)
  have hm0 := (MCells.box w m.kind m.id m.num m.tot m.off m.txt (.slice la m.lst.length lc) (.slice da m.dat.length dc)).step hb1
  have hm1 := MCells.box (w.alloc (.cells #[.int .i64 m.kind, .int .i64 m.id, .int .i64 m.num, .int .i64 m.tot, .int .i64 m.off, .string ⟨m.txt.toArray⟩, .slice la m.lst.length lc, .slice da m.dat.length dc] 25)) n.kind n.id n.num n.tot n.off n.txt (.slice la2 n.lst.length lc2) (.slice da2 n.dat.length dc2)
  clear hb1 hT hD hT2 hD2 hl
  rw [show (w.alloc (.cells #[.int .i64 m.kind, .int .i64 m.id, .int .i64 m.num, .int .i64 m.tot, .int .i64 m.off, .string ⟨m.txt.toArray⟩, .slice la m.lst.length lc, .slice da m.dat.length dc] 25)).heap.size = w.heap.size + 1 by simp [go_sem]] at hm1
  obtain ⟨c0, c1, c2, c3, c4, c5, c6, c7⟩ := hm0
  obtain ⟨d0, d1, d2, d3, d4, d5, d6, d7⟩ := hm1
  unfold Msg.val at *
  by_cases hmn : m = n
  · subst hmn
    go_enter Try.func26, Try.ntmps26
    go_upto_region 1 with fail
    generalize (w.alloc (.cells #[.int .i64 m.kind, .int .i64 m.id, .int .i64 m.num, .int .i64 m.tot, .int .i64 m.off, .string ⟨m.txt.toArray⟩, .slice la m.lst.length lc, .slice da m.dat.length dc] 25)).alloc (.cells #[.int .i64 m.kind, .int .i64 m.id, .int .i64 m.num, .int .i64 m.tot, .int .i64 m.off, .string ⟨m.txt.toArray⟩, .slice la2 m.lst.length lc2, .slice da2 m.dat.length dc2] 25) = W1 at *
    go_wp2_with (first | (go_at_call 44; refine (HEQ.out _ (HT.out.step HB1.out) (HT2.out.step HB1.out)).mono ?_; rintro r W2 ⟨b2, rfl, hb2, nd, rfl⟩; obtain rfl : b2 = true := hb2.2 rfl; clear hb2) | (go_at_call 43; refine (HDQ.out _ (HD.out.step (bel_drewN HB1.out)) (HD2.out.step (bel_drewN HB1.out))).mono ?_; rintro r W3 ⟨rfl, rfl⟩))
    go_ret
    exact ⟨_, rfl, by simp, bel_drewN HB1.out⟩
  · have HNE := Lib.hid hmn
    have hcs := msg_ne m n hmn
    clear hmn
    obtain ⟨a0, a1, a2, a3, a4, a5, a6, a7⟩ := m
    obtain ⟨b0, b1, b2, b3, b4, b5, b6, b7⟩ := n
    dsimp only at *
    rcases hcs with h1 | ⟨rfl, h1 | ⟨rfl, h1 | ⟨rfl, h1 | ⟨rfl, h1 | ⟨rfl, h1 | ⟨rfl, h1 | ⟨rfl, h1⟩⟩⟩⟩⟩⟩⟩
    all_goals
      have hx := beq_eq_false_iff_ne.2 h1
      have HX := Lib.hid h1
      clear h1
      go_enter Try.func26, Try.ntmps26
      go_upto_region 1 with fail
      go_wp2_with (first | (go_at_call 44; refine (HEQ.out _ (HT.out.step HB1.out) (HT2.out.step HB1.out)).mono ?_; rintro r W2 ⟨b2, rfl, hb2, nd, rfl⟩; (first | (obtain rfl : b2 = true := hb2.2 rfl) | (obtain rfl : b2 = false := by (cases b2 with | false => rfl | true => exact absurd (hb2.1 rfl) HX.out))); clear hb2) | (go_at_call 43; refine (HDQ.out _ (HD.out.step (bel_drewN HB1.out)) (HD2.out.step (bel_drewN HB1.out))).mono ?_; rintro r W3 ⟨rfl, rfl⟩; rw [hx]))
      go_ret
      exact ⟨_, rfl, by simpa using HNE.out, by first | exact HB1.out | exact bel_drewN HB1.out⟩
end Go.Proofs.Ytbfpjldincnihaa
