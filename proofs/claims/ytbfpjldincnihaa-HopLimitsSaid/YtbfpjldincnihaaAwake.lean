/- The walk of the statements' fixed example. No condition. -/
import Derived.Test.YtbfpjldincnihaaHopDecA
namespace Go.Proofs.Ytbfpjldincnihaa
open Go.RowKit
set_option linter.unusedVariables false
set_option linter.unusedSimpArgs false

def exM : Msg := ⟨10, 0, 300, 0, 0, [], [], []⟩
def exB : List UInt8 := [10, 0, 2, 172, 2, 9, 181, 59, 153]
theorem ex_code : codeM exM = 0 := by decide
theorem ex_enc : encM exM = exB := by kernel_rfl
theorem ex_dec : hdecP exB = some exM := by kernel_rfl
set_option maxRecDepth 20000 in
theorem ex_encode (W : World) : Calls Try.prog 14 #[.agg #[.int .i64 10, .int .i64 0, .int .i64 300, .int .i64 0, .int .i64 0, .string ⟨#[]⟩, .slice none 0 0, .slice none 0 0]] W fun e w' =>
    ∃ g o c, e = .returned (.tuple #[.slice (some ⟨g, o, none⟩) 9 c, .nilIface]) ∧ IsB w' (.slice (some ⟨g, o, none⟩) 9 c) exB ∧ Below W.heap.size W w' ∧ 9 ≤ c ∧
      (w'.cell? ⟨g, o + 0, none⟩ = some (.int .u8 10) ∧ w'.cell? ⟨g, o + 1, none⟩ = some (.int .u8 0) ∧ w'.cell? ⟨g, o + 2, none⟩ = some (.int .u8 2) ∧ w'.cell? ⟨g, o + 3, none⟩ = some (.int .u8 172) ∧ w'.cell? ⟨g, o + 4, none⟩ = some (.int .u8 2)) := by
  have h := henc_any exM none none 0 0 W (.inl ⟨rfl, none, 0, rfl, Nat.zero_le _, fun _ => rfl⟩) (IsB.nil W)
  refine h.mono ?_
  rintro e w' ⟨u, rfl, ho, hb⟩
  rw [ex_code, ex_enc] at *
  have hi := ho.isB
  rcases hi with ⟨h0, _⟩ | ⟨_, g, o, c, rfl, h1, h2, hc⟩
  · cases h0
  · exact ⟨g, o, c, rfl, ho.isB, hb, h1, hc 0 10 rfl, hc 1 0 rfl, hc 2 2 rfl, hc 3 172 rfl, hc 4 2 rfl⟩
set_option maxRecDepth 20000 in
theorem ex_decode (v : Value) (W : World) (h : IsB W v exB) : Calls Try.prog 20 #[v] W fun e w' =>
    ∃ la lc da dc, e = .returned (.tuple #[.agg #[.int .i64 10, .int .i64 0, .int .i64 300, .int .i64 0, .int .i64 0, .string ⟨#[]⟩, .slice la 0 lc, .slice da 0 dc], .nilIface]) ∧ Below W.heap.size W w' := by
  refine (hdec_any v exB W h (by decide)).mono ?_
  intro e w' hp
  unfold HDecPost at hp
  rw [ex_dec] at hp
  obtain ⟨la, lc, da, dc, rfl, _, _, hb⟩ := hp
  exact ⟨la, lc, da, dc, rfl, hb⟩
set_option maxRecDepth 20000 in
set_option maxHeartbeats 2000000 in
theorem awake_any (w : World) : Calls Try.prog 13 #[] w fun e w' => e = .returned (.bool true) ∧ Below w.heap.size w w' := by
  go_enter Try.func13, Try.ntmps13
  go_upto_region 2 with (go_at_call 14; refine (ex_encode _).mono ?_; rintro r w1 ⟨g, o, c, rfl, hI, hb1, hc9, x0, x1, x2, x3, x4⟩)
  have HI := Lib.hid hI
  have hcI : (9 : Int) ≤ (c : Int) := by omega
  clear hI
  go_upto_region 3 with (go_at_call 20; refine (ex_decode _ _ HI.out).mono ?_; rintro r w2 ⟨la, lc, da, dc, rfl, hb2⟩)
  have hn := bel_new w2 (.cells #[.int .i64 10, .int .i64 0, .int .i64 300, .int .i64 0, .int .i64 0, .string ⟨#[]⟩, .slice la 0 lc, .slice da 0 dc] 25)
  have hB := Lib.hid (bel_step (bel_step hb1 hb2) hn)
  have y0 := keep_at hn (keep_at hb2 x0)
  have y1 := keep_at hn (keep_at hb2 x1)
  have y2 := keep_at hn (keep_at hb2 x2)
  have y3 := keep_at hn (keep_at hb2 x3)
  have y4 := keep_at hn (keep_at hb2 x4)
  simp only [Nat.add_zero] at y0
  clear hn hb1 hb2 x0 x1 x2 x3 x4
  go_wp2_with fail
  go_ret
  exact ⟨by simp, hB.out⟩
end Go.Proofs.Ytbfpjldincnihaa
