/- The walk of value. No condition beyond the callee's contract. -/
import Derived.Test.YtogkiifljdnjgaaDoorArgs
namespace Go.Proofs.YtogkiifljdnjgaaDoor
open Go.RowKit
set_option linter.unusedVariables false
set_option linter.unusedSimpArgs false

def ConV (sg : List UInt8) (n : Nat) : Prop := ∀ (w : World) (pb : Nat) (s : PS), PIn w pb s → 10 * s.1.length + 9 ≤ n →
  Calls Tryd.prog 70 #[.pointer (some ⟨pb, 0, none⟩), .string ⟨sg.toArray⟩] w fun e w' => PostK w w' pb (pRun n (.value sg) s) e
/-- A list of one tree, in a new block. -/
theorem PostK.one {w w0 w1 w4 : World} {pb : Nat} {t : Tree} {s4 : PS} {a b c d : Value} {X : Obj} (h0 : Only pb w w0) (ht : IsT w1 (New w1 w0.heap.size) t (.agg #[a, b, c, d])) (h1 : Only pb w0 w1) (h4 : Only pb (w1.alloc X) w4) (hp : PIn w4 pb s4) (hlt : pb < w.heap.size) :
    PostK w (w4.alloc (.cells #[a, b, c, d] 32)) pb (lst [t], s4) (.returned (.slice (some ⟨w4.heap.size, 0, none⟩) 1 1)) := by
  have hz := h0.size
  have hz1 := h1.size
  have hz4 := h4.size
  have h5 : IsT w4 (New w4 w0.heap.size) t (.agg #[a, b, c, d]) := (ht.bel (bel_new _ X)).only h4 (by omega)
  refine ⟨⟨_, rfl, (IsKids.one h5 rfl).mono fun k hk hlt => ?_⟩, hp.alloc, ((h0.trans h1).alloc.trans h4).alloc⟩
  simp at hz4
  rcases hk with ⟨hk, _⟩ | hk
  · exact ⟨by have := hk.1; omega, hlt⟩
  · exact ⟨by have := hk.1; omega, hlt⟩
set_option maxRecDepth 20000 in
set_option maxHeartbeats 2000000 in
theorem value_con (sg : List UInt8) (n : Nat) (HC : ConN 85 .expr n) : ConV sg (n + 1) := by
  intro w pb s hp hr
  have HCall := Lib.hid HC
  have HP := Lib.hid hp
  have hlt := hp.lt
  have hpw : ¬ pb = w.heap.size := by omega
  have hpw2 : ¬ w.heap.size = pb := by omega
  obtain ⟨R, hR⟩ : ∃ R, pRun (n + 1) (.value sg) s = R := ⟨_, rfl⟩
  rw [hR]
  have hR' : valueB (pRun n) sg s = R := hR
  have HRK := Lib.hid hr
  clear hR hr hp HC
  unfold valueB at hR'
  dsimp only at hR'
  by_cases hsg : sg = []
  · subst hsg
    rw [if_pos rfl] at hR'
    have HC1 := Lib.hid (fun W (hW : PIn W pb s) => HCall.out W pb s hW (by have h1 := HRK.out; simp [rankN] at h1 ⊢; omega))
    by_cases hz : s.2 = 0
    · rw [if_neg (fun h => h hz)] at hR'
      have HOK := Lib.hid (fun W (hW : PIn W pb s) => ok_yes W pb s hW hz)
      clear hz
      generalize pRun n .expr s = r1 at *
      obtain ⟨t1, s1⟩ := r1
      dsimp only at hR'
      by_cases hz1 : s1.2 = 0
      · rw [if_pos hz1] at hR'
        have HQ := Lib.hid hR'
        have HOK1 := Lib.hid (fun W (hW : PIn W pb s1) => ok_yes W pb s1 hW hz1)
        clear hz1 hR'
        go_enter Tryd.func70, Tryd.ntmps70
        go_wp2_with (first | (go_at_call 34; (with_reducible refine (HOK.out _ HP.out).mono ?_); rintro e w3 ⟨rfl, rfl⟩) | (go_at_call 85; (with_reducible refine (HC1.out _ HP.out).mono ?_); rintro e w1 ⟨⟨v, rfl, ht⟩, hp1, ho1⟩; obtain ⟨k0, x0, a0, m0, c0, l0, rfl⟩ := isT_shape ht; have HT1 := Lib.hid ht; have HP1 := Lib.hid hp1; have HO1 := Lib.hid ho1; clear ht hp1 ho1) | (go_at_call 34; (with_reducible refine (HOK1.out _ HP1.out.alloc).mono ?_); rintro e w3 ⟨rfl, rfl⟩) | (go_at_call 72; (with_reducible refine (sign_in _ pb s1 HP1.out.alloc ⟨#[59]⟩).mono ?_); rintro e w4 ⟨rfl, hp4, ho4⟩; have HP4 := Lib.hid hp4; have HO4 := Lib.hid ho4; have HN4 := Lib.hid (ho4.keep (heap_alloc_new w1 _) (by have h1 := HO1.out.size; omega)); obtain ⟨b0, b1, b2, b3, z0, z1, z2, z3⟩ := box4 HN4.out; clear hp4 ho4))
        go_ret
        rw [← HQ.out]
        exact PostK.one (Only.refl pb w) HT1.out HO1.out HO4.out HP4.out hlt
      · rw [if_neg hz1] at hR'
        have HQ := Lib.hid hR'
        have HOK1 := Lib.hid (fun W (hW : PIn W pb s1) => ok_no W pb s1 hW hz1)
        clear hz1 hR'
        go_enter Tryd.func70, Tryd.ntmps70
        go_wp2_with (first | (go_at_call 34; (with_reducible refine (HOK.out _ HP.out).mono ?_); rintro e w3 ⟨rfl, rfl⟩) | (go_at_call 85; (with_reducible refine (HC1.out _ HP.out).mono ?_); rintro e w1 ⟨⟨v, rfl, ht⟩, hp1, ho1⟩; obtain ⟨k0, x0, a0, m0, c0, l0, rfl⟩ := isT_shape ht; have HT1 := Lib.hid ht; have HP1 := Lib.hid hp1; have HO1 := Lib.hid ho1; clear ht hp1 ho1) | (go_at_call 34; (with_reducible refine (HOK1.out _ HP1.out.alloc).mono ?_); rintro e w3 ⟨rfl, rfl⟩))
        go_ret
        rw [← HQ.out]
        have hk := PostK.one (Only.refl pb w) HT1.out HO1.out (Only.refl pb (w1.alloc (.cells #[.int .i64 k0, .string ⟨x0.toArray⟩, .slice a0 m0 c0, .int .i64 l0] 32))) HP1.out.alloc hlt
        simpa using hk
    · rw [if_pos hz] at hR'
      have HQ := Lib.hid hR'
      have HOK := Lib.hid (fun W (hW : PIn W pb s) => ok_no W pb s hW hz)
      clear hz hR'
      go_enter Tryd.func70, Tryd.ntmps70
      go_wp2_with (first | (go_at_call 34; (with_reducible refine (HOK.out _ HP.out).mono ?_); rintro e w3 ⟨rfl, rfl⟩))
      go_ret
      rw [← HQ.out]
      exact ⟨⟨_, rfl, IsKids.nil _ _⟩, HP.out, (Only.refl pb w)⟩
  · have hie : sg.isEmpty = false := by
      cases sg with
      | nil => exact absurd rfl hsg
      | cons x l => rfl
    rw [if_neg hsg] at hR'
    have HSG := Lib.hid (fun W (hW : PIn W pb s) => sign_in W pb s hW ⟨sg.toArray⟩)
    have hsl := signF_le sg s
    clear hsg
    generalize hs1 : signF sg s = s0 at *
    have HS1 := Lib.hid hs1
    have HSL := Lib.hid hsl
    clear hs1 hsl
    have HC1 := Lib.hid (fun W (hW : PIn W pb s0) => HCall.out W pb s0 hW (by have h1 := HRK.out; have h2 := HSL.out; simp [rankN] at h1 ⊢; omega))
    by_cases hz : s0.2 = 0
    · rw [if_neg (fun h => h hz)] at hR'
      have HOK := Lib.hid (fun W (hW : PIn W pb s0) => ok_yes W pb s0 hW hz)
      clear hz
      generalize pRun n .expr s0 = r1 at *
      obtain ⟨t1, s1⟩ := r1
      dsimp only at hR'
      by_cases hz1 : s1.2 = 0
      · rw [if_pos hz1] at hR'
        have HQ := Lib.hid hR'
        have HOK1 := Lib.hid (fun W (hW : PIn W pb s1) => ok_yes W pb s1 hW hz1)
        clear hz1 hR'
        go_enter Tryd.func70, Tryd.ntmps70
        go_wp2_with (first | (go_at_call 72; (with_reducible refine (HSG.out _ HP.out).mono ?_); rintro e w0 ⟨rfl, hp0, ho0⟩; have HP0 := Lib.hid (show PIn w0 pb s0 from HS1.out ▸ hp0); have HO0 := Lib.hid ho0; clear hp0 ho0) | (go_at_call 34; (with_reducible refine (HOK.out _ HP0.out).mono ?_); rintro e w3 ⟨rfl, rfl⟩) | (go_at_call 85; (with_reducible refine (HC1.out _ HP0.out).mono ?_); rintro e w1 ⟨⟨v, rfl, ht⟩, hp1, ho1⟩; obtain ⟨k0, x0, a0, m0, c0, l0, rfl⟩ := isT_shape ht; have HT1 := Lib.hid ht; have HP1 := Lib.hid hp1; have HO1 := Lib.hid ho1; clear ht hp1 ho1) | (go_at_call 34; (with_reducible refine (HOK1.out _ HP1.out.alloc).mono ?_); rintro e w3 ⟨rfl, rfl⟩) | (go_at_call 72; (with_reducible refine (sign_in _ pb s1 HP1.out.alloc ⟨#[59]⟩).mono ?_); rintro e w4 ⟨rfl, hp4, ho4⟩; have HP4 := Lib.hid hp4; have HO4 := Lib.hid ho4; have HN4 := Lib.hid (ho4.keep (heap_alloc_new w1 _) (by have h1 := HO1.out.size; have h2 := HO0.out.size; omega)); obtain ⟨b0, b1, b2, b3, z0, z1, z2, z3⟩ := box4 HN4.out; clear hp4 ho4))
        go_ret
        rw [← HQ.out]
        exact PostK.one HO0.out HT1.out HO1.out HO4.out HP4.out hlt
      · rw [if_neg hz1] at hR'
        have HQ := Lib.hid hR'
        have HOK1 := Lib.hid (fun W (hW : PIn W pb s1) => ok_no W pb s1 hW hz1)
        clear hz1 hR'
        go_enter Tryd.func70, Tryd.ntmps70
        go_wp2_with (first | (go_at_call 72; (with_reducible refine (HSG.out _ HP.out).mono ?_); rintro e w0 ⟨rfl, hp0, ho0⟩; have HP0 := Lib.hid (show PIn w0 pb s0 from HS1.out ▸ hp0); have HO0 := Lib.hid ho0; clear hp0 ho0) | (go_at_call 34; (with_reducible refine (HOK.out _ HP0.out).mono ?_); rintro e w3 ⟨rfl, rfl⟩) | (go_at_call 85; (with_reducible refine (HC1.out _ HP0.out).mono ?_); rintro e w1 ⟨⟨v, rfl, ht⟩, hp1, ho1⟩; obtain ⟨k0, x0, a0, m0, c0, l0, rfl⟩ := isT_shape ht; have HT1 := Lib.hid ht; have HP1 := Lib.hid hp1; have HO1 := Lib.hid ho1; clear ht hp1 ho1) | (go_at_call 34; (with_reducible refine (HOK1.out _ HP1.out.alloc).mono ?_); rintro e w3 ⟨rfl, rfl⟩))
        go_ret
        rw [← HQ.out]
        have hk := PostK.one HO0.out HT1.out HO1.out (Only.refl pb (w1.alloc (.cells #[.int .i64 k0, .string ⟨x0.toArray⟩, .slice a0 m0 c0, .int .i64 l0] 32))) HP1.out.alloc hlt
        simpa using hk
    · rw [if_pos hz] at hR'
      have HQ := Lib.hid hR'
      have HOK := Lib.hid (fun W (hW : PIn W pb s0) => ok_no W pb s0 hW hz)
      clear hz hR'
      go_enter Tryd.func70, Tryd.ntmps70
      go_wp2_with (first | (go_at_call 72; (with_reducible refine (HSG.out _ HP.out).mono ?_); rintro e w0 ⟨rfl, hp0, ho0⟩; have HP0 := Lib.hid (show PIn w0 pb s0 from HS1.out ▸ hp0); have HO0 := Lib.hid ho0; clear hp0 ho0) | (go_at_call 34; (with_reducible refine (HOK.out _ HP0.out).mono ?_); rintro e w3 ⟨rfl, rfl⟩))
      go_ret
      rw [← HQ.out]
      exact ⟨⟨_, rfl, IsKids.nil _ _⟩, HP0.out, HO0.out⟩
end Go.Proofs.YtogkiifljdnjgaaDoor
