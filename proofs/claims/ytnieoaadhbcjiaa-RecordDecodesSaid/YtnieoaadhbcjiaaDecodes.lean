/- The walk of the law RecordDecodes: it returns true. No condition beyond the slice's reading. -/
import Derived.Test.YtnieoaadhbcjiaaScan
import Derived.Test.YtnieoaadhbcjiaaBurst
import Derived.Test.YtnieoaadhbcjiaaRefDec
namespace Go.Proofs.Ytnieoaadhbcjiaa
open Go.RowKit
set_option linter.unusedVariables false
set_option linter.unusedSimpArgs false

/-- A record against the reference's that is the same. -/
theorem isrec_same (k n : Int) (u u' : Value) (p : List UInt8) (w : World) (hu : IsB w u p) (hu' : IsB w u' p) :
    Calls Try.prog 35 #[.agg #[.int .i64 k, .int .i64 n, u], .agg #[.int .i64 k, .int .i64 n, u']] w fun e w' => e = .returned (.bool true) ∧ Below w.heap.size w w' := by
  obtain ⟨a, c, rfl, _⟩ := hu.shape
  obtain ⟨a', c', rfl, _⟩ := hu'.shape
  have hA : ∀ W, IsB W (.slice a p.length c) p → IsB W (.slice a' p.length c') p → Calls Try.prog 17 #[.slice a p.length c, .slice a' p.length c'] W fun e w' => e = .returned (.bool true) ∧ W = w' := fun W h h' => by
    have := bytes_any _ _ p p W h h'
    rwa [beq_self_eq_true] at this
  have HA := Lib.hid hA
  have hB := bel_alloc (x := .cells #[.int .i64 k, .int .i64 n, .slice a' p.length c'] 43) (bel_new w (.cells #[.int .i64 k, .int .i64 n, .slice a p.length c] 40))
  have HU := Lib.hid (hu.step hB)
  have HU' := Lib.hid (hu'.step hB)
  have HB := Lib.hid hB
  clear hA hu hu' hB
  go_enter Try.func35, Try.ntmps35
  go_wp2_with (go_at_call 17; with_reducible refine (HA.out _ HU.out HU'.out).mono ?_; rintro e w' ⟨rfl, rfl⟩)
  go_ret
  exact ⟨rfl, HB.out⟩

theorem partP_err {bytes most e : Nat} {l : List UInt8} (h : partP bytes most l = .inl e) : e = 21 ∨ e = 12 := by
  unfold partP at h
  split at h
  · injection h with h; exact .inl h.symm
  · split at h
    · injection h with h; exact .inr h.symm
    · cases h
theorem decP_err {l : List UInt8} {e : Nat} (h : decP l = .inl e) : e = 21 ∨ e = 12 := by
  cases l with
  | nil => injection h with h; exact .inl h.symm
  | cons c r =>
    simp only [decP] at h
    split at h
    · injection h with h; exact .inr h.symm
    · split at h
      · rename_i hp
        injection h with h
        subst h
        exact partP_err hp
      · split at h
        · rename_i hp
          injection h with h
          subst h
          exact partP_err hp
        · unfold endP at h
          split at h
          · injection h with h; exact .inl h.symm
          · split at h
            · injection h with h; exact .inr h.symm
            · cases h
theorem scanF_len : ∀ (f : Nat) (l : List UInt8), 5 * (scanF f l).1.length ≤ l.length
  | 0, l => by simp [scanF]
  | f + 1, l => by
    simp only [scanF]
    split
    · simp
    · rename_i k n p s hd
      have hb := decP_bd hd
      have ih := scanF_len f (l.drop s)
      simp only [List.length_drop, List.length_cons] at ih ⊢
      omega
theorem recs_shape {w : World} {base : Nat} {v : Value} {rs : List ((Nat × Nat × List UInt8) × Value)} (h : RecsB w base v rs) : ∃ a c, v = .slice a rs.length c := by
  rcases h.1.2 with ⟨rfl, hn⟩ | ⟨g, cap, cur, rfl, _⟩
  · exact ⟨none, 0, by rw [hn]⟩
  · exact ⟨_, cap, rfl⟩
theorem recs_cells {w : World} {base g c : Nat} {rs : List ((Nat × Nat × List UInt8) × Value)} (h : RecsB w base (.slice (some ⟨g, 0, none⟩) rs.length c) rs) (k : Nat) (r : (Nat × Nat × List UInt8) × Value) (hk : rs[k]? = some r) :
    w.cell? ⟨g, k * 3, none⟩ = some (.int .i64 (r.1.1 : Int)) ∧ w.cell? ⟨g, k * 3 + 1, none⟩ = some (.int .i64 (r.1.2.1 : Int)) ∧ w.cell? ⟨g, k * 3 + 2, none⟩ = some r.2 ∧ OwnB w base r.2 r.1.2.2 := by
  have hlt : k < rs.length := (List.getElem?_eq_some_iff.1 hk).1
  have hc : ∀ (rs : List ((Nat × Nat × List UInt8) × Value)) (k : Nat), rs[k]? = some r → ∀ i, i < 3 → (rs.flatMap cells3)[k * 3 + i]? = (cells3 r)[i]? := by
    intro rs
    induction rs with
    | nil => intro k hk; simp at hk
    | cons q rs ih =>
      intro k hk i hi
      rw [List.flatMap_cons]
      cases k with
      | zero =>
        simp at hk
        subst hk
        rw [List.getElem?_append_left (by simp [cells3]; omega)]
        simp
      | succ k =>
        have hl3 : (cells3 q).length = 3 := rfl
        rw [List.getElem?_append_right (by rw [hl3]; omega), hl3, show (k + 1) * 3 + i - 3 = k * 3 + i by omega]
        exact ih k (by simpa using hk) i hi
  refine ⟨?_, ?_, ?_, h.2 r (List.mem_of_getElem? hk)⟩
  · have := World.ownsRow.cellAt h.1 (k * 3) (by omega)
    rw [this]; exact hc rs k hk 0 (by omega)
  · have := World.ownsRow.cellAt h.1 (k * 3 + 1) (by omega)
    rw [this]; exact hc rs k hk 1 (by omega)
  · have := World.ownsRow.cellAt h.1 (k * 3 + 2) (by omega)
    rw [this]; exact hc rs k hk 2 (by omega)

set_option maxRecDepth 100000 in
set_option maxHeartbeats 1500000 in
theorem decodes_walk (v : Value) (l : List UInt8) (w : World) (hv : IsB w v l) : Calls Try.prog 10 #[v] w fun e w' => e = .returned (.bool true) ∧ Below w.heap.size w w' := by
  have HV := Lib.hid hv
  obtain ⟨a, cap, rfl, _⟩ := hv.shape
  clear hv
  by_cases hl : 3000 < l.length
  · have hl' : (3000 : Int) < (l.length : Int) := by omega
    go_enter Try.func10, Try.ntmps10
    go_wp2_with fail
    refine (awake_any _).mono ?_
    rintro e w1 ⟨rfl, hb⟩
    go_wp2_with fail
    refine (awake_any _).mono ?_
    rintro e w2 ⟨rfl, hb2⟩
    go_wp2_with fail
    go_ret
    exact ⟨rfl, bel_step hb hb2⟩
  have hl' : (l.length : Int) ≤ 3000 := by omega
  have HL := Lib.hid hl
  clear hl
  have hSC : ∀ W, IsB W (.slice a l.length cap) l → Calls Try.prog 36 #[.slice a l.length cap] W fun e w' => ∃ a7 c7 rs, e = .returned (.tuple #[.slice a7 (rs.length) c7, .int .i64 ((scanP l).2 : Int)]) ∧ RecsB w' W.heap.size (.slice a7 rs.length c7) rs ∧ rs.map Prod.fst = (scanP l).1 ∧ Below W.heap.size W w' := fun W h => by
    refine (scan_any (.slice a l.length cap) l W (by have := HL.out; omega) h).mono ?_
    rintro e w' ⟨u, rs, rfl, hRB, hrs, hb⟩
    obtain ⟨a7, c7, rfl⟩ := recs_shape hRB
    exact ⟨a7, c7, rs, rfl, hRB, hrs, hb⟩
  have HSC := Lib.hid hSC
  clear hSC
  cases hd : decP l with
  | inl code =>
    have hT : ∀ W, IsB W (.slice a l.length cap) l → Calls Try.prog 33 #[.slice a l.length cap] W fun e w' => e = .returned (.tuple #[.agg #[.int .i64 0, .int .i64 0, .slice none 0 0], .int .i64 0, .iface 55 (.int .i64 code)]) ∧ Below W.heap.size W w' := fun W h => by
      have h9 := dec_any _ l W h (by have := HL.out; omega)
      rw [hd] at h9
      exact h9
    have hR : ∀ W, IsB W (.slice a l.length cap) l → Calls Try.prog 34 #[.slice a l.length cap] W fun e w' => e = .returned (.tuple #[.agg #[.int .i64 0, .int .i64 0, .slice none 0 0], .int .i64 0, .int .i64 code]) ∧ Below W.heap.size W w' := fun W h => by
      have h9 := rdec_any _ l W h (by have := HL.out; omega)
      rw [hd] at h9
      exact h9
    have HT := Lib.hid hT
    have HR := Lib.hid hR
    clear hT hR hd
    go_enter Try.func10, Try.ntmps10
    go_wp2_with fail
    refine (awake_any _).mono ?_
    rintro e w1 ⟨rfl, hb⟩
    go_upto_region 7 with (first | (go_at_call 33; with_reducible refine (HT.out _ (HV.out.step hb)).mono ?_; rintro e w2 ⟨rfl, hb2⟩; have hb3 := bel_alloc (x := .cells #[.int .i64 0, .int .i64 0, .slice none 0 0] 40) (bel_step hb hb2)) | (go_at_call 34; with_reducible refine (HR.out _ (HV.out.step hb3)).mono ?_; rintro e w4 ⟨rfl, hb4⟩; have d0 := keep_at hb4 (show World.cell? _ ⟨w2.heap.size, 0, none⟩ = some (.int .i64 0) by simp [go_sem]); have d1 := keep_at hb4 (show World.cell? _ ⟨w2.heap.size, 1, none⟩ = some (.int .i64 0) by simp [go_sem]); have d2 := keep_at hb4 (show World.cell? _ ⟨w2.heap.size, 2, none⟩ = some (.slice none 0 0) by simp [go_sem]); have hlt4 : w2.heap.size < w4.heap.size := World.block_lt_of_cell? _ _ d0) | (go_at_call 22; refine (num_err _ _).mono ?_; rintro e w' ⟨rfl, rfl⟩) | (go_at_call 35; refine (isrec_same 0 0 _ _ [] _ (IsB.nil _) (IsB.nil _)).mono ?_; rintro e w6 ⟨rfl, hb6⟩))
    have hB6 : Below w.heap.size w w6 := bel_step (bel_alloc (bel_step hb3 hb4)) hb6
    have HB6 := Lib.hid hB6
    clear hB6 hb hb2 hb3 hb4 hb6 d0 d1 d2
    go_upto_region 10 with (go_at_call 36; refine (HSC.out _ (HV.out.step HB6.out)).mono ?_; rintro e w7 ⟨a7, c7, rs, rfl, hRB, hrs, hb7⟩)
    have hB7 := bel_step HB6.out hb7
    have HB7 := Lib.hid hB7
    have HRB := Lib.hid hRB
    have HRS := Lib.hid hrs
    have hrl : rs.length ≤ 3000 := by
      have h1 := scanF_len (l.length + 1) l
      have h2 := congrArg List.length hrs
      rw [List.length_map] at h2
      change rs.length = (scanF (l.length + 1) l).1.length at h2
      have := HL.out
      omega
    clear hB7 hRB hrs hb7 HT HR
    go_loopw [11, 12] (fun at' i wr => ∃ k q : Nat, i = .int .i64 k ∧ at' = .int .i64 q ∧ k ≤ rs.length ∧ q ≤ l.length ∧ (rs.drop k).map Prod.fst = (scanP (l.drop q)).1 ∧ q + (scanP (l.drop q)).2 = (scanP l).2 ∧ RecsB wr w6.heap.size (.slice a7 rs.length c7) rs ∧ Below w.heap.size w wr) (fun _ i _ => rs.length - (intOf i).toNat)
    case atStart => exact ⟨0, 0, rfl, rfl, Nat.zero_le _, Nat.zero_le _, by simpa using HRS.out, by simp, HRB.out, HB7.out⟩
    case round =>
      obtain ⟨k, q, rfl, rfl, hk, hq, hs1, hs2, hR, hB⟩ := hrel
      have HS1 := Lib.hid hs1
      have HS2 := Lib.hid hs2
      have HR := Lib.hid hR
      have HB := Lib.hid hB
      clear hs1 hs2 hR hB HRB HB7 HSC
      have hq0 : (0 : Int) ≤ (q : Int) := by omega
      have hq1 : (q : Int) ≤ (l.length : Int) := by omega
      have hRD : ∀ v W, IsB W v (l.drop q) → Calls Try.prog 34 #[v] W (RDecPost W (decP (l.drop q))) := fun v W h => rdec_any v _ W h (by have := HL.out; simp; omega)
      obtain ⟨_, _, hv9, hcap1, hcap2, _⟩ := HV.out.shape
      simp only [Value.slice.injEq] at hv9
      obtain ⟨rfl, _, rfl⟩ := hv9
      have hq2 : (q : Int) ≤ (cap : Int) := by omega
      cases hd2 : decP (l.drop q) with
      | inl c2 =>
        have hsc := scanP_err hd2
        have h1 := HS1.out
        have h2 := HS2.out
        rw [hsc] at h1 h2
        have hkl : rs.length ≤ k := by simpa using h1
        have hki : (rs.length : Int) ≤ (k : Int) := by omega
        have hT2 : ∀ v W, IsB W v (l.drop q) → Calls Try.prog 34 #[v] W fun e w' => e = .returned (.tuple #[.agg #[.int .i64 0, .int .i64 0, .slice none 0 0], .int .i64 0, .int .i64 c2]) ∧ Below W.heap.size W w' := fun v W h => by
          have h9 := hRD v W h
          rw [hd2] at h9
          exact h9
        have HT2 := Lib.hid hT2
        have hc20 : ((c2 : Int) != 0) = true := by rcases decP_err hd2 with rfl | rfl <;> rfl
        have hby : ((scanP l).2 : Int) = (q : Int) := by simp at h2; omega
        rw [hby]
        clear hRD hsc h1 h2 hT2 hd2 HS1 HS2 hkl
        by_cases hcq : cap = q
        · have hb2 := HV.out.back q hq hcq
          have HB2 := Lib.hid hb2
          clear hb2
          go_wp2_with (go_at_call 34; with_reducible refine (HT2.out _ _ (HB2.out.step HB.out)).mono ?_; rintro e w8 ⟨rfl, hb8⟩)
          go_ret
          exact ⟨rfl, bel_step HB.out hb8⟩
        · have hb2 := HV.out.cut1 q hq
          have HB2 := Lib.hid hb2
          clear hb2
          go_wp2_with (go_at_call 34; with_reducible refine (HT2.out _ _ (HB2.out.step HB.out)).mono ?_; rintro e w8 ⟨rfl, hb8⟩)
          go_ret
          exact ⟨rfl, bel_step HB.out hb8⟩
      | inr x =>
        obtain ⟨k', n', p', sz⟩ := x
        have hsc := scanP_ok hd2
        have hbd := decP_bd hd2
        simp only [List.length_drop] at hbd
        have h1 := HS1.out
        have h2 := HS2.out
        rw [hsc] at h1 h2
        have hkl : k < rs.length := by
          rcases Nat.lt_or_ge k rs.length with h | h
          · exact h
          · rw [List.drop_eq_nil_of_le h] at h1; cases h1
        obtain ⟨r, hr⟩ : ∃ r, rs[k]? = some r := ⟨_, List.getElem?_eq_getElem hkl⟩
        have hdr : rs.drop k = r :: rs.drop (k + 1) := by
          obtain ⟨hk9, rfl⟩ := List.getElem?_eq_some_iff.1 hr
          exact List.drop_eq_getElem_cons hk9
        rw [hdr, List.map_cons] at h1
        injection h1 with h1a h1b
        obtain ⟨r1, ur⟩ := r
        simp only [] at h1a
        subst h1a
        rw [List.drop_drop] at h1b h2
        have hT2 : ∀ v W, IsB W v (l.drop q) → Calls Try.prog 34 #[v] W fun e w' => ∃ u', e = .returned (.tuple #[.agg #[.int .i64 k', .int .i64 n', u'], .int .i64 sz, .int .i64 0]) ∧ OwnB w' W.heap.size u' p' ∧ Below W.heap.size W w' := fun v W h => by
          have h9 := hRD v W h
          rw [hd2] at h9
          exact h9
        have HT2 := Lib.hid hT2
        obtain ⟨g7, c', hv7, _⟩ := World.ownsRow.form HR.out.1 (by omega)
        simp only [Value.slice.injEq] at hv7
        obtain ⟨rfl, _, rfl⟩ := hv7
        obtain ⟨y0, y1, y2, hOr⟩ := recs_cells HR.out k _ hr
        dsimp only at y0 y1 y2 hOr
        obtain ⟨ar, cr, rfl, _⟩ := hOr.isB.shape
        have HOR := Lib.hid hOr
        have H1B := Lib.hid h1b
        have H2 := Lib.hid h2
        have hcq : ¬ cap = q := by omega
        have hki : (k : Int) < (rs.length : Int) := by omega
        have hsz : (q : Int) + (sz : Int) ≤ (l.length : Int) := by omega
        have hb2 := HV.out.cut1 q hq
        have HB2 := Lib.hid hb2
        clear hRD hsc h1b h2 hT2 hd2 HS1 HS2 hkl hb2 hr hdr hOr
        have hri : (rs.length : Int) ≤ 3000 := by omega
        go_upto_region 13 with (go_at_call 34; with_reducible refine (HT2.out _ _ (HB2.out.step HB.out)).mono ?_; rintro e w8 ⟨u8, rfl, ho8, hb8⟩; obtain ⟨a8, c8, rfl, _⟩ := ho8.isB.shape)
        have z0 := keep_alloc (x := .cells #[.int .i64 k', .int .i64 n', .slice a8 p'.length c8] 43) (keep_at hb8 y0)
        have z1 := keep_alloc (x := .cells #[.int .i64 k', .int .i64 n', .slice a8 p'.length c8] 43) (keep_at hb8 y1)
        have z2 := keep_alloc (x := .cells #[.int .i64 k', .int .i64 n', .slice a8 p'.length c8] 43) (keep_at hb8 y2)
        have hor8 := HOR.out.step hb8
        have b0 : (w8.alloc (.cells #[.int .i64 k', .int .i64 n', .slice a8 p'.length c8] 43)).cell? ⟨w8.heap.size, 0, none⟩ = some (.int .i64 k') := by simp [go_sem]
        have b1 : (w8.alloc (.cells #[.int .i64 k', .int .i64 n', .slice a8 p'.length c8] 43)).cell? ⟨w8.heap.size, 1, none⟩ = some (.int .i64 n') := by simp [go_sem]
        have b2 : (w8.alloc (.cells #[.int .i64 k', .int .i64 n', .slice a8 p'.length c8] 43)).cell? ⟨w8.heap.size, 2, none⟩ = some (.slice a8 p'.length c8) := by simp [go_sem]
        have hB8 := bel_alloc (x := .cells #[.int .i64 k', .int .i64 n', .slice a8 p'.length c8] 43) (bel_step HB.out hb8)
        have hR8 := (HR.out.step hb8).step (bel_new w8 (.cells #[.int .i64 k', .int .i64 n', .slice a8 p'.length c8] 43))
        have HB8 := Lib.hid hB8
        have HR8 := Lib.hid hR8
        have hki0 : (0 : Int) ≤ (k : Int) := by omega
        clear y0 y1 y2 hB8 hR8
        go_region_held3 (fun w' => w'.cell? ⟨g7, k * 3, none⟩ = some (.int .i64 (k' : Int)) ∧ w'.cell? ⟨g7, k * 3 + 1, none⟩ = some (.int .i64 (n' : Int)) ∧ w'.cell? ⟨g7, k * 3 + 2, none⟩ = some (.slice ar p'.length cr) ∧ w'.cell? ⟨w8.heap.size, 0, none⟩ = some (.int .i64 (k' : Int)) ∧ w'.cell? ⟨w8.heap.size, 1, none⟩ = some (.int .i64 (n' : Int)) ∧ w'.cell? ⟨w8.heap.size, 2, none⟩ = some (.slice a8 p'.length c8))
          ((go_split_ands; refine ⟨?_, ?_, ?_, ?_, ?_, ?_⟩ <;> (repeat (with_reducible (first | assumption | refine keep_drew ?_ | refine keep_alloc ?_ | refine keep_at hb9 ?_)))))
          (first | (go_at_call 35; refine (isrec_same k' n' _ _ p' _ (by exact OwnB.isB (by first | exact hor8.alloc.drew | exact hor8.alloc)) (by exact OwnB.isB (by first | exact ho8.alloc.drew | exact ho8.alloc))).mono ?_; rintro e w9 ⟨rfl, hb9⟩))
        have hB9 := (bel_drew (Below.refl _ (w8.alloc (.cells #[.int .i64 k', .int .i64 n', .slice a8 p'.length c8] 43)))).trans hb9
        have HB9 := Lib.hid (HB8.out.trans (hB9.mono (HB8.out.size)))
        have HR9 := Lib.hid (HR8.out.step hB9)
        clear hB9
        go_wp2_with fail
        refine ⟨⟨k + 1, q + sz, rfl, by simp, by omega, by omega, H1B.out, by have := H2.out; omega, HR9.out, HB9.out⟩, ?_⟩
        show rs.length - ((k : Int) + 1).toNat < rs.length - ((k : Int)).toNat
        omega
  | inr x =>
    obtain ⟨k0, n0, p0, s0⟩ := x
    have hT : ∀ W, IsB W (.slice a l.length cap) l → Calls Try.prog 33 #[.slice a l.length cap] W fun e w' => ∃ u, e = .returned (.tuple #[.agg #[.int .i64 k0, .int .i64 n0, u], .int .i64 s0, .nilIface]) ∧ OwnB w' W.heap.size u p0 ∧ Below W.heap.size W w' := fun W h => by
      have h9 := dec_any _ l W h (by have := HL.out; omega)
      rw [hd] at h9
      exact h9
    have hR : ∀ W, IsB W (.slice a l.length cap) l → Calls Try.prog 34 #[.slice a l.length cap] W fun e w' => ∃ u, e = .returned (.tuple #[.agg #[.int .i64 k0, .int .i64 n0, u], .int .i64 s0, .int .i64 0]) ∧ OwnB w' W.heap.size u p0 ∧ Below W.heap.size W w' := fun W h => by
      have h9 := rdec_any _ l W h (by have := HL.out; omega)
      rw [hd] at h9
      exact h9
    have HT := Lib.hid hT
    have HR := Lib.hid hR
    clear hT hR hd
    go_enter Try.func10, Try.ntmps10
    go_wp2_with fail
    refine (awake_any _).mono ?_
    rintro e w1 ⟨rfl, hb⟩
    go_upto_region 7 with (first
      | (go_at_call 33; with_reducible refine (HT.out _ (HV.out.step hb)).mono ?_; rintro e w2 ⟨u1, rfl, ho1, hb2⟩; obtain ⟨au, cu, rfl, _⟩ := ho1.isB.shape; have hb3 := bel_alloc (x := .cells #[.int .i64 k0, .int .i64 n0, .slice au p0.length cu] 40) (bel_step hb hb2); have ho3 := ho1.alloc (o := .cells #[.int .i64 k0, .int .i64 n0, .slice au p0.length cu] 40))
      | (go_at_call 34; with_reducible refine (HR.out _ (HV.out.step hb3)).mono ?_; rintro e w4 ⟨u2, rfl, ho4, hb4⟩; obtain ⟨av, cv, rfl, _⟩ := ho4.isB.shape; have d0 := keep_at hb4 (show World.cell? _ ⟨w2.heap.size, 0, none⟩ = some (.int .i64 k0) by simp [go_sem]); have d1 := keep_at hb4 (show World.cell? _ ⟨w2.heap.size, 1, none⟩ = some (.int .i64 n0) by simp [go_sem]); have d2 := keep_at hb4 (show World.cell? _ ⟨w2.heap.size, 2, none⟩ = some (.slice au p0.length cu) by simp [go_sem]); have hlt4 : w2.heap.size < w4.heap.size := World.block_lt_of_cell? _ _ d0; have ho5 := (ho3.step hb4).alloc (o := .cells #[.int .i64 k0, .int .i64 n0, .slice av p0.length cv] 43); have ho6 := ho4.alloc (o := .cells #[.int .i64 k0, .int .i64 n0, .slice av p0.length cv] 43))
      | (go_at_call 22; refine (num_nil _).mono ?_; rintro e w' ⟨rfl, rfl⟩)
      | (go_at_call 35; refine (isrec_same k0 n0 _ _ p0 _ ho5.isB ho6.isB).mono ?_; rintro e w6 ⟨rfl, hb6⟩))
    have hB6 : Below w.heap.size w w6 := bel_step (bel_alloc (bel_step hb3 hb4)) hb6
    have HB6 := Lib.hid hB6
    clear hB6 hb hb2 hb3 hb4 hb6 d0 d1 d2
    go_upto_region 10 with (go_at_call 36; refine (HSC.out _ (HV.out.step HB6.out)).mono ?_; rintro e w7 ⟨a7, c7, rs, rfl, hRB, hrs, hb7⟩)
    have hB7 := bel_step HB6.out hb7
    have HB7 := Lib.hid hB7
    have HRB := Lib.hid hRB
    have HRS := Lib.hid hrs
    have hrl : rs.length ≤ 3000 := by
      have h1 := scanF_len (l.length + 1) l
      have h2 := congrArg List.length hrs
      rw [List.length_map] at h2
      change rs.length = (scanF (l.length + 1) l).1.length at h2
      have := HL.out
      omega
    clear hB7 hRB hrs hb7 HT HR
    go_loopw [11, 12] (fun at' i wr => ∃ k q : Nat, i = .int .i64 k ∧ at' = .int .i64 q ∧ k ≤ rs.length ∧ q ≤ l.length ∧ (rs.drop k).map Prod.fst = (scanP (l.drop q)).1 ∧ q + (scanP (l.drop q)).2 = (scanP l).2 ∧ RecsB wr w6.heap.size (.slice a7 rs.length c7) rs ∧ Below w.heap.size w wr) (fun _ i _ => rs.length - (intOf i).toNat)
    case atStart => exact ⟨0, 0, rfl, rfl, Nat.zero_le _, Nat.zero_le _, by simpa using HRS.out, by simp, HRB.out, HB7.out⟩
    case round =>
      obtain ⟨k, q, rfl, rfl, hk, hq, hs1, hs2, hR, hB⟩ := hrel
      have HS1 := Lib.hid hs1
      have HS2 := Lib.hid hs2
      have HR := Lib.hid hR
      have HB := Lib.hid hB
      clear hs1 hs2 hR hB HRB HB7 HSC
      have hq0 : (0 : Int) ≤ (q : Int) := by omega
      have hq1 : (q : Int) ≤ (l.length : Int) := by omega
      have hRD : ∀ v W, IsB W v (l.drop q) → Calls Try.prog 34 #[v] W (RDecPost W (decP (l.drop q))) := fun v W h => rdec_any v _ W h (by have := HL.out; simp; omega)
      obtain ⟨_, _, hv9, hcap1, hcap2, _⟩ := HV.out.shape
      simp only [Value.slice.injEq] at hv9
      obtain ⟨rfl, _, rfl⟩ := hv9
      have hq2 : (q : Int) ≤ (cap : Int) := by omega
      cases hd2 : decP (l.drop q) with
      | inl c2 =>
        have hsc := scanP_err hd2
        have h1 := HS1.out
        have h2 := HS2.out
        rw [hsc] at h1 h2
        have hkl : rs.length ≤ k := by simpa using h1
        have hki : (rs.length : Int) ≤ (k : Int) := by omega
        have hT2 : ∀ v W, IsB W v (l.drop q) → Calls Try.prog 34 #[v] W fun e w' => e = .returned (.tuple #[.agg #[.int .i64 0, .int .i64 0, .slice none 0 0], .int .i64 0, .int .i64 c2]) ∧ Below W.heap.size W w' := fun v W h => by
          have h9 := hRD v W h
          rw [hd2] at h9
          exact h9
        have HT2 := Lib.hid hT2
        have hc20 : ((c2 : Int) != 0) = true := by rcases decP_err hd2 with rfl | rfl <;> rfl
        have hby : ((scanP l).2 : Int) = (q : Int) := by simp at h2; omega
        rw [hby]
        clear hRD hsc h1 h2 hT2 hd2 HS1 HS2 hkl
        by_cases hcq : cap = q
        · have hb2 := HV.out.back q hq hcq
          have HB2 := Lib.hid hb2
          clear hb2
          go_wp2_with (go_at_call 34; with_reducible refine (HT2.out _ _ (HB2.out.step HB.out)).mono ?_; rintro e w8 ⟨rfl, hb8⟩)
          go_ret
          exact ⟨rfl, bel_step HB.out hb8⟩
        · have hb2 := HV.out.cut1 q hq
          have HB2 := Lib.hid hb2
          clear hb2
          go_wp2_with (go_at_call 34; with_reducible refine (HT2.out _ _ (HB2.out.step HB.out)).mono ?_; rintro e w8 ⟨rfl, hb8⟩)
          go_ret
          exact ⟨rfl, bel_step HB.out hb8⟩
      | inr x =>
        obtain ⟨k', n', p', sz⟩ := x
        have hsc := scanP_ok hd2
        have hbd := decP_bd hd2
        simp only [List.length_drop] at hbd
        have h1 := HS1.out
        have h2 := HS2.out
        rw [hsc] at h1 h2
        have hkl : k < rs.length := by
          rcases Nat.lt_or_ge k rs.length with h | h
          · exact h
          · rw [List.drop_eq_nil_of_le h] at h1; cases h1
        obtain ⟨r, hr⟩ : ∃ r, rs[k]? = some r := ⟨_, List.getElem?_eq_getElem hkl⟩
        have hdr : rs.drop k = r :: rs.drop (k + 1) := by
          obtain ⟨hk9, rfl⟩ := List.getElem?_eq_some_iff.1 hr
          exact List.drop_eq_getElem_cons hk9
        rw [hdr, List.map_cons] at h1
        injection h1 with h1a h1b
        obtain ⟨r1, ur⟩ := r
        simp only [] at h1a
        subst h1a
        rw [List.drop_drop] at h1b h2
        have hT2 : ∀ v W, IsB W v (l.drop q) → Calls Try.prog 34 #[v] W fun e w' => ∃ u', e = .returned (.tuple #[.agg #[.int .i64 k', .int .i64 n', u'], .int .i64 sz, .int .i64 0]) ∧ OwnB w' W.heap.size u' p' ∧ Below W.heap.size W w' := fun v W h => by
          have h9 := hRD v W h
          rw [hd2] at h9
          exact h9
        have HT2 := Lib.hid hT2
        obtain ⟨g7, c', hv7, _⟩ := World.ownsRow.form HR.out.1 (by omega)
        simp only [Value.slice.injEq] at hv7
        obtain ⟨rfl, _, rfl⟩ := hv7
        obtain ⟨y0, y1, y2, hOr⟩ := recs_cells HR.out k _ hr
        dsimp only at y0 y1 y2 hOr
        obtain ⟨ar, cr, rfl, _⟩ := hOr.isB.shape
        have HOR := Lib.hid hOr
        have H1B := Lib.hid h1b
        have H2 := Lib.hid h2
        have hcq : ¬ cap = q := by omega
        have hki : (k : Int) < (rs.length : Int) := by omega
        have hsz : (q : Int) + (sz : Int) ≤ (l.length : Int) := by omega
        have hb2 := HV.out.cut1 q hq
        have HB2 := Lib.hid hb2
        clear hRD hsc h1b h2 hT2 hd2 HS1 HS2 hkl hb2 hr hdr hOr
        have hri : (rs.length : Int) ≤ 3000 := by omega
        go_upto_region 13 with (go_at_call 34; with_reducible refine (HT2.out _ _ (HB2.out.step HB.out)).mono ?_; rintro e w8 ⟨u8, rfl, ho8, hb8⟩; obtain ⟨a8, c8, rfl, _⟩ := ho8.isB.shape)
        have z0 := keep_alloc (x := .cells #[.int .i64 k', .int .i64 n', .slice a8 p'.length c8] 43) (keep_at hb8 y0)
        have z1 := keep_alloc (x := .cells #[.int .i64 k', .int .i64 n', .slice a8 p'.length c8] 43) (keep_at hb8 y1)
        have z2 := keep_alloc (x := .cells #[.int .i64 k', .int .i64 n', .slice a8 p'.length c8] 43) (keep_at hb8 y2)
        have hor8 := HOR.out.step hb8
        have b0 : (w8.alloc (.cells #[.int .i64 k', .int .i64 n', .slice a8 p'.length c8] 43)).cell? ⟨w8.heap.size, 0, none⟩ = some (.int .i64 k') := by simp [go_sem]
        have b1 : (w8.alloc (.cells #[.int .i64 k', .int .i64 n', .slice a8 p'.length c8] 43)).cell? ⟨w8.heap.size, 1, none⟩ = some (.int .i64 n') := by simp [go_sem]
        have b2 : (w8.alloc (.cells #[.int .i64 k', .int .i64 n', .slice a8 p'.length c8] 43)).cell? ⟨w8.heap.size, 2, none⟩ = some (.slice a8 p'.length c8) := by simp [go_sem]
        have hB8 := bel_alloc (x := .cells #[.int .i64 k', .int .i64 n', .slice a8 p'.length c8] 43) (bel_step HB.out hb8)
        have hR8 := (HR.out.step hb8).step (bel_new w8 (.cells #[.int .i64 k', .int .i64 n', .slice a8 p'.length c8] 43))
        have HB8 := Lib.hid hB8
        have HR8 := Lib.hid hR8
        have hki0 : (0 : Int) ≤ (k : Int) := by omega
        clear y0 y1 y2 hB8 hR8
        go_region_held3 (fun w' => w'.cell? ⟨g7, k * 3, none⟩ = some (.int .i64 (k' : Int)) ∧ w'.cell? ⟨g7, k * 3 + 1, none⟩ = some (.int .i64 (n' : Int)) ∧ w'.cell? ⟨g7, k * 3 + 2, none⟩ = some (.slice ar p'.length cr) ∧ w'.cell? ⟨w8.heap.size, 0, none⟩ = some (.int .i64 (k' : Int)) ∧ w'.cell? ⟨w8.heap.size, 1, none⟩ = some (.int .i64 (n' : Int)) ∧ w'.cell? ⟨w8.heap.size, 2, none⟩ = some (.slice a8 p'.length c8))
          ((go_split_ands; refine ⟨?_, ?_, ?_, ?_, ?_, ?_⟩ <;> (repeat (with_reducible (first | assumption | refine keep_drew ?_ | refine keep_alloc ?_ | refine keep_at hb9 ?_)))))
          (first | (go_at_call 35; refine (isrec_same k' n' _ _ p' _ (by exact OwnB.isB (by first | exact hor8.alloc.drew | exact hor8.alloc)) (by exact OwnB.isB (by first | exact ho8.alloc.drew | exact ho8.alloc))).mono ?_; rintro e w9 ⟨rfl, hb9⟩))
        have hB9 := (bel_drew (Below.refl _ (w8.alloc (.cells #[.int .i64 k', .int .i64 n', .slice a8 p'.length c8] 43)))).trans hb9
        have HB9 := Lib.hid (HB8.out.trans (hB9.mono (HB8.out.size)))
        have HR9 := Lib.hid (HR8.out.step hB9)
        clear hB9
        go_wp2_with fail
        refine ⟨⟨k + 1, q + sz, rfl, by simp, by omega, by omega, H1B.out, by have := H2.out; omega, HR9.out, HB9.out⟩, ?_⟩
        show rs.length - ((k : Int) + 1).toNat < rs.length - ((k : Int)).toNat
        omega
end Go.Proofs.Ytnieoaadhbcjiaa
