/- The set's Total and Between. No condition but that it has fewer than a million entries. -/
import Derived.Test.YthhooocckfljaaaPut
namespace Go.Proofs.Ythhooocckfljaaa
open Go.RowKit Go.Maps Go.Shelf
set_option linter.unusedVariables false
set_option linter.unusedSimpArgs false

/-- The sum of g over those for which f holds. -/
def totP (f : Ent → Bool) (g : Ent → Int) : List Ent → Int
  | [] => 0
  | e :: es => (if f e then g e else 0) + totP f g es
theorem totP_app (f : Ent → Bool) (g : Ent → Int) : ∀ es fs : List Ent, totP f g (es ++ fs) = totP f g es + totP f g fs
  | [], fs => by simp [totP]
  | e :: es, fs => by simp only [List.cons_append, totP, totP_app f g es fs]; omega
theorem totP_perm (f : Ent → Bool) (g : Ent → Int) {es fs : List Ent} (h : es.Perm fs) : totP f g es = totP f g fs := by
  induction h with
  | nil => rfl
  | cons x _ ih => simp only [totP, ih]
  | swap x y l => simp only [totP]; omega
  | trans _ _ ih1 ih2 => exact ih1.trans ih2
theorem allOf_two {S es fs : List Ent} (h : AllOf S es) (g : AllOf S fs) : es.Perm fs :=
  (List.perm_ext_iff_of_nodup h.1 g.1).2 fun e => (h.2 e).trans (g.2 e).symm
theorem totP_more (f : Ent → Bool) (g : Ent → Int) {es : List Ent} {k : Nat} {e : Ent} (hk : es[k]? = some e) : totP f g (es.take (k + 1)) = totP f g (es.take k) + if f e then g e else 0 := by
  rw [take_more hk, totP_app]
  simp [totP]
theorem totP_bound (f : Ent → Bool) (g : Ent → Int) : ∀ es : List Ent, (∀ e ∈ es, 0 ≤ g e ∧ g e ≤ 1099511627776) → 0 ≤ totP f g es ∧ totP f g es ≤ 1099511627776 * (es.length : Int)
  | [], _ => by simp [totP]
  | e :: es, h => by
    have h1 := h e (by simp)
    have h2 := totP_bound f g es fun x hx => h x (by simp [hx])
    simp only [totP, List.length_cons]
    split <;> constructor <;> omega
theorem sums_of (e : Ent) (h : codeE e = 0) : (0 ≤ e.hits ∧ e.hits ≤ 1099511627776) ∧ (0 ≤ e.bytes ∧ e.bytes ≤ 1099511627776) := by
  have h1 := (codeE_ok h).2
  unfold rangeE inR at h1
  omega
def ofT (t : Int) (e : Ent) : Bool := decide (e.ten = t)
set_option maxRecDepth 100000 in
set_option maxHeartbeats 4000000 in
theorem total_run (p b : Nat) (S : List Ent) (t : Int) (w : World) (h : IsSet w p b S) (hl : S.length ≤ 1000000) :
    Calls Try.prog 13 #[.pointer (some ⟨p, 0, none⟩), .int .i64 t] w fun e w' => ∃ es, AllOf S es ∧ e = .returned (.tuple #[.int .i64 (totP (ofT t) Ent.hits es), .int .i64 (totP (ofT t) Ent.bytes es)]) ∧ Below w.heap.size w w' := by
  have HL := Lib.hid (list_run p b S w h hl)
  have HC := Lib.hid h.2.code
  clear h
  go_enter Try.func13, Try.ntmps13
  go_upto_region 2 with (go_at_call 28; refine (HL.out).mono ?_; rintro e w1 ⟨v, es, rfl, hA, ho, hrow, hb⟩; obtain ⟨a, c, rfl⟩ := hrow.shape)
  have HI := Lib.hid hrow.isE
  have HA := Lib.hid hA
  have HB := Lib.hid hb
  have hln : es.length ≤ 1000000 := Nat.le_trans (allOf_len hA) hl
  have hcode : ∀ e ∈ es, codeE e = 0 := fun e he => HC.out e ((hA.2 e).1 he)
  have HCO := Lib.hid hcode
  have hli : (es.length : Int) ≤ 1000000 := by omega
  clear hrow hA hb hcode ho HL
  go_loopw [4, 5, 11] (fun hh yy i wr => ∃ k : Nat, i = .int .i64 k ∧ k ≤ es.length ∧ hh = .int .i64 (totP (ofT t) Ent.hits (es.take k)) ∧ yy = .int .i64 (totP (ofT t) Ent.bytes (es.take k)) ∧ Below w1.heap.size w1 wr) (fun _ _ i _ => es.length - (intOf i).toNat)
  case atStart => exact ⟨0, rfl, Nat.zero_le _, rfl, rfl, Below.refl _ _⟩
  case round =>
    obtain ⟨k, rfl, hk, rfl, rfl, hB⟩ := hrel
    have HBR := Lib.hid hB
    clear hB
    by_cases hlt : k < es.length
    · obtain ⟨g, o, cap, e, hv, hek, hat⟩ := (HI.out.step HBR.out).elem hlt
      simp only [Value.slice.injEq] at hv
      obtain ⟨rfl, _, rfl⟩ := hv
      have hce := sums_of e (HCO.out e (List.mem_of_getElem? hek))
      have hmh := totP_more (ofT t) Ent.hits hek
      have hmy := totP_more (ofT t) Ent.bytes hek
      have hb1 := totP_bound (ofT t) Ent.hits (es.take k) fun x hx => (sums_of x (HCO.out x (List.mem_of_mem_take hx))).1
      have hb2 := totP_bound (ofT t) Ent.bytes (es.take k) fun x hx => (sums_of x (HCO.out x (List.mem_of_mem_take hx))).2
      rw [List.length_take] at hb1 hb2
      have HMH := Lib.hid hmh
      have HMY := Lib.hid hmy
      clear hmh hmy
      generalize totP (ofT t) Ent.hits (es.take k) = sh at *
      generalize totP (ofT t) Ent.bytes (es.take k) = sy at *
      have hp1 : sh + e.hits ≤ 4611686018427387904 := by omega
      have hp2 : sy + e.bytes ≤ 4611686018427387904 := by omega
      have P1 := Lib.hid (fun W => plus_run sh e.hits hb1.1 hce.1.1 hp1 W)
      have P2 := Lib.hid (fun W => plus_run sy e.bytes hb2.1 hce.2.1 hp2 W)
      clear hp1 hp2 hb1 hb2 hce
      obtain ⟨x0, x1, x2, x3, x4, x5, x6⟩ := hat
      have hq0 : (0 : Int) ≤ (k : Int) := by omega
      have hq1 : (k : Int) < (es.length : Int) := by omega
      go_upto_region 4 with fail
      have hbx := EntAt.box wr e
      have HBX := Lib.hid (bel_step HBR.out (bel_new wr (.cells #[.string ⟨e.node.toArray⟩, .int .i64 e.boot, .int .i64 e.seq, .int .i64 e.ten, .int .i64 e.hits, .int .i64 e.bytes, .int .i64 e.att] 46)))
      obtain ⟨c0, c1, c2, c3, c4, c5, c6⟩ := hbx
      simp only [Nat.zero_add] at c0 c1 c2 c3 c4 c5 c6
      clear x0 x1 x2 x3 x4 x5 x6 HBR c0 c1 c2
      generalize wr.alloc (.cells #[.string ⟨e.node.toArray⟩, .int .i64 e.boot, .int .i64 e.seq, .int .i64 e.ten, .int .i64 e.hits, .int .i64 e.bytes, .int .i64 e.att] 46) = W1 at *
      by_cases ht : e.ten = t
      · have e1 := HMH.out
        have e2 := HMY.out
        rw [show ofT t e = true by simp [ofT, ht], if_pos rfl] at e1 e2
        have E1 := Lib.hid e1
        have E2 := Lib.hid e2
        clear e1 e2 HMH HMY
        go_upto_region 5 with fail
        go_region_held3 (fun w' => w'.cell? ⟨wr.heap.size, 4, none⟩ = some (.int .i64 e.hits) ∧ w'.cell? ⟨wr.heap.size, 5, none⟩ = some (.int .i64 e.bytes))
          ((go_split_ands; refine ⟨?_, ?_⟩ <;> (repeat (with_reducible (first | assumption | refine keep_drew ?_)))))
          (first
            | (go_at_call 29; with_reducible refine (P1.out _).mono ?_; rintro r w' ⟨rfl, rfl⟩)
            | (go_at_call 29; with_reducible refine (P2.out _).mono ?_; rintro r w' ⟨rfl, rfl⟩)
            | fail)
        go_wp2_with fail
        go_roundw
        case rel => exact ⟨k + 1, by go_num, by omega, by rw [E1.out], by rw [E2.out], bel_drew HBX.out⟩
        case measure => simp [intOf]; omega
      · have e1 := HMH.out
        have e2 := HMY.out
        rw [show ofT t e = false by simp [ofT, ht], if_neg (by simp), Int.add_zero] at e1 e2
        have E1 := Lib.hid e1
        have E2 := Lib.hid e2
        clear e1 e2 HMH HMY
        go_wp2_with fail
        go_roundw
        case rel => exact ⟨k + 1, by go_num, by omega, by rw [E1.out], by rw [E2.out], HBX.out⟩
        case measure => simp [intOf]; omega
    · obtain rfl : k = es.length := by omega
      have hfin := bel_step HB.out HBR.out
      rw [List.take_length]
      go_wp2_with fail
      go_ret2
      exact ⟨es, HA.out, rfl, hfin⟩
def inT (t lo hi : Int) (e : Ent) : Bool := decide (e.ten = t ∧ lo ≤ e.att ∧ e.att < hi)
set_option maxRecDepth 100000 in
set_option maxHeartbeats 4000000 in
theorem between_run (p b : Nat) (S : List Ent) (t lo hi : Int) (w : World) (h : IsSet w p b S) (hl : S.length ≤ 1000000) :
    Calls Try.prog 31 #[.pointer (some ⟨p, 0, none⟩), .int .i64 t, .int .i64 lo, .int .i64 hi] w fun e w' => ∃ es, AllOf S es ∧ e = .returned (.tuple #[.int .i64 (totP (inT t lo hi) Ent.hits es), .int .i64 (totP (inT t lo hi) Ent.bytes es)]) ∧ Below w.heap.size w w' := by
  have HL := Lib.hid (list_run p b S w h hl)
  have HC := Lib.hid h.2.code
  clear h
  go_enter Try.func31, Try.ntmps31
  go_upto_region 2 with (go_at_call 28; refine (HL.out).mono ?_; rintro e w1 ⟨v, es, rfl, hA, ho, hrow, hb⟩; obtain ⟨a, c, rfl⟩ := hrow.shape)
  have HI := Lib.hid hrow.isE
  have HA := Lib.hid hA
  have HB := Lib.hid hb
  have hln : es.length ≤ 1000000 := Nat.le_trans (allOf_len hA) hl
  have hcode : ∀ e ∈ es, codeE e = 0 := fun e he => HC.out e ((hA.2 e).1 he)
  have HCO := Lib.hid hcode
  have hli : (es.length : Int) ≤ 1000000 := by omega
  clear hrow hA hb hcode ho HL
  go_loopw [8, 9, 15] (fun hh yy i wr => ∃ k : Nat, i = .int .i64 k ∧ k ≤ es.length ∧ hh = .int .i64 (totP (inT t lo hi) Ent.hits (es.take k)) ∧ yy = .int .i64 (totP (inT t lo hi) Ent.bytes (es.take k)) ∧ Below w1.heap.size w1 wr) (fun _ _ i _ => es.length - (intOf i).toNat)
  case atStart => exact ⟨0, rfl, Nat.zero_le _, rfl, rfl, Below.refl _ _⟩
  case round =>
    obtain ⟨k, rfl, hk, rfl, rfl, hB⟩ := hrel
    have HBR := Lib.hid hB
    clear hB
    by_cases hlt : k < es.length
    · obtain ⟨g, o, cap, e, hv, hek, hat⟩ := (HI.out.step HBR.out).elem hlt
      simp only [Value.slice.injEq] at hv
      obtain ⟨rfl, _, rfl⟩ := hv
      have hce := sums_of e (HCO.out e (List.mem_of_getElem? hek))
      have hmh := totP_more (inT t lo hi) Ent.hits hek
      have hmy := totP_more (inT t lo hi) Ent.bytes hek
      have hb1 := totP_bound (inT t lo hi) Ent.hits (es.take k) fun x hx => (sums_of x (HCO.out x (List.mem_of_mem_take hx))).1
      have hb2 := totP_bound (inT t lo hi) Ent.bytes (es.take k) fun x hx => (sums_of x (HCO.out x (List.mem_of_mem_take hx))).2
      rw [List.length_take] at hb1 hb2
      have HMH := Lib.hid hmh
      have HMY := Lib.hid hmy
      clear hmh hmy
      generalize totP (inT t lo hi) Ent.hits (es.take k) = sh at *
      generalize totP (inT t lo hi) Ent.bytes (es.take k) = sy at *
      have hp1 : sh + e.hits ≤ 4611686018427387904 := by omega
      have hp2 : sy + e.bytes ≤ 4611686018427387904 := by omega
      have P1 := Lib.hid (fun W => plus_run sh e.hits hb1.1 hce.1.1 hp1 W)
      have P2 := Lib.hid (fun W => plus_run sy e.bytes hb2.1 hce.2.1 hp2 W)
      clear hp1 hp2 hb1 hb2 hce
      obtain ⟨x0, x1, x2, x3, x4, x5, x6⟩ := hat
      have hq0 : (0 : Int) ≤ (k : Int) := by omega
      have hq1 : (k : Int) < (es.length : Int) := by omega
      go_upto_region 4 with fail
      have hbx := EntAt.box wr e
      have HBX := Lib.hid (bel_step HBR.out (bel_new wr (.cells #[.string ⟨e.node.toArray⟩, .int .i64 e.boot, .int .i64 e.seq, .int .i64 e.ten, .int .i64 e.hits, .int .i64 e.bytes, .int .i64 e.att] 46)))
      obtain ⟨c0, c1, c2, c3, c4, c5, c6⟩ := hbx
      simp only [Nat.zero_add] at c0 c1 c2 c3 c4 c5 c6
      clear x0 x1 x2 x3 x4 x5 x6 HBR c0 c1 c2
      generalize wr.alloc (.cells #[.string ⟨e.node.toArray⟩, .int .i64 e.boot, .int .i64 e.seq, .int .i64 e.ten, .int .i64 e.hits, .int .i64 e.bytes, .int .i64 e.att] 46) = W1 at *
      by_cases ht : e.ten = t ∧ lo ≤ e.att ∧ e.att < hi
      · have e1 := HMH.out
        have e2 := HMY.out
        rw [show inT t lo hi e = true by simp [inT, ht], if_pos rfl] at e1 e2
        obtain ⟨ht1, ht2, ht3⟩ := ht
        have E1 := Lib.hid e1
        have E2 := Lib.hid e2
        clear e1 e2 HMH HMY
        go_upto_region 5 with fail
        go_region_held3 (fun w' => w'.cell? ⟨wr.heap.size, 4, none⟩ = some (.int .i64 e.hits) ∧ w'.cell? ⟨wr.heap.size, 5, none⟩ = some (.int .i64 e.bytes))
          ((go_split_ands; refine ⟨?_, ?_⟩ <;> (repeat (with_reducible (first | assumption | refine keep_drew ?_)))))
          (first
            | (go_at_call 29; with_reducible refine (P1.out _).mono ?_; rintro r w' ⟨rfl, rfl⟩)
            | (go_at_call 29; with_reducible refine (P2.out _).mono ?_; rintro r w' ⟨rfl, rfl⟩)
            | fail)
        go_wp2_with fail
        go_roundw
        case rel => exact ⟨k + 1, by go_num, by omega, by rw [E1.out], by rw [E2.out], bel_drew HBX.out⟩
        case measure => simp [intOf]; omega
      · have e1 := HMH.out
        have e2 := HMY.out
        rw [show inT t lo hi e = false by simp only [inT, decide_eq_false_iff_not]; exact ht, if_neg (by simp), Int.add_zero] at e1 e2
        have E1 := Lib.hid e1
        have E2 := Lib.hid e2
        clear e1 e2 HMH HMY
        have h3 : e.ten ≠ t ∨ (e.ten = t ∧ (¬ lo ≤ e.att ∨ (lo ≤ e.att ∧ ¬ e.att < hi))) := by omega
        clear ht
        rcases h3 with h3 | ⟨h3, h4 | ⟨h4, h5⟩⟩
        all_goals
          go_wp2_with fail
          go_roundw
          case rel => exact ⟨k + 1, by go_num, by omega, by rw [E1.out], by rw [E2.out], HBX.out⟩
          case measure => simp [intOf]; omega
    · obtain rfl : k = es.length := by omega
      have hfin := bel_step HB.out HBR.out
      rw [List.take_length]
      go_wp2_with fail
      go_ret2
      exact ⟨es, HA.out, rfl, hfin⟩
end Go.Proofs.Ythhooocckfljaaa
