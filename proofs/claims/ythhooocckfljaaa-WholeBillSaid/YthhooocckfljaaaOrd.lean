/- The order of entries: cmp.Compare of strings, cmp.Or, the comparison that List hands to the sort. No condition. -/
import Derived.Test.YthhooocckfljaaaShelf
import Derived.Test.YthhooocckfljaaaTorn
import Derived.Deep.RegionHeld3
namespace Go.Proofs.Ythhooocckfljaaa
open Go.RowKit Go.Sort
set_option linter.unusedVariables false
set_option linter.unusedSimpArgs false

def cmpS (a b : List UInt8) : Int := if Op.bytesLess a b then -1 else if a == b then 0 else 1
def or3 (a b c : Int) : Int := if a ≠ 0 then a else if b ≠ 0 then b else c
def cmpE (x y : Ent) : Int := or3 (cmpS x.node y.node) (Lib.compareInt x.boot y.boot) (Lib.compareInt x.seq y.seq)

theorem nan_str (a : ByteArray) (w : World) : Calls Try.prog 53 #[.string a] w fun e w' => e = .returned (.bool false) ∧ w = w' := by
  go_enter Try.func53, Try.ntmps53
  go_wp2_with fail
  go_ret
  exact ⟨by simp, rfl⟩
theorem cmp_str (a b : ByteArray) (w : World) : Calls Try.prog 43 #[.string a, .string b] w fun e w' => e = .returned (.int .i64 (cmpS a.toList b.toList)) ∧ w = w' := by
  have HR := Lib.hid (show cmpS a.toList b.toList = if Op.bytesLess a.toList b.toList then -1 else if a.toList == b.toList then 0 else 1 from rfl)
  generalize cmpS a.toList b.toList = r at *
  go_enter Try.func43, Try.ntmps43
  go_wp2_with (first | (go_at_call 53; refine (nan_str _ _).mono ?_; rintro e w' ⟨rfl, rfl⟩))
  · rename_i h
    have hr := HR.out
    rw [if_pos h] at hr
    go_ret
    exact ⟨by first | (rw [hr]; rfl) | rfl, rfl⟩
  · rename_i g _ _ h
    have hr := HR.out
    simp at h
    rw [if_neg (by simp [g]), if_neg (by simpa using h)] at hr
    go_ret
    exact ⟨by first | (rw [hr]; rfl) | rfl, rfl⟩
  · rename_i g h
    have hr := HR.out
    simp at h
    rw [if_neg (by simp [g]), if_pos (by simpa using h)] at hr
    go_ret
    exact ⟨by first | (rw [hr]; rfl) | rfl, rfl⟩
theorem or_three (g : Nat) (a b c : Int) (w : World) (h0 : w.cell? ⟨g, 0, none⟩ = some (.int .i64 a)) (h1 : w.cell? ⟨g, 1, none⟩ = some (.int .i64 b)) (h2 : w.cell? ⟨g, 2, none⟩ = some (.int .i64 c)) :
    Calls Try.prog 42 #[.slice (some ⟨g, 0, none⟩) 3 3] w fun e w' => e = .returned (.int .i64 (or3 a b c)) ∧ w = w' := by
  obtain ⟨r, hr⟩ : ∃ r, r = or3 a b c := ⟨_, rfl⟩
  rw [← hr]
  unfold or3 at hr
  have HR := Lib.hid hr
  clear hr
  go_enter Try.func42, Try.ntmps42
  go_wp2_with fail
  go_loopw [8] (fun i wr => wr = w ∧ ∃ k : Nat, i = .int .i64 k ∧ k ≤ 3 ∧ (0 < k → a = 0) ∧ (1 < k → b = 0) ∧ (2 < k → c = 0)) (fun i _ => 3 - (intOf i).toNat)
  case atStart => exact ⟨rfl, 0, rfl, by omega, by omega, by omega, by omega⟩
  case round =>
    obtain ⟨rfl, k, rfl, hk, ka, kb, kc⟩ := hrel
    have h3 : k = 0 ∨ k = 1 ∨ k = 2 ∨ k = 3 := by omega
    rcases h3 with rfl | rfl | rfl | rfl
    · by_cases h : a = 0
      · subst h
        go_wp2_with fail
        go_roundw
        case rel => exact ⟨by first | trivial | rfl, 1, by go_num, by omega, by simp, by omega, by omega⟩
        case measure => simp [intOf]
      · have hr := HR.out
        rw [if_pos h] at hr
        clear HR
        go_wp2_with fail
        go_ret
        exact ⟨by first | (rw [hr]; rfl) | rfl, rfl⟩
    · obtain rfl := ka (by omega)
      by_cases h : b = 0
      · subst h
        go_wp2_with fail
        go_roundw
        case rel => exact ⟨by first | trivial | rfl, 2, by go_num, by omega, by simp, by simp, by omega⟩
        case measure => simp [intOf]
      · have hr := HR.out
        rw [if_neg (by simp), if_pos h] at hr
        clear HR
        go_wp2_with fail
        go_ret
        exact ⟨by first | (rw [hr]; rfl) | rfl, rfl⟩
    · obtain rfl := ka (by omega)
      obtain rfl := kb (by omega)
      by_cases h : c = 0
      · subst h
        go_wp2_with fail
        go_roundw
        case rel => exact ⟨by first | trivial | rfl, 3, by go_num, by omega, by simp, by simp, by simp⟩
        case measure => simp [intOf]
      · have hr := HR.out
        rw [if_neg (by simp), if_neg (by simp)] at hr
        clear HR
        go_wp2_with fail
        go_ret
        exact ⟨by first | (rw [hr]; rfl) | rfl, rfl⟩
    · obtain rfl := ka (by omega)
      obtain rfl := kb (by omega)
      obtain rfl := kc (by omega)
      have hr := HR.out
      simp at hr
      clear HR
      subst hr
      go_wp2_with fail
      go_ret
      exact ⟨rfl, rfl⟩
set_option maxRecDepth 20000 in
set_option maxHeartbeats 4000000 in
theorem less_run (x y : Ent) (w : World) : Calls Try.prog 41 #[x.val, y.val] w fun e w' => e = .returned (.int .i64 (cmpE x y)) ∧ ∃ q os', w' = grow (w.drewN q) os' := by
  have X := EntAt.box w x
  have Y := EntAt.box (w.alloc (ebox x)) y
  have X2 := X.step (bel_new _ (ebox y))
  have Hgr : (w.alloc (ebox x)).alloc (ebox y) = grow w (#[ebox x] ++ #[ebox y]) := by rw [alloc_eq_grow, alloc_eq_grow, grow_grow]
  have HX := Lib.hid X2
  have HY := Lib.hid Y
  have HG := Lib.hid Hgr
  have HCE := Lib.hid (show cmpE x y = or3 (cmpS x.node y.node) (Lib.compareInt x.boot y.boot) (Lib.compareInt x.seq y.seq) from rfl)
  generalize cmpE x y = ce at *
  clear X Y X2 Hgr
  have hs : (w.alloc (ebox x)).heap.size = w.heap.size + 1 := by simp [go_sem]
  rw [hs] at HY
  unfold ebox at *
  unfold Ent.val
  go_enter Try.func41, Try.ntmps41
  go_upto_region 1 with fail
  generalize (w.alloc (.cells #[.string ⟨x.node.toArray⟩, .int .i64 x.boot, .int .i64 x.seq, .int .i64 x.ten, .int .i64 x.hits, .int .i64 x.bytes, .int .i64 x.att] 46)).alloc (.cells #[.string ⟨y.node.toArray⟩, .int .i64 y.boot, .int .i64 y.seq, .int .i64 y.ten, .int .i64 y.hits, .int .i64 y.bytes, .int .i64 y.att] 46) = W at *
  obtain ⟨x0, x1, x2, x3, x4, x5, x6⟩ := HX.out
  obtain ⟨y0, y1, y2, y3, y4, y5, y6⟩ := HY.out
  simp only [Nat.zero_add] at x0 x1 x2 y0 y1 y2
  have CS := Lib.hid (fun W' => cmp_str ⟨x.node.toArray⟩ ⟨y.node.toArray⟩ W')
  simp only [ByteArray.toList_eq] at CS
  clear x3 x4 x5 x6 y3 y4 y5 y6 HX HY
  generalize cmpS x.node y.node = r1 at *
  go_region_held3 (fun w' => w'.cell? ⟨w.heap.size, 0, none⟩ = some (.string ⟨x.node.toArray⟩) ∧ w'.cell? ⟨w.heap.size, 1, none⟩ = some (.int .i64 x.boot) ∧ w'.cell? ⟨w.heap.size, 2, none⟩ = some (.int .i64 x.seq) ∧ w'.cell? ⟨w.heap.size + 1, 0, none⟩ = some (.string ⟨y.node.toArray⟩) ∧ w'.cell? ⟨w.heap.size + 1, 1, none⟩ = some (.int .i64 y.boot) ∧ w'.cell? ⟨w.heap.size + 1, 2, none⟩ = some (.int .i64 y.seq))
    ((go_split_ands; refine ⟨?_, ?_, ?_, ?_, ?_, ?_⟩ <;> (repeat (with_reducible (first | assumption | refine keep_drew ?_ | refine keep_alloc ?_)))))
    (first | (go_at_call 43; refine (CS.out _).mono ?_; rintro e w' ⟨rfl, rfl⟩) | (go_at_call 44; refine (Try.cmp_Compare_int _ _ _).mono ?_; rintro e w' ⟨rfl, rfl⟩) | (go_at_call 42; refine (or_three _ r1 (Lib.compareInt x.boot y.boot) (Lib.compareInt x.seq y.seq) _ (by simp [go_sem]) (by simp [go_sem]) (by simp [go_sem])).mono ?_; rintro e w' ⟨rfl, rfl⟩))
  have hfin : (W.alloc (.cells #[.int .i64 r1, .int .i64 (Lib.compareInt x.boot y.boot), .int .i64 (Lib.compareInt x.seq y.seq)] 3)).drew = grow (w.drewN 1) ((#[ebox x] ++ #[ebox y]) ++ #[.cells #[.int .i64 r1, .int .i64 (Lib.compareInt x.boot y.boot), .int .i64 (Lib.compareInt x.seq y.seq)] 3]) := by
    unfold ebox
    rw [HG.out, alloc_eq_grow, grow_grow]; rfl
  have HFIN := Lib.hid hfin
  clear hfin HG
  go_wp2_with fail
  go_ret
  exact ⟨by rw [HCE.out]; rfl, 1, _, HFIN.out⟩

/-! ### The order -/
theorem less_irrefl : ∀ a : List UInt8, Op.bytesLess a a = false
  | [] => rfl
  | x :: r => by simp [Op.bytesLess, less_irrefl r]
theorem less_trans : ∀ a b c : List UInt8, Op.bytesLess a b = true → Op.bytesLess b c = true → Op.bytesLess a c = true
  | [], [], _, h1, _ => by simp [Op.bytesLess] at h1
  | _ :: _, [], _, h1, _ => by simp [Op.bytesLess] at h1
  | _, _ :: _, [], _, h2 => by simp [Op.bytesLess] at h2
  | [], _ :: _, _ :: _, _, _ => by simp [Op.bytesLess]
  | x :: r, y :: s, z :: t, h1, h2 => by
    simp only [Op.bytesLess, Bool.or_eq_true, Bool.and_eq_true, decide_eq_true_eq, beq_iff_eq] at h1 h2 ⊢
    rcases h1 with h1 | ⟨rfl, h1⟩
    · rcases h2 with h2 | ⟨rfl, h2⟩
      · left
        exact UInt8.lt_iff_toNat_lt.2 (Nat.lt_trans (UInt8.lt_iff_toNat_lt.1 h1) (UInt8.lt_iff_toNat_lt.1 h2))
      · left; exact h1
    · rcases h2 with h2 | ⟨rfl, h2⟩
      · left; exact h2
      · right; exact ⟨rfl, less_trans r s t h1 h2⟩
theorem less_total : ∀ a b : List UInt8, a ≠ b → Op.bytesLess a b = true ∨ Op.bytesLess b a = true
  | [], [], h => absurd rfl h
  | [], _ :: _, _ => .inl rfl
  | _ :: _, [], _ => .inr rfl
  | x :: r, y :: s, h => by
    by_cases hxy : x = y
    · subst hxy
      have hne : r ≠ s := fun e => h (by rw [e])
      rcases less_total r s hne with h1 | h1
      · left; simp [Op.bytesLess, h1]
      · right; simp [Op.bytesLess, h1]
    · have ht : x < y ∨ y < x := by
        rcases Nat.lt_trichotomy x.toNat y.toNat with h1 | h1 | h1
        · exact .inl (UInt8.lt_iff_toNat_lt.2 h1)
        · exact absurd (UInt8.toNat_inj.1 h1) hxy
        · exact .inr (UInt8.lt_iff_toNat_lt.2 h1)
      rcases ht with h1 | h1
      · left; simp [Op.bytesLess, h1]
      · right; simp [Op.bytesLess, h1]
theorem less_asymm {a b : List UInt8} (h : Op.bytesLess a b = true) : Op.bytesLess b a = false := by
  cases hb : Op.bytesLess b a with
  | false => rfl
  | true => have := less_trans a b a h hb; rw [less_irrefl] at this; cases this
/-- x comes before y. -/
def ltE (x y : Ent) : Prop := Op.bytesLess x.node y.node = true ∨ (x.node = y.node ∧ (x.boot < y.boot ∨ (x.boot = y.boot ∧ x.seq < y.seq)))
theorem cmpS_lt {a b : List UInt8} (h : Op.bytesLess a b = true) : cmpS a b = -1 := by unfold cmpS; rw [if_pos h]
theorem cmpS_eq (a : List UInt8) : cmpS a a = 0 := by unfold cmpS; rw [less_irrefl]; simp
theorem cmpS_gt {a b : List UInt8} (h : Op.bytesLess b a = true) : cmpS a b = 1 := by
  unfold cmpS
  rw [less_asymm h]
  have hne : a ≠ b := fun e => by rw [e, less_irrefl] at h; cases h
  simp [hne]
theorem cmpI_lt {a b : Int} (h : a < b) : Lib.compareInt a b = -1 := by unfold Lib.compareInt; rw [if_pos h]
theorem cmpI_eq (a : Int) : Lib.compareInt a a = 0 := by unfold Lib.compareInt; simp
theorem cmpI_gt {a b : Int} (h : b < a) : Lib.compareInt a b = 1 := by unfold Lib.compareInt; rw [if_neg (by omega)]; simp [h]
theorem lt_cmpE (x y : Ent) : cmpE x y < 0 ↔ ltE x y := by
  unfold cmpE ltE
  by_cases hn : x.node = y.node
  · rw [hn, cmpS_eq, less_irrefl]
    rcases Int.lt_trichotomy x.boot y.boot with hb | hb | hb
    · rw [cmpI_lt hb]; simp [or3, hb]
    · rw [hb, cmpI_eq]
      rcases Int.lt_trichotomy x.seq y.seq with hs | hs | hs
      · rw [cmpI_lt hs]; simp [or3, hs]
      · rw [hs, cmpI_eq]; simp [or3]
      · rw [cmpI_gt hs]; simp [or3]; omega
    · rw [cmpI_gt hb]; simp [or3]; omega
  · rcases less_total _ _ hn with h | h
    · rw [cmpS_lt h]; simp [or3, h]
    · rw [cmpS_gt h, less_asymm h]; simp [or3, hn]
theorem ltE_trans {x y z : Ent} (h1 : ltE x y) (h2 : ltE y z) : ltE x z := by
  rcases h1 with h1 | ⟨e1, h1⟩
  · rcases h2 with h2 | ⟨e2, h2⟩
    · exact .inl (less_trans _ _ _ h1 h2)
    · rw [e2] at h1; exact .inl h1
  · rcases h2 with h2 | ⟨e2, h2⟩
    · rw [← e1] at h2; exact .inl h2
    · exact .inr ⟨e1.trans e2, by omega⟩
theorem ltE_irrefl (x : Ent) : ¬ ltE x x := by
  rintro (h | ⟨_, h⟩)
  · rw [less_irrefl] at h; cases h
  · omega
/-- The place of an entry. -/
def sameK (x y : Ent) : Prop := x.node = y.node ∧ x.boot = y.boot ∧ x.seq = y.seq
theorem ltE_total (x y : Ent) : ltE x y ∨ sameK x y ∨ ltE y x := by
  unfold ltE sameK
  by_cases hn : x.node = y.node
  · rw [hn]
    have h3 : (x.boot < y.boot ∨ (x.boot = y.boot ∧ x.seq < y.seq)) ∨ (x.boot = y.boot ∧ x.seq = y.seq) ∨ (y.boot < x.boot ∨ (y.boot = x.boot ∧ y.seq < x.seq)) := by omega
    rcases h3 with h | h | h
    · exact .inl (.inr ⟨rfl, h⟩)
    · exact .inr (.inl ⟨rfl, h⟩)
    · exact .inr (.inr (.inr ⟨rfl, h⟩))
  · rcases less_total _ _ hn with h | h
    · exact .inl (.inl h)
    · exact .inr (.inr (.inl h))
theorem ltE_same {x y z : Ent} (h : sameK x y) : (ltE x z ↔ ltE y z) ∧ (ltE z x ↔ ltE z y) := by
  obtain ⟨h0, h1, h2⟩ := h
  unfold ltE
  rw [h0, h1, h2]
  exact ⟨Iff.rfl, Iff.rfl⟩
theorem swoE : SWO (ltOf cmpE) where
  irrefl x := by
    unfold ltOf
    simp only [decide_eq_false_iff_not]
    rw [lt_cmpE]
    exact ltE_irrefl x
  trans x y z h1 h2 := by
    unfold ltOf at *
    simp only [decide_eq_true_eq] at *
    rw [lt_cmpE] at *
    exact ltE_trans h1 h2
  ntrans x y z h1 h2 := by
    unfold ltOf at *
    simp only [decide_eq_false_iff_not] at *
    rw [lt_cmpE] at *
    intro h
    rcases ltE_total x y with g | g | g
    · exact h1 g
    · exact h2 ((ltE_same g).1.1 h)
    · exact h2 (ltE_trans g h)
end Go.Proofs.Ythhooocckfljaaa
