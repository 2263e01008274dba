/- slices.Collect and slices.SortedFunc of maps.Values; (*Set).List. No condition but that the set has fewer than a million entries. -/
import Derived.Test.YthhooocckfljaaaSort
namespace Go.Proofs.Ythhooocckfljaaa
open Go.RowKit Go.Maps Go.Shelf
set_option linter.unusedVariables false
set_option linter.unusedSimpArgs false

theorem collect_run (Bm b : Nat) (S : List Ent) (w : World) (hBm : Bm < w.heap.size) (hm : w.cell? ⟨Bm, 0, none⟩ = some (.map (some b))) (hown : IsM w b S) (hl : S.length ≤ 1000000) :
    Calls Try.prog 50 #[.func (.func 52) #[] #[.pointer (some ⟨Bm, 0, none⟩)]] w fun e w' => ∃ (v : Value) (es : List Ent), e = .returned v ∧ AllOf S es ∧ OwnE w' w.heap.size v es ∧ Below w.heap.size w w' := by
  have eg : ∀ args w, (callFunc 52 args).run Try.prog w = .ok (.enter 52 args) w := enters_of Try.func52 (by kernel_rfl) rfl
  have HA := Lib.hid (callsIn_wide.1 (appendSeq_in 9 (by omega) 52 #[.pointer (some ⟨Bm, 0, none⟩)] eg (AllOf S) S.length hl w (vals_gives 8 (by omega) Bm b S w hBm hm hown)))
  clear hm hown
  go_enter Try.func50, Try.ntmps50
  go_wp2_with (go_at_call 58; refine (HA.out).mono ?_; rintro e w' ⟨v, es, rfl, hS, hrow, hb⟩)
  go_ret
  exact ⟨v, es, rfl, hS, hrow, hb⟩
theorem allOf_perm {S es fs : List Ent} (h : AllOf S es) (hp : fs.Perm es) : AllOf S fs :=
  ⟨hp.nodup_iff.2 h.1, fun e => (hp.mem_iff).trans (h.2 e)⟩
theorem allOf_len {S es : List Ent} (h : AllOf S es) : es.length ≤ S.length := nodup_le es S h.1 fun e he => (h.2 e).1 he
theorem sorted_run (Bm b : Nat) (S : List Ent) (w : World) (hBm : Bm < w.heap.size) (hm : w.cell? ⟨Bm, 0, none⟩ = some (.map (some b))) (hown : IsM w b S) (hl : S.length ≤ 1000000) :
    Calls Try.prog 39 #[.func (.func 52) #[] #[.pointer (some ⟨Bm, 0, none⟩)], .func (.func 41) #[] #[]] w fun e w' => ∃ (v : Value) (es : List Ent), e = .returned v ∧ AllOf S es ∧ Ordered es ∧ OwnE w' w.heap.size v es ∧ Below w.heap.size w w' := by
  have HC := Lib.hid (collect_run Bm b S w hBm hm hown hl)
  clear hm hown
  go_enter Try.func39, Try.ntmps39
  go_upto_region 2 with (go_at_call 50; refine (HC.out).mono ?_; rintro e w1 ⟨v, es, rfl, hS, hrow, hb⟩)
  have HS := Lib.hid (sort_some w.heap.size v es w1 hrow hb.size (Nat.le_trans (allOf_len hS) hl))
  have HB := Lib.hid hb
  have HA := Lib.hid hS
  clear hrow hb hS HC
  go_wp2_with (go_at_call 51; refine (HS.out).mono ?_; rintro e w2 ⟨rfl, fs, hp, ho, hrow2, hb2⟩)
  go_ret
  exact ⟨v, fs, rfl, allOf_perm HA.out hp, ho, hrow2, HB.out.trans hb2⟩
/-- A set in memory: the pointer p's block holds the map in block b. -/
def IsSet (w : World) (p b : Nat) (S : List Ent) : Prop := w.cell? ⟨p, 0, none⟩ = some (.map (some b)) ∧ IsM w b S
theorem IsSet.step {w w' : World} {p b B : Nat} {S : List Ent} (h : IsSet w p b S) (hb : Below B w w') (hp : p < B) (hB : b < B) : IsSet w' p b S :=
  ⟨keep_lt hb hp h.1, h.2.step hb hB⟩
theorem list_run (p b : Nat) (S : List Ent) (w : World) (h : IsSet w p b S) (hl : S.length ≤ 1000000) :
    Calls Try.prog 28 #[.pointer (some ⟨p, 0, none⟩)] w fun e w' => ∃ (v : Value) (es : List Ent), e = .returned v ∧ AllOf S es ∧ Ordered es ∧ OwnE w' w.heap.size v es ∧ Below w.heap.size w w' := by
  obtain ⟨hc, hm⟩ := h
  have hn1 := bel_new w (.cells #[.map (some b)] 78)
  have HN := Lib.hid hn1
  have HS := Lib.hid (sorted_run w.heap.size b S (w.alloc (.cells #[.map (some b)] 78)) (by simp) (by simp [go_sem]) (hm.step hn1 hm.lt) hl)
  have hz : w.heap.size < (w.alloc (.cells #[.map (some b)] 78)).heap.size := by simp
  clear hm hn1
  go_enter Try.func28, Try.ntmps28
  go_wp2_with (first | (go_at_call 40; refine (values_run _ _).mono ?_; rintro e w1 ⟨rfl, rfl⟩) | (go_at_call 39; refine (HS.out).mono ?_; rintro e w2 ⟨v, es, rfl, hA, ho, hrow, hb⟩))
  go_ret
  exact ⟨v, es, rfl, hA, ho, hrow.mono (Nat.le_of_lt hz), HN.out.trans (hb.mono (Nat.le_of_lt hz))⟩
end Go.Proofs.Ythhooocckfljaaa
