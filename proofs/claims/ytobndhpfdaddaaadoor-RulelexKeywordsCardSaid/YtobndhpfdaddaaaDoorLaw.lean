/- The walk of the law RulelexKeywords: it returns true wherever the keywords lie as the program's text lays them. -/
import Derived.Test.YtobndhpfdaddaaaDoorKeys
namespace Go.Proofs.YtobndhpfdaddaaaDoor
open Go.RowKit
set_option linter.unusedVariables false
set_option linter.unusedSimpArgs false

theorem mk_size (a : List UInt8) : (ByteArray.mk a.toArray).size = a.length := by simp [ByteArray.size]
theorem data_list (l : List UInt8) : (ByteArray.mk l.toArray).data.toList = l := by simp
theorem run_cat (a b : List UInt8) (ha : a.length ≤ 8388608) (hb : b.length ≤ 8388608) (W : World) :
    (Op.stringOp .add (⟨a.toArray⟩ : ByteArray) ⟨b.toArray⟩).run Tryd.prog W = .ok (.string ⟨(a ++ b).toArray⟩) W := by
  have h1 : ((ByteArray.mk a.toArray).size : Int) ≤ 8388608 := by rw [mk_size]; omega
  have h2 : ((ByteArray.mk b.toArray).size : Int) ≤ 8388608 := by rw [mk_size]; omega
  rw [run_string_add W _ _ h1 h2, ByteArray.mk_append_mk]
theorem kws_facts : ∀ g ∈ kws, splitT g = some [⟨1, g, 1, 1⟩, ⟨5, [], 1, 1 + (g.length : Int)⟩] ∧ (g ++ [120]) ∉ kws ∧ g.length ≤ 8 := by decide
theorem kw_split (g : List UInt8) (h : g ∈ kws) (W : World) : Calls Tryd.prog 6 #[.string ⟨g.toArray⟩] W fun e w' => (∃ b c, e = .returned (.tuple #[.slice (some ⟨b, 0, none⟩) 2 c, .nilIface]) ∧ w'.cell? ⟨b, 0, none⟩ = some (.int .i64 1)) ∧ Below W.heap.size W w' := by
  obtain ⟨h1, h2, h3⟩ := kws_facts g h
  refine (split_any _ W (by rw [mk_size]; omega)).mono ?_
  rintro e w' ⟨h, hb⟩
  rw [data_list, h1] at h
  obtain ⟨v, rfl, ho⟩ := h
  rcases ho.isK with ⟨h, _⟩ | ⟨_, b, c, rfl, hc⟩
  · cases h
  · exact ⟨⟨b, c, rfl, (hc 0 _ rfl).1⟩, hb⟩
theorem kw_yes (g : List UInt8) (h : g ∈ kws) (W : World) (hk : KW W) : Calls Tryd.prog 7 #[.string ⟨g.toArray⟩] W fun e w' => e = .returned (.bool true) ∧ W = w' := by
  have := keyword_any ⟨g.toArray⟩ W hk
  rwa [data_list, decide_eq_true h] at this
theorem kw_no (g : List UInt8) (h : g ∈ kws) (W : World) (hk : KW W) : Calls Tryd.prog 7 #[.string ⟨(g ++ [120]).toArray⟩] W fun e w' => e = .returned (.bool false) ∧ W = w' := by
  have := keyword_any ⟨(g ++ [120]).toArray⟩ W hk
  rwa [data_list, decide_eq_false (kws_facts g h).2.1] at this
set_option maxRecDepth 20000 in
set_option maxHeartbeats 4000000 in
theorem keywords_walk (s : ByteArray) (w : World) (hk : KW w) : Calls Tryd.prog 3 #[.string s] w fun e w' => e = .returned (.bool true) ∧ Below w.heap.size w w' := by
  have HK := Lib.hid hk
  clear hk
  go_enter Tryd.func3, Tryd.ntmps3
  go_wp2_with (first | (go_at_call 4; refine (awake_any _).mono ?_; rintro e w1 ⟨rfl, hb1⟩; have HB1 := Lib.hid hb1; clear hb1) | (go_at_call 5; refine (keywords_any _).mono ?_; rintro e w2 ⟨⟨b, rfl, ht⟩, hb⟩; have HT := Lib.hid ht; have HB2 := Lib.hid (bel_step HB1.out hb); clear ht hb))
  go_loopw [11] (fun i wr => ∃ k : Nat, i = .int .i64 k ∧ k ≤ 17 ∧ Below w2.heap.size w2 wr) (fun i _ => 17 - (intOf i).toNat)
  case atStart => exact ⟨0, rfl, by omega, Below.refl _ _⟩
  case round =>
    obtain ⟨k, rfl, hk, hb⟩ := hrel
    have HB3 := Lib.hid hb
    have HKW := Lib.hid (HK.out.step (HB2.out.trans (hb.mono HB2.out.size)))
    have htt := HT.out.step hb
    clear hb
    by_cases hlt : k < 17
    · have hg : kws[k]? = some (kws[k]'hlt) := List.getElem?_eq_getElem hlt
      generalize kws[k]'hlt = g at hg
      have hcell := htt k g hg
      rw [Nat.zero_add] at hcell
      have HG := Lib.hid (List.mem_of_getElem? hg)
      have hk0 : (0 : Int) ≤ (k : Int) := by omega
      have hcat := run_cat g [120] (by have := (kws_facts g HG.out).2.2; omega) (by simp)
      clear hg htt
      go_upto_region 7 with (go_at_call 6; refine (kw_split g HG.out _).mono ?_; rintro e w4 ⟨⟨bq, cq, rfl, hc0⟩, hb4⟩; have HB4 := Lib.hid (HB3.out.trans (hb4.mono HB3.out.size)); have HKW4 := Lib.hid (HKW.out.step hb4); clear hb4)
      go_wp2_with (first | (go_at_call 7; refine (kw_yes g HG.out _ HKW4.out).mono ?_; rintro e w5 ⟨rfl, rfl⟩) | (go_at_call 7; refine (kw_no g HG.out _ HKW4.out).mono ?_; rintro e w5 ⟨rfl, rfl⟩))
      go_roundw
      case rel => exact ⟨k + 1, by go_num, by omega, HB4.out⟩
      case measure => simp [intOf]; omega
    · obtain rfl : k = 17 := by omega
      go_wp2_with (first | (go_at_call 7; refine (keyword_any s _ HKW.out).mono ?_; rintro e w5 ⟨rfl, rfl⟩) | (go_at_call 8; refine (rkeyword_any s _).mono ?_; rintro e w6 ⟨rfl, hb6⟩))
      go_ret
      exact ⟨ret_bool (by simp), (HB2.out.trans (HB3.out.mono HB2.out.size)).trans (hb6.mono (HB2.out.trans (HB3.out.mono HB2.out.size)).size)⟩
end Go.Proofs.YtobndhpfdaddaaaDoor
