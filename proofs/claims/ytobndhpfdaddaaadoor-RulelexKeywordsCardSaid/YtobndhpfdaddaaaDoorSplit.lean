/- The walk of Split. No condition beyond a text's length. -/
import Derived.Test.YtobndhpfdaddaaaDoorToks2
namespace Go.Proofs.YtobndhpfdaddaaaDoor
open Go.RowKit
set_option linter.unusedVariables false
set_option linter.unusedSimpArgs false

/-- What Split returns, of what the division is. -/
def SplitE (T : TypeId) (base : Nat) (w' : World) (bad good : Value) : Option (List Tok) → Ending → Prop
  | none, e => e = .returned (.tuple #[.slice none 0 0, bad])
  | some ts, e => ∃ v, e = .returned (.tuple #[v, good]) ∧ OwnK T w' base v ts
theorem tail_list (s : ByteArray) (k : Nat) : (s.extract k s.size).data.toList = s.data.toList.drop k := by
  rw [extract_list]
  simp only [List.toList_toArray]
  rw [List.take_of_length_le]
  rw [List.length_drop, size_list]
  omega
theorem tail_size (s : ByteArray) (k : Nat) : (s.extract k s.size).size = s.size - k := by
  rw [← size_list, tail_list, List.length_drop, size_list]
theorem tok_tail (s : ByteArray) (w : World) (k : Nat) (hs : s.size ≤ 100000) (hk : k < s.size) :
    Calls Tryd.prog 9 #[.string (s.extract k s.size)] w fun e w' => e = .returned (tokV (tokP (s.data.toList.drop k))) ∧ Below w.heap.size w w' := by
  have := token_any (s.extract k s.size) w (by rw [tail_size]; omega) (by rw [tail_size]; omega)
  rwa [tail_list] at this
/-- What is still to be divided behind the tokens ts. -/
def restS (ts : List Tok) (s : List UInt8) (l c : Int) : Option (List Tok) := (splitS s 0 l c).map (ts ++ ·)
theorem rest_none {ts : List Tok} {s : List UInt8} {l c : Int} (h : splitS s 0 l c = none) : restS ts s l c = none := by rw [restS, h]; rfl
theorem rest_end (ts : List Tok) (l c : Int) : restS ts [] l c = some (ts ++ [⟨5, [], l, c⟩]) := rfl
theorem rest_same {ts : List Tok} {s s' : List UInt8} {l c l' c' : Int} (h : splitS s 0 l c = splitS s' 0 l' c') : restS ts s l c = restS ts s' l' c' := by rw [restS, h]; rfl
theorem rest_tok {ts : List Tok} {s s' : List UInt8} {l c l' c' : Int} {t : Tok} (h : splitS s 0 l c = (splitS s' 0 l' c').map (t :: ·)) : restS ts s l c = restS (ts ++ [t]) s' l' c' := by
  rw [restS, restS, h, Option.map_map]
  congr 1
  funext x
  simp
set_option maxRecDepth 20000 in
set_option maxHeartbeats 4000000 in
theorem split_any (s : ByteArray) (w : World) (hs : s.size ≤ 4096) :
    Calls Tryd.prog 6 #[.string s] w fun e w' => SplitE 32 w.heap.size w' (.iface 33 (.int .i64 2)) .nilIface (splitT s.data.toList) e ∧ Below w.heap.size w w' := by
  have hsi : (s.size : Int) ≤ 4096 := by omega
  obtain ⟨R, hR⟩ : ∃ R, splitT s.data.toList = R := ⟨_, rfl⟩
  rw [hR]
  have HR0 := Lib.hid (show restS [] (s.data.toList.drop 0) ((1 : Nat) : Int) (((0 : Nat) : Int) - ((0 : Nat) : Int) + 1) = R by
    rw [← hR, restS, splitT, List.drop_zero]; simp)
  clear hR
  go_enter Tryd.func6, Tryd.ntmps6
  go_wp2_with fail
  go_loopw [4, 5, 6, 7] (fun u l b i wr => ∃ (k line bg : Nat) (ts : List Tok), i = .int .i64 k ∧ l = .int .i64 line ∧ b = .int .i64 bg ∧ bg ≤ k ∧ k ≤ s.size ∧ line ≤ k + 1 ∧ ts.length ≤ k ∧ OwnK 32 wr w.heap.size u ts ∧ restS ts (s.data.toList.drop k) (line : Int) ((k : Int) - (bg : Int) + 1) = R ∧ Below w.heap.size w wr) (fun _ _ _ i _ => s.size - (intOf i).toNat)
  case atStart => exact ⟨0, 1, 0, [], rfl, rfl, rfl, by omega, by omega, by omega, by simp, OwnK.nil _ _ _, HR0.out, Below.refl _ _⟩
  case round =>
    obtain ⟨k, line, bg, ts, rfl, rfl, rfl, hbg, hk, hline, htl, ho, hq, hb⟩ := hrel
    have HO := Lib.hid ho
    have HB := Lib.hid hb
    have HQ := Lib.hid hq
    clear ho hb hq
    by_cases hlt : k < s.size
    · have HDR := Lib.hid (drop_cons s k hlt)
      have hcb := s[k].toNat_lt
      have hk0 : (0 : Int) ≤ (k : Int) := by omega
      have hki : (k : Int) < (s.size : Int) := by omega
      by_cases h10 : s[k].toNat = 10
      · have g1 : ((s[k].toNat : Int) == 10) = true := beq_iff_eq.2 (by omega)
        have HQ2 := Lib.hid (show restS ts (s.data.toList.drop (k + 1)) ((line + 1 : Nat) : Int) (((k + 1 : Nat) : Int) - ((k + 1 : Nat) : Int) + 1) = R by
          rw [← HQ.out, HDR.out]; exact rest_same (by rw [split_nl h10]; congr 1; omega))
        clear HDR HQ hcb h10
        go_wp2_with fail
        go_roundw
        case rel => exact ⟨k + 1, line + 1, k + 1, ts, by go_num, by go_num, by go_num, by omega, by omega, by omega, by omega, HO.out, HQ2.out, HB.out⟩
        case measure => simp [intOf]; omega
      · have g1 : ((s[k].toNat : Int) == 10) = false := beq_eq_false_iff_ne.2 (by omega)
        by_cases hbl : s[k].toNat = 32 ∨ s[k].toNat = 9 ∨ s[k].toNat = 13
        · have HQ2 := Lib.hid (show restS ts (s.data.toList.drop (k + 1)) (line : Int) (((k + 1 : Nat) : Int) - (bg : Int) + 1) = R by
            rw [← HQ.out, HDR.out]; exact rest_same (by rw [split_blank hbl]; congr 1; omega))
          have g2 : (((s[k].toNat : Int) == 32) = true) ∨ (((s[k].toNat : Int) == 32) = false ∧ ((s[k].toNat : Int) == 9) = true) ∨ (((s[k].toNat : Int) == 32) = false ∧ ((s[k].toNat : Int) == 9) = false ∧ ((s[k].toNat : Int) == 13) = true) := by
            rcases hbl with h | h | h <;> simp [h]
          clear HDR HQ hcb h10 hbl
          rcases g2 with g2 | ⟨g2, g3⟩ | ⟨g2, g3, g4⟩
          all_goals
            go_wp2_with fail
            go_roundw
            case rel => exact ⟨k + 1, line, bg, ts, by go_num, by go_num, by go_num, by omega, by omega, by omega, by omega, HO.out, HQ2.out, HB.out⟩
            case measure => simp [intOf]; omega
        · have g2 : ((s[k].toNat : Int) == 32) = false := beq_eq_false_iff_ne.2 (by omega)
          have g3 : ((s[k].toNat : Int) == 9) = false := beq_eq_false_iff_ne.2 (by omega)
          have g4 : ((s[k].toNat : Int) == 13) = false := beq_eq_false_iff_ne.2 (by omega)
          by_cases h35 : s[k].toNat = 35
          · have g5 : ((s[k].toNat : Int) == 35) = true := beq_iff_eq.2 (by omega)
            obtain ⟨N, hN⟩ : ∃ N, k + ((s.data.toList.drop k).takeWhile notNl).length = N := ⟨_, rfl⟩
            have hN1 : k + 1 + ((s.data.toList.drop (k + 1)).takeWhile notNl).length = N := by
              rw [← hN, HDR.out, List.takeWhile_cons_of_pos (by simp [notNl, h10])]; simp; omega
            have HQ2 := Lib.hid (show restS ts (s.data.toList.drop N) (line : Int) ((N : Int) - (bg : Int) + 1) = R by
              rw [← HQ.out, HDR.out]
              refine (rest_same ?_).symm
              rw [split_note h35, List.drop_drop, hN1]
              congr 1
              omega)
            have hN2 : N ≤ s.size := by
              have := takeWhile_len notNl (s.data.toList.drop (k + 1))
              rw [List.length_drop, size_list] at this
              omega
            have hN3 : k + 1 ≤ N := by omega
            have HN := Lib.hid hN
            clear HDR HQ hcb h10 h35 hN hN1 hbl
            go_wp2_with fail
            go_loop [7] (fun i => ∃ j : Nat, i = .int .i64 j ∧ k ≤ j ∧ j ≤ s.size ∧ j + ((s.data.toList.drop j).takeWhile notNl).length = N) (fun i => s.size - (intOf i).toNat)
            case atStart => exact ⟨k, rfl, by omega, by omega, HN.out⟩
            case round =>
              obtain ⟨j, rfl, hj1, hj, hjq⟩ := hrel
              have HJ := Lib.hid hjq
              clear hjq
              by_cases hjlt : j < s.size
              · have HDJ := Lib.hid (drop_cons s j hjlt)
                have hcb := s[j].toNat_lt
                have hj0 : (0 : Int) ≤ (j : Int) := by omega
                have hji : (j : Int) < (s.size : Int) := by omega
                by_cases hjn : s[j].toNat = 10
                · have f1 : ((s[j].toNat : Int) != 10) = false := by simp [hjn]
                  have HJ2 := Lib.hid (show j = N by
                    rw [← HJ.out, HDJ.out, List.takeWhile_cons_of_neg (by simp [notNl, hjn])]; simp)
                  clear HDJ HJ hcb hjn
                  go_wp2_with fail
                  go_roundw
                  case rel => exact ⟨N, line, bg, ts, by rw [HJ2.out], by go_num, by go_num, by omega, by omega, by omega, by omega, HO.out, HQ2.out, HB.out⟩
                  case measure => rw [HJ2.out]; simp [intOf]; omega
                · have f1 : ((s[j].toNat : Int) != 10) = true := bne_iff_ne.2 (by omega)
                  have HJ2 := Lib.hid (show j + 1 + ((s.data.toList.drop (j + 1)).takeWhile notNl).length = N by
                    rw [← HJ.out, HDJ.out, List.takeWhile_cons_of_pos (by simp [notNl, hjn])]; simp; omega)
                  clear HDJ HJ hcb hjn
                  go_wp2_with fail
                  go_round
                  case rel => exact ⟨j + 1, by go_num, by omega, by omega, HJ2.out⟩
                  case measure => simp [intOf]; omega
              · have hji : ¬ (j : Int) < (s.size : Int) := by omega
                have HJ2 := Lib.hid (show j = N by
                  rw [← HJ.out, List.drop_of_length_le (by rw [size_list]; omega)]; simp)
                clear HJ
                go_wp2_with fail
                go_roundw
                case rel => exact ⟨N, line, bg, ts, by rw [HJ2.out], by go_num, by go_num, by omega, by omega, by omega, by omega, HO.out, HQ2.out, HB.out⟩
                case measure => rw [HJ2.out]; simp [intOf]; omega
          · have g5 : ((s[k].toNat : Int) == 35) = false := beq_eq_false_iff_ne.2 (by omega)
            have hpl : plainB s[k] := ⟨h10, by omega, by omega, by omega, h35⟩
            have htk := fun W => tok_tail s W k (by omega) hlt
            rw [HDR.out] at htk
            have hln := tokP_len (s[k] :: s.data.toList.drop (k + 1))
            rw [← HDR.out, List.length_drop, size_list, HDR.out] at hln
            by_cases hz : (tokP (s[k] :: s.data.toList.drop (k + 1))).2.1 = 0
            · have HQ2 := Lib.hid (show none = R by
                rw [← HQ.out, HDR.out]; exact (rest_none (split_bad hpl hz)).symm)
              generalize tokP (s[k] :: s.data.toList.drop (k + 1)) = t at htk hz hln
              obtain ⟨kd, n, tx⟩ := t
              dsimp only at hz hln
              subst hz
              unfold tokV at htk
              have HTK := Lib.hid htk
              clear htk HDR HQ hcb h10 hbl h35 hpl
              go_wp2_with (go_at_call 9; refine (HTK.out _).mono ?_; rintro e w1 ⟨rfl, hb1⟩)
              go_ret2
              exact ⟨by rw [← HQ2.out]; rfl, HB.out.trans (hb1.mono HB.out.size)⟩
            · have hqq := show restS (ts ++ [⟨((tokP (s[k] :: s.data.toList.drop (k + 1))).1 : Int), (tokP (s[k] :: s.data.toList.drop (k + 1))).2.2, (line : Int), (k : Int) - (bg : Int) + 1⟩]) (s.data.toList.drop (k + (tokP (s[k] :: s.data.toList.drop (k + 1))).2.1)) (line : Int) (((k + (tokP (s[k] :: s.data.toList.drop (k + 1))).2.1 : Nat) : Int) - (bg : Int) + 1) = R by
                rw [← HQ.out, HDR.out]
                refine (rest_tok ?_).symm
                rw [split_tok hpl hz, ← HDR.out, List.drop_drop]
                congr 2
                omega
              generalize tokP (s[k] :: s.data.toList.drop (k + 1)) = t at htk hz hln hqq
              obtain ⟨kd, n, tx⟩ := t
              dsimp only at hz hln hqq
              unfold tokV at htk
              have HTK := Lib.hid htk
              have HQ2 := Lib.hid hqq
              have hz1 : 1 ≤ n := by omega
              have hz0 : ((n : Int) == 0) = false := beq_eq_false_iff_ne.2 (by omega)
              have hzi : ¬ (n : Int) = 0 := by omega
              clear htk HDR HQ hcb h10 hbl h35 hpl hqq hz
              go_wp2_with (first | (go_at_call 9; refine (HTK.out _).mono ?_; rintro e w1 ⟨rfl, hb1⟩; have HB1 := Lib.hid hb1; have HO1 := Lib.hid (HO.out.step hb1); have HB2 := Lib.hid (HB.out.trans (hb1.mono HB.out.size)); clear hb1) | (at_builtin; refine wpList_appK 25 32 Tryd.underlying25 info39 rfl (.tmp 60) (.tmp 69) rfl w.heap.size _ ts rfl (HO1.out.step (bel_new _ _)) _ ⟨(kd : Int), tx, (line : Int), (k : Int) - (bg : Int) + 1⟩ rfl (tok_cells 32 _ _) (by omega) (by have := HB2.out.size; simp; omega) ?_; intro v' w2 hown' hb' hz'))
              go_roundw
              case rel => exact ⟨k + n, line, bg, _, by go_num, by go_num, by go_num, by omega, by omega, by omega, by simp; omega, hown', HQ2.out, (HB2.out.trans ((bel_new w1 _).mono HB2.out.size)).trans hb'⟩
              case measure => simp [intOf]; omega
    · obtain rfl : k = s.size := by omega
      have HQ2 := Lib.hid (show some (ts ++ [⟨5, [], (line : Int), (s.size : Int) - (bg : Int) + 1⟩]) = R by
        rw [← HQ.out, List.drop_of_length_le (by rw [size_list]; omega), rest_end])
      clear HQ
      go_wp2_with (at_builtin; refine wpList_appK 25 32 Tryd.underlying25 info39 rfl (.tmp 74) (.tmp 82) rfl w.heap.size _ ts rfl (HO.out.step (bel_new _ _)) _ ⟨5, [], (line : Int), (s.size : Int) - (bg : Int) + 1⟩ rfl (tok_cells 32 _ _) (by omega) (by have := HB.out.size; simp; omega) ?_; intro v' w1 hown' hb' hz')
      go_ret2
      exact ⟨by rw [← HQ2.out]; exact ⟨_, rfl, hown'⟩, (HB.out.trans ((bel_new wr _).mono HB.out.size)).trans hb'⟩
end Go.Proofs.YtobndhpfdaddaaaDoor
