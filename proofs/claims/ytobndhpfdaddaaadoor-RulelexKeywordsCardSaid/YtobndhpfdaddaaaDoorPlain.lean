/- What a division into tokens is, in plain Lean. No condition. -/
import Derived.Test.YtobndhpfdaddaaaDoorLex
namespace Go.Proofs.YtobndhpfdaddaaaDoor
open Go.RowKit
set_option linter.unusedVariables false
set_option linter.unusedSimpArgs false

def wordB (c : UInt8) : Bool := letN c.toNat || digN c.toNat
def digB (c : UInt8) : Bool := digN c.toNat
def notNl (c : UInt8) : Bool := decide (c.toNat ≠ 10)
def signs : List (List UInt8) := [[61, 61], [33, 61], [60, 61], [60], [43], [45], [42], [40], [41], [123], [125], [44], [59], [61]]
def signP (s : List UInt8) : Option (List UInt8) := signs.find? (fun g => g.isPrefixOf s)
/-- The kind, the length and the text of the token at the beginning; length 0: there is none. -/
def tokP : List UInt8 → Nat × Nat × List UInt8
  | [] => (0, 0, [])
  | c :: r =>
    if letN c.toNat then (1, 1 + (r.takeWhile wordB).length, c :: r.takeWhile wordB)
    else if digN c.toNat then (if 9 < 1 + (r.takeWhile digB).length then (0, 0, []) else (2, 1 + (r.takeWhile digB).length, c :: r.takeWhile digB))
    else if c.toNat = 34 then (3, quoP r 1 [])
    else match signP (c :: r) with
      | some g => (4, g.length, g)
      | none => (0, 0, [])
/-- The tokens: k bytes of the token before are still to be passed. -/
def splitS : List UInt8 → Nat → Int → Int → Option (List Tok)
  | [], _, l, c => some [⟨5, [], l, c⟩]
  | x :: r, k + 1, l, c => splitS r k l (c + 1)
  | x :: r, 0, l, c =>
    if x.toNat = 10 then splitS r 0 (l + 1) 1
    else if x.toNat = 32 ∨ x.toNat = 9 ∨ x.toNat = 13 then splitS r 0 l (c + 1)
    else if x.toNat = 35 then splitS r (r.takeWhile notNl).length l (c + 1)
    else if (tokP (x :: r)).2.1 = 0 then none
    else (splitS r ((tokP (x :: r)).2.1 - 1) l (c + 1)).map (⟨((tokP (x :: r)).1 : Int), (tokP (x :: r)).2.2, l, c⟩ :: ·)
def splitT (s : List UInt8) : Option (List Tok) := splitS s 0 1 1

theorem splitS_drop (k : Nat) : ∀ (s : List UInt8) (l c : Int), k ≤ s.length → splitS s k l c = splitS (s.drop k) 0 l (c + k) := by
  induction k with
  | zero => intro s l c h; simp
  | succ k ih =>
    intro s l c h
    match s, h with
    | x :: r, h =>
      rw [splitS, ih r l (c + 1) (by simpa using h), List.drop_succ_cons]
      congr 1
      omega

/-- Whole text of a list, as the walks hold it. -/
theorem takeWhile_len {α : Type} (p : α → Bool) (l : List α) : (l.takeWhile p).length ≤ l.length := by
  induction l with
  | nil => simp
  | cons a r ih =>
    rw [List.takeWhile_cons]
    split
    · simpa using ih
    · simp
theorem quoP_len : ∀ (s : List UInt8) (i : Nat) (out : List UInt8), (quoP s i out).1 = 0 ∨ (i + 1 ≤ (quoP s i out).1 ∧ (quoP s i out).1 ≤ i + s.length)
  | [], i, out => .inl rfl
  | c :: r, i, out => by
    unfold quoP
    split
    · right; simp
    · split
      · match r with
        | [] => exact .inl rfl
        | d :: r' =>
          simp only []
          split
          · rcases quoP_len r' (i + 2) (out ++ [d]) with h | h
            · exact .inl h
            · right; simp only [List.length_cons]; omega
          · exact .inl rfl
      · split
        · exact .inl rfl
        · rcases quoP_len r (i + 1) (out ++ [c]) with h | h
          · exact .inl h
          · right; simp only [List.length_cons]; omega
theorem sign_mem {s g : List UInt8} (h : signP s = some g) : g ∈ signs ∧ g <+: s := by
  have h1 := List.mem_of_find?_eq_some h
  have h2 := List.find?_some h
  exact ⟨h1, by simpa using h2⟩
theorem sign_pos {g : List UInt8} (h : g ∈ signs) : 1 ≤ g.length ∧ g.length ≤ 2 := by
  revert g
  decide
theorem tokP_word {c : UInt8} {r : List UInt8} (h : letN c.toNat = true) : tokP (c :: r) = (1, 1 + (r.takeWhile wordB).length, c :: r.takeWhile wordB) := by
  rw [tokP, if_pos h]
theorem tokP_long {c : UInt8} {r : List UInt8} (h0 : letN c.toNat = false) (h : digN c.toNat = true) (h9 : 9 < 1 + (r.takeWhile digB).length) : tokP (c :: r) = (0, 0, []) := by
  rw [tokP, if_neg (by simp [h0]), if_pos h, if_pos h9]
theorem tokP_dig {c : UInt8} {r : List UInt8} (h0 : letN c.toNat = false) (h : digN c.toNat = true) (h9 : ¬ 9 < 1 + (r.takeWhile digB).length) : tokP (c :: r) = (2, 1 + (r.takeWhile digB).length, c :: r.takeWhile digB) := by
  rw [tokP, if_neg (by simp [h0]), if_pos h, if_neg h9]
theorem tokP_quo {c : UInt8} {r : List UInt8} (h0 : letN c.toNat = false) (h1 : digN c.toNat = false) (h : c.toNat = 34) : tokP (c :: r) = (3, quoP r 1 []) := by
  rw [tokP, if_neg (by simp [h0]), if_neg (by simp [h1]), if_pos h]
theorem tokP_sign {c : UInt8} {r g : List UInt8} (h0 : letN c.toNat = false) (h1 : digN c.toNat = false) (h : c.toNat ≠ 34) (hg : signP (c :: r) = some g) : tokP (c :: r) = (4, g.length, g) := by
  rw [tokP, if_neg (by simp [h0]), if_neg (by simp [h1]), if_neg h, hg]
theorem tokP_none {c : UInt8} {r : List UInt8} (h0 : letN c.toNat = false) (h1 : digN c.toNat = false) (h : c.toNat ≠ 34) (hg : signP (c :: r) = none) : tokP (c :: r) = (0, 0, []) := by
  rw [tokP, if_neg (by simp [h0]), if_neg (by simp [h1]), if_neg h, hg]
theorem tokP_len (s : List UInt8) : (tokP s).2.1 ≤ s.length := by
  match s with
  | [] => simp [tokP]
  | c :: r =>
    have a1 := takeWhile_len wordB r
    have a2 := takeWhile_len digB r
    simp only [List.length_cons]
    cases h0 : letN c.toNat with
    | true => rw [tokP_word h0]; simp only []; omega
    | false =>
      cases h1 : digN c.toNat with
      | true =>
        by_cases h9 : 9 < 1 + (r.takeWhile digB).length
        · rw [tokP_long h0 h1 h9]; simp
        · rw [tokP_dig h0 h1 h9]; simp only []; omega
      | false =>
        by_cases h : c.toNat = 34
        · rw [tokP_quo h0 h1 h]
          rcases quoP_len r 1 [] with h | h
          · simp only [h]; omega
          · simp only []; omega
        · cases hg : signP (c :: r) with
          | none => rw [tokP_none h0 h1 h hg]; simp
          | some g =>
            rw [tokP_sign h0 h1 h hg]
            simpa using (sign_mem hg).2.length_le
/-- One step, at a byte x that is not passed over. -/
theorem split_nl {x : UInt8} {r : List UInt8} {l c : Int} (h : x.toNat = 10) : splitS (x :: r) 0 l c = splitS r 0 (l + 1) 1 := by
  rw [splitS, if_pos h]
theorem split_blank {x : UInt8} {r : List UInt8} {l c : Int} (h : x.toNat = 32 ∨ x.toNat = 9 ∨ x.toNat = 13) : splitS (x :: r) 0 l c = splitS r 0 l (c + 1) := by
  rw [splitS, if_neg (by omega), if_pos h]
theorem split_note {x : UInt8} {r : List UInt8} {l c : Int} (h : x.toNat = 35) : splitS (x :: r) 0 l c = splitS (r.drop (r.takeWhile notNl).length) 0 l (c + 1 + ((r.takeWhile notNl).length : Nat)) := by
  rw [splitS, if_neg (by omega), if_neg (by omega), if_pos h, splitS_drop _ _ _ _ (takeWhile_len _ _)]
def plainB (x : UInt8) : Prop := x.toNat ≠ 10 ∧ x.toNat ≠ 32 ∧ x.toNat ≠ 9 ∧ x.toNat ≠ 13 ∧ x.toNat ≠ 35
theorem split_bad {x : UInt8} {r : List UInt8} {l c : Int} (h : plainB x) (h0 : (tokP (x :: r)).2.1 = 0) : splitS (x :: r) 0 l c = none := by
  obtain ⟨a, b, d, e, f⟩ := h
  rw [splitS, if_neg a, if_neg (by omega), if_neg f, if_pos h0]
theorem split_tok {x : UInt8} {r : List UInt8} {l c : Int} (h : plainB x) (h0 : (tokP (x :: r)).2.1 ≠ 0) :
    splitS (x :: r) 0 l c = (splitS ((x :: r).drop (tokP (x :: r)).2.1) 0 l (c + ((tokP (x :: r)).2.1 : Nat))).map (⟨((tokP (x :: r)).1 : Int), (tokP (x :: r)).2.2, l, c⟩ :: ·) := by
  obtain ⟨a, b, d, e, f⟩ := h
  have hl := tokP_len (x :: r)
  simp only [List.length_cons] at hl
  rw [splitS, if_neg a, if_neg (by omega), if_neg f, if_neg h0, splitS_drop _ _ _ _ (by omega)]
  obtain ⟨n, hn⟩ : ∃ n, (tokP (x :: r)).2.1 = n + 1 := ⟨(tokP (x :: r)).2.1 - 1, by omega⟩
  rw [hn]
  simp only [List.drop_succ_cons, Nat.add_sub_cancel]
  congr 2
  push_cast
  omega
end Go.Proofs.YtobndhpfdaddaaaDoor
