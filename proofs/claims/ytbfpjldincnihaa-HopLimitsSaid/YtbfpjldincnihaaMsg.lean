/- Messages in memory; the walk of hop.right. No condition. -/
import Derived.Test.YtbfpjldincnihaaUses
import Derived.Test.YtbfpjldincnihaaNone
namespace Go.Proofs.Ytbfpjldincnihaa
open Go.RowKit
set_option linter.unusedVariables false
set_option linter.unusedSimpArgs false

/-- The slice value v reads as the list of texts ts. -/
def IsT (w : World) (v : Value) (ts : List (List UInt8)) : Prop :=
  (ts = [] ∧ ∃ a cap, v = .slice a 0 cap ∧ cap ≤ maxLen ∧ (a = none → cap = 0)) ∨
  (ts ≠ [] ∧ ∃ b off cap, v = .slice (some ⟨b, off, none⟩) ts.length cap ∧ ts.length ≤ cap ∧ cap ≤ maxLen ∧ ∀ i s, ts[i]? = some s → w.cell? ⟨b, off + i, none⟩ = some (.string ⟨s.toArray⟩))
theorem IsT.shape {w : World} {v : Value} {ts : List (List UInt8)} (h : IsT w v ts) : ∃ a cap, v = .slice a ts.length cap ∧ ts.length ≤ cap ∧ cap ≤ maxLen := by
  rcases h with ⟨rfl, a, cap, rfl, h, _⟩ | ⟨_, b, off, cap, rfl, h, h', _⟩
  · exact ⟨a, cap, rfl, Nat.zero_le _, h⟩
  · exact ⟨_, cap, rfl, h, h'⟩
theorem IsT.step {w w' : World} {v : Value} {ts : List (List UInt8)} (h : IsT w v ts) (hb : Below w.heap.size w w') : IsT w' v ts := by
  rcases h with h | ⟨h0, b, off, cap, rfl, h1, h2, h3⟩
  · exact .inl h
  · exact .inr ⟨h0, b, off, cap, rfl, h1, h2, fun i c hi => keep_at hb (h3 i c hi)⟩
theorem IsT.elem {w : World} {v : Value} {ts : List (List UInt8)} (h : IsT w v ts) {k : Nat} (hk : k < ts.length) : ∃ g o cap, v = .slice (some ⟨g, o, none⟩) ts.length cap ∧ w.cell? ⟨g, o + k, none⟩ = some (.string ⟨ts[k].toArray⟩) := by
  rcases h with ⟨rfl, _⟩ | ⟨_, g, o, cap, hv, _, _, hc⟩
  · simp at hk
  · exact ⟨g, o, cap, hv, hc k _ (List.getElem?_eq_getElem hk)⟩

structure Msg where
  kind : Int
  id : Int
  num : Int
  tot : Int
  off : Int
  txt : List UInt8
  lst : List (List UInt8)
  dat : List UInt8
/-- The value of a message whose list and data lie at lv and dv. -/
def Msg.val (m : Msg) (lv dv : Value) : Value := .agg #[.int .i64 m.kind, .int .i64 m.id, .int .i64 m.num, .int .i64 m.tot, .int .i64 m.off, .string ⟨m.txt.toArray⟩, lv, dv]
/-- A message of sizes that memory allows. -/
def FitM (m : Msg) : Prop := m.txt.length ≤ 140737488355328
def rightM (m : Msg) (u : Flds) : Bool :=
  (u.id || decide (m.id = 0)) && (u.num || decide (m.num = 0)) && (u.tot || decide (m.tot = 0)) && (u.off || decide (m.off = 0)) &&
    (u.txt || decide (m.txt = [])) && (u.lst || decide (m.lst = [])) && (u.dat || decide (m.dat = []))

set_option maxRecDepth 20000 in
set_option maxHeartbeats 4000000 in
theorem right_1 (k id nm tt of : Int) (tx : List UInt8) (ls : List (List UInt8)) (dt : List UInt8) (la da : Option Addr) (lc dc : Nat) (w : World) :
    Calls Try.prog 28 #[(Msg.mk k id nm tt of tx ls dt).val (.slice la ls.length lc) (.slice da dt.length dc), (Flds.mk true true false false true true false).val] w fun e w' => e = .returned (.bool (rightM (Msg.mk k id nm tt of tx ls dt) (Flds.mk true true false false true true false))) ∧ Below w.heap.size w w' := by
  unfold Msg.val Flds.val
  dsimp only
  by_cases h2 : tt = 0
  · subst h2
    by_cases h3 : of = 0
    · subst h3
      by_cases h6 : dt = []
      · subst h6
        go_enter Try.func28, Try.ntmps28
        go_wp2
        go_ret
        exact ⟨ret_bool (by simp [rightM]), bel_alloc (bel_new _ _)⟩
      · skip
        go_enter Try.func28, Try.ntmps28
        go_wp2
        go_ret
        exact ⟨ret_bool (by simp [rightM, h6]), bel_alloc (bel_new _ _)⟩
    · skip
      have b3 : (of == 0) = false := by simpa using h3
      go_enter Try.func28, Try.ntmps28
      go_wp2
      go_ret
      exact ⟨ret_bool (by simp [rightM, h3]), bel_alloc (bel_new _ _)⟩
  · skip
    have b2 : (tt == 0) = false := by simpa using h2
    go_enter Try.func28, Try.ntmps28
    go_wp2
    go_ret
    exact ⟨ret_bool (by simp [rightM, h2]), bel_alloc (bel_new _ _)⟩
set_option maxRecDepth 20000 in
set_option maxHeartbeats 4000000 in
theorem right_2 (k id nm tt of : Int) (tx : List UInt8) (ls : List (List UInt8)) (dt : List UInt8) (la da : Option Addr) (lc dc : Nat) (w : World) :
    Calls Try.prog 28 #[(Msg.mk k id nm tt of tx ls dt).val (.slice la ls.length lc) (.slice da dt.length dc), (Flds.mk true true true false true false false).val] w fun e w' => e = .returned (.bool (rightM (Msg.mk k id nm tt of tx ls dt) (Flds.mk true true true false true false false))) ∧ Below w.heap.size w w' := by
  unfold Msg.val Flds.val
  dsimp only
  by_cases h3 : of = 0
  · subst h3
    by_cases h5 : ls = []
    · subst h5
      by_cases h6 : dt = []
      · subst h6
        go_enter Try.func28, Try.ntmps28
        go_wp2
        go_ret
        exact ⟨ret_bool (by simp [rightM]), bel_alloc (bel_new _ _)⟩
      · skip
        go_enter Try.func28, Try.ntmps28
        go_wp2
        go_ret
        exact ⟨ret_bool (by simp [rightM, h6]), bel_alloc (bel_new _ _)⟩
    · skip
      go_enter Try.func28, Try.ntmps28
      go_wp2
      go_ret
      exact ⟨ret_bool (by simp [rightM, h5]), bel_alloc (bel_new _ _)⟩
  · skip
    have b3 : (of == 0) = false := by simpa using h3
    go_enter Try.func28, Try.ntmps28
    go_wp2
    go_ret
    exact ⟨ret_bool (by simp [rightM, h3]), bel_alloc (bel_new _ _)⟩
set_option maxRecDepth 20000 in
set_option maxHeartbeats 4000000 in
theorem right_3 (k id nm tt of : Int) (tx : List UInt8) (ls : List (List UInt8)) (dt : List UInt8) (la da : Option Addr) (lc dc : Nat) (w : World) :
    Calls Try.prog 28 #[(Msg.mk k id nm tt of tx ls dt).val (.slice la ls.length lc) (.slice da dt.length dc), (Flds.mk true false false true false false true).val] w fun e w' => e = .returned (.bool (rightM (Msg.mk k id nm tt of tx ls dt) (Flds.mk true false false true false false true))) ∧ Below w.heap.size w w' := by
  unfold Msg.val Flds.val
  dsimp only
  by_cases h1 : nm = 0
  · subst h1
    by_cases h2 : tt = 0
    · subst h2
      by_cases h4 : tx = []
      · subst h4
        by_cases h5 : ls = []
        · subst h5
          go_enter Try.func28, Try.ntmps28
          go_wp2
          go_ret
          exact ⟨ret_bool (by simp [rightM]), bel_alloc (bel_new _ _)⟩
        · skip
          go_enter Try.func28, Try.ntmps28
          go_wp2
          go_ret
          exact ⟨ret_bool (by simp [rightM, h5]), bel_alloc (bel_new _ _)⟩
      · skip
        go_enter Try.func28, Try.ntmps28
        go_wp2
        go_ret
        exact ⟨ret_bool (by simp [rightM, h4]), bel_alloc (bel_new _ _)⟩
    · skip
      have b2 : (tt == 0) = false := by simpa using h2
      go_enter Try.func28, Try.ntmps28
      go_wp2
      go_ret
      exact ⟨ret_bool (by simp [rightM, h2]), bel_alloc (bel_new _ _)⟩
  · skip
    have b1 : (nm == 0) = false := by simpa using h1
    go_enter Try.func28, Try.ntmps28
    go_wp2
    go_ret
    exact ⟨ret_bool (by simp [rightM, h1]), bel_alloc (bel_new _ _)⟩
set_option maxRecDepth 20000 in
set_option maxHeartbeats 4000000 in
theorem right_4 (k id nm tt of : Int) (tx : List UInt8) (ls : List (List UInt8)) (dt : List UInt8) (la da : Option Addr) (lc dc : Nat) (w : World) :
    Calls Try.prog 28 #[(Msg.mk k id nm tt of tx ls dt).val (.slice la ls.length lc) (.slice da dt.length dc), (Flds.mk true false false false false false false).val] w fun e w' => e = .returned (.bool (rightM (Msg.mk k id nm tt of tx ls dt) (Flds.mk true false false false false false false))) ∧ Below w.heap.size w w' := by
  unfold Msg.val Flds.val
  dsimp only
  by_cases h1 : nm = 0
  · subst h1
    by_cases h2 : tt = 0
    · subst h2
      by_cases h3 : of = 0
      · subst h3
        by_cases h4 : tx = []
        · subst h4
          by_cases h5 : ls = []
          · subst h5
            by_cases h6 : dt = []
            · subst h6
              go_enter Try.func28, Try.ntmps28
              go_wp2
              go_ret
              exact ⟨ret_bool (by simp [rightM]), bel_alloc (bel_new _ _)⟩
            · skip
              go_enter Try.func28, Try.ntmps28
              go_wp2
              go_ret
              exact ⟨ret_bool (by simp [rightM, h6]), bel_alloc (bel_new _ _)⟩
          · skip
            go_enter Try.func28, Try.ntmps28
            go_wp2
            go_ret
            exact ⟨ret_bool (by simp [rightM, h5]), bel_alloc (bel_new _ _)⟩
        · skip
          go_enter Try.func28, Try.ntmps28
          go_wp2
          go_ret
          exact ⟨ret_bool (by simp [rightM, h4]), bel_alloc (bel_new _ _)⟩
      · skip
        have b3 : (of == 0) = false := by simpa using h3
        go_enter Try.func28, Try.ntmps28
        go_wp2
        go_ret
        exact ⟨ret_bool (by simp [rightM, h3]), bel_alloc (bel_new _ _)⟩
    · skip
      have b2 : (tt == 0) = false := by simpa using h2
      go_enter Try.func28, Try.ntmps28
      go_wp2
      go_ret
      exact ⟨ret_bool (by simp [rightM, h2]), bel_alloc (bel_new _ _)⟩
  · skip
    have b1 : (nm == 0) = false := by simpa using h1
    go_enter Try.func28, Try.ntmps28
    go_wp2
    go_ret
    exact ⟨ret_bool (by simp [rightM, h1]), bel_alloc (bel_new _ _)⟩
set_option maxRecDepth 20000 in
set_option maxHeartbeats 4000000 in
theorem right_5 (k id nm tt of : Int) (tx : List UInt8) (ls : List (List UInt8)) (dt : List UInt8) (la da : Option Addr) (lc dc : Nat) (w : World) :
    Calls Try.prog 28 #[(Msg.mk k id nm tt of tx ls dt).val (.slice la ls.length lc) (.slice da dt.length dc), (Flds.mk true true false false false false false).val] w fun e w' => e = .returned (.bool (rightM (Msg.mk k id nm tt of tx ls dt) (Flds.mk true true false false false false false))) ∧ Below w.heap.size w w' := by
  unfold Msg.val Flds.val
  dsimp only
  by_cases h2 : tt = 0
  · subst h2
    by_cases h3 : of = 0
    · subst h3
      by_cases h4 : tx = []
      · subst h4
        by_cases h5 : ls = []
        · subst h5
          by_cases h6 : dt = []
          · subst h6
            go_enter Try.func28, Try.ntmps28
            go_wp2
            go_ret
            exact ⟨ret_bool (by simp [rightM]), bel_alloc (bel_new _ _)⟩
          · skip
            go_enter Try.func28, Try.ntmps28
            go_wp2
            go_ret
            exact ⟨ret_bool (by simp [rightM, h6]), bel_alloc (bel_new _ _)⟩
        · skip
          go_enter Try.func28, Try.ntmps28
          go_wp2
          go_ret
          exact ⟨ret_bool (by simp [rightM, h5]), bel_alloc (bel_new _ _)⟩
      · skip
        go_enter Try.func28, Try.ntmps28
        go_wp2
        go_ret
        exact ⟨ret_bool (by simp [rightM, h4]), bel_alloc (bel_new _ _)⟩
    · skip
      have b3 : (of == 0) = false := by simpa using h3
      go_enter Try.func28, Try.ntmps28
      go_wp2
      go_ret
      exact ⟨ret_bool (by simp [rightM, h3]), bel_alloc (bel_new _ _)⟩
  · skip
    have b2 : (tt == 0) = false := by simpa using h2
    go_enter Try.func28, Try.ntmps28
    go_wp2
    go_ret
    exact ⟨ret_bool (by simp [rightM, h2]), bel_alloc (bel_new _ _)⟩
set_option maxRecDepth 20000 in
set_option maxHeartbeats 4000000 in
theorem right_6 (k id nm tt of : Int) (tx : List UInt8) (ls : List (List UInt8)) (dt : List UInt8) (la da : Option Addr) (lc dc : Nat) (w : World) :
    Calls Try.prog 28 #[(Msg.mk k id nm tt of tx ls dt).val (.slice la ls.length lc) (.slice da dt.length dc), (Flds.mk true false false false true false false).val] w fun e w' => e = .returned (.bool (rightM (Msg.mk k id nm tt of tx ls dt) (Flds.mk true false false false true false false))) ∧ Below w.heap.size w w' := by
  unfold Msg.val Flds.val
  dsimp only
  by_cases h1 : nm = 0
  · subst h1
    by_cases h2 : tt = 0
    · subst h2
      by_cases h3 : of = 0
      · subst h3
        by_cases h5 : ls = []
        · subst h5
          by_cases h6 : dt = []
          · subst h6
            go_enter Try.func28, Try.ntmps28
            go_wp2
            go_ret
            exact ⟨ret_bool (by simp [rightM]), bel_alloc (bel_new _ _)⟩
          · skip
            go_enter Try.func28, Try.ntmps28
            go_wp2
            go_ret
            exact ⟨ret_bool (by simp [rightM, h6]), bel_alloc (bel_new _ _)⟩
        · skip
          go_enter Try.func28, Try.ntmps28
          go_wp2
          go_ret
          exact ⟨ret_bool (by simp [rightM, h5]), bel_alloc (bel_new _ _)⟩
      · skip
        have b3 : (of == 0) = false := by simpa using h3
        go_enter Try.func28, Try.ntmps28
        go_wp2
        go_ret
        exact ⟨ret_bool (by simp [rightM, h3]), bel_alloc (bel_new _ _)⟩
    · skip
      have b2 : (tt == 0) = false := by simpa using h2
      go_enter Try.func28, Try.ntmps28
      go_wp2
      go_ret
      exact ⟨ret_bool (by simp [rightM, h2]), bel_alloc (bel_new _ _)⟩
  · skip
    have b1 : (nm == 0) = false := by simpa using h1
    go_enter Try.func28, Try.ntmps28
    go_wp2
    go_ret
    exact ⟨ret_bool (by simp [rightM, h1]), bel_alloc (bel_new _ _)⟩
set_option maxRecDepth 20000 in
set_option maxHeartbeats 4000000 in
theorem right_8 (k id nm tt of : Int) (tx : List UInt8) (ls : List (List UInt8)) (dt : List UInt8) (la da : Option Addr) (lc dc : Nat) (w : World) :
    Calls Try.prog 28 #[(Msg.mk k id nm tt of tx ls dt).val (.slice la ls.length lc) (.slice da dt.length dc), (Flds.mk false true true false false true false).val] w fun e w' => e = .returned (.bool (rightM (Msg.mk k id nm tt of tx ls dt) (Flds.mk false true true false false true false))) ∧ Below w.heap.size w w' := by
  unfold Msg.val Flds.val
  dsimp only
  by_cases h0 : id = 0
  · subst h0
    by_cases h3 : of = 0
    · subst h3
      by_cases h4 : tx = []
      · subst h4
        by_cases h6 : dt = []
        · subst h6
          go_enter Try.func28, Try.ntmps28
          go_wp2
          go_ret
          exact ⟨ret_bool (by simp [rightM]), bel_alloc (bel_new _ _)⟩
        · skip
          go_enter Try.func28, Try.ntmps28
          go_wp2
          go_ret
          exact ⟨ret_bool (by simp [rightM, h6]), bel_alloc (bel_new _ _)⟩
      · skip
        go_enter Try.func28, Try.ntmps28
        go_wp2
        go_ret
        exact ⟨ret_bool (by simp [rightM, h4]), bel_alloc (bel_new _ _)⟩
    · skip
      have b3 : (of == 0) = false := by simpa using h3
      go_enter Try.func28, Try.ntmps28
      go_wp2
      go_ret
      exact ⟨ret_bool (by simp [rightM, h3]), bel_alloc (bel_new _ _)⟩
  · skip
    have b0 : (id == 0) = false := by simpa using h0
    go_enter Try.func28, Try.ntmps28
    go_wp2
    go_ret
    exact ⟨ret_bool (by simp [rightM, h0]), bel_alloc (bel_new _ _)⟩
set_option maxRecDepth 20000 in
set_option maxHeartbeats 4000000 in
theorem right_9 (k id nm tt of : Int) (tx : List UInt8) (ls : List (List UInt8)) (dt : List UInt8) (la da : Option Addr) (lc dc : Nat) (w : World) :
    Calls Try.prog 28 #[(Msg.mk k id nm tt of tx ls dt).val (.slice la ls.length lc) (.slice da dt.length dc), (Flds.mk false true false false false false false).val] w fun e w' => e = .returned (.bool (rightM (Msg.mk k id nm tt of tx ls dt) (Flds.mk false true false false false false false))) ∧ Below w.heap.size w w' := by
  unfold Msg.val Flds.val
  dsimp only
  by_cases h0 : id = 0
  · subst h0
    by_cases h2 : tt = 0
    · subst h2
      by_cases h3 : of = 0
      · subst h3
        by_cases h4 : tx = []
        · subst h4
          by_cases h5 : ls = []
          · subst h5
            by_cases h6 : dt = []
            · subst h6
              go_enter Try.func28, Try.ntmps28
              go_wp2
              go_ret
              exact ⟨ret_bool (by simp [rightM]), bel_alloc (bel_new _ _)⟩
            · skip
              go_enter Try.func28, Try.ntmps28
              go_wp2
              go_ret
              exact ⟨ret_bool (by simp [rightM, h6]), bel_alloc (bel_new _ _)⟩
          · skip
            go_enter Try.func28, Try.ntmps28
            go_wp2
            go_ret
            exact ⟨ret_bool (by simp [rightM, h5]), bel_alloc (bel_new _ _)⟩
        · skip
          go_enter Try.func28, Try.ntmps28
          go_wp2
          go_ret
          exact ⟨ret_bool (by simp [rightM, h4]), bel_alloc (bel_new _ _)⟩
      · skip
        have b3 : (of == 0) = false := by simpa using h3
        go_enter Try.func28, Try.ntmps28
        go_wp2
        go_ret
        exact ⟨ret_bool (by simp [rightM, h3]), bel_alloc (bel_new _ _)⟩
    · skip
      have b2 : (tt == 0) = false := by simpa using h2
      go_enter Try.func28, Try.ntmps28
      go_wp2
      go_ret
      exact ⟨ret_bool (by simp [rightM, h2]), bel_alloc (bel_new _ _)⟩
  · skip
    have b0 : (id == 0) = false := by simpa using h0
    go_enter Try.func28, Try.ntmps28
    go_wp2
    go_ret
    exact ⟨ret_bool (by simp [rightM, h0]), bel_alloc (bel_new _ _)⟩
set_option maxRecDepth 20000 in
set_option maxHeartbeats 4000000 in
theorem right_12 (k id nm tt of : Int) (tx : List UInt8) (ls : List (List UInt8)) (dt : List UInt8) (la da : Option Addr) (lc dc : Nat) (w : World) :
    Calls Try.prog 28 #[(Msg.mk k id nm tt of tx ls dt).val (.slice la ls.length lc) (.slice da dt.length dc), (Flds.mk true true true false false false false).val] w fun e w' => e = .returned (.bool (rightM (Msg.mk k id nm tt of tx ls dt) (Flds.mk true true true false false false false))) ∧ Below w.heap.size w w' := by
  unfold Msg.val Flds.val
  dsimp only
  by_cases h3 : of = 0
  · subst h3
    by_cases h4 : tx = []
    · subst h4
      by_cases h5 : ls = []
      · subst h5
        by_cases h6 : dt = []
        · subst h6
          go_enter Try.func28, Try.ntmps28
          go_wp2
          go_ret
          exact ⟨ret_bool (by simp [rightM]), bel_alloc (bel_new _ _)⟩
        · skip
          go_enter Try.func28, Try.ntmps28
          go_wp2
          go_ret
          exact ⟨ret_bool (by simp [rightM, h6]), bel_alloc (bel_new _ _)⟩
      · skip
        go_enter Try.func28, Try.ntmps28
        go_wp2
        go_ret
        exact ⟨ret_bool (by simp [rightM, h5]), bel_alloc (bel_new _ _)⟩
    · skip
      go_enter Try.func28, Try.ntmps28
      go_wp2
      go_ret
      exact ⟨ret_bool (by simp [rightM, h4]), bel_alloc (bel_new _ _)⟩
  · skip
    have b3 : (of == 0) = false := by simpa using h3
    go_enter Try.func28, Try.ntmps28
    go_wp2
    go_ret
    exact ⟨ret_bool (by simp [rightM, h3]), bel_alloc (bel_new _ _)⟩
end Go.Proofs.Ytbfpjldincnihaa
