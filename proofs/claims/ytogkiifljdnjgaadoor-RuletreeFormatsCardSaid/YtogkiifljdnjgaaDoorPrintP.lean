/- The canonical text of expressions, in plain Lean; level. No condition. -/
import Derived.Test.YtogkiifljdnjgaaDoorValidV
import Derived.Test.YtogkiifljdnjgaaDoorShelf
import Derived.Laws.Concat
namespace Go.Proofs.YtogkiifljdnjgaaDoor
open Go.RowKit
set_option linter.unusedVariables false
set_option linter.unusedSimpArgs false

def levelP (k : Int) : Int := if k = 13 then 1 else if k = 14 then 2 else if k = 15 then 3 else if k = 16 then 4 else if k = 17 ∨ k = 18 then 5 else if k = 19 then 6 else 7
/-- A text in parentheses, if it holds together too loosely. -/
def parL (least : Int) (p : Int × List UInt8) : List UInt8 := if p.1 < least then 40 :: (p.2 ++ [41]) else p.2
/-- The separator and each further text. -/
def joinP : List (List UInt8) → List UInt8
  | [] => []
  | [x] => x
  | x :: y :: r => x ++ (44 :: 32 :: joinP (y :: r))
def infix2 (own least2 : Int) (op : List UInt8) : List (Int × List UInt8) → List UInt8
  | [a, b] => parL own a ++ (op ++ parL least2 b)
  | _ => []
/-- The text of an expression, out of those of its kids and how tightly they hold together. -/
def asmP (k : Int) (tx : List UInt8) (ls : List (Int × List UInt8)) : List UInt8 :=
  if k = 13 then infix2 1 2 [32, 111, 114, 32] ls
  else if k = 14 then infix2 2 3 [32, 97, 110, 100, 32] ls
  else if k = 15 then match ls with | [a] => [110, 111, 116, 32] ++ parL 3 a | _ => []
  else if k = 16 then infix2 5 5 (32 :: (tx ++ [32])) ls
  else if k = 17 then infix2 5 6 [32, 43, 32] ls
  else if k = 18 then infix2 5 6 [32, 45, 32] ls
  else if k = 19 then infix2 6 7 [32, 42, 32] ls
  else if k = 21 then quoL tx
  else if k = 24 then tx ++ (40 :: (joinP (ls.map (·.2)) ++ [41]))
  else tx
mutual
def writP : Tree → List UInt8
  | .node k tx ks _ => asmP k tx (writL ks)
def writL : List Tree → List (Int × List UInt8)
  | [] => []
  | t :: ts => (levelP t.kind, writP t) :: writL ts
end
theorem writP_node {k : Int} {tx : List UInt8} {ks : List Tree} {l : Int} : writP (.node k tx ks l) = asmP k tx (writL ks) := by rw [writP]
theorem writL_nil : writL [] = [] := by rw [writL]
theorem writL_cons {t : Tree} {ts : List Tree} : writL (t :: ts) = (levelP t.kind, writP t) :: writL ts := by rw [writL]
theorem parL_len (i : Int) (p : Int × List UInt8) : (parL i p).length ≤ p.2.length + 2 := by
  unfold parL
  split <;> simp
theorem joinP_len : ∀ (L : List (List UInt8)) (s : Nat), (L.map (fun x => x.length + 2)).sum ≤ s → (joinP L).length ≤ s
  | [], s, _ => by simp [joinP]
  | [x], s, h => by simp [joinP] at *; omega
  | x :: y :: r, s, h => by
    rw [List.map_cons, List.sum_cons] at h
    have := joinP_len (y :: r) (s - (x.length + 2)) (by omega)
    have h2 : x.length + 2 ≤ s := by omega
    rw [joinP]
    simp only [List.length_append, List.length_cons]
    omega
theorem quoL_len (l : List UInt8) : (quoL l).length ≤ 2 * l.length + 2 := by
  have := esc_len l
  unfold quoL
  simp only [List.length_append, List.length_cons, List.length_nil]
  omega
theorem asm_len (k : Int) (tx : List UInt8) (ls : List (Int × List UInt8)) (s : Nat) (h : tx.length ≤ 100000) (hs : (ls.map (fun x => x.2.length + 4)).sum ≤ s) : (asmP k tx ls).length ≤ 200100 + s := by
  have hi : ∀ (i j : Int) (op : List UInt8), op.length ≤ 100100 → (infix2 i j op ls).length ≤ 200100 + s := by
    intro i j op ho
    unfold infix2
    split
    · rename_i a b
      have h1 := parL_len i a
      have h2 := parL_len j b
      simp only [List.map_cons, List.sum_cons, List.map_nil, List.sum_nil] at hs
      simp only [List.length_append]
      omega
    · simp
  unfold asmP
  have hq := quoL_len tx
  split
  · exact hi _ _ _ (by decide)
  split
  · exact hi _ _ _ (by decide)
  split
  · split
    · rename_i a
      have h1 := parL_len 3 a
      simp only [List.map_cons, List.sum_cons, List.map_nil, List.sum_nil] at hs
      simp only [List.length_append, List.length_cons, List.length_nil]
      omega
    · simp
  split
  · exact hi _ _ _ (by simp; omega)
  split
  · exact hi _ _ _ (by decide)
  split
  · exact hi _ _ _ (by decide)
  split
  · exact hi _ _ _ (by decide)
  split
  · omega
  split
  · have h1 := joinP_len (ls.map (·.2)) s (by
      refine Nat.le_trans ?_ hs
      rw [List.map_map]
      clear hs hi
      induction ls with
      | nil => simp
      | cons a r ih => simp only [List.map_cons, List.sum_cons, Function.comp]; omega)
    simp only [List.length_append, List.length_cons, List.length_nil]
    omega
  · omega
mutual
theorem writP_len : ∀ t : Tree, shortT t → (writP t).length + 4 ≤ 300000 * sizeT t
  | .node k tx ks l, h => by
    rw [shortT_node] at h
    rw [writP_node, sizeT_node]
    have h1 := writL_len ks h.2
    have h2 := asm_len k tx (writL ks) _ h.1 h1
    omega
theorem writL_len : ∀ ts : List Tree, shortL ts → ((writL ts).map (fun x => x.2.length + 4)).sum ≤ 300000 * sizeL ts
  | [], _ => by rw [writL_nil]; simp
  | t :: ts, h => by
    rw [shortL_cons] at h
    rw [writL_cons, sizeL_cons, List.map_cons, List.sum_cons]
    have h1 := writP_len t h.1
    have h2 := writL_len ts h.2
    dsimp only
    omega
end
set_option maxRecDepth 20000 in
theorem level_any (k : Int) (tx : List UInt8) (a : Option Addr) (n c : Nat) (l : Int) (w : World) :
    Calls Tryd.prog 87 #[.agg #[.int .i64 k, .string ⟨tx.toArray⟩, .slice a n c, .int .i64 l]] w fun e w' => e = .returned (.int .i64 (levelP k)) ∧ Below w.heap.size w w' := by
  obtain ⟨R, hR⟩ : ∃ R, levelP k = R := ⟨_, rfl⟩
  rw [hR]
  have HR := Lib.hid hR
  clear hR
  have HB0 := Lib.hid (bel_new w (.cells #[.int .i64 k, .string ⟨tx.toArray⟩, .slice a n c, .int .i64 l] 32))
  have HX0 := Lib.hid (heap_alloc_new w (.cells #[.int .i64 k, .string ⟨tx.toArray⟩, .slice a n c, .int .i64 l] 32))
  obtain ⟨r0, r1, r2, r3, q0, q1, q2, q3⟩ := box4 HX0.out
  by_cases h13 : k = 13
  · subst h13
    go_enter Tryd.func87, Tryd.ntmps87
    go_wp2_with fail
    go_ret
    exact ⟨by rw [← HR.out]; rfl, HB0.out⟩
  by_cases h14 : k = 14
  · subst h14
    go_enter Tryd.func87, Tryd.ntmps87
    go_wp2_with fail
    go_ret
    exact ⟨by rw [← HR.out]; rfl, HB0.out⟩
  by_cases h15 : k = 15
  · subst h15
    go_enter Tryd.func87, Tryd.ntmps87
    go_wp2_with fail
    go_ret
    exact ⟨by rw [← HR.out]; rfl, HB0.out⟩
  by_cases h16 : k = 16
  · subst h16
    go_enter Tryd.func87, Tryd.ntmps87
    go_wp2_with fail
    go_ret
    exact ⟨by rw [← HR.out]; rfl, HB0.out⟩
  by_cases h17 : k = 17
  · subst h17
    go_enter Tryd.func87, Tryd.ntmps87
    go_wp2_with fail
    go_ret
    exact ⟨by rw [← HR.out]; rfl, HB0.out⟩
  by_cases h18 : k = 18
  · subst h18
    go_enter Tryd.func87, Tryd.ntmps87
    go_wp2_with fail
    go_ret
    exact ⟨by rw [← HR.out]; rfl, HB0.out⟩
  by_cases h19 : k = 19
  · subst h19
    go_enter Tryd.func87, Tryd.ntmps87
    go_wp2_with fail
    go_ret
    exact ⟨by rw [← HR.out]; rfl, HB0.out⟩
  have HQ := Lib.hid (show 7 = R by rw [← HR.out]; simp [levelP, h13, h14, h15, h16, h17, h18, h19])
  go_enter Tryd.func87, Tryd.ntmps87
  go_wp2_with fail
  go_ret
  exact ⟨by rw [← HQ.out]; rfl, HB0.out⟩

def WritC (n : Nat) : Prop := ∀ (t : Tree) (F : Nat → Prop) (w : World) (v : Value), IsT w F t v → depthT t ≤ n → sizeT t ≤ 1000 → shortT t → exprOK t = true →
  Calls Tryd.prog 73 #[v] w fun e w' => e = .returned (.string ⟨(writP t).toArray⟩) ∧ Below w.heap.size w w'
def BoundC (n : Nat) : Prop := ∀ (t : Tree) (F : Nat → Prop) (w : World) (v : Value) (i : Int), IsT w F t v → depthT t ≤ n → sizeT t ≤ 1000 → shortT t → exprOK t = true →
  Calls Tryd.prog 88 #[v, .int .i64 i] w fun e w' => e = .returned (.string ⟨(parL i (levelP t.kind, writP t)).toArray⟩) ∧ Below w.heap.size w w'
theorem ba_of_list {a b : ByteArray} (h : a.data.toList = b.data.toList) : a = b := by
  obtain ⟨⟨x⟩⟩ := a
  obtain ⟨⟨y⟩⟩ := b
  simp at h
  rw [h]
theorem ret_str {a b : ByteArray} (h : a = b) : Ending.returned (.string a) = .returned (.string b) := by rw [h]
set_option maxRecDepth 20000 in
theorem bound_ok (n : Nat) (HC : WritC n) : BoundC n := by
  intro t F w v i ht hd hs hsh hok
  have hlen := writP_len t hsh
  have HCC := Lib.hid (fun W hW => HC t F W v (ht.step hW) hd hs hsh hok)
  obtain ⟨k, tx, ks, l⟩ := t
  obtain ⟨kv, rfl, hks⟩ := isT_node.1 ht
  obtain ⟨a, c, rfl⟩ : ∃ a c, kv = .slice a ks.length c := by
    obtain ⟨a, c, hv, _⟩ := hks
    exact ⟨a, c, hv⟩
  generalize ks.length = N at *
  have hL : (writP (.node k tx ks l)).length ≤ 300000000 := by omega
  obtain ⟨R, hR⟩ : ∃ R, (⟨(parL i (levelP (Tree.node k tx ks l).kind, writP (.node k tx ks l))).toArray⟩ : ByteArray) = R := ⟨_, rfl⟩
  rw [hR]
  have HR := Lib.hid hR
  obtain ⟨T, hT⟩ : ∃ T : ByteArray, (⟨(writP (.node k tx ks l)).toArray⟩ : ByteArray) = T := ⟨_, rfl⟩
  have hT2 : T.size ≤ 300000000 := by rw [← hT]; show (writP (.node k tx ks l)).toArray.size ≤ 300000000; simpa using hL
  rw [hT] at HCC
  have HT := Lib.hid hT
  clear ht hks hR hlen hd hs hsh hok hL hT
  have HB0 := Lib.hid (bel_new w (.cells #[.int .i64 k, .string ⟨tx.toArray⟩, .slice a N c, .int .i64 l] 32))
  have HX0 := Lib.hid (heap_alloc_new w (.cells #[.int .i64 k, .string ⟨tx.toArray⟩, .slice a N c, .int .i64 l] 32))
  obtain ⟨r0, r1, r2, r3, q0, q1, q2, q3⟩ := box4 HX0.out
  have HLV := Lib.hid (fun W => level_any k tx a N c l W)
  by_cases hlt : levelP k < i
  · have HQ := Lib.hid (show (⟨(40 :: (T.data.toList ++ [41])).toArray⟩ : ByteArray) = R by rw [← HR.out, ← HT.out]; simp [parL, Tree.kind, hlt])
    generalize levelP k = L at *
    go_enter Tryd.func88, Tryd.ntmps88
    go_wp2_with (first | (go_at_call 87; (with_reducible refine (HLV.out _).mono ?_); rintro e w1 ⟨rfl, hb⟩; have HB1 := Lib.hid (HB0.out.trans (hb.mono HB0.out.size)); have HX1 := Lib.hid (keep_blk hb HX0.out); obtain ⟨s0, s1, s2, s3, z0, z1, z2, z3⟩ := box4 HX1.out; clear hb) | (go_at_call 73; (with_reducible refine (HCC.out _ HB1.out).mono ?_); rintro e w2 ⟨rfl, hb⟩; have HB2 := Lib.hid (HB1.out.trans (hb.mono HB1.out.size)); clear hb))
    go_ret
    exact ⟨ret_str (by rw [← HQ.out]; exact ba_of_list (by simp [ByteArray.data_append])), HB2.out⟩
  · have HQ := Lib.hid (show T = R by rw [← HR.out, ← HT.out]; simp [parL, Tree.kind, hlt])
    generalize levelP k = L at *
    go_enter Tryd.func88, Tryd.ntmps88
    go_wp2_with (first | (go_at_call 87; (with_reducible refine (HLV.out _).mono ?_); rintro e w1 ⟨rfl, hb⟩; have HB1 := Lib.hid (HB0.out.trans (hb.mono HB0.out.size)); have HX1 := Lib.hid (keep_blk hb HX0.out); obtain ⟨s0, s1, s2, s3, z0, z1, z2, z3⟩ := box4 HX1.out; clear hb) | (go_at_call 73; (with_reducible refine (HCC.out _ HB1.out).mono ?_); rintro e w2 ⟨rfl, hb⟩; have HB2 := Lib.hid (HB1.out.trans (hb.mono HB1.out.size)); clear hb))
    go_ret
    exact ⟨ret_str HQ.out, HB2.out⟩
end Go.Proofs.YtogkiifljdnjgaaDoor
