/- The canonical text of statements, in plain Lean. No condition. -/
import Derived.Test.YtogkiifljdnjgaaDoorWrite1
namespace Go.Proofs.YtogkiifljdnjgaaDoor
open Go.RowKit
set_option linter.unusedVariables false
set_option linter.unusedSimpArgs false

def line0 (k : Int) (tx : List UInt8) : List UInt8 := if k = 6 then [118, 97, 114, 121, 32] ++ (quoL tx ++ [59]) else if k = 10 then [112, 97, 115, 115, 59] else [116, 111, 107, 101, 110, 59]
def line1 (k : Int) (tx s : List UInt8) : List UInt8 :=
  if k = 3 then [108, 101, 116, 32] ++ (tx ++ ([32, 61, 32] ++ (s ++ [59])))
  else if k = 4 then tx ++ ([32, 61, 32] ++ (s ++ [59]))
  else if k = 5 then [104, 101, 97, 100, 101, 114, 32] ++ (quoL tx ++ ([32, 61, 32] ++ (s ++ [59])))
  else if k = 7 then [116, 97, 103, 32] ++ (s ++ [59])
  else if k = 8 then [116, 116, 108, 32] ++ (s ++ [59])
  else [100, 101, 110, 121, 32] ++ (s ++ [59])
def lineI (s b : List UInt8) : List UInt8 := [105, 102, 32] ++ (s ++ (32 :: b))
mutual
/-- The text of a statement without blanks before it. -/
def lineP : Tree → List UInt8 → List UInt8
  | .node k tx [] _, _ => line0 k tx
  | .node k tx [e] _, _ => line1 k tx (writP e)
  | .node k tx [e, b] _, bl => lineI (writP e) (braceP b bl)
  | .node k tx [e, b, x] _, bl => lineI (writP e) (braceP b bl) ++ ([32, 101, 108, 115, 101, 32] ++ (if x.kind = 2 then lineP x bl else braceP x bl))
  | .node _ _ (_ :: _ :: _ :: _ :: _) _, _ => []
def braceP : Tree → List UInt8 → List UInt8
  | .node _ _ ks _, bl => [123, 10] ++ (linesP ks (bl ++ [32, 32]) ++ (bl ++ [125]))
def linesP : List Tree → List UInt8 → List UInt8
  | [], _ => []
  | t :: ts, bl => (bl ++ (lineP t bl ++ [10])) ++ linesP ts bl
end
theorem lineP_0 {k : Int} {tx : List UInt8} {l : Int} {bl : List UInt8} : lineP (.node k tx [] l) bl = line0 k tx := by rw [lineP]
theorem lineP_1 {k : Int} {tx : List UInt8} {e : Tree} {l : Int} {bl : List UInt8} : lineP (.node k tx [e] l) bl = line1 k tx (writP e) := by rw [lineP]
theorem lineP_2 {k : Int} {tx : List UInt8} {e b : Tree} {l : Int} {bl : List UInt8} : lineP (.node k tx [e, b] l) bl = lineI (writP e) (braceP b bl) := by rw [lineP]
theorem lineP_3 {k : Int} {tx : List UInt8} {e b x : Tree} {l : Int} {bl : List UInt8} : lineP (.node k tx [e, b, x] l) bl = lineI (writP e) (braceP b bl) ++ ([32, 101, 108, 115, 101, 32] ++ (if x.kind = 2 then lineP x bl else braceP x bl)) := by rw [lineP]
theorem braceP_node {k : Int} {tx : List UInt8} {ks : List Tree} {l : Int} {bl : List UInt8} : braceP (.node k tx ks l) bl = [123, 10] ++ (linesP ks (bl ++ [32, 32]) ++ (bl ++ [125])) := by rw [braceP]
theorem linesP_nil {bl : List UInt8} : linesP [] bl = [] := by rw [linesP]
theorem linesP_cons {t : Tree} {ts : List Tree} {bl : List UInt8} : linesP (t :: ts) bl = (bl ++ (lineP t bl ++ [10])) ++ linesP ts bl := by rw [linesP]
theorem linesP_append : ∀ (xs ys : List Tree) (bl : List UInt8), linesP (xs ++ ys) bl = linesP xs bl ++ linesP ys bl
  | [], ys, bl => by rw [linesP_nil]; rfl
  | x :: xs, ys, bl => by rw [List.cons_append, linesP_cons, linesP_cons, linesP_append xs ys bl]; simp only [List.append_assoc]
theorem linesP_take {ks : List Tree} {q : Nat} {t : Tree} {bl : List UInt8} (h : ks[q]? = some t) : linesP (ks.take (q + 1)) bl = linesP (ks.take q) bl ++ (bl ++ (lineP t bl ++ [10])) := by
  rw [take_next h, linesP_append, linesP_cons, linesP_nil, List.append_nil]
theorem line0_len (k : Int) (tx : List UInt8) (h : tx.length ≤ 100000) : (line0 k tx).length ≤ 200100 := by
  have := quoL_len tx
  unfold line0
  split
  · simp only [List.length_append, List.length_cons, List.length_nil]; omega
  split <;> simp
theorem line1_len (k : Int) (tx s : List UInt8) (h : tx.length ≤ 100000) : (line1 k tx s).length ≤ 200100 + s.length := by
  have := quoL_len tx
  unfold line1
  repeat' split
  all_goals
    simp only [List.length_append, List.length_cons, List.length_nil]
    omega
mutual
theorem lineP_len : ∀ (t : Tree) (bl : List UInt8), shortT t → bl.length + 2 * depthT t ≤ 1000 → (lineP t bl).length + 1010 ≤ 703000 * sizeT t
  | .node k tx [] l, bl, h, hb => by
    rw [shortT_node] at h
    rw [lineP_0, sizeT_node]
    have := line0_len k tx h.1
    omega
  | .node k tx [e] l, bl, h, hb => by
    rw [shortT_node, shortL_cons] at h
    rw [lineP_1, sizeT_node, sizeL_cons]
    have h1 := line1_len k tx (writP e) h.1
    have h2 := writP_len e h.2.1
    omega
  | .node k tx [e, b] l, bl, h, hb => by
    rw [shortT_node, shortL_cons, shortL_cons] at h
    rw [depthT_node, depthL_cons, depthL_cons] at hb
    rw [lineP_2, sizeT_node, sizeL_cons, sizeL_cons, lineI]
    have h2 := writP_len e h.2.1
    have h3 := braceP_len b bl h.2.2.1 (by omega)
    simp only [List.length_append, List.length_cons, List.length_nil]
    omega
  | .node k tx [e, b, x] l, bl, h, hb => by
    rw [shortT_node, shortL_cons, shortL_cons, shortL_cons] at h
    rw [depthT_node, depthL_cons, depthL_cons, depthL_cons] at hb
    rw [lineP_3, sizeT_node, sizeL_cons, sizeL_cons, sizeL_cons, lineI]
    have h2 := writP_len e h.2.1
    have h3 := braceP_len b bl h.2.2.1 (by omega)
    have h4 := braceP_len x bl h.2.2.2.1 (by omega)
    have h5 := lineP_len x bl h.2.2.2.1 (by omega)
    have h6 : (if x.kind = 2 then lineP x bl else braceP x bl).length ≤ 703000 * sizeT x := by split <;> omega
    simp only [List.length_append, List.length_cons, List.length_nil]
    omega
  | .node k tx (a :: b :: c :: d :: r) l, bl, h, hb => by
    rw [lineP, sizeT_node]
    simp only [List.length_nil]
    omega
theorem braceP_len : ∀ (t : Tree) (bl : List UInt8), shortT t → bl.length + 2 * depthT t ≤ 1000 → (braceP t bl).length + 1010 ≤ 703000 * sizeT t
  | .node k tx ks l, bl, h, hb => by
    rw [shortT_node] at h
    rw [depthT_node] at hb
    rw [braceP_node, sizeT_node]
    have h2 := linesP_len ks (bl ++ [32, 32]) h.2 (by simp only [List.length_append, List.length_cons, List.length_nil]; omega)
    simp only [List.length_append, List.length_cons, List.length_nil]
    omega
theorem linesP_len : ∀ (ts : List Tree) (bl : List UInt8), shortL ts → bl.length + 2 * depthL ts ≤ 1000 → (linesP ts bl).length ≤ 703000 * sizeL ts
  | [], bl, _, _ => by rw [linesP_nil]; simp
  | t :: ts, bl, h, hb => by
    rw [shortL_cons] at h
    rw [depthL_cons] at hb
    rw [linesP_cons, sizeL_cons]
    have h2 := lineP_len t bl h.1 (by omega)
    have h3 := linesP_len ts bl h.2 (by omega)
    simp only [List.length_append, List.length_cons, List.length_nil]
    omega
end
def LineC (fid : FuncId) (ok : Tree → Bool) (f : Tree → List UInt8 → List UInt8) (n : Nat) : Prop := ∀ (t : Tree) (F : Nat → Prop) (w : World) (v : Value) (bl : List UInt8), IsT w F t v → depthT t ≤ n → sizeT t ≤ 1000 → shortT t → ok t = true → bl.length + 2 * depthT t ≤ 1000 →
  Calls Tryd.prog fid #[v, .string ⟨bl.toArray⟩] w fun e w' => e = .returned (.string ⟨(f t bl).toArray⟩) ∧ Below w.heap.size w w'
def LinesC (n : Nat) : Prop := ∀ (ks : List Tree) (F : Nat → Prop) (w : World) (v : Value) (bl : List UInt8), IsKids w F ks v → depthL ks ≤ n → sizeL ks ≤ 1000 → shortL ks → stsOK ks = true → bl.length + 2 * depthL ks ≤ 1000 →
  Calls Tryd.prog 38 #[v, .string ⟨bl.toArray⟩] w fun e w' => e = .returned (.string ⟨(linesP ks bl).toArray⟩) ∧ Below w.heap.size w w'
theorem stOK_at {ks : List Tree} {q : Nat} {t : Tree} (h : stsOK ks = true) (hq : ks[q]? = some t) : stOK t = true := by
  by_cases hb : stOK t = true
  · exact hb
  · rw [stsOK_bad hq (by simpa using hb)] at h
    cases h
set_option maxRecDepth 20000 in
set_option maxHeartbeats 2000000 in
theorem lines_ok (n : Nat) (HC : LineC 49 stOK lineP n) : LinesC n := by
  intro ks F w v bl hks hd hs hsh hok hbl
  have hlen := linesP_len ks bl hsh hbl
  have hl : ks.length ≤ 1000 := by have := len_le_size ks; omega
  have HK := Lib.hid hks
  have HCall := Lib.hid HC
  have HD := Lib.hid hd
  have HS := Lib.hid hs
  have HSH := Lib.hid hsh
  have HOK := Lib.hid hok
  have HBL := Lib.hid hbl
  have hbl2 : bl.length ≤ 1000 := by omega
  have HLN := Lib.hid (show (linesP ks bl).length ≤ 703000000 by omega)
  obtain ⟨a, c, rfl⟩ : ∃ a c, v = .slice a ks.length c := by
    obtain ⟨a, c, hv, _⟩ := hks
    exact ⟨a, c, hv⟩
  clear hks hd hs hsh hok hbl HC hlen
  go_enter Tryd.func38, Tryd.ntmps38
  go_wp2_with fail
  go_loopw [5, 10] (fun x i wr => ∃ q : Nat, ∃ X : ByteArray, i = .int .i64 q ∧ q ≤ ks.length ∧ x = .string X ∧ X = ⟨(linesP (ks.take q) bl).toArray⟩ ∧ Below w.heap.size w wr) (fun _ i _ => ks.length - (intOf i).toNat)
  case atStart => exact ⟨0, ⟨#[]⟩, rfl, Nat.zero_le _, rfl, by rw [List.take_zero, linesP_nil], Below.refl _ _⟩
  case round =>
    obtain ⟨q, X, rfl, hq, rfl, hX, hb⟩ := hrel
    have HB := Lib.hid hb
    have hXs : X.size ≤ 703000000 := by
      rw [hX]
      refine size_of_list _ _ ?_
      have h1 := linesP_append (ks.take q) (ks.drop q) bl
      rw [List.take_append_drop] at h1
      have h2 := congrArg List.length h1
      rw [List.length_append] at h2
      have := HLN.out
      omega
    have HX := Lib.hid hX
    clear hb hX
    by_cases hlt : q < ks.length
    · obtain ⟨t', ht'⟩ : ∃ t', ks[q]? = some t' := ⟨_, List.getElem?_eq_getElem hlt⟩
      obtain ⟨b, off, cap, k0, x0, a0, m0, n0, l0, hv, c0, c1, c2, c3, hT⟩ := IsKids.at (HK.out.step HB.out) ht'
      simp only [Value.slice.injEq] at hv
      obtain ⟨rfl, -, rfl⟩ := hv
      have h3 := depthT_mem (List.mem_of_getElem? ht')
      have h4 := sizeT_mem (List.mem_of_getElem? ht')
      have h5 := shortT_at HSH.out ht'
      have h6 := stOK_at HOK.out ht'
      have h7 := lineP_len t' bl h5 (by have := HBL.out; omega)
      have HT := Lib.hid hT
      have HTK := Lib.hid (linesP_take (bl := bl) ht')
      have HCC := Lib.hid (fun W (hW : IsT W F t' (.agg #[.int .i64 k0, .string ⟨x0.toArray⟩, .slice a0 m0 n0, .int .i64 l0])) => HCall.out t' F W _ bl hW (by have := HD.out; omega) (by have := HS.out; omega) h5 h6 (by have := HBL.out; omega))
      obtain ⟨S, hS⟩ : ∃ S : ByteArray, S = ⟨(lineP t' bl).toArray⟩ := ⟨_, rfl⟩
      have hSs : S.size ≤ 703000000 := by rw [hS]; exact size_of_list _ _ (by have := HS.out; omega)
      rw [← hS] at HCC
      have HS2 := Lib.hid hS
      have hlti : (q : Int) < (ks.length : Int) := by omega
      clear h3 h4 h5 h6 h7 hT ht' hS
      go_wp2_with (first | (go_at_call 49; (with_reducible refine (HCC.out _ (HT.out.step (bel_new _ _))).mono ?_); rintro e w2 ⟨rfl, hb1⟩; have HB2 := Lib.hid ((bel_new wr (.cells #[.int .i64 k0, .string ⟨x0.toArray⟩, .slice a0 m0 n0, .int .i64 l0] 32)).trans (hb1.mono (by simp))); clear hb1))
      go_roundw
      case rel => exact ⟨q + 1, _, by go_num, by omega, rfl, by rw [HTK.out, HX.out, HS2.out]; exact ba_of_list (by simp [ByteArray.data_append]), HB.out.trans (HB2.out.mono HB.out.size)⟩
      case measure => simp [intOf]; omega
    · have hq2 : q = ks.length := by omega
      subst hq2
      rw [List.take_length] at HX
      go_wp2_with fail
      go_ret
      exact ⟨ret_str HX.out, HB.out⟩
set_option maxRecDepth 20000 in
theorem braces_ok (n : Nat) (HC : LinesC n) : LineC 74 blOK braceP (n + 1) := by
  intro t F w v bl ht hd hs hsh hok hbl
  obtain ⟨k, tx, ks, l⟩ := t
  obtain ⟨kv, rfl, hks⟩ := isT_node.1 ht
  rw [depthT_node] at hd hbl
  rw [sizeT_node] at hs
  rw [shortT_node] at hsh
  rw [blOK_node, Bool.and_eq_true] at hok
  have h2 := linesP_len ks (bl ++ [32, 32]) hsh.2 (by simp only [List.length_append, List.length_cons, List.length_nil]; omega)
  have hbl2 : bl.length ≤ 1000 := by omega
  have HCC := Lib.hid (fun W hW => HC ks F W kv (bl ++ [32, 32]) (hks.step hW) (by omega) (by omega) hsh.2 hok.2 (by simp only [List.length_append, List.length_cons, List.length_nil]; omega))
  rw [braceP_node]
  obtain ⟨S, hS⟩ : ∃ S : ByteArray, S = ⟨(linesP ks (bl ++ [32, 32])).toArray⟩ := ⟨_, rfl⟩
  have hSs : S.size ≤ 703000000 := by rw [hS]; exact size_of_list _ _ (by omega)
  rw [← hS] at HCC
  have HQ := Lib.hid (show (⟨#[123, 10]⟩ ++ S ++ ⟨bl.toArray⟩ ++ ⟨#[125]⟩ : ByteArray) = ⟨([123, 10] ++ (linesP ks (bl ++ [32, 32]) ++ (bl ++ [125]))).toArray⟩ by rw [hS]; exact ba_of_list (by simp [ByteArray.data_append]))
  have HE := Lib.hid (show (⟨bl.toArray⟩ ++ ⟨#[32, 32]⟩ : ByteArray) = ⟨(bl ++ [32, 32]).toArray⟩ from ba_of_list (by simp [ByteArray.data_append]))
  rw [← HE.out] at HCC
  obtain ⟨a, c, rfl⟩ : ∃ a c, kv = .slice a ks.length c := by
    obtain ⟨a, c, hv, _⟩ := hks
    exact ⟨a, c, hv⟩
  have HB0 := Lib.hid (bel_new w (.cells #[.int .i64 k, .string ⟨tx.toArray⟩, .slice a ks.length c, .int .i64 l] 32))
  have HX0 := Lib.hid (heap_alloc_new w (.cells #[.int .i64 k, .string ⟨tx.toArray⟩, .slice a ks.length c, .int .i64 l] 32))
  obtain ⟨r0, r1, r2, r3, q0, q1, q2, q3⟩ := box4 HX0.out
  clear ht hks hd hs hsh hok hbl HC h2 hS
  go_enter Tryd.func74, Tryd.ntmps74
  go_wp2_with (first | (go_at_call 38; (with_reducible refine (HCC.out _ HB0.out).mono ?_); rintro e w2 ⟨rfl, hb1⟩; have HB2 := Lib.hid (HB0.out.trans (hb1.mono HB0.out.size)); clear hb1))
  go_ret
  exact ⟨ret_str HQ.out, HB2.out⟩
end Go.Proofs.YtogkiifljdnjgaaDoor
