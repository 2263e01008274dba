/- The walk of record.Decode. No condition beyond lengths that memory allows. -/
import Derived.Test.YthhooocckfljaaaRefs
import Derived.Test.YthhooocckfljaaaRefs
import Derived.Test.YthhooocckfljaaaRefs
namespace Go.Proofs.Ythhooocckfljaaa
open Go.RowKit
set_option linter.unusedVariables false
set_option linter.unusedSimpArgs false

/-- A number at the beginning: the error's number, or the number and its length. -/
def partP (bytes most : Nat) (l : List UInt8) : Nat ⊕ (Nat × Nat) :=
  if (takeP bytes l).2 = 0 then .inl 21
  else if (takeP bytes l).2 < 0 ∨ (most : Int) < (takeP bytes l).1 then .inl 12
  else .inr ((takeP bytes l).1.toNat, (takeP bytes l).2.toNat)
def be4 : List UInt8 → Nat
  | [a, b, c, d] => a.toNat * 16777216 + b.toNat * 65536 + c.toNat * 256 + d.toNat
  | _ => 0
def endP (l : List UInt8) (c n at' m : Nat) : Nat ⊕ (Nat × Nat × List UInt8 × Nat) :=
  if l.length < at' + m + 4 then .inl 21
  else if be4 ((l.drop (at' + m)).take 4) ≠ sumP (l.take (at' + m)) then .inl 12
  else .inr (c, n, (l.drop at').take m, at' + m + 4)
def decP : List UInt8 → Nat ⊕ (Nat × Nat × List UInt8 × Nat)
  | [] => .inl 21
  | c :: r =>
    if c.toNat < 1 ∨ 127 < c.toNat then .inl 12
    else match partP 6 1099511627776 r with
      | .inl e => .inl e
      | .inr (n, k) => match partP 3 131072 (r.drop k) with
        | .inl e => .inl e
        | .inr (m, j) => endP (c :: r) c.toNat n (1 + k + j) m

/-- What Decode returns. -/
def DecPost (w : World) (r : Nat ⊕ (Nat × Nat × List UInt8 × Nat)) (e : Ending) (w' : World) : Prop :=
  match r with
  | .inl code => e = .returned (.tuple #[.agg #[.int .i64 0, .int .i64 0, .slice none 0 0], .int .i64 0, .iface 94 (.int .i64 code)]) ∧ Below w.heap.size w w'
  | .inr (k, n, p, s) => ∃ u, e = .returned (.tuple #[.agg #[.int .i64 k, .int .i64 n, u], .int .i64 s, .nilIface]) ∧ OwnB w' w.heap.size u p ∧ Below w.heap.size w w'

theorem DecPost.err {w w' : World} {r : Nat ⊕ (Nat × Nat × List UInt8 × Nat)} {code : Nat} (h : r = .inl code) (hb : Below w.heap.size w w') :
    DecPost w r (.returned (.tuple #[.agg #[.int .i64 0, .int .i64 0, .slice none 0 0], .int .i64 0, .iface 94 (.int .i64 (code : Int))])) w' := by
  subst h
  exact ⟨rfl, hb⟩

theorem dec_nil (a : Option Addr) (cap : Nat) (w : World) : Calls Try.prog 21 #[.slice a 0 cap] w (DecPost w (.inl 21)) := by
  go_enter Try.func21, Try.ntmps21
  go_wp2
  refine bodyPost_ret (v := .tuple #[.agg #[.int .i64 0, .int .i64 0, .slice none 0 0], .int .i64 0, .iface 94 (.int .i64 (((21 : Nat)) : Int))]) (by simp [results, Try.results21, go_sem]) rfl (DecPost.err rfl ?_)
  exact bel_new _ _

theorem dec_kind (b off cap : Nat) (l : List UInt8) (c : UInt8) (w : World) (hc0 : l[0]? = some c) (hcap : l.length ≤ cap) (h1 : w.cell? ⟨b, off, none⟩ = some (.int .u8 (c.toNat : Int))) (hk : c.toNat < 1 ∨ 127 < c.toNat) :
    Calls Try.prog 21 #[.slice (some ⟨b, off, none⟩) l.length cap] w (DecPost w (.inl 12)) := by
  have hbw := World.block_lt_of_cell? _ _ h1
  have hln : 0 < l.length := (List.getElem?_eq_some_iff.1 hc0).1
  have hcb := c.toNat_lt
  clear hc0
  have hk' : (c.toNat < 1) ∨ (¬ c.toNat < 1 ∧ 127 < c.toNat) := by omega
  clear hk
  rcases hk' with hk | ⟨hk, hk2⟩
  all_goals
    go_enter Try.func21, Try.ntmps21
    go_wp2
    refine bodyPost_ret (v := .tuple #[.agg #[.int .i64 0, .int .i64 0, .slice none 0 0], .int .i64 0, .iface 94 (.int .i64 (((12 : Nat)) : Int))]) (by simp [results, Try.results21, go_sem]) rfl (DecPost.err rfl ?_)
    exact bel_new _ _

theorem decP_cons (l : List UInt8) (c : UInt8) (hc0 : l[0]? = some c) (hk : 1 ≤ c.toNat ∧ c.toNat ≤ 127) : decP l = match partP 6 1099511627776 (l.drop 1) with
      | .inl e => .inl e
      | .inr (n, k) => match partP 3 131072 (l.drop (1 + k)) with
        | .inl e => .inl e
        | .inr (m, j) => endP l c.toNat n (1 + k + j) m := by
  cases l with
  | nil => cases hc0
  | cons d r =>
    simp only [List.getElem?_cons_zero, Option.some.injEq] at hc0
    subst hc0
    simp only [decP]
    rw [if_neg (by omega)]
    simp only [List.drop_succ_cons, List.drop_zero]
    cases partP 6 1099511627776 r with
    | inl e => rfl
    | inr x => simp only [Nat.add_comm 1, List.drop_succ_cons]
theorem partP_end {bytes most : Nat} {l : List UInt8} (h : (takeP bytes l).2 = 0) : partP bytes most l = .inl 21 := by unfold partP; rw [if_pos h]
theorem partP_bad {bytes most : Nat} {l : List UInt8} (h : (takeP bytes l).2 ≠ 0) (h2 : (takeP bytes l).2 < 0 ∨ (most : Int) < (takeP bytes l).1) : partP bytes most l = .inl 12 := by unfold partP; rw [if_neg h, if_pos h2]
theorem partP_ok {bytes most : Nat} {l : List UInt8} {n k : Nat} (h : takeP bytes l = ((n : Int), (k : Int))) (hk : 1 ≤ k) (hn : n ≤ most) : partP bytes most l = .inr (n, k) := by
  unfold partP
  rw [h, if_neg (by simp; omega), if_neg (by simp; omega)]
  simp

theorem or_add (x y i k : Nat) (hk : 2 ^ i = k) (h : y < k) : x * k ||| y = x * k + y := by
  subst hk
  have := Nat.shiftLeft_add_eq_or_of_lt h x
  rw [Nat.shiftLeft_eq] at this
  exact this.symm
theorem or_be4 (a b c d : UInt8) : bits .or .u32 (bits .or .u32 (bits .or .u32 ((a.toNat : Int) * 16777216) ((b.toNat : Int) * 65536)) ((c.toNat : Int) * 256)) (d.toNat : Int) = ((be4 [a, b, c, d] : Nat) : Int) := by
  have ha : a.toNat < 256 := a.toNat_lt
  have hb : b.toNat < 256 := b.toNat_lt
  have hc : c.toNat < 256 := c.toNat_lt
  have hd : d.toNat < 256 := d.toNat_lt
  simp only [be4]
  generalize a.toNat = a at *
  generalize b.toNat = b at *
  generalize c.toNat = c at *
  generalize d.toNat = d at *
  have e1 := or_add a (b * 65536) 24 16777216 (by decide) (by omega)
  have e2 := or_add (a * 256 + b) (c * 256) 16 65536 (by decide) (by omega)
  have e3 := or_add (a * 65536 + b * 256 + c) d 8 256 (by decide) (by omega)
  rw [show (a * 256 + b) * 65536 = a * 16777216 + b * 65536 by omega] at e2
  rw [show (a * 65536 + b * 256 + c) * 256 = a * 16777216 + b * 65536 + c * 256 by omega] at e3
  have h1 := u32_or_nat (a * 16777216) (b * 65536) (by omega) (by omega)
  have h2 := u32_or_nat (a * 16777216 + b * 65536) (c * 256) (by omega) (by omega)
  have h3 := u32_or_nat (a * 16777216 + b * 65536 + c * 256) d (by omega) (by omega)
  rw [e1] at h1
  rw [e2] at h2
  rw [e3] at h3
  simp only [Int.natCast_add, Int.natCast_mul] at h1 h2 h3 ⊢
  exact (congrArg (fun x => bits .or .u32 (bits .or .u32 x ((c : Int) * 256)) (d : Int)) h1).trans ((congrArg (fun x => bits .or .u32 x (d : Int)) h2).trans h3)
theorem end_four {l : List UInt8} {e : Nat} {d0 d1 d2 d3 : UInt8} (h : l[e]? = some d0 ∧ l[e + 1]? = some d1 ∧ l[e + 2]? = some d2 ∧ l[e + 3]? = some d3) : (l.drop e).take 4 = [d0, d1, d2, d3] := by
  obtain ⟨h0, h1, h2, h3⟩ := h
  apply List.ext_getElem?
  intro i
  rw [List.getElem?_take, List.getElem?_drop]
  match i with
  | 0 => simpa using h0
  | 1 => simpa using h1
  | 2 => simpa using h2
  | 3 => simpa using h3
  | i + 4 => rw [if_neg (by omega)]; simp
theorem endP_bad {l : List UInt8} {c n t m S : Nat} {d0 d1 d2 d3 : UInt8} (hl : ¬ l.length < t + m + 4) (h : l[t + m]? = some d0 ∧ l[t + m + 1]? = some d1 ∧ l[t + m + 2]? = some d2 ∧ l[t + m + 3]? = some d3) (hs : sumP (l.take (t + m)) = S)
    (hne : ¬ ((be4 [d0, d1, d2, d3] : Nat) : Int) = (S : Int)) : endP l c n t m = .inl 12 := by
  unfold endP
  rw [if_neg hl, end_four h, hs, if_pos (by omega)]
theorem endP_ok {l : List UInt8} {c n t m S : Nat} {d0 d1 d2 d3 : UInt8} (hl : ¬ l.length < t + m + 4) (h : l[t + m]? = some d0 ∧ l[t + m + 1]? = some d1 ∧ l[t + m + 2]? = some d2 ∧ l[t + m + 3]? = some d3) (hs : sumP (l.take (t + m)) = S)
    (hne : ((be4 [d0, d1, d2, d3] : Nat) : Int) = (S : Int)) : endP l c n t m = .inr (c, n, (l.drop t).take m, t + m + 4) := by
  unfold endP
  rw [if_neg hl, end_four h, hs, if_neg (by omega)]
theorem IsB.mid {w : World} {b off cap : Nat} {l : List UInt8} (h : IsB w (.slice (some ⟨b, off, none⟩) l.length cap) l) (k m : Nat) (hk : 1 ≤ k) (hm : k + m ≤ l.length) : IsB w (.slice (some ⟨b, off + k, none⟩) m (cap - k)) ((l.drop k).take m) := by
  have h1 := h.cut1 k (by omega)
  simp only [Option.map, Addr.add, if_neg (show ¬ k = 0 by omega)] at h1
  rw [show l.length - k = (l.drop k).length by simp] at h1
  exact h1.upto m (by simp; omega)

theorem OwnB.set {w : World} {base : Nat} {v : Value} {l : List UInt8} (h : OwnB w base v l) {b o : Nat} {u : Value} (hb : b < base) : OwnB (w.setCell ⟨b, o, none⟩ u) base v l := ownsRow_setCell_below h hb u
/-- What a cell holds, whatever it is. -/
def atC (w : World) (p : Addr) : Value := (w.cell? p).getD .nilIface
theorem at_of {w : World} {p : Addr} {v : Value} (h : w.cell? p = some v) : w.cell? p = some (atC w p) := by unfold atC; rw [h]; rfl
theorem at_drew {w : World} {p : Addr} (h : w.cell? p = some (atC w p)) : w.drew.cell? p = some (atC w.drew p) := h
theorem at_alloc {w : World} {x : Obj} {b o : Nat} (h : w.cell? ⟨b, o, none⟩ = some (atC w ⟨b, o, none⟩)) : (w.alloc x).cell? ⟨b, o, none⟩ = some (atC (w.alloc x) ⟨b, o, none⟩) := at_of (keep_alloc h)
theorem at_lt {W w' : World} {B b o : Nat} (hb : Below B W w') (h0 : b < B) (h : W.cell? ⟨b, o, none⟩ = some (atC W ⟨b, o, none⟩)) : w'.cell? ⟨b, o, none⟩ = some (atC w' ⟨b, o, none⟩) := at_of (keep_lt hb h0 h)
theorem at_set {w : World} {q p : Addr} {u : Value} (h : w.cell? p = some (atC w p)) : (w.setCell q u).cell? p = some (atC (w.setCell q u) p) := by
  obtain ⟨v, hv⟩ := cell?_setCell_some (p := q) (x := u) h
  exact at_of hv
theorem frozen_set {w : World} {q p : Addr} {u : Value} (h : w.frozen? p = false) : (w.setCell q u).frozen? p = false := by rw [World.frozen?_setCell]; exact h
theorem frozen_lt {W w' : World} {B b o : Nat} (h : Below B W w') (hb : b < B) (hc : W.frozen? ⟨b, o, none⟩ = false) : w'.frozen? ⟨b, o, none⟩ = false :=
  (h.frozen (p := ⟨b, o, none⟩) hb).trans hc
theorem frozen_drew {W : World} {b o : Nat} (hc : W.frozen? ⟨b, o, none⟩ = false) : W.drew.frozen? ⟨b, o, none⟩ = false := hc
theorem frozen_alloc {W : World} {x : Obj} {b o : Nat} (hb : b < W.heap.size) (hc : W.frozen? ⟨b, o, none⟩ = false) : (W.alloc x).frozen? ⟨b, o, none⟩ = false :=
  frozen_lt (bel_new W x) hb hc

set_option maxRecDepth 100000 in
set_option maxHeartbeats 2000000 in
/-- The way to the first number. -/
theorem dec_go (b off cap : Nat) (l : List UInt8) (c : UInt8) (w : World) (hl : l.length ≤ 140737488355000) (hcap : l.length ≤ cap) (hcm : cap ≤ maxLen) (hc0 : l[0]? = some c) (hk : 1 ≤ c.toNat ∧ c.toNat ≤ 127)
    (hc : ∀ i c, l[i]? = some c → w.cell? ⟨b, off + i, none⟩ = some (.int .u8 (c.toNat : Int))) :
    Calls Try.prog 21 #[.slice (some ⟨b, off, none⟩) l.length cap] w (DecPost w (decP l)) := by
  have h1 : w.cell? ⟨b, off, none⟩ = some (.int .u8 (c.toNat : Int)) := hc 0 c hc0
  have hbw := World.block_lt_of_cell? _ _ h1
  have hln : 0 < l.length := (List.getElem?_eq_some_iff.1 hc0).1
  have hcb := c.toNat_lt
  have HC0 := Lib.hid hc0
  have HC := Lib.hid hc
  have hcm' : (cap : Int) ≤ 9223372036854775807 := by unfold maxLen at hcm; omega
  clear hc0 hc
  obtain ⟨hk1, hk2⟩ := hk
  go_enter Try.func21, Try.ntmps21
  go_upto_region 8 with fail
  refine wp_loop_rounds 3 ?_
  rw [rounds_succ]
  go_upto_region 10 with fail
  have hI : IsB w (.slice (some ⟨b, off, none⟩) l.length cap) l := .inr ⟨by intro e; rw [e] at hln; simp at hln, b, off, cap, rfl, hcap, hcm, HC.out⟩
  have HI := Lib.hid hI
  have HD := Lib.hid (decP_cons l c HC0.out ⟨hk1, hk2⟩)
  clear hI
  obtain ⟨n1, k1, hX⟩ : ∃ n k, takeP 6 (l.drop 1) = (n, k) := ⟨_, _, rfl⟩
  have hbd := takeP_bd 6 (l.drop 1)
  have hT : ∀ u W, IsB W u (l.drop 1) → Calls Try.prog 37 #[u, .int .i64 6] W fun e w' => e = .returned (.tuple #[.int .i64 n1, .int .i64 k1]) ∧ W = w' := fun u W h => by
    have := take_any 6 u _ W (by omega) h
    rw [hX] at this
    exact this
  rw [hX] at hbd
  have HX := Lib.hid hX
  have HT := Lib.hid hT
  clear hX hT
  simp only [List.length_drop] at hbd
  obtain ⟨hbd1, hbd2, hbd3⟩ := hbd
  by_cases hcap1 : cap = 1
  · have hB1 : IsB w (.slice (some ⟨b, off, none⟩) (l.length - 1) 0) (l.drop 1) := HI.out.cut2 (by simp) 1 (by omega) hcap1
    have HB1 := Lib.hid hB1
    have hd : l.drop 1 = [] := List.drop_eq_nil_of_le (by omega)
    have hD : decP l = .inl 21 := by rw [HD.out, hd]; rfl
    have hk0 : k1 = 0 := by have := HX.out; rw [hd] at this; simp [takeP, takeF] at this; omega
    subst hk0
    have HDD := Lib.hid hD
    clear hd hD hB1
    go_wp2_with (go_at_call 37; refine (HT.out _ _ (((HB1.out.step (bel_new _ _)).step (bel_new _ _)).step (bel_new _ _))).mono ?_; rintro e w' ⟨rfl, rfl⟩)
    refine bodyPost_ret (v := .tuple #[.agg #[.int .i64 0, .int .i64 0, .slice none 0 0], .int .i64 0, .iface 94 (.int .i64 (((21 : Nat)) : Int))]) (by simp [results, Try.results21, go_sem]) rfl (DecPost.err HDD.out ?_)
    exact bel_alloc (bel_alloc (bel_new _ _))
  · have hB1 := HI.out.cut1 1 (by omega)
    have HB1 := Lib.hid hB1
    clear hB1
    go_upto_region 11 with (go_at_call 37; refine (HT.out _ _ (((HB1.out.step (bel_new _ _)).step (bel_new _ _)).step (bel_new _ _))).mono ?_; rintro e w' ⟨rfl, rfl⟩)
    have hB3 := bel_alloc (x := .cells #[.int .i64 1099511627776, .int .i64 131072] 3) (bel_alloc (x := .cells #[.int .i64 0, .int .i64 0] 35) (bel_new w (.cells #[.int .i64 0, .int .i64 0, .slice none 0 0] 86)))
    have HB3 := Lib.hid hB3
    clear hB3
    by_cases hk0 : k1 = 0
    · have HDD := Lib.hid (HD.out.trans (by rw [partP_end (by rw [HX.out]; exact hk0)]))
      subst hk0
      go_wp2
      refine bodyPost_ret (v := .tuple #[.agg #[.int .i64 0, .int .i64 0, .slice none 0 0], .int .i64 0, .iface 94 (.int .i64 (((21 : Nat)) : Int))]) (by simp [results, Try.results21, go_sem]) rfl (DecPost.err HDD.out ?_)
      exact HB3.out
    by_cases hkn : k1 < 0
    · have HDD := Lib.hid (HD.out.trans (by rw [partP_bad (by rw [HX.out]; exact hk0) (by rw [HX.out]; exact .inl hkn)]))
      go_wp2
      refine bodyPost_ret (v := .tuple #[.agg #[.int .i64 0, .int .i64 0, .slice none 0 0], .int .i64 0, .iface 94 (.int .i64 (((12 : Nat)) : Int))]) (by simp [results, Try.results21, go_sem]) rfl (DecPost.err HDD.out ?_)
      exact HB3.out
    by_cases hn1 : 1099511627776 < n1
    · have HDD := Lib.hid (HD.out.trans (by rw [partP_bad (by rw [HX.out]; exact hk0) (by rw [HX.out]; exact .inr hn1)]))
      go_wp2
      refine bodyPost_ret (v := .tuple #[.agg #[.int .i64 0, .int .i64 0, .slice none 0 0], .int .i64 0, .iface 94 (.int .i64 (((12 : Nat)) : Int))]) (by simp [results, Try.results21, go_sem]) rfl (DecPost.err HDD.out ?_)
      exact HB3.out
    obtain ⟨n, rfl⟩ : ∃ n : Nat, n1 = (n : Int) := ⟨n1.toNat, by omega⟩
    obtain ⟨k, rfl⟩ : ∃ k : Nat, k1 = (k : Int) := ⟨k1.toNat, by omega⟩
    have hkl : 1 + k ≤ l.length := by omega
    have hk1' : 1 ≤ k := by omega
    have hP1 : decP l = match partP 3 131072 (l.drop (1 + k)) with
        | .inl e => .inl e
        | .inr (m, j) => endP l c.toNat n (1 + k + j) m := by rw [HD.out, partP_ok HX.out hk1' (by omega)]
    have HP1 := Lib.hid hP1
    clear hP1
    clear HD HX HT hbd1 hbd2 hbd3 hk0 hkn
    have hk3 : (1 : Int) ≤ (k : Int) := by omega
    have hn3 : (n : Int) ≤ 1099511627776 := by omega
    clear hn1
    go_upto_region 17 with fail
    go_wp2_with fail
    rw [rounds_succ]
    go_upto_region 10 with fail
    obtain ⟨m1, j1, hX⟩ : ∃ m j, takeP 3 (l.drop (1 + k)) = (m, j) := ⟨_, _, rfl⟩
    have hbd := takeP_bd 3 (l.drop (1 + k))
    have hT : ∀ u W, IsB W u (l.drop (1 + k)) → Calls Try.prog 37 #[u, .int .i64 3] W fun e w' => e = .returned (.tuple #[.int .i64 m1, .int .i64 j1]) ∧ W = w' := fun u W h => by
      have := take_any 3 u _ W (by omega) h
      rw [hX] at this
      exact this
    rw [hX] at hbd
    have HX := Lib.hid hX
    have HT := Lib.hid hT
    clear hX hT
    simp only [List.length_drop] at hbd
    obtain ⟨hbd1, hbd2, hbd3⟩ := hbd
    have HB0 := Lib.hid HB3.out
    have hB3 := bel_alloc (x := .cells #[.int .i64 1099511627776, .int .i64 131072] 3) (bel_alloc (x := .cells #[.int .i64 n, .int .i64 0] 35) (bel_new w (.cells #[.int .i64 0, .int .i64 0, .slice none 0 0] 86)))
    have HB3 := Lib.hid hB3
    clear hB3
    by_cases hcap2 : cap = 1 + k
    · have hB1 : IsB w (.slice (some ⟨b, off, none⟩) (l.length - (1 + k)) 0) (l.drop (1 + k)) := HI.out.cut2 (by simp) (1 + k) (by omega) hcap2
      have HB1 := Lib.hid hB1
      have hd : l.drop (1 + k) = [] := List.drop_eq_nil_of_le (by omega)
      have hD : decP l = .inl 21 := by rw [HP1.out, hd]; rfl
      have hk0 : j1 = 0 := by have := HX.out; rw [hd] at this; simp [takeP, takeF] at this; omega
      subst hk0
      have HDD := Lib.hid hD
      clear hd hD hB1
      go_wp2_with (go_at_call 37; refine (HT.out _ _ (HB1.out.step HB3.out)).mono ?_; rintro e w' ⟨rfl, rfl⟩)
      refine bodyPost_ret (v := .tuple #[.agg #[.int .i64 0, .int .i64 0, .slice none 0 0], .int .i64 0, .iface 94 (.int .i64 (((21 : Nat)) : Int))]) (by simp [results, Try.results21, go_sem]) rfl (DecPost.err HDD.out ?_)
      exact HB3.out
    · have hB1 : IsB w (.slice (some ⟨b, off + (1 + k), none⟩) (l.length - (1 + k)) (cap - (1 + k))) (l.drop (1 + k)) := by
        have h9 := HI.out.cut1 (1 + k) (by omega)
        simp only [Option.map, Addr.add, if_neg (show ¬ 1 + k = 0 by omega)] at h9
        exact h9
      have HB1 := Lib.hid hB1
      clear hB1
      go_upto_region 11 with (go_at_call 37; refine (HT.out _ _ (HB1.out.step HB3.out)).mono ?_; rintro e w' ⟨rfl, rfl⟩)
      by_cases hk0 : j1 = 0
      · have HDD := Lib.hid (HP1.out.trans (by rw [partP_end (by rw [HX.out]; exact hk0)]))
        subst hk0
        go_wp2
        refine bodyPost_ret (v := .tuple #[.agg #[.int .i64 0, .int .i64 0, .slice none 0 0], .int .i64 0, .iface 94 (.int .i64 (((21 : Nat)) : Int))]) (by simp [results, Try.results21, go_sem]) rfl (DecPost.err HDD.out ?_)
        exact HB3.out
      by_cases hkn : j1 < 0
      · have HDD := Lib.hid (HP1.out.trans (by rw [partP_bad (by rw [HX.out]; exact hk0) (by rw [HX.out]; exact .inl hkn)]))
        go_wp2
        refine bodyPost_ret (v := .tuple #[.agg #[.int .i64 0, .int .i64 0, .slice none 0 0], .int .i64 0, .iface 94 (.int .i64 (((12 : Nat)) : Int))]) (by simp [results, Try.results21, go_sem]) rfl (DecPost.err HDD.out ?_)
        exact HB3.out
      by_cases hn1 : 131072 < m1
      · have HDD := Lib.hid (HP1.out.trans (by rw [partP_bad (by rw [HX.out]; exact hk0) (by rw [HX.out]; exact .inr hn1)]))
        go_wp2
        refine bodyPost_ret (v := .tuple #[.agg #[.int .i64 0, .int .i64 0, .slice none 0 0], .int .i64 0, .iface 94 (.int .i64 (((12 : Nat)) : Int))]) (by simp [results, Try.results21, go_sem]) rfl (DecPost.err HDD.out ?_)
        exact HB3.out
      obtain ⟨m, rfl⟩ : ∃ n : Nat, m1 = (n : Int) := ⟨m1.toNat, by omega⟩
      obtain ⟨j, rfl⟩ : ∃ k : Nat, j1 = (k : Int) := ⟨j1.toNat, by omega⟩
      have hkl2 : 1 + k + j ≤ l.length := by omega
      have hj1' : 1 ≤ j := by omega
      have hP2 : decP l = endP l c.toNat n (1 + k + j) m := by rw [HP1.out, partP_ok HX.out hj1' (by omega)]
      have HP2 := Lib.hid hP2
      clear hP2
      clear HP1 HX HT hbd1 hbd2 hbd3 hk0 hkn HB3 HB0
      have hj3 : (1 : Int) ≤ (j : Int) := by omega
      have hm3 : (m : Int) ≤ 131072 := by omega
      clear hn1
      have hB3 := bel_alloc (x := .cells #[.int .i64 1099511627776, .int .i64 131072] 3) (bel_alloc (x := .cells #[.int .i64 n, .int .i64 m] 35) (bel_new w (.cells #[.int .i64 0, .int .i64 0, .slice none 0 0] 86)))
      have HB3 := Lib.hid hB3
      clear hB3
      go_upto_region 17 with fail
      go_wp2_with fail
      try rw [rounds_succ]
      go_upto_region 18 with fail
      clear HB1 hcap2 hkl
      go_upto_region 19 with fail
      by_cases hle : l.length < 1 + k + j + m + 4
      · have HDD := Lib.hid (HP2.out.trans (by unfold endP; rw [if_pos hle]))
        go_wp2
        refine bodyPost_ret (v := .tuple #[.agg #[.int .i64 0, .int .i64 0, .slice none 0 0], .int .i64 0, .iface 94 (.int .i64 (((21 : Nat)) : Int))]) (by simp [results, Try.results21, go_sem]) rfl (DecPost.err HDD.out ?_)
        exact HB3.out
      have hHT := HI.out.upto (1 + k + j + m) (by omega)
      have HHT := Lib.hid hHT
      clear hHT
      have hs32 := word_sumP (l.take (1 + k + j + m))
      unfold Word at hs32
      obtain ⟨S, hS⟩ : ∃ S, sumP (l.take (1 + k + j + m)) = S := ⟨_, rfl⟩
      have HS := Lib.hid hS
      have hT : ∀ W, IsB W (.slice (some ⟨b, off, none⟩) (1 + k + j + m) cap) (l.take (1 + k + j + m)) → Calls Try.prog 36 #[.slice (some ⟨b, off, none⟩) (1 + k + j + m) cap] W fun e w' => e = .returned (.int .u32 (S : Int)) ∧ W = w' := fun W h => by
        have := sum_any _ _ W h
        rw [hS] at this
        exact this
      have HT := Lib.hid hT
      clear hT
      rw [hS] at hs32
      clear hS
      obtain ⟨d0, e0⟩ : ∃ d, l[1 + k + j + m]? = some d := ⟨_, List.getElem?_eq_getElem (by omega)⟩
      obtain ⟨d1, e1⟩ : ∃ d, l[1 + k + j + m + 1]? = some d := ⟨_, List.getElem?_eq_getElem (by omega)⟩
      obtain ⟨d2, e2⟩ : ∃ d, l[1 + k + j + m + 2]? = some d := ⟨_, List.getElem?_eq_getElem (by omega)⟩
      obtain ⟨d3, e3⟩ : ∃ d, l[1 + k + j + m + 3]? = some d := ⟨_, List.getElem?_eq_getElem (by omega)⟩
      have g0 := keep_at HB3.out (HC.out _ _ e0)
      have g1 := keep_at HB3.out (HC.out _ _ e1)
      have g2 := keep_at HB3.out (HC.out _ _ e2)
      have g3 := keep_at HB3.out (HC.out _ _ e3)
      have f0 := d0.toNat_lt
      have f1 := d1.toNat_lt
      have f2 := d2.toNat_lt
      have f3 := d3.toNat_lt
      have EE := Lib.hid (And.intro e0 (And.intro e1 (And.intro e2 e3)))
      clear e0 e1 e2 e3 h1
      go_upto_region 23 with (go_at_call 36; refine (HT.out _ (HHT.out.step HB3.out)).mono ?_; rintro e w' ⟨rfl, rfl⟩)
      go_region
      go_upto_region 24 with fail
      · rename_i hne
        rw [or_be4] at hne
        have hne' : ¬ ((be4 [d0, d1, d2, d3] : Nat) : Int) = (S : Int) := fun e => by rw [e] at hne; simp at hne
        refine bodyPost_ret (v := .tuple #[.agg #[.int .i64 0, .int .i64 0, .slice none 0 0], .int .i64 0, .iface 94 (.int .i64 (((12 : Nat)) : Int))]) (by simp [results, Try.results21, go_sem]) rfl (DecPost.err (HP2.out.trans (endP_bad (by omega) EE.out HS.out hne')) ?_)
        exact bel_drew HB3.out
      · have hne : (bits .or .u32 (bits .or .u32 (bits .or .u32 ((d0.toNat : Int) * 16777216) ((d1.toNat : Int) * 65536)) ((d2.toNat : Int) * 256)) (d3.toNat : Int) != (S : Int)) = false := by assumption
        rw [or_be4] at hne
        have hP3 := HP2.out.trans (endP_ok (by omega) EE.out HS.out (by simpa only [bne_eq_false_iff_eq] using hne))
        have HP3 := Lib.hid hP3
        have C0 := keep_drew (keep_at HB3.out (HC.out 0 c HC0.out))
        have BW := bel_drew HB3.out
        have hSl := (HI.out.mid (1 + k + j) m (by omega) (by omega)).step BW
        simp only [Nat.add_zero] at C0
        have C1 : ((((w.alloc (.cells #[.int .i64 0, .int .i64 0, .slice none 0 0] 86)).alloc (.cells #[.int .i64 n, .int .i64 m] 35)).alloc (.cells #[.int .i64 1099511627776, .int .i64 131072] 3)).drew).cell? ⟨w.heap.size + 1, 0, none⟩ = some (.int .i64 n) := by simp [go_sem]
        have R0 : ((((w.alloc (.cells #[.int .i64 0, .int .i64 0, .slice none 0 0] 86)).alloc (.cells #[.int .i64 n, .int .i64 m] 35)).alloc (.cells #[.int .i64 1099511627776, .int .i64 131072] 3)).drew).cell? ⟨w.heap.size, 0, none⟩ = some (.int .i64 0) := by simp [go_sem]
        have R1 : ((((w.alloc (.cells #[.int .i64 0, .int .i64 0, .slice none 0 0] 86)).alloc (.cells #[.int .i64 n, .int .i64 m] 35)).alloc (.cells #[.int .i64 1099511627776, .int .i64 131072] 3)).drew).cell? ⟨w.heap.size, 1, none⟩ = some (.int .i64 0) := by simp [go_sem]
        have R2 : ((((w.alloc (.cells #[.int .i64 0, .int .i64 0, .slice none 0 0] 86)).alloc (.cells #[.int .i64 n, .int .i64 m] 35)).alloc (.cells #[.int .i64 1099511627776, .int .i64 131072] 3)).drew).cell? ⟨w.heap.size, 2, none⟩ = some (.slice none 0 0) := by simp [go_sem]
        have F0 : ∀ o, ((((w.alloc (.cells #[.int .i64 0, .int .i64 0, .slice none 0 0] 86)).alloc (.cells #[.int .i64 n, .int .i64 m] 35)).alloc (.cells #[.int .i64 1099511627776, .int .i64 131072] 3)).drew).frozen? ⟨w.heap.size, o, none⟩ = false := by intro o; simp [go_sem]
        have hz : ((((w.alloc (.cells #[.int .i64 0, .int .i64 0, .slice none 0 0] 86)).alloc (.cells #[.int .i64 n, .int .i64 m] 35)).alloc (.cells #[.int .i64 1099511627776, .int .i64 131072] 3)).drew).heap.size = w.heap.size + 3 := by simp [go_sem]
        have HB3 := HB3
        clear HB3 g0 g1 g2 g3 HT HHT EE HS HP2 f0 f1 f2 f3 hs32 hne HI HC HC0
        replace R0 := at_of R0
        replace R1 := at_of R1
        replace R2 := at_of R2
        generalize ((((w.alloc (.cells #[.int .i64 0, .int .i64 0, .slice none 0 0] 86)).alloc (.cells #[.int .i64 n, .int .i64 m] 35)).alloc (.cells #[.int .i64 1099511627776, .int .i64 131072] 3)).drew) = W at *
        have HSl := Lib.hid hSl
        have hSl2 : IsB W (.slice (if cap = (1 + (k : Int) + (j : Int)).toNat then some ⟨b, off, none⟩ else some ⟨b, off + (1 + (k : Int) + (j : Int)).toNat, none⟩) ((1 + (k : Int) + (j : Int) + (m : Int)).toNat - (1 + (k : Int) + (j : Int)).toNat) (cap - (1 + (k : Int) + (j : Int)).toNat)) ((l.drop (1 + k + j)).take m) := by
          rw [show (1 + (k : Int) + (j : Int) + (m : Int)).toNat = 1 + k + j + m by omega, show (1 + (k : Int) + (j : Int)).toNat = 1 + k + j by omega, if_neg (by omega), show 1 + k + j + m - (1 + k + j) = m by omega]
          exact HSl.out
        have HSl2 := Lib.hid hSl2
        have HZ := Lib.hid hz
        have hzl : w.heap.size < W.heap.size := by omega
        clear hSl2 hz
        have q1 : (0 : Int) ≤ 1 + (k : Int) + (j : Int) := by omega
        have q2 : 1 + (k : Int) + (j : Int) ≤ 1 + (k : Int) + (j : Int) + (m : Int) := by omega
        have q3 : 1 + (k : Int) + (j : Int) + (m : Int) ≤ (cap : Int) := by omega
        clear hSl hP3
        go_region_held3 (fun w' => w'.cell? ⟨b, off, none⟩ = some (.int .u8 (c.toNat : Int)) ∧ w'.cell? ⟨w.heap.size + 1, 0, none⟩ = some (.int .i64 n) ∧ w'.cell? ⟨w.heap.size, 0, none⟩ = some (atC w' ⟨w.heap.size, 0, none⟩) ∧ w'.cell? ⟨w.heap.size, 1, none⟩ = some (atC w' ⟨w.heap.size, 1, none⟩) ∧ w'.cell? ⟨w.heap.size, 2, none⟩ = some (atC w' ⟨w.heap.size, 2, none⟩) ∧ w'.frozen? ⟨w.heap.size, 0, none⟩ = false ∧ w'.frozen? ⟨w.heap.size, 1, none⟩ = false ∧ w'.frozen? ⟨w.heap.size, 2, none⟩ = false)
          ((go_split_ands; refine ⟨?_, ?_, ?_, ?_, ?_, ?_, ?_, ?_⟩ <;> (repeat (with_reducible (first | assumption | exact F0 _ | refine at_drew ?_ | refine at_alloc ?_ | refine at_set ?_ | refine at_lt hb2 (by omega) ?_ | refine keep_drew ?_ | refine frozen_drew ?_ | refine frozen_set ?_ | refine keep_set (by omega) ?_ | refine keep_alloc ?_ | refine keep_lt hb2 (by omega) ?_ | refine frozen_lt hb2 (by omega) ?_ | refine frozen_alloc (by omega) ?_)))))
          (first | (refine step_app (by rfl) _ _ (by rfl) (w.heap.size + 3) _ [] (by rfl) (by exact OwnB.drew (OwnB.made W _ (Nat.le_of_eq HZ.out.symm))) _ ((l.drop (1 + k + j)).take m) (by rfl) (by (simp [go_sem]; exact HSl2.out.step (bel_drew (bel_new W _)))) (by simp; omega) (by exact Nat.le_trans (Nat.le_of_eq HZ.out.symm) (bel_new W (.cells #[] 5)).size) ?_; intro v2 w2 ho2 hb2 hz2; obtain ⟨a2, cp2, rfl, hg1, hg2, hg3⟩ := ho2.isB.shape))
        have hwr : IntKind.i64.wrap (1 + (k : Int) + (j : Int) + (m : Int) + 4) = 1 + (k : Int) + (j : Int) + (m : Int) + 4 := by rw [IntKind.wrap_i64]; omega
        rw [hwr]
        go_wp2_with fail
        have r0 := at_lt hb2 (show w.heap.size < w.heap.size + 3 by omega) (at_drew (at_alloc (x := .cells #[] 5) R0))
        have r1 := at_lt hb2 (show w.heap.size < w.heap.size + 3 by omega) (at_drew (at_alloc (x := .cells #[] 5) R1))
        have r2 := at_lt hb2 (show w.heap.size < w.heap.size + 3 by omega) (at_drew (at_alloc (x := .cells #[] 5) R2))
        have hwc : IntKind.i64.wrap (c.toNat : Int) = (c.toNat : Int) := by rw [IntKind.wrap_i64]; omega
        have hlen : ([] ++ (l.drop (1 + k + j)).take m).length = min m (l.length - (1 + k + j)) := by simp
        rw [hlen] at ho2
        rw [hwc]
        refine bodyPost_ret (v := .tuple #[.agg #[.int .i64 c.toNat, .int .i64 n, .slice a2 (min m (l.length - (1 + k + j))) cp2], .int .i64 (1 + (k : Int) + (j : Int) + (m : Int) + 4), .nilIface]) (by simp [results, Try.results21, go_sem, r0, r1, r2]) rfl ?_
        rw [HP3.out]
        refine ⟨.slice a2 (min m (l.length - (1 + k + j))) cp2, ?_, ?_, ?_⟩
        · simp only [Int.natCast_add]; rfl
        · exact OwnB.mono (OwnB.set (OwnB.set (OwnB.set ho2 (b := w.heap.size) (by omega)) (b := w.heap.size) (by omega)) (b := w.heap.size) (by omega)) (by omega)
        · exact (((BW.trans ((bel_drew (bel_new W _)).mono (by omega))).trans (hb2.mono (by omega))).setCell (Nat.le_refl _) _ |>.setCell (Nat.le_refl _) _).setCell (Nat.le_refl _) _

/-- Decode of any bytes. -/
theorem dec_any (v : Value) (l : List UInt8) (w : World) (h : IsB w v l) (hl : l.length ≤ 140737488355000) : Calls Try.prog 21 #[v] w (DecPost w (decP l)) := by
  rcases h with ⟨rfl, a, cap, rfl, h1, h2⟩ | ⟨h0, b, off, cap, rfl, h1, h2, h3⟩
  · exact dec_nil a cap w
  · cases l with
    | nil => exact absurd rfl h0
    | cons c r =>
      by_cases hk : c.toNat < 1 ∨ 127 < c.toNat
      · have e : decP (c :: r) = .inl 12 := by simp only [decP]; rw [if_pos hk]
        rw [e]
        exact dec_kind b off cap (c :: r) c w rfl h1 (h3 0 c rfl) hk
      · exact dec_go b off cap (c :: r) c w hl h1 h2 rfl (by omega) h3
end Go.Proofs.Ythhooocckfljaaa
