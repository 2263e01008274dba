/- The walk of the reference's Decode: it is the program's. No condition beyond a length that memory allows. -/
import Derived.Test.YtnieoaadhbcjiaaRefPart
import Derived.Test.YtnieoaadhbcjiaaRefe
import Derived.Test.YtnieoaadhbcjiaaBurst
import Derived.Test.YtnieoaadhbcjiaaRefLaw
namespace Go.Proofs.Ytnieoaadhbcjiaa
open Go.RowKit
set_option linter.unusedVariables false
set_option linter.unusedSimpArgs false

/-- What the reference's Decode returns. -/
def RDecPost (w : World) (r : Nat ⊕ (Nat × Nat × List UInt8 × Nat)) (e : Ending) (w' : World) : Prop :=
  match r with
  | .inl code => e = .returned (.tuple #[.agg #[.int .i64 0, .int .i64 0, .slice none 0 0], .int .i64 0, .int .i64 code]) ∧ Below w.heap.size w w'
  | .inr (k, n, p, s) => ∃ u, e = .returned (.tuple #[.agg #[.int .i64 k, .int .i64 n, u], .int .i64 s, .int .i64 0]) ∧ OwnB w' w.heap.size u p ∧ Below w.heap.size w w'
theorem RDecPost.err {w w' : World} {r : Nat ⊕ (Nat × Nat × List UInt8 × Nat)} {code : Nat} (h : r = .inl code) (hb : Below w.heap.size w w') :
    RDecPost w r (.returned (.tuple #[.agg #[.int .i64 0, .int .i64 0, .slice none 0 0], .int .i64 0, .int .i64 (code : Int)])) w' := by
  subst h
  exact ⟨rfl, hb⟩
theorem rdec_nil (a : Option Addr) (cap : Nat) (w : World) : Calls Try.prog 34 #[.slice a 0 cap] w (RDecPost w (.inl 21)) := by
  go_enter Try.func34, Try.ntmps34
  go_wp2
  refine bodyPost_ret (v := .tuple #[.agg #[.int .i64 0, .int .i64 0, .slice none 0 0], .int .i64 0, .int .i64 ((21 : Nat) : Int)]) (by simp [results, Try.results34, go_sem]) rfl (RDecPost.err rfl ?_)
  exact bel_new _ _
theorem rdec_kind (b off cap : Nat) (l : List UInt8) (c : UInt8) (w : World) (hc0 : l[0]? = some c) (hcap : l.length ≤ cap) (h1 : w.cell? ⟨b, off, none⟩ = some (.int .u8 (c.toNat : Int))) (hk : c.toNat < 1 ∨ 127 < c.toNat) :
    Calls Try.prog 34 #[.slice (some ⟨b, off, none⟩) l.length cap] w (RDecPost w (.inl 12)) := by
  have hbw := World.block_lt_of_cell? _ _ h1
  have hln : 0 < l.length := (List.getElem?_eq_some_iff.1 hc0).1
  have hcb := c.toNat_lt
  clear hc0
  have hk' : (c.toNat < 1) ∨ (¬ c.toNat < 1 ∧ 127 < c.toNat) := by omega
  clear hk
  rcases hk' with hk | ⟨hk, hk2⟩
  all_goals
    go_enter Try.func34, Try.ntmps34
    go_wp2
    refine bodyPost_ret (v := .tuple #[.agg #[.int .i64 0, .int .i64 0, .slice none 0 0], .int .i64 0, .int .i64 ((12 : Nat) : Int)]) (by simp [results, Try.results34, go_sem]) rfl (RDecPost.err rfl ?_)
    exact bel_new _ _

/-- A block that is no row of bytes. -/
def box43 : Obj := .cells #[.int .i64 0, .int .i64 0, .slice none 0 0] 43
theorem own_ne3 {w : World} {base b : Nat} {v : Value} {l : List UInt8} (h : OwnB w base v l) (hb : w.heap[b]? = some box43) : v.ownBlock ≠ some b := by
  intro e
  rcases h.2 with ⟨rfl, _⟩ | ⟨g, cap, cur, rfl, _, hg, _⟩
  · simp [Value.ownBlock] at e
  · simp [Value.ownBlock] at e
    subst e
    rw [hb] at hg
    simp [box43] at hg
theorem step_apk3 {ops : Array Oper} {o : Oper} {a : Act} {K : Act → World → Prop} {Q : Exit → Act → World → Prop} {E : Prop} {w : World} (hgd : o.guard = none) (s x : Operand)
    (ho : o.op = .call { callee := .builtin .append, args := #[s, x], argTypes := #[23, 23] })
    (base : Nat) (v : Value) (l : List UInt8) (hs : a.eval s = v) (hown : OwnB w base v l) (u : Value) (l2 : List UInt8) (hx : a.eval x = u) (hu : IsB w u l2)
    (hb : l.length + l2.length ≤ 140737488355328) (hbase : base ≤ w.heap.size)
    (h : ∀ (v' : Value) (w' : World), OwnB w' base v' (l ++ l2) → Below base w w' → w.heap.size ≤ w'.heap.size → (∀ b : Nat, w.heap[b]? = some box43 → w'.heap[b]? = some box43) → K (a.put o.dst v') w') :
    if Region.wanted o (yielded ops a.tmps) = true then Oper.wp Try.prog o a w K Q else E := by
  have hw : Region.wanted o (yielded ops a.tmps) = true := by simp [Region.wanted, hgd]
  rw [if_pos hw]
  obtain ⟨i0, hi, hz0, hz1, hz2⟩ := info_parts info5
  rcases hu.news with ⟨rfl, rfl⟩ | ⟨ad, cap, rfl, hc, hm, hcells⟩
  · have hrun := run_append_owned_none (P := Try.prog) (w := w) base 23 o.type 5 i0 1 Try.underlying23 hi v l.length (l.map bcell) hown
    unfold Oper.wp
    simp [execOp, ho, resolve, invoke, builtin, hs, hx, hrun, Result.andThen]
    exact h v w (by simpa using hown) (Below.refl _ _) (Nat.le_refl _) (fun _ h => h)
  · refine wp_append_own w s x 23 ho base 5 i0 (.int .u8 0) 1 1 Try.underlying23 hi hz0 hz1 hz2 rfl (by decide) v l.length (l.map bcell) hs hown ad l2.length cap (l2.map bcell) hx (by simp) hcells (bcell_one l2)
      (by unfold maxLen; omega) (by omega) hbase ?_
    intro v' w' hown' hgrow hnil
    refine h v' w' (by simpa [OwnB] using hown') ((Below.refl base w).grown hgrow hbase fun k hk => (World.ownsRow.lt hown k hk).1) hgrow.size (fun b hb => ?_)
    have hlt : b < w.heap.size := by
      rcases Nat.lt_or_ge b w.heap.size with h | h
      · exact h
      · rw [Array.getElem?_eq_none h] at hb; cases hb
    exact (hgrow.block b hlt (fun e => own_ne3 hown hb e.symm)).trans hb
theorem keep_blk3 {W w' : World} (hb : Below W.heap.size W w') {b : Nat} (h : W.heap[b]? = some box43) : w'.heap[b]? = some box43 := by
  have hlt : b < W.heap.size := by
    rcases Nat.lt_or_ge b W.heap.size with h' | h'
    · exact h'
    · rw [Array.getElem?_eq_none h'] at h; cases h
  exact (hb.block b hlt).trans h
theorem new_blk3 {w : World} {n : Nat} (h : w.heap.size = n) : (w.alloc box43).heap[n]? = some box43 := by subst h; exact heap_alloc_new w _
theorem old_blk3 {w : World} {n : Nat} {o : Obj} (h : w.heap[n]? = some box43) : (w.alloc o).heap[n]? = some box43 := keep_blk3 (bel_new w o) h
theorem box_cells3 {w : World} {b : Nat} (h : w.heap[b]? = some box43) : w.cell? ⟨b, 0, none⟩ = some (.int .i64 0) ∧ w.cell? ⟨b, 1, none⟩ = some (.int .i64 0) ∧ w.cell? ⟨b, 2, none⟩ = some (.slice none 0 0) ∧
    w.frozen? ⟨b, 0, none⟩ = false ∧ w.frozen? ⟨b, 1, none⟩ = false ∧ w.frozen? ⟨b, 2, none⟩ = false := by
  have h' : w.heap[b]? = some (.cells #[.int .i64 0, .int .i64 0, .slice none 0 0] 43) := h
  refine ⟨?_, ?_, ?_, ?_, ?_, ?_⟩ <;> simp [World.cell?, World.frozen?, h'] <;> rfl

theorem NoB.box3 {w : World} {g : Nat} (h : w.heap[g]? = some box43) : NoB w g := by
  intro o n e
  have h' : w.heap[g]? = some (.cells #[.int .i64 0, .int .i64 0, .slice none 0 0] 43) := h
  rw [cell_of_row w g o _ _ _ h'] at e
  match o, e with
  | 0, e => simp at e
  | 1, e => simp at e
  | 2, e => simp at e
  | o + 3, e => simp at e
theorem own_away {w : World} {base g o : Nat} {v x : Value} {l : List UInt8} (h : OwnB w base v l) (hg : v.ownBlock ≠ some g) : OwnB (w.setCell ⟨g, o, none⟩ x) base v l := by
  obtain ⟨h0, h1⟩ := h
  refine ⟨h0, ?_⟩
  rcases h1 with h1 | ⟨g2, cap, cur, rfl, h3, h4, h5⟩
  · exact .inl h1
  · refine .inr ⟨g2, cap, cur, rfl, h3, ?_, h5⟩
    have hne : g2 ≠ g := fun e => hg (by rw [e]; rfl)
    rw [Below.heap_setCell w ⟨g, o, none⟩ x g2 hne]
    exact h4
theorem fin3_box {W w5 : World} {g : Nat} {x y : Int} {u : Value} {l : List UInt8} (hg : w5.heap[g]? = some box43) (hB : Below W.heap.size W w5) (hge : W.heap.size ≤ g) (hu : OwnB w5 W.heap.size u l) :
    (((w5.setCell ⟨g, 0, none⟩ (.int .i64 x)).setCell ⟨g, 1, none⟩ (.int .i64 y)).setCell ⟨g, 2, none⟩ u).cell? ⟨g, 0, none⟩ = some (.int .i64 x) ∧
    (((w5.setCell ⟨g, 0, none⟩ (.int .i64 x)).setCell ⟨g, 1, none⟩ (.int .i64 y)).setCell ⟨g, 2, none⟩ u).cell? ⟨g, 1, none⟩ = some (.int .i64 y) ∧
    (((w5.setCell ⟨g, 0, none⟩ (.int .i64 x)).setCell ⟨g, 1, none⟩ (.int .i64 y)).setCell ⟨g, 2, none⟩ u).cell? ⟨g, 2, none⟩ = some u ∧
    OwnB (((w5.setCell ⟨g, 0, none⟩ (.int .i64 x)).setCell ⟨g, 1, none⟩ (.int .i64 y)).setCell ⟨g, 2, none⟩ u) W.heap.size u l ∧
    Below W.heap.size W (((w5.setCell ⟨g, 0, none⟩ (.int .i64 x)).setCell ⟨g, 1, none⟩ (.int .i64 y)).setCell ⟨g, 2, none⟩ u) := by
  obtain ⟨d0, d1, d2, _⟩ := box_cells3 hg
  have hn := own_ne3 hu hg
  refine ⟨by simp [go_sem, d0, d1, d2], by simp [go_sem, d0, d1, d2], by simp [go_sem, d0, d1, d2], own_away (own_away (own_away hu hn) hn) hn, ?_⟩
  exact ((hB.setCell (p := ⟨g, 0, none⟩) (by show W.heap.size ≤ g; omega) _).setCell (p := ⟨g, 1, none⟩) (by show W.heap.size ≤ g; omega) _).setCell (p := ⟨g, 2, none⟩) (by show W.heap.size ≤ g; omega) _
theorem fin3_new {W w5 : World} {x y : Int} {u : Value} {l : List UInt8} (hB : Below W.heap.size W w5) (hu : OwnB w5 W.heap.size u l) :
    (w5.alloc (.cells #[.int .i64 x, .int .i64 y, u] 43)).cell? ⟨w5.heap.size, 0, none⟩ = some (.int .i64 x) ∧
    (w5.alloc (.cells #[.int .i64 x, .int .i64 y, u] 43)).cell? ⟨w5.heap.size, 1, none⟩ = some (.int .i64 y) ∧
    (w5.alloc (.cells #[.int .i64 x, .int .i64 y, u] 43)).cell? ⟨w5.heap.size, 2, none⟩ = some u ∧
    OwnB (w5.alloc (.cells #[.int .i64 x, .int .i64 y, u] 43)) W.heap.size u l ∧
    Below W.heap.size W (w5.alloc (.cells #[.int .i64 x, .int .i64 y, u] 43)) := by
  exact ⟨by simp [go_sem], by simp [go_sem], by simp [go_sem], hu.alloc, bel_alloc hB⟩

set_option maxRecDepth 100000 in
set_option maxHeartbeats 2500000 in
theorem rdec_go (b off cap : Nat) (l : List UInt8) (c : UInt8) (w : World) (hl : l.length ≤ 140737488355000) (hcap : l.length ≤ cap) (hcm : cap ≤ maxLen) (hc0 : l[0]? = some c) (hk : 1 ≤ c.toNat ∧ c.toNat ≤ 127)
    (hc : ∀ i c, l[i]? = some c → w.cell? ⟨b, off + i, none⟩ = some (.int .u8 (c.toNat : Int))) :
    Calls Try.prog 34 #[.slice (some ⟨b, off, none⟩) l.length cap] w (RDecPost w (decP l)) := by
  have h1 : w.cell? ⟨b, off, none⟩ = some (.int .u8 (c.toNat : Int)) := hc 0 c hc0
  have hbw := World.block_lt_of_cell? _ _ h1
  have hln : 0 < l.length := (List.getElem?_eq_some_iff.1 hc0).1
  have hcb := c.toNat_lt
  have HC0 := Lib.hid hc0
  have HC := Lib.hid hc
  have hcm' : (cap : Int) ≤ 9223372036854775807 := by unfold maxLen at hcm; omega
  clear hc0 hc
  obtain ⟨hk1, hk2⟩ := hk
  have hI : IsB w (.slice (some ⟨b, off, none⟩) l.length cap) l := .inr ⟨by intro e; rw [e] at hln; simp at hln, b, off, cap, rfl, hcap, hcm, HC.out⟩
  have HI := Lib.hid hI
  have HD := Lib.hid (decP_cons l c HC0.out ⟨hk1, hk2⟩)
  clear hI
  have hT : ∀ (q : Nat) (bytes most : Nat) u W, 1 ≤ bytes ∧ bytes ≤ 8 → IsB W u (l.drop q) → Calls Try.prog 49 #[u, .int .i64 bytes, .int .i64 most] W fun e w' => e = .returned (partV (partP bytes most (l.drop q))) ∧ W = w' := fun q bytes most u W h8 h => part_any bytes most u _ W h8 (by simp; omega) h
  have HT := Lib.hid hT
  clear hT
  have hB1 : ∃ o1 c1, (IsB w (.slice (some ⟨b, o1, none⟩) (l.length - 1) c1) (l.drop 1)) ∧ ((cap = 1 ∧ o1 = off ∧ c1 = 0) ∨ (cap ≠ 1 ∧ o1 = off + 1 ∧ c1 = cap - 1)) := by
    by_cases hcap1 : cap = 1
    · exact ⟨off, 0, HI.out.cut2 (by simp) 1 (by omega) hcap1, .inl ⟨hcap1, rfl, rfl⟩⟩
    · exact ⟨off + 1, cap - 1, HI.out.cut1 1 (by omega), .inr ⟨hcap1, rfl, rfl⟩⟩
  obtain ⟨o1, c1, hB1, hoc⟩ := hB1
  have HB1 := Lib.hid hB1
  clear hB1
  have hT1 : ∀ W, IsB W (.slice (some ⟨b, o1, none⟩) (l.length - 1) c1) (l.drop 1) → Calls Try.prog 49 #[.slice (some ⟨b, o1, none⟩) (l.length - 1) c1, .int .i64 6, .int .i64 1099511627776] W fun e w' => e = .returned (partV (partP 6 1099511627776 (l.drop 1))) ∧ W = w' := fun W h => HT.out 1 6 1099511627776 _ W (by omega) h
  have hB0 := bel_new w (.cells #[.int .i64 0, .int .i64 0, .slice none 0 0] 43)
  have HB0 := Lib.hid hB0
  clear hB0
  cases hP : partP 6 1099511627776 (l.drop 1) with
  | inl e =>
    rw [hP] at hT1
    simp only [partV] at hT1
    have HT1 := Lib.hid hT1
    have hDD : decP l = .inl e := by rw [HD.out, hP]
    have HDD := Lib.hid hDD
    have he0 : ((e : Int) == 0) = false := by
      have := part_cases 6 1099511627776 (l.drop 1) (by omega)
      rw [hP] at this
      rcases this with ⟨h, _⟩ | ⟨h, _⟩ | ⟨_, _, h, _⟩
      · injection h with h; subst h; rfl
      · injection h with h; subst h; rfl
      · cases h
    clear hT1 hDD hP
    rcases hoc with ⟨h9, rfl, rfl⟩ | ⟨h9, rfl, rfl⟩
    all_goals
      go_enter Try.func34, Try.ntmps34
      go_wp2_with (go_at_call 49; with_reducible refine (HT1.out _ (HB1.out.step HB0.out)).mono ?_; rintro e w' ⟨rfl, rfl⟩)
      refine bodyPost_ret (v := .tuple #[.agg #[.int .i64 0, .int .i64 0, .slice none 0 0], .int .i64 0, .int .i64 (e : Int)]) (by simp [results, Try.results34, go_sem]) rfl (RDecPost.err HDD.out ?_)
      exact HB0.out
  | inr x =>
    obtain ⟨n, k⟩ := x
    have hDD : decP l = match partP 3 131072 (l.drop (1 + k)) with
        | .inl e => .inl e
        | .inr (m, j) => endP l c.toNat n (1 + k + j) m := by rw [HD.out, hP]; rfl
    have HDD := Lib.hid hDD
    have hpb := partP_bd hP
    simp only [List.length_drop] at hpb
    rw [hP] at hT1
    simp only [partV] at hT1
    have HT1 := Lib.hid hT1
    have HP1 := Lib.hid hP
    clear hDD hP hT1
    have hB2 : ∃ o2 c2, (IsB w (.slice (some ⟨b, o2, none⟩) (l.length - (1 + k)) c2) (l.drop (1 + k))) ∧ ((cap = 1 + k ∧ o2 = off ∧ c2 = 0) ∨ (cap ≠ 1 + k ∧ o2 = off + (1 + k) ∧ c2 = cap - (1 + k))) := by
      by_cases hcap1 : cap = 1 + k
      · exact ⟨off, 0, HI.out.cut2 (by simp) (1 + k) (by omega) hcap1, .inl ⟨hcap1, rfl, rfl⟩⟩
      · exact ⟨off + (1 + k), cap - (1 + k), HI.out.rest (1 + k) (by omega), .inr ⟨hcap1, rfl, rfl⟩⟩
    have hcap1 : cap ≠ 1 := by omega
    have hoc' : o1 = off + 1 ∧ c1 = cap - 1 := hoc.elim (fun h => absurd h.1 hcap1) (fun h => h.2)
    obtain ⟨rfl, rfl⟩ := hoc'
    obtain ⟨o2, c2, hB2, hoc2⟩ := hB2
    have HB2 := Lib.hid hB2
    clear hB2 hoc
    have hT2 : ∀ W, IsB W (.slice (some ⟨b, o2, none⟩) (l.length - (1 + k)) c2) (l.drop (1 + k)) → Calls Try.prog 49 #[.slice (some ⟨b, o2, none⟩) (l.length - (1 + k)) c2, .int .i64 3, .int .i64 131072] W fun e w' => e = .returned (partV (partP 3 131072 (l.drop (1 + k)))) ∧ W = w' := fun W h => HT.out (1 + k) 3 131072 _ W (by omega) h
    have hkl : 1 + (k : Int) ≤ (l.length : Int) := by omega
    have hk1i : (1 : Int) ≤ (k : Int) := by omega
    cases hP2 : partP 3 131072 (l.drop (1 + k)) with
    | inl e =>
      rw [hP2] at hT2
      simp only [partV] at hT2
      have HT2 := Lib.hid hT2
      have hD2 : decP l = .inl e := by rw [HDD.out, hP2]
      have HD2 := Lib.hid hD2
      have he0 : ((e : Int) == 0) = false := by
        have := part_cases 3 131072 (l.drop (1 + k)) (by omega)
        rw [hP2] at this
        rcases this with ⟨h, _⟩ | ⟨h, _⟩ | ⟨_, _, h, _⟩
        · injection h with h; subst h; rfl
        · injection h with h; subst h; rfl
        · cases h
      clear hT2 hD2 hP2
      rcases hoc2 with ⟨h9, rfl, rfl⟩ | ⟨h9, rfl, rfl⟩
      · subst h9
        have e1 : 1 + k - 1 = k := by omega
        have e2 : l.length - (1 + k) = 0 := by omega
        rw [e1] at HT1 HB1
        rw [e2] at HT2 HB2
        clear e1 e2
        go_enter Try.func34, Try.ntmps34
        go_wp2_with (go_at_call 49; first | (with_reducible refine (HT1.out _ (HB1.out.step HB0.out)).mono ?_; rintro e w' ⟨rfl, rfl⟩) | (with_reducible refine (HT2.out _ (HB2.out.step HB0.out)).mono ?_; rintro e w' ⟨rfl, rfl⟩))
        refine bodyPost_ret (v := .tuple #[.agg #[.int .i64 0, .int .i64 0, .slice none 0 0], .int .i64 0, .int .i64 (e : Int)]) (by simp [results, Try.results34, go_sem]) rfl (RDecPost.err HD2.out ?_)
        exact HB0.out
      · go_enter Try.func34, Try.ntmps34
        go_wp2_with (go_at_call 49; first | (with_reducible refine (HT1.out _ (HB1.out.step HB0.out)).mono ?_; rintro e w' ⟨rfl, rfl⟩) | (with_reducible refine (HT2.out _ (HB2.out.step HB0.out)).mono ?_; rintro e w' ⟨rfl, rfl⟩))
        refine bodyPost_ret (v := .tuple #[.agg #[.int .i64 0, .int .i64 0, .slice none 0 0], .int .i64 0, .int .i64 (e : Int)]) (by simp [results, Try.results34, go_sem]) rfl (RDecPost.err HD2.out ?_)
        exact HB0.out
    | inr x =>
      obtain ⟨m, j⟩ := x
      have hpb2 := partP_bd hP2
      simp only [List.length_drop] at hpb2
      rw [hP2] at hT2
      simp only [partV] at hT2
      have HT2 := Lib.hid hT2
      have hD2 : decP l = endP l c.toNat n (1 + k + j) m := by rw [HDD.out, hP2]
      have HD2 := Lib.hid hD2
      have HP2 := Lib.hid hP2
      clear hT2 hD2 hP2 HDD
      have hcap2 : cap ≠ 1 + k := by omega
      have hoc' : o2 = off + (1 + k) ∧ c2 = cap - (1 + k) := hoc2.elim (fun h => absurd h.1 hcap2) (fun h => h.2)
      obtain ⟨rfl, rfl⟩ := hoc'
      clear hoc2 HD HT
      have hjl : 1 + (k : Int) + (j : Int) ≤ (l.length : Int) := by omega
      have hj1i : (1 : Int) ≤ (j : Int) := by omega
      have hm3 : (m : Int) ≤ 131072 := by omega
      by_cases hle : l.length < 1 + k + j + m + 4
      · have hD3 : decP l = .inl 21 := by rw [HD2.out]; unfold endP; rw [if_pos hle]
        have HD3 := Lib.hid hD3
        clear hD3
        go_enter Try.func34, Try.ntmps34
        go_wp2_with (go_at_call 49; first | (with_reducible refine (HT1.out _ (HB1.out.step HB0.out)).mono ?_; rintro e w' ⟨rfl, rfl⟩) | (with_reducible refine (HT2.out _ (HB2.out.step HB0.out)).mono ?_; rintro e w' ⟨rfl, rfl⟩))
        refine bodyPost_ret (v := .tuple #[.agg #[.int .i64 0, .int .i64 0, .slice none 0 0], .int .i64 0, .int .i64 ((21 : Nat) : Int)]) (by simp [results, Try.results34, go_sem]) rfl (RDecPost.err HD3.out ?_)
        exact HB0.out
      · go_enter Try.func34, Try.ntmps34
        go_upto_region 14 with (go_at_call 49; first | (with_reducible refine (HT1.out _ (HB1.out.step HB0.out)).mono ?_; rintro e w' ⟨rfl, rfl⟩) | (with_reducible refine (HT2.out _ (HB2.out.step HB0.out)).mono ?_; rintro e w' ⟨rfl, rfl⟩))
        have hD9 := HD2.out.trans (end_enc l c n k m j HC0.out HP1.out HP2.out hle)
        have HD9 := Lib.hid hD9
        clear hD9
        have hHT := HI.out.upto (1 + k + j + m + 4) (by omega)
        have C0 := keep_at HB0.out (HC.out 0 c HC0.out)
        simp only [Nat.add_zero] at C0
        have hSl := (HI.out.mid (1 + k + j) m (by omega) (by omega)).step HB0.out
        have R0 : (w.alloc (.cells #[.int .i64 0, .int .i64 0, .slice none 0 0] 43)).cell? ⟨w.heap.size, 0, none⟩ = some (.int .i64 0) := by simp [go_sem]
        have R1 : (w.alloc (.cells #[.int .i64 0, .int .i64 0, .slice none 0 0] 43)).cell? ⟨w.heap.size, 1, none⟩ = some (.int .i64 0) := by simp [go_sem]
        have R2 : (w.alloc (.cells #[.int .i64 0, .int .i64 0, .slice none 0 0] 43)).cell? ⟨w.heap.size, 2, none⟩ = some (.slice none 0 0) := by simp [go_sem]
        have F0 : ∀ o, (w.alloc (.cells #[.int .i64 0, .int .i64 0, .slice none 0 0] 43)).frozen? ⟨w.heap.size, o, none⟩ = false := by intro o; simp [go_sem]
        have hz : (w.alloc (.cells #[.int .i64 0, .int .i64 0, .slice none 0 0] 43)).heap.size = w.heap.size + 1 := by simp [go_sem]
        have BW := HB0.out
        have HHT := Lib.hid hHT
        clear hHT HB0 HI HC HC0 HT1 HT2 HB1 HB2
        generalize w.alloc (.cells #[.int .i64 0, .int .i64 0, .slice none 0 0] 43) = W at *
        have HSl := Lib.hid hSl
        have HZ := Lib.hid hz
        have hzl : w.heap.size < W.heap.size := by omega
        have hlt5 : b < W.heap.size := by omega
        have q1 : (0 : Int) ≤ 1 + (k : Int) + (j : Int) := by omega
        have q2 : 1 + (k : Int) + (j : Int) ≤ 1 + (k : Int) + (j : Int) + (m : Int) := by omega
        have q3 : 1 + (k : Int) + (j : Int) + (m : Int) ≤ (cap : Int) := by omega
        have hwm : IntKind.i64.wrap (1 + (k : Int) + (j : Int) + (m : Int)) = 1 + (k : Int) + (j : Int) + (m : Int) := by rw [IntKind.wrap_i64]; omega
        have hSl2 : IsB W (.slice (if cap = (1 + (k : Int) + (j : Int)).toNat then some ⟨b, off, none⟩ else some ⟨b, off + (1 + (k : Int) + (j : Int)).toNat, none⟩) ((1 + (k : Int) + (j : Int) + (m : Int)).toNat - (1 + (k : Int) + (j : Int)).toNat) (cap - (1 + (k : Int) + (j : Int)).toNat)) ((l.drop (1 + k + j)).take m) := by
          rw [show (1 + (k : Int) + (j : Int) + (m : Int)).toNat = 1 + k + j + m by omega, show (1 + (k : Int) + (j : Int)).toNat = 1 + k + j by omega, if_neg (by omega), show 1 + k + j + m - (1 + k + j) = m by omega]
          exact HSl.out
        have HSl2 := Lib.hid hSl2
        clear hSl hSl2 hz
        have hwc : IntKind.i64.wrap (c.toNat : Int) = (c.toNat : Int) := by rw [IntKind.wrap_i64]; omega
        go_cut [11] (fun p wx => ∃ g u, p = .pointer (some ⟨g, 0, none⟩) ∧ wx.cell? ⟨g, 0, none⟩ = some (.int .i64 (c.toNat : Int)) ∧ wx.cell? ⟨g, 1, none⟩ = some (.int .i64 (n : Int)) ∧ wx.cell? ⟨g, 2, none⟩ = some u ∧ OwnB wx W.heap.size u ((l.drop (1 + k + j)).take m) ∧ Below W.heap.size W wx)
        case first =>
          go_region_held3 (fun w' => w'.cell? ⟨b, off, none⟩ = some (.int .u8 (c.toNat : Int)))
            ((repeat (with_reducible (first | assumption | refine keep_drew ?_ | refine keep_alloc ?_ | refine keep_lt hb3 hlt5 ?_ | refine keep_set (by omega) ?_))))
            (first
              | (refine step_apk3 (by rfl) _ _ (by rfl) W.heap.size _ [] (by rfl) (by first | exact OwnB.drew (OwnB.made' (W.alloc box43) _ (W.heap.size + 1) (by simp [go_sem]) (by omega)) | exact OwnB.drew (OwnB.made _ _ (by repeat (with_reducible (first | exact Nat.le_refl _ | refine size_drew ?_ | refine size_alloc ?_)))) | exact OwnB.drew (OwnB.alloc (OwnB.made _ _ (by repeat (with_reducible (first | exact Nat.le_refl _ | refine size_drew ?_ | refine size_alloc ?_))))) | exact OwnB.made _ _ (by repeat (with_reducible (first | exact Nat.le_refl _ | refine size_drew ?_ | refine size_alloc ?_))) | exact OwnB.alloc (OwnB.made _ _ (by repeat (with_reducible (first | exact Nat.le_refl _ | refine size_drew ?_ | refine size_alloc ?_))))) _ ((l.drop (1 + k + j)).take m) (by rfl) (by (simp [go_sem]; exact HSl2.out.step (by repeat (with_reducible (first | exact Below.refl _ _ | refine bel_drew ?_ | refine bel_alloc ?_))))) (by simp; omega) (by repeat (with_reducible (first | exact Nat.le_refl _ | refine size_drew ?_ | refine size_alloc ?_))) ?_; intro v3 w3 ho3 hb3 hz3 hP3; have hs3 : W.heap.size ≤ w3.heap.size := size_bel hb3 (by repeat (with_reducible (first | exact Nat.le_refl _ | refine size_drew ?_ | refine size_alloc ?_))); obtain ⟨a3, c3, rfl, hq3⟩ := ho3.isB.shape; (first | (have dA := hP3 W.heap.size (by exact old_blk3 (new_blk3 (w := W) rfl)); obtain ⟨d0, d1, d2, f0, f1, f2⟩ := box_cells3 dA) | (have dA := hP3 (W.heap.size + 1) (by exact new_blk3 (w := W.alloc (.cells #[] 5)) (by simp [go_sem])); obtain ⟨d0, d1, d2, f0, f1, f2⟩ := box_cells3 dA) | skip)))
          all_goals
            go_wp2_with fail
            go_meet
            have hB52 : Below W.heap.size W w3 := by repeat (with_reducible (first | exact Below.refl _ _ | refine bel_drew ?_ | refine bel_alloc ?_ | refine bel_app ?_ hb3 (Nat.le_refl _)))
            have hlenP : ([] ++ (l.drop (1 + k + j)).take m).length = min m (l.length - (1 + k + j)) := by simp
            rw [hlenP] at ho3
            first
              | exact ⟨_, _, rfl, fin3_box dA hB52 (by omega) ho3⟩
              | exact ⟨_, _, rfl, fin3_new hB52 ho3⟩
        case rest =>
          obtain ⟨g, u, rfl, g0, g1, g2, hO, hB3⟩ := hcut
          have hI3 := hO.isB
          obtain ⟨au, cu, rfl, _⟩ := hI3.shape
          have hlenP : ((l.drop (1 + k + j)).take m).length = m := by simp; omega
          rw [hlenP] at g2 hO hI3
          have HO3 := Lib.hid hO
          have HI3 := Lib.hid hI3
          have HB3 := Lib.hid hB3
          have r0 := keep_at hB3 R0
          have r1 := keep_at hB3 R1
          have r2 := keep_at hB3 R2
          have rf : ∀ o, wc.frozen? ⟨w.heap.size, o, none⟩ = false := fun o => frozen_lt hB3 hzl (F0 o)
          have hRE := fun W' h => renc_ok c.toNat n (.slice au m cu) ((l.drop (1 + k + j)).take m) W' ⟨hk1, hk2⟩ (by omega) h (by rw [hlenP]; omega)
          have HRE := Lib.hid hRE
          have hT3 : IsB wc (.slice (some ⟨b, off, none⟩) (1 + k + j + m + 4) cap) (l.take (1 + k + j + m + 4)) := (HHT.out.step BW).step hB3
          have HT3 := Lib.hid hT3
          have HBW := Lib.hid BW
          clear hO hI3 hB3 R0 R1 R2 F0 hRE hT3 HHT BW HSl HSl2 hwm hwc q1 q2 q3 h1 C0
          go_upto_region 15 with fail
          go_wp2_with (go_at_call 21; refine (HRE.out _ HI3.out).mono ?_; rintro e w4 ⟨u4, rfl, ho4, hb4⟩; obtain ⟨a4, c4, rfl, hq4⟩ := ho4.isB.shape)
          have hIE := ho4.isB
          obtain ⟨E, hE⟩ : ∃ E, E = encP c.toNat n ((l.drop (1 + k + j)).take m) := ⟨_, rfl⟩
          obtain ⟨T, hT⟩ : ∃ T, T = l.take (1 + k + j + m + 4) := ⟨_, rfl⟩
          have hTl : T.length = 1 + k + j + m + 4 := by rw [hT]; simp; omega
          rw [← hE] at hIE ⊢
          have hIT := HT3.out.step hb4
          rw [← hT] at hIT
          have hs1 : ∀ r, (convert 23 9 (.slice a4 E.length c4)).run Try.prog (w4.drewN r) = .ok (.string ⟨E.toArray⟩) (w4.drewN r) := fun r => run_str _ _ _ (hIE.draws r)
          have hs2 : ∀ r, (convert 23 9 (.slice (some ⟨b, off, none⟩) (1 + k + j + m + 4) cap)).run Try.prog (w4.drewN r) = .ok (.string ⟨T.toArray⟩) (w4.drewN r) := fun r => run_str _ _ _ (hIT.draws r)
          have t1 : (convert 23 9 (.slice a4 E.length c4)).run Try.prog w4.drew = .ok (.string ⟨E.toArray⟩) w4.drew := run_str _ _ _ (hIE.draws 1)
          have t2 : (convert 23 9 (.slice (some ⟨b, off, none⟩) (1 + k + j + m + 4) cap)).run Try.prog w4.drew = .ok (.string ⟨T.toArray⟩) w4.drew := run_str _ _ _ (hIT.draws 1)
          have HE := Lib.hid hE
          have HTT := Lib.hid hT
          have g0 := keep_at hb4 g0
          have g1 := keep_at hb4 g1
          have g2 := keep_at hb4 g2
          have r0 := keep_at hb4 r0
          have r1 := keep_at hb4 r1
          have r2 := keep_at hb4 r2
          have hwl : w.heap.size < wc.heap.size := World.block_lt_of_cell? _ _ (keep_at (Below.refl _ wc) (by assumption : wc.cell? ⟨w.heap.size, 0, none⟩ = some (.int .i64 0)))
          have rf4 : ∀ o, w4.frozen? ⟨w.heap.size, o, none⟩ = false := fun o => frozen_lt hb4 hwl (rf o)
          have hBfin : Below w.heap.size w w4 := (HBW.out.trans (HB3.out.mono (Nat.le_of_lt hzl))).trans (hb4.mono (Nat.le_of_lt hwl))
          clear hE hT hIE hIT rf
          go_region
          go_wp2_with fail
          · have hne : E ≠ T := by
              intro e
              simp_all
            have hD9 : decP l = .inl 12 := by rw [HD9.out, ← HE.out, ← HTT.out, if_neg hne]
            refine bodyPost_ret (v := .tuple #[.agg #[.int .i64 0, .int .i64 0, .slice none 0 0], .int .i64 0, .int .i64 ((12 : Nat) : Int)]) (by simp [results, Try.results34, go_sem, r0, r1, r2]) rfl (RDecPost.err hD9 ?_)
            exact bel_drew (hBfin.setCell (Nat.le_refl _) _ |>.setCell (Nat.le_refl _) _ |>.setCell (Nat.le_refl _) _)
          · have heq : E = T := by
              have h9 : (!E == T) = false := by assumption
              simpa using h9
            have hD9 : decP l = .inr (c.toNat, n, (l.drop (1 + k + j)).take m, 1 + k + j + m + 4) := by rw [HD9.out, ← HE.out, ← HTT.out, if_pos heq]
            have hEl : E.length = 1 + k + j + m + 4 := by rw [heq]; exact hTl
            refine bodyPost_ret (v := .tuple #[.agg #[.int .i64 c.toNat, .int .i64 n, .slice au m cu], .int .i64 (E.length : Int), .int .i64 0]) (by simp [results, Try.results34, go_sem, r0, r1, r2]) rfl ?_
            rw [hD9]
            refine ⟨.slice au m cu, by rw [hEl], ?_, ?_⟩
            · refine OwnB.drew (OwnB.mono (OwnB.set (OwnB.set (OwnB.set ?_ (b := w.heap.size) hzl) (b := w.heap.size) hzl) (b := w.heap.size) hzl) (Nat.le_of_lt hzl))
              exact HO3.out.step hb4
            · exact bel_drew (hBfin.setCell (Nat.le_refl _) _ |>.setCell (Nat.le_refl _) _ |>.setCell (Nat.le_refl _) _)
/-- The reference's Decode of any bytes. -/
theorem rdec_any (v : Value) (l : List UInt8) (w : World) (h : IsB w v l) (hl : l.length ≤ 140737488355000) : Calls Try.prog 34 #[v] w (RDecPost w (decP l)) := by
  rcases h with ⟨rfl, a, cap, rfl, h1, h2⟩ | ⟨h0, b, off, cap, rfl, h1, h2, h3⟩
  · exact rdec_nil a cap w
  · cases l with
    | nil => exact absurd rfl h0
    | cons c r =>
      by_cases hk : c.toNat < 1 ∨ 127 < c.toNat
      · have e : decP (c :: r) = .inl 12 := by simp only [decP]; rw [if_pos hk]
        rw [e]
        exact rdec_kind b off cap (c :: r) c w rfl h1 (h3 0 c rfl) hk
      · exact rdec_go b off cap (c :: r) c w hl h1 h2 rfl (by omega) h3
end Go.Proofs.Ytnieoaadhbcjiaa
