/- The walk of record.Scan. No condition beyond a length that memory allows. -/
import Derived.Test.YtnieoaadhbcjiaaDecLaw
import Derived.Test.YtnieoaadhbcjiaaPrefBase
namespace Go.Proofs.Ytnieoaadhbcjiaa
open Go.RowKit
set_option linter.unusedVariables false
set_option linter.unusedSimpArgs false

theorem partP_bd {bytes most : Nat} {l : List UInt8} {n k : Nat} (h : partP bytes most l = .inr (n, k)) : k ≤ l.length ∧ 1 ≤ k ∧ n ≤ most := by
  have hb := takeP_bd bytes l
  unfold partP at h
  split at h
  · cases h
  · split at h
    · cases h
    · simp only [Sum.inr.injEq, Prod.mk.injEq] at h
      omega
theorem decP_bd {l : List UInt8} {k n s : Nat} {p : List UInt8} (h : decP l = .inr (k, n, p, s)) : 5 ≤ s ∧ s ≤ l.length ∧ p.length ≤ l.length := by
  cases l with
  | nil => cases h
  | cons c r =>
    simp only [decP] at h
    split at h
    · cases h
    · split at h
      · cases h
      · rename_i n1 k1 hp1
        split at h
        · cases h
        · rename_i m j hp2
          have h1 := partP_bd hp1
          have h2 := partP_bd hp2
          unfold endP at h
          split at h
          · cases h
          · split at h
            · cases h
            · simp only [Sum.inr.injEq, Prod.mk.injEq] at h
              obtain ⟨_, _, rfl, rfl⟩ := h
              simp only [List.length_cons, List.length_drop, List.length_take] at *
              omega
/-- The records at the beginning, and their length. -/
def scanF : Nat → List UInt8 → List (Nat × Nat × List UInt8) × Nat
  | 0, _ => ([], 0)
  | f + 1, l => match decP l with
    | .inl _ => ([], 0)
    | .inr (k, n, p, s) => ((k, n, p) :: (scanF f (l.drop s)).1, s + (scanF f (l.drop s)).2)
def scanP (l : List UInt8) : List (Nat × Nat × List UInt8) × Nat := scanF (l.length + 1) l
theorem scanF_fuel : ∀ (f g : Nat) (l : List UInt8), l.length < f → l.length < g → scanF f l = scanF g l
  | 0, _, _, h, _ => absurd h (by omega)
  | _, 0, _, _, h => absurd h (by omega)
  | f + 1, g + 1, l, hf, hg => by
    simp only [scanF]
    split
    · rfl
    · rename_i k n p s hd
      have hb := decP_bd hd
      rw [scanF_fuel f g (l.drop s) (by simp; omega) (by simp; omega)]
theorem scanP_err {l : List UInt8} {e : Nat} (h : decP l = .inl e) : scanP l = ([], 0) := by
  unfold scanP
  simp only [scanF, h]
theorem scanP_ok {l : List UInt8} {k n s : Nat} {p : List UInt8} (h : decP l = .inr (k, n, p, s)) : scanP l = ((k, n, p) :: (scanP (l.drop s)).1, s + (scanP (l.drop s)).2) := by
  have hb := decP_bd h
  unfold scanP
  rw [show scanF (l.length + 1) l = ((k, n, p) :: (scanF l.length (l.drop s)).1, s + (scanF l.length (l.drop s)).2) by simp only [scanF, h]]
  rw [scanF_fuel l.length ((l.drop s).length + 1) (l.drop s) (by simp; omega) (by omega)]

/-- A list of records of the call's own. -/
def cells3 (r : (Nat × Nat × List UInt8) × Value) : List Value := [.int .i64 (r.1.1 : Int), .int .i64 (r.1.2.1 : Int), r.2]
def RecsB (w : World) (base : Nat) (v : Value) (rs : List ((Nat × Nat × List UInt8) × Value)) : Prop :=
  w.ownsRow base 40 3 v rs.length (rs.flatMap cells3) ∧ ∀ r ∈ rs, OwnB w base r.2 r.1.2.2
theorem RecsB.nil (w : World) (base : Nat) : RecsB w base (.slice none 0 0) [] := ⟨World.ownsRow_nil _ _ _ _, fun r h => by cases h⟩
theorem RecsB.step {w w' : World} {base : Nat} {v : Value} {rs : List ((Nat × Nat × List UInt8) × Value)} (h : RecsB w base v rs) (hb : Below w.heap.size w w') : RecsB w' base v rs := by
  refine ⟨World.ownsRow.kept (row := none) h.1 ⟨hb.os, hb.tape, hb.output, hb.size, fun k hk _ => hb.block k hk⟩ ?_, fun r hr => (h.2 r hr).step hb⟩
  cases v.ownBlock with
  | none => exact .inl rfl
  | some g => exact .inr (by simp)
theorem info40 : (Try.prog.info? 40).map (fun i => (i.zero, i.size, i.bytes)) = some (some (.agg #[.int .i64 0, .int .i64 0, .slice none 0 0]), 3, 40) := by kernel_rfl
theorem own_apart {w : World} {b1 b2 n : Nat} {v u : Value} {xs : List Value} {l : List UInt8} (h : w.ownsRow b1 40 3 v n xs) (g : OwnB w b2 u l) : u.ownBlock = none ∨ u.ownBlock ≠ v.ownBlock := by
  rcases g.2 with ⟨rfl, _⟩ | ⟨g1, cap1, cur1, rfl, _, hg1, _⟩
  · exact .inl rfl
  · refine .inr ?_
    rcases h.2 with ⟨rfl, _⟩ | ⟨g2, cap2, cur2, rfl, _, hg2, _⟩
    · simp [Value.ownBlock]
    · simp only [Value.ownBlock, ne_eq, Option.some.injEq]
      intro e
      subst e
      rw [hg1] at hg2
      simp at hg2
theorem wpList_rec {ops : Array Oper} {rest : List Oper} {o : Oper} {a : Act} {Q : Exit → Act → World → Prop} {w : World} (hgd : o.guard = none) (s x : Operand)
    (ho : o.op = .call { callee := .builtin .append, args := #[s, x], argTypes := #[67, 67] })
    (base : Nat) (v : Value) (rs : List ((Nat × Nat × List UInt8) × Value)) (hs : a.eval s = v) (hown : RecsB w base v rs) (g : Nat) (r : (Nat × Nat × List UInt8) × Value) (hx : a.eval x = .slice (some ⟨g, 0, none⟩) 1 1)
    (h0 : w.cell? ⟨g, 0, none⟩ = some (.int .i64 (r.1.1 : Int))) (h1 : w.cell? ⟨g, 1, none⟩ = some (.int .i64 (r.1.2.1 : Int))) (h2 : w.cell? ⟨g, 2, none⟩ = some r.2) (hr : OwnB w base r.2 r.1.2.2)
    (hb : rs.length ≤ 3000000) (hbase : base ≤ w.heap.size)
    (h : ∀ v' w', RecsB w' base v' (rs ++ [r]) → Below base w w' → w.heap.size ≤ w'.heap.size → wpList Try.prog ops Q rest (a.put o.dst v') w') : wpList Try.prog ops Q (o :: rest) a w := by
  obtain ⟨i0, hi, hz0, hz1, hz2⟩ := info_parts info40
  refine wpList_append_own _ hgd s x 67 ho base 40 i0 _ 3 40 Try.underlying67 hi hz0 hz1 hz2 rfl (by decide) v rs.length (rs.flatMap cells3) hs hown.1 ⟨g, 0, none⟩ 1 1 (cells3 r) hx rfl ?_ ?_ (by unfold maxLen; omega) (by omega) hbase ?_
  · intro j u hj
    match j, hj with
    | 0, hj => simp [cells3] at hj; subst hj; exact h0
    | 1, hj => simp [cells3] at hj; subst hj; exact h1
    | 2, hj => simp [cells3] at hj; subst hj; exact h2
    | j + 3, hj => simp [cells3] at hj
  · intro u hu
    simp only [cells3, List.mem_cons, List.not_mem_nil, or_false] at hu
    obtain ⟨a2, c2, he, _⟩ := hr.isB.shape
    rcases hu with rfl | rfl | rfl
    · rfl
    · rfl
    · rw [he]; rfl
  · intro v' w' hown' hgrow hnil
    refine h v' w' ⟨?_, ?_⟩ ((Below.refl base w).grown hgrow hbase fun k hk => (World.ownsRow.lt hown.1 k hk).1) hgrow.size
    · rw [List.length_append, List.flatMap_append]
      simpa using hown'
    · intro q hq
      rcases List.mem_append.1 hq with hq | hq
      · exact World.ownsRow.kept (hown.2 q hq) hgrow (own_apart hown.1 (hown.2 q hq))
      · simp only [List.mem_singleton] at hq
        subst hq
        exact World.ownsRow.kept hr hgrow (own_apart hown.1 hr)

def ScanPost (w : World) (l : List UInt8) (e : Ending) (w' : World) : Prop :=
  ∃ u rs, e = .returned (.tuple #[u, .int .i64 ((scanP l).2 : Int)]) ∧ RecsB w' w.heap.size u rs ∧ rs.map Prod.fst = (scanP l).1 ∧ Below w.heap.size w w'
theorem IsB.rest {w : World} {b off cap : Nat} {l : List UInt8} (h : IsB w (.slice (some ⟨b, off, none⟩) l.length cap) l) (q : Nat) (hq : q ≤ l.length) : IsB w (.slice (some ⟨b, off + q, none⟩) (l.length - q) (cap - q)) (l.drop q) := by
  by_cases h0 : q = 0
  · subst h0
    simpa using h
  · have h9 := h.cut1 q hq
    simpa only [Option.map, Addr.add, if_neg h0] using h9

theorem IsB.back {w : World} {a : Option Addr} {cap : Nat} {l : List UInt8} (h : IsB w (.slice a l.length cap) l) (q : Nat) (hq : q ≤ l.length) (hc : cap = q) : IsB w (.slice a (l.length - q) 0) (l.drop q) := by
  cases a with
  | none =>
    obtain ⟨rfl, rfl⟩ := h.none_nil
    simpa using h
  | some a => exact h.cut2 (by simp) q hq hc

set_option maxRecDepth 100000 in
set_option maxHeartbeats 1000000 in
theorem scan_go (a : Option Addr) (cap : Nat) (l : List UInt8) (w : World) (hl : l.length ≤ 3000000) (hI : IsB w (.slice a l.length cap) l) : Calls Try.prog 36 #[.slice a l.length cap] w (ScanPost w l) := by
  have HL := Lib.hid hl
  have HI := Lib.hid hI
  obtain ⟨_, _, hv, hc1, hc2, _⟩ := hI.shape
  simp only [Value.slice.injEq] at hv
  obtain ⟨rfl, _, rfl⟩ := hv
  have HC2 := Lib.hid hc2
  clear hl hI hc2
  have hdec : ∀ (q : Nat) (v : Value) (W : World), IsB W v (l.drop q) → Calls Try.prog 33 #[v] W (DecPost W (decP (l.drop q))) := fun q v W h => dec_any v (l.drop q) W h (by have := HL.out; simp; omega)
  have HDEC := Lib.hid hdec
  clear hdec
  go_enter Try.func36, Try.ntmps36
  go_upto_region 3 with fail
  go_loopw [4, 5] (fun v i wr => ∃ (q : Nat) (rs : List ((Nat × Nat × List UInt8) × Value)), i = .int .i64 q ∧ q ≤ l.length ∧ RecsB wr w.heap.size v rs ∧ Below w.heap.size w wr ∧ rs.map Prod.fst ++ (scanP (l.drop q)).1 = (scanP l).1 ∧ q + (scanP (l.drop q)).2 = (scanP l).2 ∧ rs.length ≤ q) (fun _ i _ => l.length - (intOf i).toNat)
  case atStart => exact ⟨0, [], rfl, Nat.zero_le _, RecsB.nil _ _, Below.refl _ _, by simp, by simp, Nat.le_refl _⟩
  case round =>
    obtain ⟨q, rs, rfl, hq, hR, hB, hs1, hs2, hrl⟩ := hrel
    have HR := Lib.hid hR
    have HB := Lib.hid hB
    have HS1 := Lib.hid hs1
    have HS2 := Lib.hid hs2
    clear hR hB hs1 hs2
    have hq0 : (0 : Int) ≤ (q : Int) := by omega
    have hq1 : (q : Int) ≤ (l.length : Int) := by omega
    have hq2 : (q : Int) ≤ (cap : Int) := by omega
    have hrest := HI.out.cut1 q hq
    have HREST := Lib.hid hrest
    clear hrest
    cases hd : decP (l.drop q) with
    | inl code =>
      have hsc := scanP_err hd
      rw [hsc] at HS1 HS2
      have hT : ∀ (v : Value) (W : World), IsB W v (l.drop q) → Calls Try.prog 33 #[v] W fun e w' => e = .returned (.tuple #[.agg #[.int .i64 0, .int .i64 0, .slice none 0 0], .int .i64 0, .iface 55 (.int .i64 code)]) ∧ Below W.heap.size W w' := fun v W h => by
        have h9 := HDEC.out q v W h
        rw [hd] at h9
        exact h9
      have HT := Lib.hid hT
      clear hd hsc hT
      by_cases hcq : cap = q
      · have hb2 := HI.out.back q hq hcq
        have HB2 := Lib.hid hb2
        clear hb2
        go_wp2_with (go_at_call 33; with_reducible refine (HT.out _ _ (HB2.out.step HB.out)).mono ?_; rintro e w2 ⟨rfl, hb2⟩)
        go_ret2
        refine ⟨_, rs, ?_, (HR.out.step hb2).step (bel_new _ _), ?_, bel_alloc (bel_step HB.out hb2)⟩
        · rw [← HS2.out]; rfl
        · simpa using HS1.out
      · go_wp2_with (go_at_call 33; with_reducible refine (HT.out _ _ (HREST.out.step HB.out)).mono ?_; rintro e w2 ⟨rfl, hb2⟩)
        go_ret2
        refine ⟨_, rs, ?_, (HR.out.step hb2).step (bel_new _ _), ?_, bel_alloc (bel_step HB.out hb2)⟩
        · rw [← HS2.out]; rfl
        · simpa using HS1.out
    | inr x =>
      obtain ⟨k, n, p, sz⟩ := x
      have hsc := scanP_ok hd
      have hbd := decP_bd hd
      rw [hsc] at HS1 HS2
      simp only [List.length_drop] at hbd
      have hT : ∀ (v : Value) (W : World), IsB W v (l.drop q) → Calls Try.prog 33 #[v] W fun e w' => ∃ u, e = .returned (.tuple #[.agg #[.int .i64 k, .int .i64 n, u], .int .i64 sz, .nilIface]) ∧ OwnB w' W.heap.size u p ∧ Below W.heap.size W w' := fun v W h => by
        have h9 := HDEC.out q v W h
        rw [hd] at h9
        exact h9
      have HT := Lib.hid hT
      clear hd hsc hT
      have hcq : ¬ cap = q := by omega
      have hsz : (sz : Int) ≤ (l.length : Int) - (q : Int) := by omega
      have hll : (l.length : Int) ≤ 3000000 := by have := HL.out; omega
      go_upto_region 6 with (go_at_call 33; with_reducible refine (HT.out _ _ (HREST.out.step HB.out)).mono ?_; rintro e w2 ⟨u, rfl, ho, hb2⟩; obtain ⟨au, cu, rfl, _⟩ := ho.isB.shape; have HO := Lib.hid ho; clear ho)
      have hsw : w.heap.size ≤ wr.heap.size := HB.out.size
      have hsw2 : wr.heap.size ≤ w2.heap.size := hb2.size
      have hR2 := ((HR.out.step hb2).step (bel_new _ (.cells #[.int .i64 k, .int .i64 n, .slice au p.length cu] 40))).step (bel_new _ (.cells #[.int .i64 k, .int .i64 n, .slice au p.length cu] 40))
      have hO2 := ((HO.out.mono hsw).alloc (o := .cells #[.int .i64 k, .int .i64 n, .slice au p.length cu] 40)).alloc (o := .cells #[.int .i64 k, .int .i64 n, .slice au p.length cu] 40)
      have hB2 := bel_alloc (x := .cells #[.int .i64 k, .int .i64 n, .slice au p.length cu] 40) (bel_alloc (x := .cells #[.int .i64 k, .int .i64 n, .slice au p.length cu] 40) (bel_step HB.out hb2))
      have HR2 := Lib.hid hR2
      have HO2 := Lib.hid hO2
      have HB2 := Lib.hid hB2
      clear hR2 hO2 hB2
      go_wp2_with (at_builtin; refine wpList_rec rfl (.tmp 21) (.tmp 23) rfl w.heap.size _ rs rfl HR2.out (w2.heap.size + 1) ((k, n, p), .slice au p.length cu) rfl (by simp [go_sem]) (by simp [go_sem]) (by simp [go_sem]) HO2.out (by have := HL.out; omega) (by simp [go_sem]; omega) ?_; intro v9 w9 hR9 hB9 hz9)
      have h1 := HS1.out
      have h2 := HS2.out
      rw [List.drop_drop] at h1 h2
      refine ⟨⟨q + sz, rs ++ [((k, n, p), .slice au p.length cu)], by simp, by omega, hR9, HB2.out.trans hB9, ?_, by omega, by simp; omega⟩, ?_⟩
      · rw [List.map_append, List.append_assoc]
        exact h1
      · show l.length - ((q : Int) + (sz : Int)).toNat < l.length - ((q : Int)).toNat
        omega
/-- Scan of any bytes. -/
theorem scan_any (v : Value) (l : List UInt8) (w : World) (hl : l.length ≤ 3000000) (hI : IsB w v l) : Calls Try.prog 36 #[v] w (ScanPost w l) := by
  obtain ⟨a, cap, rfl, _⟩ := hI.shape
  exact scan_go a cap l w hl hI
end Go.Proofs.Ytnieoaadhbcjiaa
