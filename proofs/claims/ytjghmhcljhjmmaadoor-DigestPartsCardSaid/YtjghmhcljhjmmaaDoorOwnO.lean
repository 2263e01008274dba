/- Bytes of the call's own that may begin inside their block: what reslicing leaves. No condition. -/
import Derived.Test.YtjghmhcljhjmmaaDoorBlk
import Derived.ArgAppend
import Derived.Maps.AppendAt
namespace Go.Proofs.YtjghmhcljhjmmaaDoor
open Go.RowKit
set_option linter.unusedVariables false
set_option linter.unusedSimpArgs false

def OwnO (w : World) (base : Nat) (v : Value) (l : List UInt8) : Prop :=
  (l = [] ∧ v = .slice none 0 0) ∨
  ∃ g off cap c, v = .slice (some ⟨g, off, none⟩) l.length cap ∧ base ≤ g ∧ VBlk 5 w g c ∧ l.length ≤ cap ∧ cap ≤ maxLen ∧ off + cap ≤ c.length ∧ ∀ i x, l[i]? = some x → c[off + i]? = some (bcell x)
theorem OwnO.nil (w : World) (base : Nat) : OwnO w base (.slice none 0 0) [] := .inl ⟨rfl, rfl⟩
theorem OwnO.step {w w' : World} {base : Nat} {v : Value} {l : List UInt8} (h : OwnO w base v l) (hb : Below w.heap.size w w') : OwnO w' base v l := by
  rcases h with h | ⟨g, off, cap, c, h1, h2, h3, h4⟩
  · exact .inl h
  · exact .inr ⟨g, off, cap, c, h1, h2, h3.step hb, h4⟩
theorem OwnO.mono {w : World} {base B : Nat} {v : Value} {l : List UInt8} (h : OwnO w base v l) (hB : B ≤ base) : OwnO w B v l := by
  rcases h with h | ⟨g, off, cap, c, h1, h2, h4⟩
  · exact .inl h
  · exact .inr ⟨g, off, cap, c, h1, by omega, h4⟩
theorem OwnO.shape {w : World} {base : Nat} {v : Value} {l : List UInt8} (h : OwnO w base v l) : ∃ a cap, v = .slice a l.length cap ∧ l.length ≤ cap ∧ cap ≤ maxLen := by
  rcases h with ⟨rfl, rfl⟩ | ⟨g, off, cap, c, rfl, _, _, h1, h2, _⟩
  · exact ⟨none, 0, rfl, Nat.le_refl _, by unfold maxLen; omega⟩
  · exact ⟨_, cap, rfl, h1, h2⟩
theorem OwnO.isB {w : World} {base : Nat} {v : Value} {l : List UInt8} (h : OwnO w base v l) : IsB w v l := by
  rcases h with ⟨rfl, rfl⟩ | ⟨g, off, cap, c, rfl, _, h3, h1, h2, _, h5⟩
  · exact IsB.nil w
  · by_cases h0 : l = []
    · subst h0
      exact IsB.empty w _ cap h2 (fun h => by cases h)
    · refine .inr ⟨h0, g, off, cap, rfl, h1, h2, fun i x hi => ?_⟩
      rw [h3.cell, h5 i x hi]
      rfl
theorem OwnB.ownO {w : World} {base : Nat} {v : Value} {l : List UInt8} (h : OwnB w base v l) : OwnO w base v l := by
  obtain ⟨h0, h1⟩ := h
  rcases h1 with ⟨rfl, hn⟩ | ⟨g, cap, cur, rfl, hb, hg, hn, hm, hs, ht⟩
  · obtain rfl := List.eq_nil_of_length_eq_zero hn
    exact OwnO.nil w base
  · refine .inr ⟨g, 0, cap, cur.toList, rfl, hb, by unfold VBlk; simpa using hg, hn, hm, by simp [Array.length_toList]; omega, fun i x hi => ?_⟩
    have hh : (l.map bcell)[i]? = some (bcell x) := by rw [List.getElem?_map, hi]; rfl
    rw [← ht] at hh
    have hi' : i < l.length := (List.getElem?_eq_some_iff.1 hi).1
    rw [List.getElem?_take, if_pos (by omega)] at hh
    rw [Nat.zero_add]
    exact hh
/-- 'v[n:]'. -/
theorem OwnO.drop {w : World} {base : Nat} {a : Option Addr} {cap : Nat} {l : List UInt8} (h : OwnO w base (.slice a l.length cap) l) (n : Nat) (hn : n ≤ l.length) (h0 : 0 < l.length) :
    ∃ g off, a = some ⟨g, off, none⟩ ∧ OwnO w base (.slice (some ⟨g, off + n, none⟩) (l.length - n) (cap - n)) (l.drop n) := by
  rcases h with ⟨rfl, _⟩ | ⟨g, off, cap', c, hv, hb, h3, h1, h2, h4, h5⟩
  · simp at h0
  · simp only [Value.slice.injEq] at hv
    obtain ⟨rfl, _, rfl⟩ := hv
    refine ⟨g, off, rfl, .inr ⟨g, off + n, cap - n, c, by rw [List.length_drop], hb, h3, by rw [List.length_drop]; omega, by omega, by omega, fun i x hi => ?_⟩⟩
    rw [List.getElem?_drop] at hi
    have := h5 (n + i) x hi
    rwa [← Nat.add_assoc] at this
theorem IsB.first {w : World} {a : Option Addr} {cap : Nat} {l : List UInt8} (h : IsB w (.slice a l.length cap) l) (n : Nat) (hn : n ≤ l.length) : IsB w (.slice a n cap) (l.take n) := by
  obtain ⟨a', cap', hv, h1, h2, h3⟩ := h.shape
  injection hv with e1 e2 e3
  subst e1 e3
  by_cases h0 : n = 0
  · subst h0
    exact IsB.empty w _ _ h2 h3
  · rcases h with ⟨rfl, _⟩ | ⟨hne, b, off, cap', hv, g1, g2, hc⟩
    · simp at hn; omega
    · simp only [Value.slice.injEq] at hv
      obtain ⟨rfl, _, rfl⟩ := hv
      refine .inr ⟨by intro h; have := congrArg List.length h; rw [List.length_take, List.length_nil] at this; omega, b, off, cap, by rw [List.length_take, Nat.min_eq_left hn], by rw [List.length_take]; omega, g2, fun i c hi => ?_⟩
      rw [List.getElem?_take] at hi
      split at hi
      · exact hc i c hi
      · cases hi
theorem setMany_at {c : List Value} {vs : List Value} (o : Nat) (h : o + vs.length ≤ c.length) : c = c.take o ++ ((c.drop o).take vs.length ++ c.drop (o + vs.length)) := by
  have h1 : c.drop (o + vs.length) = (c.drop o).drop vs.length := by rw [List.drop_drop]
  rw [h1, List.take_append_drop, List.take_append_drop]
theorem VBlk.setAt {T : TypeId} {w : World} {b : Nat} {c : List Value} (h : VBlk T w b c) (o : Nat) (vs : List Value) (hl : o + vs.length ≤ c.length) :
    VBlk T (w.setCells b o vs) b (c.take o ++ (vs ++ c.drop (o + vs.length))) := by
  rw [setMany_at o hl] at h
  have := VBlk.setMany (T := T) (b := b) vs (c.take o) ((c.drop o).take vs.length) (c.drop (o + vs.length)) w h (by rw [List.length_take, List.length_drop]; omega)
  rwa [List.length_take, Nat.min_eq_left (by omega)] at this
theorem run_app_none (ty : TypeId) (w : World) (ad : Option Addr) (n cap : Nat) (h : n ≤ cap) : (Builtin.append_ #[22, 22] ty #[.slice ad n cap, .slice none 0 0]).run Tryd.prog w = .ok (.slice ad n cap) w := by
  obtain ⟨i0, hi, hz0, hz1, hz2⟩ := info_parts info5
  cases ad <;> simp [Builtin.append_, run_underlying Tryd.underlying22, sizeOf, typeInfo, hi, Builtin.lenOf, Builtin.firstCells, h, storeCells]
/-- append of whatever bytes to bytes of the call's own, wherever they begin. -/
theorem run_appO (ty : TypeId) (w : World) (base : Nat) (v : Value) (l : List UInt8) (hown : OwnO w base v l) (u : Value) (l2 : List UInt8) (hu : IsB w u l2)
    (hb : l.length + l2.length ≤ 140737488355328) (hbase : base ≤ w.heap.size) :
    ∃ v' w', (Builtin.append_ #[22, 22] ty #[v, u]).run Tryd.prog w = .ok v' w' ∧ OwnO w' base v' (l ++ l2) ∧ Below base w w' ∧ (∀ k, k < w.heap.size → v.ownBlock ≠ some k → w'.heap[k]? = w.heap[k]?) ∧
      (v'.ownBlock = v.ownBlock ∨ ∃ k, v'.ownBlock = some k ∧ w.heap.size ≤ k) := by
  obtain ⟨i0, hi, hz0, hz1, hz2⟩ := info_parts info5
  obtain ⟨a, cap, rfl, hlc, hcm⟩ := hown.shape
  rcases hu.news with ⟨rfl, rfl⟩ | ⟨ad, cap2, rfl, hc2, hm2, hcells⟩
  · exact ⟨_, w, run_app_none ty w a l.length cap hlc, by simpa using hown, Below.refl _ _, fun _ _ _ => rfl, .inl rfl⟩
  · by_cases hr : l.length + l2.length ≤ cap ∧ a ≠ none
    · rcases hown with ⟨rfl, hv⟩ | ⟨g, off, cap', c, hv, hg, hc, h1, h2, h3, h4⟩
      · simp only [Value.slice.injEq] at hv
        exact absurd hv.1 hr.2
      · simp only [Value.slice.injEq] at hv
        obtain ⟨rfl, _, rfl⟩ := hv
        have hsz : (l2.map bcell).length = l2.length := by simp
        have hin : off + l.length + (l2.map bcell).length ≤ c.length := by rw [hsz]; have := hr.1; omega
        have hth := hc.there (off + l.length) (l2.map bcell).length hin
        have hrun := run_append_room_cells (P := Tryd.prog) w 22 ty 5 i0 Tryd.underlying22 hi g off l.length cap ad l2.length cap2 (l2.map bcell) (by simp [hz1]) hcells (bcell_one l2) hr.1
          (fun j hj => by rw [hz1, Nat.mul_one]; exact (hth j hj).1) (fun j hj => by rw [hz1, Nat.mul_one]; exact (hth j hj).2)
        rw [hz1, Nat.mul_one] at hrun
        have hnew := hc.setAt (off + l.length) (l2.map bcell) hin
        refine ⟨_, _, hrun, .inr ⟨g, off, cap, _, by rw [List.length_append], hg, hnew, by rw [List.length_append]; exact hr.1, h2, ?_, fun i x hi => ?_⟩, bel_setMany _ _ _ (Below.refl _ _) hg, fun k hk hn => setMany_other g _ _ w k (fun e => hn (by rw [e]; rfl)), .inl rfl⟩
        · simp only [List.length_append, List.length_take, List.length_drop]
          rw [hsz] at hin ⊢
          omega
        · by_cases hil : i < l.length
          · rw [List.getElem?_append_left hil] at hi
            rw [List.getElem?_append_left (by rw [List.length_take]; omega), List.getElem?_take, if_pos (by omega)]
            exact h4 i x hi
          · rw [List.getElem?_append_right (by omega)] at hi
            have hi2 := (List.getElem?_eq_some_iff.1 hi).1
            rw [List.getElem?_append_right (by rw [List.length_take]; omega), List.length_take, Nat.min_eq_left (by omega), List.getElem?_append_left (by rw [hsz]; omega), List.getElem?_map, show off + i - (off + l.length) = i - l.length by omega, hi]
            rfl
    · by_cases h0 : l.length + l2.length ≤ cap
      · have hnone : a = none := by
          apply Classical.byContradiction
          intro h
          exact hr ⟨h0, h⟩
        subst hnone
        rcases hown with ⟨rfl, hv⟩ | ⟨g, off, cap', c, hv, _⟩
        · simp only [Value.slice.injEq] at hv
          obtain ⟨_, _, rfl⟩ := hv
          have : l2 = [] := List.eq_nil_of_length_eq_zero (by simpa using h0)
          subst this
          have hrun := run_append_owned_none (P := Tryd.prog) (w := w) base 22 ty 5 i0 1 Tryd.underlying22 hi (.slice none 0 0) 0 [] (World.ownsRow_nil w base 5 1)
          obtain ⟨v', w', hrun, r1, r2, r3, r4⟩ := run_append_own_at (P := Tryd.prog) w base 22 ty 5 i0 _ 1 1 Tryd.underlying22 hi hz0 hz1 hz2 rfl (by decide) (.slice none 0 0) 0 [] (World.ownsRow_nil w base 5 1) ad 0 cap2 [] rfl (fun j u hj => by simp at hj) (fun _ h => by cases h) (by unfold maxLen; omega) (by omega) hbase
          have hv' := r3.2 ⟨rfl, rfl⟩
          subst hv'
          exact ⟨_, w', hrun, OwnO.nil _ _, (Below.refl base w).grown r2 hbase (fun k hk => by cases hk), fun k hk hn => r2.block k hk (Ne.symm hn), .inl rfl⟩
        · simp at hv
      · have hfull : cap < l.length + l2.length := by omega
        have hlm : l.length + l2.length ≤ maxLen := by unfold maxLen; omega
        rcases hown with ⟨rfl, hv⟩ | ⟨g, off, cap', c, hv, hg, hc, h1, h2, h3, h4⟩
        · simp only [Value.slice.injEq] at hv
          obtain ⟨rfl, _, rfl⟩ := hv
          obtain ⟨v', w', hrun, r1, r2, r3, r4⟩ := run_append_own_at (P := Tryd.prog) w base 22 ty 5 i0 _ 1 1 Tryd.underlying22 hi hz0 hz1 hz2 rfl (by decide) (.slice none 0 0) 0 [] (World.ownsRow_nil w base 5 1) ad l2.length cap2 (l2.map bcell) (by simp) hcells (bcell_one l2) (by simpa using hlm) (by simpa using hb) hbase
          refine ⟨v', w', hrun, OwnB.ownO (by simpa [OwnB] using r1), (Below.refl base w).grown r2 hbase (fun k hk => by cases hk), fun k hk hn => r2.block k hk (Ne.symm hn), ?_⟩
          rcases r4 with r4 | r4
          · exact .inl r4
          · exact .inr ⟨_, r4, Nat.le_refl _⟩
        · simp only [Value.slice.injEq] at hv
          obtain ⟨rfl, _, rfl⟩ := hv
          have holds : ∀ j u, (l.map bcell)[j]? = some u → w.cell? ((⟨g, off, none⟩ : Addr).add j) = some u := by
            intro j u hj
            rw [List.getElem?_map] at hj
            cases hx : l[j]? with
            | none => rw [hx] at hj; simp at hj
            | some x =>
              rw [hx] at hj
              simp only [Option.map_some, Option.some.injEq] at hj
              subst hj
              rw [Addr.add_mid, hc.cell, h4 j x hx]
          obtain ⟨v', w', hrun, r1, r2⟩ := run_append_arg_grows (P := Tryd.prog) w 22 ty 5 i0 _ 1 1 Tryd.underlying22 hi hz0 hz1 hz2 rfl (by decide) ⟨g, off, none⟩ l.length cap (l.map bcell) (by simp) holds ad l2.length cap2 (l2.map bcell) (by simp) hcells hfull hlm (by simpa using hb)
          have hO : OwnB w' w.heap.size v' (l ++ l2) := by simpa [OwnB] using r1
          have hob : ∃ k, v'.ownBlock = some k ∧ w.heap.size ≤ k := by
            rcases hO.2 with ⟨rfl, hn⟩ | ⟨g', cap', cur, rfl, hg', _⟩
            · exfalso
              rw [List.length_append] at hn
              omega
            · exact ⟨g', rfl, hg'⟩
          exact ⟨v', w', hrun, (OwnB.ownO hO).mono hbase, (Below.refl base w).grown r2 hbase (fun k hk => by cases hk), fun k hk hn => r2.block k hk (by simp), .inr hob⟩
theorem wpList_appO {ops : Array Oper} {rest : List Oper} {o : Oper} {a : Act} {Q : Exit → Act → World → Prop} {w : World} (hgd : o.guard = none) (s x : Operand)
    (ho : o.op = .call { callee := .builtin .append, args := #[s, x], argTypes := #[22, 22] })
    (base : Nat) (v : Value) (l : List UInt8) (hs : a.eval s = v) (hown : OwnO w base v l) (u : Value) (l2 : List UInt8) (hx : a.eval x = u) (hu : IsB w u l2)
    (hb : l.length + l2.length ≤ 140737488355328) (hbase : base ≤ w.heap.size)
    (h : ∀ v' w', OwnO w' base v' (l ++ l2) → Below base w w' → (∀ k, k < w.heap.size → v.ownBlock ≠ some k → w'.heap[k]? = w.heap[k]?) → (v'.ownBlock = v.ownBlock ∨ ∃ k, v'.ownBlock = some k ∧ w.heap.size ≤ k) → wpList Tryd.prog ops Q rest (a.put o.dst v') w') : wpList Tryd.prog ops Q (o :: rest) a w := by
  refine wpList_plain hgd fun K hK => ?_
  obtain ⟨v', w', hr, h2, h3, h4, h5⟩ := run_appO o.type w base v l hown u l2 hu hb hbase
  unfold Oper.wp execOp
  simp only [ho, resolve, invoke, builtin, Sem.run_bind, Sem.run_pure, Result.andThen_ok, List.map_toArray, List.map_cons, List.map_nil, hs, hx, hr]
  exact hK _ _ (h v' w' h2 h3 h4 h5)
end Go.Proofs.YtjghmhcljhjmmaaDoor
