/- slices.SortFunc, slices.Collect and slices.SortedFunc at entries; what a list of a set's entries in order is. No condition. -/
import Derived.Test.YthhooocckfljaaaColl
namespace Go.Proofs.Ythhooocckfljaaa
open Go.RowKit Go.Maps Go.Shelf Go.Sort
set_option linter.unusedVariables false
set_option linter.unusedSimpArgs false

instance : Inhabited Ent := ⟨⟨[], 0, 0, 0, 0, 0, 0⟩⟩
theorem flatMap7_len (es : List Ent) : (es.flatMap ecells).length = es.length * 7 := by
  induction es with
  | nil => rfl
  | cons e es ih =>
    have : (ecells e).length = 7 := rfl
    rw [List.flatMap_cons, List.length_append, ih, List.length_cons, this]
    omega
theorem flatK_list (es : List Ent) : (flatK ecells 7 es.toArray).toList = es.flatMap ecells := by
  apply List.ext_getElem?
  intro t
  by_cases ht : t < es.length * 7
  · have hk : t / 7 < es.length := by omega
    have h := flat7 es (t / 7) es[t / 7] (List.getElem?_eq_getElem hk) (t % 7) (Nat.mod_lt _ (by omega))
    rw [show t / 7 * 7 + t % 7 = t by omega] at h
    rw [h]
    have hl : t % 7 < (ecells es[t / 7]).length := by show t % 7 < 7; omega
    simp [flatK, ht, hk, List.getElem?_eq_getElem hl, getElem!_pos (ecells es[t / 7]) (t % 7) hl]
  · rw [List.getElem?_eq_none (by simp; omega), List.getElem?_eq_none (by rw [flatMap7_len]; omega)]
theorem ecells_len (e : Ent) : (ecells e).length = 7 := rfl

theorem heap_put {w : World} {g n : Nat} {os : Array Obj} {cur : Array Value} {e : TypeId} {fr : Nat × Nat} (F : Array Value) (hb : w.heap[g]? = some (.cells cur e fr)) :
    (grow (putRow id (Sort.ahead w n) g 0 F) os).heap[g]? = some (.cells (putCells id 0 F cur) e fr) := by
  have hg : g < w.heap.size := (Array.getElem?_eq_some_iff.1 hb).1
  rw [heap_grow_old _ _ (by simpa using hg)]
  simp [putRow, mapBlock, Sort.ahead, Array.getElem?_modify, hb, onCells]
theorem grown_put {w : World} {g n : Nat} {os : Array Obj} (F : Array Value) : w.grownBy (grow (putRow id (Sort.ahead w n) g 0 F) os) (some g) := by
  refine ⟨rfl, rfl, rfl, by simp, fun k hk hne => ?_⟩
  rw [heap_grow_old _ _ (by simpa using hk)]
  have : g ≠ k := fun e => hne (by rw [e])
  simp [putRow, mapBlock, Sort.ahead, Array.getElem?_modify, this]
theorem take_put (cur F : Array Value) (h : F.size ≤ cur.size) : (putCells id 0 F cur).toList.take F.size = F.toList := by
  apply List.ext_getElem?
  intro j
  by_cases hj : j < F.size
  · rw [List.getElem?_take_of_lt hj, Array.getElem?_toList]
    simp [putCells, hj, show j < cur.size by omega]
  · rw [List.getElem?_take_eq_none (by omega), List.getElem?_eq_none (by simp; omega)]

theorem ins_none (p : Option Addr) (cap : Nat) (fv : Value) (w : World) : Calls Try.prog 62 #[.slice p 0 cap, .int .i64 0, .int .i64 0, fv] w fun e w' => e = .returned (.tuple #[]) ∧ w = w' := by
  go_enter Try.func62, Try.ntmps62
  go_wp2
  refine wp_loop_rounds 1 ?_
  rw [rounds_succ]
  go_wp2
  go_end0
  exact ⟨rfl, rfl⟩
theorem pdq_none (p : Option Addr) (cap : Nat) (lim : Int) (fv : Value) (w : World) : Calls Try.prog 59 #[.slice p 0 cap, .int .i64 0, .int .i64 0, .int .i64 lim, fv] w fun e w' => e = .returned (.tuple #[]) ∧ w = w' := by
  go_enter Try.func59, Try.ntmps59
  go_wp2
  refine wp_loop_rounds 1 ?_
  rw [rounds_succ]
  go_wp2_with (go_at_call 62; refine (ins_none _ _ _ _).mono ?_; rintro e w' ⟨rfl, rfl⟩)
  (try simp only [Exit.inBlock, Exit.then]); refine bodyPost_ret (results_none rfl _ _ _) rfl ?_
  exact ⟨rfl, rfl⟩
theorem blen_zero (W : World) : Calls Try.prog 60 #[.int .u64 0] W fun e w' => e = .returned (.int .i64 (Lib.bitLen 0 : Nat)) ∧ W = w' :=
  (Any.bits_Len (SlLaysF0.n15.bits (P := Try.prog) (ρ := Try.sortEnt_ren) { Try.sortEnt with }) 0 W (by omega) (by omega)).mono fun _ _ h => ⟨h.1, h.2.symm⟩
theorem sort_none (p : Option Addr) (cap : Nat) (fv : Value) (w : World) : Calls Try.prog 51 #[.slice p 0 cap, fv] w fun e w' => e = .returned (.tuple #[]) ∧ w = w' := by
  go_enter Try.func51, Try.ntmps51
  go_wp2_with (first | (go_at_call 60; refine (blen_zero _).mono ?_; rintro e w' ⟨rfl, rfl⟩) | (go_at_call 59; refine (pdq_none _ _ _ _ _).mono ?_; rintro e w' ⟨rfl, rfl⟩))
  go_end0
  exact ⟨rfl, rfl⟩

/-- In order: no later one comes before an earlier one. -/
def Ordered (es : List Ent) : Prop := es.Pairwise fun x y => ¬ ltE y x
theorem sort_some (base : Nat) (v : Value) (es : List Ent) (w : World) (h : OwnE w base v es) (hb : base ≤ w.heap.size) (hl : es.length ≤ 1000000) :
    Calls Try.prog 51 #[v, .func (.func 41) #[] #[]] w fun e w' => e = .returned (.tuple #[]) ∧ ∃ fs : List Ent, fs.Perm es ∧ Ordered fs ∧ OwnE w' base v fs ∧ Below base w w' := by
  rcases h.2 with ⟨rfl, hn⟩ | ⟨g, cap, cur, rfl, hg, hgb, r1, r2, r3, r4⟩
  · obtain rfl := List.eq_nil_of_length_eq_zero hn
    exact (sort_none _ _ _ w).mono fun e w' ⟨he, hw⟩ => ⟨he, [], List.Perm.refl _, List.Pairwise.nil, hw ▸ h, hw ▸ Below.refl _ _⟩
  · have hgl : g < w.heap.size := (Array.getElem?_eq_some_iff.1 hgb).1
    have hH : HoldsK ecells 7 w g 0 es.toArray := by
      intro j hj
      refine ⟨?_, by simp [World.frozen?, hgb]⟩
      have hj' : j < es.length * 7 := by simpa using hj
      have hc := World.ownsRow.cellAt h j hj'
      rw [Nat.zero_add, hc, ← flatK_list, Array.getElem?_toList, Array.getElem?_eq_getElem hj, getElem!_pos (flatK ecells 7 es.toArray) j hj]
      rfl
    have eg : ∀ args w, (callFunc 41 args).run Try.prog w = .ok (.enter 41 args) w := enters_of Try.func41 (by kernel_rfl) rfl
    have hcon := AnyQ.slices_SortFunc Try.sortEnt 7 Try.isAgg46 Try.sizeOf46 ecells ecells_len ecells_one cmpE swoE 41 #[] g 0 cap es.toArray w eg (fun _ _ _ _ x y => less_run x y _) hH hgl (by simp; omega)
    change Calls Try.prog 51 _ _ _ at hcon
    rw [show es.toArray.size = es.length by simp] at hcon
    refine hcon.mono ?_
    rintro e w' ⟨he, d', n, os, hp, hs, rfl⟩
    have hsz : d'.size = es.length := by have := hp.1; simpa using this
    have hperm : d'.toList.Perm es := by
      have := hp.2.2
      rw [← hsz, Array.extract_size] at this
      rw [hsz] at this
      have e2 : es.toArray.extract 0 es.length = es.toArray := by
        simp
      rw [e2] at this
      simpa using this
    have hgr : w.grownBy (sortWorldK ecells 7 w g 0 n d' os) (some g) := grown_put _
    refine ⟨he, d'.toList, hperm, ?_, ?_, (Below.refl base w).grown hgr hb fun k hk => by cases hk; exact hg⟩
    · unfold Ordered
      rw [List.pairwise_iff_getElem]
      intro i j hi hj hij
      have hi' : i < d'.size := by simpa using hi
      have hj' : j < d'.size := by simpa using hj
      have := hs i j (Nat.zero_le _) hij (by omega)
      rw [getElem!_pos d' i hi', getElem!_pos d' j hj'] at this
      unfold ltOf at this
      simp only [decide_eq_false_iff_not] at this
      rw [lt_cmpE] at this
      simpa using this
    · have hl2 : d'.toList.length = es.length := by simpa using hsz
      unfold OwnE
      rw [hl2]
      refine ⟨by rw [flatMap7_len, hl2], .inr ⟨g, cap, _, rfl, hg, heap_put _ hgb, r1, r2, by simp [putCells, r3], ?_⟩⟩
      have hF : (flatK ecells 7 d').size = es.length * 7 := by simp [hsz]
      have := take_put cur (flatK ecells 7 d') (by rw [hF, r3]; exact Nat.mul_le_mul_right 7 r1)
      rw [hF] at this
      rw [this]
      exact flatK_list d'.toList
end Go.Proofs.Ythhooocckfljaaa
