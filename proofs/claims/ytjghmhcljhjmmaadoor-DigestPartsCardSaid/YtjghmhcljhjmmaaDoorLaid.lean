/- The condition of the cards: the constants lie as the program's text lays them; what the walks need of it. No further condition. -/
import Derived.Test.YtjghmhcljhjmmaaDoorMix
import Derived.Test.YtjghmhcljhjmmaaDoorOpen
import Derived.LaidMore
import Derived.Stop.Joined
import Derived.ChangeMaps5
import Derived.SevenTiedAt
namespace Go.Proofs.YtjghmhcljhjmmaaDoor
open Go.ChangeShapes Go.WideShapes Go.ChangeAt Go.RowKit
set_option linter.unusedVariables false
set_option linter.unusedSimpArgs false

theorem gConst : Tryd.prog.globalNamed "quayside/digest.constants" = some 0 := by kernel_rfl
theorem tConst : (Tryd.prog.globals[0]?).map (·.type) = some 57 := by kernel_rfl
theorem cells_47 : Tryd.prog.cellsOf 47 = 1 := by kernel_rfl
theorem laid_eq {H : Type} : (Rows.laid_quayside_digest_constants : DataW H) = .agg (kC.map fun x => .lit (.int .u32 (wn x : Int))) := rfl
theorem of_laid {W : World} (h : laidMetH Tryd.prog [("quayside/digest.constants", Rows.laid_quayside_digest_constants)] W) : KW W := by
  rw [MakeChecks.laidMetH_plain _ _ _ (by kernel_rfl)] at h
  obtain ⟨ps, ⟨g0, t0, cs0, f0, p0, q0, hg0, ht0, hv0, hd0, _, _⟩, _, _⟩ := h
  obtain rfl := Option.some.inj (gConst.symm.trans hg0)
  obtain rfl := Option.some.inj (tConst.symm.trans ht0)
  obtain ⟨xs, m, _, hx, _, hl, hel⟩ := DataW.trod_array Tryd.underlying57 hd0
  intro i x hi
  rw [World.var?_cell hg0 hv0 i]
  have hi64 : i < 64 := by have := (List.getElem?_eq_some_iff.1 hi).1; rwa [kC_len] at this
  have h1 := hel i hi64
  rw [cells_47, Nat.mul_one] at h1
  obtain ⟨y, hy⟩ : ∃ y, xs[i]? = some y := ⟨_, List.getElem?_eq_getElem (by rw [hl]; exact hi64)⟩
  rw [hy] at h1
  obtain ⟨n, e1, e2, _⟩ := DataW.trod_int Tryd.underlying47 h1
  have h2 : (xs.map (·.1))[i]? = some (.lit (.int .u32 (wn x : Int))) := by
    have h3 := congrArg Prod.fst hx
    simp only [laid_eq, DataW.agg.injEq] at h3
    rw [← h3, List.getElem?_map, hi]
    rfl
  rw [List.getElem?_map, hy, e2] at h2
  simp only [Option.map_some, Option.some.injEq, DataW.lit.injEq, Lit.int.injEq, true_and] at h2
  subst h2
  have h4 : cs0.toList[i]? = some (.int .u32 (wn x : Int)) := by
    have h5 := congrArg (fun l : List Value => l[0]?) e1
    simpa using h5
  have h6 : cs0[i]? = some (.int .u32 (wn x : Int)) := by simpa using h4
  exact h6
end Go.Proofs.YtjghmhcljhjmmaaDoor
