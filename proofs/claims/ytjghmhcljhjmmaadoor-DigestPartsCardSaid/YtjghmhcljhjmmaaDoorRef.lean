/- The walks of the reference's word, constant and rotations at once. No condition. -/
import Derived.Test.YtjghmhcljhjmmaaDoorMix
namespace Go.Proofs.YtjghmhcljhjmmaaDoor
open Go.RowKit
set_option linter.unusedVariables false
set_option linter.unusedSimpArgs false

set_option maxHeartbeats 2000000 in
theorem word_any (bb off n cap : Nat) (x0 x1 x2 x3 : UInt8) (w : World) (hn : 4 ≤ n) (c0 : w.cell? ⟨bb, off, none⟩ = some (.int .u8 (x0.toNat : Int))) (c1 : w.cell? ⟨bb, off + 1, none⟩ = some (.int .u8 (x1.toNat : Int)))
    (c2 : w.cell? ⟨bb, off + 2, none⟩ = some (.int .u8 (x2.toNat : Int))) (c3 : w.cell? ⟨bb, off + 3, none⟩ = some (.int .u8 (x3.toNat : Int))) :
    Calls Tryd.prog 34 #[.slice (some ⟨bb, off, none⟩) n cap] w fun e w' => e = .returned (.int .u32 (wn (word4 x0 x1 x2 x3) : Int)) ∧ ∃ k, w' = w.drewN k := by
  have hwd := wn_word x0 x1 x2 x3
  have t0 := x0.toNat_lt
  have t1 := x1.toNat_lt
  have t2 := x2.toNat_lt
  have t3 := x3.toNat_lt
  have n0 : (0 : Int) < (n : Int) := by omega
  have n1 : (1 : Int) < (n : Int) := by omega
  have n2 : (2 : Int) < (n : Int) := by omega
  have n3 : (3 : Int) < (n : Int) := by omega
  go_enter Tryd.func34, Tryd.ntmps34
  go_wp2
  go_quiet (fail)
  go_wp2
  go_ret
  exact ⟨rfl, _, rfl⟩
def kV : List Value := kC.map wV
def kLit : List Value := [.int .u32 1116352408, .int .u32 1899447441, .int .u32 3049323471, .int .u32 3921009573, .int .u32 961987163, .int .u32 1508970993, .int .u32 2453635748, .int .u32 2870763221, .int .u32 3624381080, .int .u32 310598401, .int .u32 607225278, .int .u32 1426881987, .int .u32 1925078388, .int .u32 2162078206, .int .u32 2614888103, .int .u32 3248222580, .int .u32 3835390401, .int .u32 4022224774, .int .u32 264347078, .int .u32 604807628, .int .u32 770255983, .int .u32 1249150122, .int .u32 1555081692, .int .u32 1996064986, .int .u32 2554220882, .int .u32 2821834349, .int .u32 2952996808, .int .u32 3210313671, .int .u32 3336571891, .int .u32 3584528711, .int .u32 113926993, .int .u32 338241895, .int .u32 666307205, .int .u32 773529912, .int .u32 1294757372, .int .u32 1396182291, .int .u32 1695183700, .int .u32 1986661051, .int .u32 2177026350, .int .u32 2456956037, .int .u32 2730485921, .int .u32 2820302411, .int .u32 3259730800, .int .u32 3345764771, .int .u32 3516065817, .int .u32 3600352804, .int .u32 4094571909, .int .u32 275423344, .int .u32 430227734, .int .u32 506948616, .int .u32 659060556, .int .u32 883997877, .int .u32 958139571, .int .u32 1322822218, .int .u32 1537002063, .int .u32 1747873779, .int .u32 1955562222, .int .u32 2024104815, .int .u32 2227730452, .int .u32 2361852424, .int .u32 2428436474, .int .u32 2756734187, .int .u32 3204031479, .int .u32 3329325298]
theorem kLit_eq : kLit = kV := by rfl
theorem kV_len : kV.length = 64 := by rfl
set_option maxRecDepth 20000 in
set_option maxHeartbeats 4000000 in
theorem const_any (t : Nat) (x : W32) (hx : kC[t]? = some x) (w : World) : Calls Tryd.prog 36 #[.int .i64 t] w fun e w' => e = .returned (.int .u32 (wn x : Int)) ∧ Below w.heap.size w w' := by
  have ht : t < 64 := by have := (List.getElem?_eq_some_iff.1 hx).1; rwa [kC_len] at this
  have ht0 : (0 : Int) ≤ (t : Int) := by omega
  have hti : (t : Int) < 64 := by omega
  have HONE := Lib.hid (show kLit.toArray.all (·.oneCell') = true by rw [kLit_eq]; exact all_oneCell_toArray (wV_one kC))
  have HSZ := Lib.hid (show (Tryd.prog.info? 57).map (·.size) = some kLit.toArray.size from size57)
  have HTH := Lib.hid (show (w.alloc (.cells z64 57)).there w.heap.size 0 kLit.toArray.size from (VBlk.zeros w).there 0 64 (by rw [padW_len (by simp)]; omega))
  have HB := Lib.hid (show VBlk 57 ((w.alloc (.cells z64 57)).setCells w.heap.size 0 kLit) w.heap.size kLit from (VBlk.zeros w).whole (by rw [padW_len (by simp)]; rfl))
  have HBL := Lib.hid (bel_setMany (b := w.heap.size) kLit 0 _ (bel_new w (.cells z64 57)) (Nat.le_refl _))
  go_enter Tryd.func36, Tryd.ntmps36
  go_upto_region 1 with fail
  refine wp_region_list ?_
  refine wpList_plain rfl fun K hK => ?_
  go_simp
  refine hK _ _ ?_
  clear hK K
  refine wpList_plain rfl fun K hK => ?_
  go_simp
  refine hK _ _ ?_
  clear hK K
  refine wpList_store_mid rfl 57 (.tmp 3) (.tmp 4) rfl w.heap.size 0 kLit.toArray rfl rfl HTH.out HSZ.out HONE.out ?_
  rw [List.toList_toArray]
  change wpList _ _ _ _ _ ((w.alloc (.cells z64 57)).setCells w.heap.size 0 kLit)
  rw [kLit_eq] at HB HBL ⊢
  generalize (w.alloc (.cells z64 57)).setCells w.heap.size 0 kV = W1 at *
  have hc : W1.cell? ⟨w.heap.size, t, none⟩ = some (.int .u32 (wn x : Int)) := by
    rw [HB.out.cell]
    show (kC.map wV)[t]? = _
    rw [List.getElem?_map, hx]
    rfl
  clear HTH HONE HSZ hx
  go_wp2_with fail
  go_ret
  exact ⟨rfl, HBL.out⟩
end Go.Proofs.YtjghmhcljhjmmaaDoor
