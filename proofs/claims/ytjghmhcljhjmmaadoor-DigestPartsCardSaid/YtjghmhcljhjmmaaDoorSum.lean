/- A Hash that holds what was written to it; Sum of any bytes. The one condition beyond the sizes: the constants lie as the program's text lays them. -/
import Derived.Test.YtjghmhcljhjmmaaDoorHSum
namespace Go.Proofs.YtjghmhcljhjmmaaDoor
open Go.RowKit
set_option linter.unusedVariables false
set_option linter.unusedSimpArgs false

theorem blocks_add : ∀ (a b : Nat) (s : S8) (l : List UInt8), blocksP (a + b) s l = blocksP b (blocksP a s l) (l.drop (a * 64))
  | 0, b, s, l => by simp [blocksP]
  | a + 1, b, s, l => by
    rw [show a + 1 + b = (a + b) + 1 by omega, blocksP, blocks_add a b, blocksP, List.drop_drop]
    congr 2
    omega
theorem blocks_more : ∀ (k : Nat) (s : S8) (l x : List UInt8), k * 64 ≤ l.length → blocksP k s (l ++ x) = blocksP k s l
  | 0, s, l, x, h => rfl
  | k + 1, s, l, x, h => by
    have h64 : 64 ≤ l.length := by omega
    rw [blocksP, blocksP, List.take_append_of_le_length h64, List.drop_append_of_le_length h64, blocks_more k _ _ _ (by rw [List.length_drop]; omega)]
/-- p is a Hash of the call's own to which 'all' was written. -/
def HashO (w : World) (base p : Nat) (ob : Option Nat) (all : List UInt8) : Prop :=
  HBk w base p ob (blocksP (all.length / 64) iv all) (all.drop (all.length / 64 * 64)) all.length
theorem hash_state (all l : List UInt8) :
    blocksP ((all.drop (all.length / 64 * 64) ++ l).length / 64) (blocksP (all.length / 64) iv all) (all.drop (all.length / 64 * 64) ++ l) = blocksP ((all ++ l).length / 64) iv (all ++ l) ∧
    (all.drop (all.length / 64 * 64) ++ l).drop ((all.drop (all.length / 64 * 64) ++ l).length / 64 * 64) = (all ++ l).drop ((all ++ l).length / 64 * 64) := by
  have hq : all.length / 64 * 64 ≤ all.length := by omega
  have hlen : (all.drop (all.length / 64 * 64) ++ l).length = all.length - all.length / 64 * 64 + l.length := by rw [List.length_append, List.length_drop]
  have hN : (all ++ l).length / 64 = all.length / 64 + (all.drop (all.length / 64 * 64) ++ l).length / 64 := by
    rw [hlen, List.length_append]
    omega
  have hd : all.drop (all.length / 64 * 64) ++ l = (all ++ l).drop (all.length / 64 * 64) := by rw [List.drop_append_of_le_length hq]
  constructor
  · rw [hN, blocks_add, blocks_more _ _ all l hq, ← hd]
  · rw [hN, Nat.add_mul, ← List.drop_drop, ← hd]
theorem sha_hash (all : List UInt8) :
    outP (blocksP ((all.drop (all.length / 64 * 64) ++ tailR (all.drop (all.length / 64 * 64)).length all.length).length / 64) (blocksP (all.length / 64) iv all) (all.drop (all.length / 64 * 64) ++ tailR (all.drop (all.length / 64 * 64)).length all.length)) = shaP all := by
  have ht : tailR (all.drop (all.length / 64 * 64)).length all.length = tailP all.length := by
    unfold tailR tailP
    have : zerosN (all.drop (all.length / 64 * 64)).length = zerosN all.length := by
      unfold zerosN
      rw [List.length_drop]
      omega
    rw [this]
  rw [ht, (hash_state all (tailP all.length)).1]
  unfold shaP
  rw [List.length_append]
theorem HashO.keep {w w' : World} {base p : Nat} {ob : Option Nat} {all : List UInt8} (h : HashO w base p ob all) (hb : Below w.heap.size w w') : HashO w' base p ob all := by
  obtain ⟨v, h1, h2, h3, h4⟩ := h
  exact ⟨v, h1, h2.step hb, h3.step hb, h4⟩
theorem HashO.mono {w : World} {base B p : Nat} {ob : Option Nat} {all : List UInt8} (h : HashO w base p ob all) (hB : B ≤ base) : HashO w B p ob all := by
  obtain ⟨v, h1, h2, h3, h4⟩ := h
  exact ⟨v, Nat.le_trans hB h1, h2, h3.mono hB, h4⟩
theorem KW.pos {w : World} (h : KW w) : 0 < w.heap.size := World.block_lt_of_cell? w _ (h 0 _ rfl)
theorem new_hash (w : World) : Calls Tryd.prog 16 #[] w fun e w' => e = .returned (.pointer (some ⟨w.heap.size, 0, none⟩)) ∧ HashO w' w.heap.size w.heap.size none [] ∧ Below w.heap.size w w' := new_any w
/-- What Write leaves of a Hash. -/
def WrH (w : World) (base p : Nat) (ob : Option Nat) (all : List UInt8) (e : Ending) (w' : World) : Prop :=
  ∃ ob', e = .returned (.tuple #[]) ∧ HashO w' base p ob' all ∧ Below base w w' ∧ FrO w w' p ob ob'
theorem write_hash (base p : Nat) (ob : Option Nat) (all : List UInt8) (u : Value) (l : List UInt8) (w : World) (hk : KW w) (h0 : 0 < base) (hbs : base ≤ w.heap.size)
    (h : HashO w base p ob all) (hu : IsB w u l) (hl : all.length + l.length ≤ 1099511627776) : Calls Tryd.prog 17 #[.pointer (some ⟨p, 0, none⟩), u] w (WrH w base p ob (all ++ l)) := by
  refine (write_any base p ob _ _ _ u l w hk h0 hbs h hu hl (by rw [List.length_drop]; omega)).mono ?_
  rintro e w' ⟨he, ob', h1, h2, h3⟩
  refine ⟨ob', he, ?_, h2, h3⟩
  rw [(hash_state all l).1, (hash_state all l).2] at h1
  unfold HashO
  rw [List.length_append]
  rw [List.length_append] at h1
  exact h1
theorem hsum_hash (base p : Nat) (ob : Option Nat) (all : List UInt8) (w : World) (hk : KW w) (h : HashO w base p ob all) (hl : all.length ≤ 1099511627776) :
    Calls Tryd.prog 18 #[.pointer (some ⟨p, 0, none⟩)] w (OwnR w (shaP all)) := by
  have := hsum_any base p ob _ _ _ w hk h hl (by rw [List.length_drop]; omega)
  rwa [sha_hash] at this
set_option maxRecDepth 20000 in
set_option maxHeartbeats 1000000 in
theorem sum_any (v : Value) (l : List UInt8) (w : World) (hk : KW w) (hv : IsB w v l) (hl : l.length ≤ 1099511627776) : Calls Tryd.prog 12 #[v] w (OwnR w (shaP l)) := by
  have HK := Lib.hid hk
  have HV := Lib.hid hv
  have HL := Lib.hid hl
  clear hk hv hl
  go_enter Tryd.func12, Tryd.ntmps12
  go_wp2_with (first | (go_at_call 16; refine (new_hash w).mono ?_; rintro e w1 ⟨rfl, h1, hb1⟩; have H1 := Lib.hid h1; have HB1 := Lib.hid hb1; clear h1 hb1) | (go_at_call 17; refine (write_hash w.heap.size _ _ _ v l _ (HK.out.step HB1.out) HK.out.pos HB1.out.size H1.out (HV.out.step HB1.out) (by simpa using HL.out)).mono ?_; rintro e w2 ⟨ob, rfl, h2, hb2, hf2⟩; have H2 := Lib.hid h2; have HB2 := Lib.hid (HB1.out.trans hb2); clear h2 hb2 hf2) | (go_at_call 18; refine (hsum_hash _ _ _ _ _ (HK.out.step HB2.out) H2.out (by simpa using HL.out)).mono ?_; rintro e w3 ⟨v3, rfl, h3, hb3⟩; have H3 := Lib.hid (h3.mono HB2.out.size); have HB3 := Lib.hid (bel_step HB2.out hb3); clear h3 hb3))
  go_ret
  exact ⟨_, rfl, by simpa using H3.out, HB3.out⟩
end Go.Proofs.YtjghmhcljhjmmaaDoor
