/- The loop of the reference's Words. No condition beyond a length that memory allows. -/
import Derived.Test.YtnieoaadhbcjiaaRefWords
namespace Go.Proofs.Ytnieoaadhbcjiaa
open Go.RowKit
set_option linter.unusedVariables false
set_option linter.unusedSimpArgs false

theorem Only.set2 {b : Nat} {w : World} {u v : Value} : Only b w ((w.setCell ⟨b, 0, none⟩ u).setCell ⟨b, 1, none⟩ v) := Only.set.trans Only.set
theorem Only.drew {b : Nat} {w : World} : Only b w w.drew := Only.of_below (bel_draws (Below.refl _ _) 1)
theorem wordsF_more {n k : Nat} {ll s r' : List UInt8} {ts : List (List UInt8)} {W : Option (List (List UInt8) × List UInt8)} (hk : k < n) (hw : wordR ll = some (s, r'))
    (h : (wordsF (n - k) ll).map (fun x => (ts ++ x.1, x.2)) = W) : (wordsF (n - (k + 1)) r').map (fun x => ((ts ++ [s]) ++ x.1, x.2)) = W := by
  rw [← h, show n - k = (n - (k + 1)) + 1 by omega]
  simp only [wordsF, hw, Option.map_map]
  congr 1
  funext x
  simp

theorem wordsF_done {n k : Nat} {ll : List UInt8} {ts : List (List UInt8)} {W : Option (List (List UInt8) × List UInt8)} (hk : n ≤ k) (h : (wordsF (n - k) ll).map (fun x => (ts ++ x.1, x.2)) = W) : W = some (ts, ll) := by
  rw [← h, show n - k = 0 by omega]
  simp [wordsF]
theorem wordsF_fail {n k : Nat} {ll : List UInt8} {ts : List (List UInt8)} {W : Option (List (List UInt8) × List UInt8)} (hk : k < n) (hw : wordR ll = none)
    (h : (wordsF (n - k) ll).map (fun x => (ts ++ x.1, x.2)) = W) : W = none := by
  rw [← h, show n - k = (n - (k + 1)) + 1 by omega]
  simp only [wordsF, hw, Option.map_none]

/-- A cursor's box is set, and a new one laid. -/
theorem box_set {w5 : World} {b0 : Nat} {x y u' f' : Value} (h0 : Box2 w5 b0 49 x y) (hx : ∀ n, x ≠ .int .u8 n) (hy : ∀ n, y ≠ .int .u8 n) :
    Box2 (((w5.setCell ⟨b0, 0, none⟩ u').setCell ⟨b0, 1, none⟩ f').alloc (.cells #[u', f'] 49)) b0 49 u' f' ∧
    (∀ {v : Value} {l : List UInt8}, IsB w5 v l → IsB (((w5.setCell ⟨b0, 0, none⟩ u').setCell ⟨b0, 1, none⟩ f').alloc (.cells #[u', f'] 49)) v l) ∧
    (∀ {b1 : Nat} {p q : Value}, Box2 w5 b1 49 p q → b1 ≠ b0 → Box2 (((w5.setCell ⟨b0, 0, none⟩ u').setCell ⟨b0, 1, none⟩ f').alloc (.cells #[u', f'] 49)) b1 49 p q) ∧
    (∀ {v : Value} {ts : List (List UInt8)} {base : Nat}, OwnT w5 base v ts → b0 < base → OwnT (((w5.setCell ⟨b0, 0, none⟩ u').setCell ⟨b0, 1, none⟩ f').alloc (.cells #[u', f'] 49)) base v ts) ∧
    (∀ {w : World} {B : Nat}, Below B w w5 → B ≤ b0 → Below B w (((w5.setCell ⟨b0, 0, none⟩ u').setCell ⟨b0, 1, none⟩ f').alloc (.cells #[u', f'] 49))) ∧
    (((w5.setCell ⟨b0, 0, none⟩ u').setCell ⟨b0, 1, none⟩ f').alloc (.cells #[u', f'] 49)).heap.size = w5.heap.size + 1 := by
  have hz := h0.lt
  have hsz : ((w5.setCell ⟨b0, 0, none⟩ u').setCell ⟨b0, 1, none⟩ f').heap.size = w5.heap.size := by simp [World.setCell]
  refine ⟨(h0.set2 u' f').alloc _, fun h => (h.onlyN Only.set2 (h0.noB hx hy)).step (bel_new _ _), fun h hn => ((h.far hn _).far hn _).alloc _, fun h hb => (h.only Only.set2 hb).step (bel_new _ _), fun hb hB => ?_, by simp [World.alloc, hsz]⟩
  exact (((hb.setCell (p := ⟨b0, 0, none⟩) hB _).setCell (p := ⟨b0, 1, none⟩) hB _)).alloc (by rw [hsz]; exact Nat.le_trans hB (Nat.le_of_lt hz)) _

def WordsPost (B : Nat) (w : World) (o : Option (List (List UInt8) × List UInt8)) (e : Ending) (w' : World) : Prop :=
  ∃ v' u, e = .returned (.tuple #[v', u]) ∧ RCurO B w' v' (o.map (·.2)) ∧ IsT w' u (match o with | some (s, _) => s | none => []) ∧ (∃ a c n, u = .slice a n c) ∧ Below w.heap.size w w'

set_option maxRecDepth 20000 in
set_option maxHeartbeats 2000000 in
/-- Words whose number is good. -/
theorem rwords_ok (B : Nat) (a : Option Addr) (c : Nat) (l : List UInt8) (w : World) (h : IsB w (.slice a l.length c) l) (hLow : Low B a l) (hBw : B ≤ w.heap.size) (hl : l.length ≤ 1000000) (n k : Nat) (hr : rtP l = ((n : Int), (k : Int))) (hk : 1 ≤ k) (hkl : k ≤ l.length) (hn : n ≤ (l.drop k).length) :
    Calls Try.prog 46 #[.agg #[.slice a l.length c, .bool false]] w (WordsPost B w (wordsF n (l.drop k))) := by
  have hN := fun W h9 => rnum_ok a c l W h9 (by omega) n k hr hk hkl
  have HN := Lib.hid hN
  have HI := Lib.hid h
  have HB52 := Lib.hid rbad_any
  have hrl : (l.drop k).length ≤ 1000000 := by simp; omega
  obtain ⟨r, hrr⟩ : ∃ r, r = l.drop k := ⟨_, rfl⟩
  rw [← hrr] at HN hn hrl ⊢
  have HRL := Lib.hid hrl
  have hni : (n : Int) ≤ (r.length : Int) := by omega
  have hn0 : (0 : Int) ≤ (n : Int) := by omega
  have hn9 : (n : Int) ≤ 1000000 := by omega
  have hdb : decide (r.length < n) = false := by simp; omega
  have hB := bel_alloc (x := .cells #[.slice none 0 0, .bool false] 49) (bel_new w (.cells #[.slice a l.length c, .bool false] 49))
  have HB := Lib.hid hB
  have hx0 : Box2 _ w.heap.size 49 (.slice a l.length c) (.bool false) := (Box2.new w 49 (.slice a l.length c) (.bool false)).alloc (.cells #[.slice none 0 0, .bool false] 49)
  have hx1 := Box2.new1 w (.cells #[.slice a l.length c, .bool false] 49) 49 (.slice none 0 0) (.bool false)
  have HX0 := Lib.hid hx0
  have HX1 := Lib.hid hx1
  clear hB hx0 hx1 hN h hrr hr hrl hl
  go_enter Try.func46, Try.ntmps46
  go_upto_region 4 with (go_at_call 44; refine (HN.out _ (HI.out.step HB.out)).mono ?_; rintro e w4 ⟨a4, c4, rfl, hI4, hL4, hb4⟩; obtain ⟨_, _, hv4, hc4, hc5, hc6⟩ := hI4.shape; simp only [Value.slice.injEq] at hv4; obtain ⟨rfl, _, rfl⟩ := hv4; have HL4 := Lib.hid (hL4 B hLow); clear hL4 hLow; have HI4 := Lib.hid hI4; clear hI4; obtain ⟨c0, c1, e0, e1⟩ := (HX0.out.step hb4).facts)
  have hx1 := ((HX1.out.step hb4).far (g := w.heap.size) (k := 0) (by omega) (.slice a4 r.length c4)).far (g := w.heap.size) (k := 1) (by omega) (.bool false)
  have hx0 := (HX0.out.step hb4).set2 (.slice a4 r.length c4) (.bool false)
  have hi0 := HI4.out.onlyN (Only.set2 (b := w.heap.size) (u := .slice a4 r.length c4) (v := .bool false)) ((HX0.out.step hb4).noB (by intro n h; cases h) (by intro n h; cases h))
  have HX0' := Lib.hid hx0
  have HX1' := Lib.hid hx1
  have HI0 := Lib.hid hi0
  have hb9 : Below w.heap.size w ((w4.setCell ⟨w.heap.size, 0, none⟩ (.slice a4 r.length c4)).setCell ⟨w.heap.size, 1, none⟩ (.bool false)) := ((HB.out.trans (hb4.mono HB.out.size)).setCell (p := ⟨w.heap.size, 0, none⟩) (Nat.le_refl _) _).setCell (p := ⟨w.heap.size, 1, none⟩) (Nat.le_refl _) _
  clear c0 c1 e0 e1 hx1 hx0 hi0 HX1 HX0
  generalize ((w4.setCell ⟨w.heap.size, 0, none⟩ (.slice a4 r.length c4)).setCell ⟨w.heap.size, 1, none⟩ (.bool false)) = W at *
  have HB9 := Lib.hid hb9
  have hWs : w.heap.size + 2 ≤ W.heap.size := by have := HX1'.out.lt; omega
  clear hb9 hb4 HN HI hc4 hc5 hc6 HI4 HB
  go_wp2_with fail
  go_loopw [5, 6] (fun v i wr => ∃ (q : Nat) (ts : List (List UInt8)) (aa : Option Addr) (cc : Nat) (ll : List UInt8), i = .int .i64 q ∧ q ≤ n ∧ Box2 wr w.heap.size 49 (.slice aa ll.length cc) (.bool false) ∧ Box2 wr (w.heap.size + 1) 49 (.slice none 0 0) (.bool false) ∧ IsB wr (.slice aa ll.length cc) ll ∧ Low B aa ll ∧ OwnT wr (w.heap.size + 2) v ts ∧ ts.length = q ∧ ll.length ≤ r.length ∧ (wordsF (n - q) ll).map (fun x => (ts ++ x.1, x.2)) = wordsF n r ∧ Below w.heap.size w wr ∧ w.heap.size + 2 ≤ wr.heap.size) (fun _ i _ => n - (intOf i).toNat)
  case atStart => exact ⟨0, [], a4, c4, r, rfl, Nat.zero_le _, HX0'.out, HX1'.out, HI0.out, HL4.out, OwnT.nil _ _, rfl, Nat.le_refl _, by simp, HB9.out, hWs⟩
  case round =>
    obtain ⟨q, ts, aa, cc, ll, rfl, hq, hX0, hX1, hI, hL, hO, hts, hll, hW, hB, hz⟩ := hrel
    clear HX0' HX1' HI0 HB9 hWs
    have HX0 := Lib.hid hX0
    have HX1 := Lib.hid hX1
    have HI := Lib.hid hI
    have HLW := Lib.hid hL
    have HO := Lib.hid hO
    have HTS := Lib.hid hts
    have HW := Lib.hid hW
    have HB := Lib.hid hB
    have hz1 : w.heap.size + 1 < wr.heap.size := by omega
    obtain ⟨c0, c1, e0, e1⟩ := hX0.facts
    clear hX0 hX1 hI hL hO hts hW hB
    by_cases hlt : q < n
    · cases hw : wordR ll with
      | none =>
        have hY := fun W h9 => rword_no (a := aa) (c := cc) W h9 (by have := HRL.out; omega) hw
        have HY := Lib.hid hY
        have hF := wordsF_fail hlt hw HW.out
        rw [hF]
        clear hY hw hF HW HTS HRL
        go_upto_region 10 with (go_at_call 45; refine (HY.out _ HI.out).mono ?_; rintro e w5 ⟨rfl, hb5⟩; obtain ⟨c0, c1, e0, e1⟩ := (HX0.out.step hb5).facts; have hz5 : w.heap.size + 1 < w5.heap.size := (by have := hb5.size; omega); have hz6 : w.heap.size < w5.heap.size := (by omega))
        obtain ⟨p0, p1, p2, p3, p4, p5⟩ := box_set (u' := .slice none 0 0) (f' := .bool true) (HX0.out.step hb5) (by intro n h; cases h) (by intro n h; cases h)
        have q1 := p2 (HX1.out.step hb5) (by omega)
        have q2 := p4 (HB.out.trans (hb5.mono HB.out.size)) (Nat.le_refl _)
        have Q1 := Lib.hid q1
        have Q2 := Lib.hid q2
        obtain ⟨c0, c1, e0, e1⟩ := p0.facts
        clear p0 p1 p2 p3 p4 p5 q1 q2 HY hb5 hz5 hz6 hz1 HI HX0 HX1 HB HO
        generalize ((w5.setCell ⟨w.heap.size, 0, none⟩ (.slice none 0 0)).setCell ⟨w.heap.size, 1, none⟩ (.bool true)).alloc (.cells #[.slice none 0 0, .bool true] 49) = W5 at *
        go_wp2_with (go_at_call 52; refine (HB52.out _).mono ?_; rintro e w6 ⟨rfl, hb6⟩; obtain ⟨y0, y1, z0, z1⟩ := (Q1.out.step hb6).facts)
        refine bodyPost_ret (v := .tuple #[.agg #[.slice none 0 0, .bool true], .slice none 0 0]) (by simp [results, Try.results46, go_sem, y0, y1]) rfl ⟨_, _, rfl, rfl, .inl ⟨rfl, _, _, rfl⟩, ⟨_, _, _, rfl⟩, ?_⟩
        exact ((Q2.out.trans (hb6.mono Q2.out.size)).setCell (p := ⟨w.heap.size + 1, 0, none⟩) (by show w.heap.size ≤ w.heap.size + 1; omega) _).setCell (p := ⟨w.heap.size + 1, 1, none⟩) (by show w.heap.size ≤ w.heap.size + 1; omega) _
      | some x =>
        obtain ⟨s, r'⟩ := x
        have hY := fun W h9 => rword_yes (a := aa) (c := cc) B W h9 HLW.out (by have := HRL.out; omega) hw
        have HY := Lib.hid hY
        have hF := wordsF_more hlt hw HW.out
        have HF := Lib.hid hF
        have hbd := wordR_bd hw
        clear hY hw hF HW
        go_upto_region 10 with (go_at_call 45; refine (HY.out _ HI.out).mono ?_; rintro e w5 ⟨a', c', rfl, hI5, hL5, hb5⟩; have HI5 := Lib.hid hI5; have HL5 := Lib.hid hL5; clear hI5 hL5; obtain ⟨c0, c1, e0, e1⟩ := (HX0.out.step hb5).facts; have hz5 : w.heap.size + 1 < w5.heap.size := (by have := hb5.size; omega); have hz6 : w.heap.size < w5.heap.size := (by omega))
        obtain ⟨p0, p1, p2, p3, p4, p5⟩ := box_set (u' := .slice a' r'.length c') (f' := .bool false) (HX0.out.step hb5) (by intro n h; cases h) (by intro n h; cases h)
        have q0 := p1 HI5.out
        have q1 := p2 (HX1.out.step hb5) (by omega)
        have q2 := p4 (HB.out.trans (hb5.mono HB.out.size)) (Nat.le_refl _)
        have q3 := p3 (HO.out.step hb5) (by omega)
        have q4 : w.heap.size + 2 ≤ (((w5.setCell ⟨w.heap.size, 0, none⟩ (.slice a' r'.length c')).setCell ⟨w.heap.size, 1, none⟩ (.bool false)).alloc (.cells #[.slice a' r'.length c', .bool false] 49)).heap.size := by rw [p5]; omega
        have P0 := Lib.hid p0
        have Q0 := Lib.hid q0
        have Q1 := Lib.hid q1
        have Q2 := Lib.hid q2
        have Q3 := Lib.hid q3
        obtain ⟨c0, c1, e0, e1⟩ := p0.facts
        clear p0 p1 p2 p3 p4 p5 q0 q1 q2 q3 HY hb5 hz5 hz6 hz1 HI HX0 HX1 HB HO HI5
        generalize ((w5.setCell ⟨w.heap.size, 0, none⟩ (.slice a' r'.length c')).setCell ⟨w.heap.size, 1, none⟩ (.bool false)).alloc (.cells #[.slice a' r'.length c', .bool false] 49) = W5 at *
        have hn1 := bel_new W5 (.cells #[.string ⟨s.toArray⟩] 9)
        have hza := hn1.size
        go_wp2_with (at_builtin; refine wpList_appT rfl (.tmp 38) (.tmp 40) rfl (w.heap.size + 2) _ ts rfl (Q3.out.step hn1) W5.heap.size s rfl (by simp [go_sem]) (by have := HTS.out; have := HRL.out; omega) (by omega) ?_; intro v7 w7 ho7 hb7 hz7)
        go_roundw
        case rel => exact ⟨q + 1, ts ++ [s], a', c', r', by go_num, by omega, (P0.out.step hn1).bel hb7 (by omega), (Q1.out.step hn1).bel hb7 (by omega), (Q0.out.step hn1).bel HL5.out (hb7.mono (by omega)), HL5.out, ho7, by have := HTS.out; simp; omega, by omega, HF.out, (bel_step Q2.out hn1).trans (hb7.mono (by omega)), by omega⟩
        case measure => simp [intOf]; omega
    · have hF := wordsF_done (by omega) HW.out
      rw [hF]
      have HF := Lib.hid hF
      obtain ⟨g0, g1, k0, k1⟩ := HX1.out.facts
      clear hF
      go_wp2_with fail
      obtain ⟨a9, c9, rfl⟩ := HO.out.shape
      refine bodyPost_ret (v := .tuple #[.agg #[.slice aa ll.length cc, .bool false], .slice a9 ts.length c9]) (by simp [results, Try.results46, go_sem, g0, g1]) rfl ⟨_, _, rfl, ?_, ?_, ⟨_, _, _, rfl⟩, ?_⟩
      · rw [HF.out]
        refine ⟨aa, cc, rfl, ?_, HLW.out⟩
        exact HI.out.onlyN Only.set2 (HX1.out.noB (by intro n h; cases h) (by intro n h; cases h))
      · rw [HF.out]
        exact (HO.out.only (b := w.heap.size + 1) Only.set2 (by omega)).isT
      · exact (HB.out.setCell (p := ⟨w.heap.size + 1, 0, none⟩) (by show w.heap.size ≤ w.heap.size + 1; omega) _).setCell (p := ⟨w.heap.size + 1, 1, none⟩) (by show w.heap.size ≤ w.heap.size + 1; omega) _
/-- The list of a cursor in hand. -/
def wordsV (o : Option (List UInt8)) : List (List UInt8) := match o.bind wordsR with | some (s, _) => s | none => []
def wordsO (o : Option (List UInt8)) : Option (List UInt8) := (o.bind wordsR).map (·.2)
theorem rwords_any (B : Nat) (o : Option (List UInt8)) (v : Value) (w : World) (h : RCurO B w v o) (hs : shortO o) (hBw : B ≤ w.heap.size) :
    Calls Try.prog 46 #[v] w (WordsPost B w (o.bind wordsR)) := by
  cases o with
  | none =>
    obtain rfl : v = _ := h
    refine (rwords_num (.slice none 0 0) true w ⟨none, 0, 0, rfl⟩ (fun W _ => rnum_badc W)).mono ?_
    rintro e w' ⟨rfl, hb⟩
    exact ⟨_, _, rfl, rfl, .inl ⟨rfl, _, _, rfl⟩, ⟨_, _, _, rfl⟩, hb⟩
  | some l =>
    obtain ⟨a, c, rfl, h, hL⟩ := h
    have hl := hs l rfl
    rw [Option.bind_some]
    rcases num_cases l with ⟨n, k, _, hr, hk1, hk2, hn, hR⟩ | ⟨_, h2, hR⟩
    · by_cases hle : n ≤ (l.drop k).length
      · have hW : wordsR l = wordsF n (l.drop k) := by simp only [wordsR, hR]; rw [if_pos hle]
        rw [hW]
        exact rwords_ok B a c l w h hL hBw (by omega) n k hr hk1 hk2 hle
      · have hW : wordsR l = none := by simp only [wordsR, hR]; rw [if_neg hle]
        rw [hW]
        refine (rwords_long a c l w h (by omega) n k hr hk1 hk2 (by omega)).mono ?_
        rintro e w' ⟨rfl, hb⟩
        exact ⟨_, _, rfl, rfl, .inl ⟨rfl, _, _, rfl⟩, ⟨_, _, _, rfl⟩, hb⟩
    · have hW : wordsR l = none := by simp only [wordsR, hR]
      rw [hW]
      refine (rwords_num _ false w ⟨_, _, _, rfl⟩ (fun W hbW => rnum_bad _ l W (h.step hbW) (by omega) h2)).mono ?_
      rintro e w' ⟨rfl, hb⟩
      exact ⟨_, _, rfl, rfl, .inl ⟨rfl, _, _, rfl⟩, ⟨_, _, _, rfl⟩, hb⟩
end Go.Proofs.Ytnieoaadhbcjiaa
