/- Parse: Parse Awake, one behind the other. -/
import Derived.Test.YtogkiifljdnjgaaDoorBound
import Derived.Test.YtogkiifljdnjgaaDoorJoined
import Derived.Test.YtogkiifljdnjgaaDoorPair
/- The walk of Parse. Condition: the keywords lie in memory. -/
namespace Go.Proofs.YtogkiifljdnjgaaDoor
open Go.RowKit
set_option linter.unusedVariables false
set_option linter.unusedSimpArgs false

theorem PIn.box {w : World} {pb : Nat} {s : PS} (h : PIn w pb s) : ∃ a b, w.heap[pb]? = some (.cells #[a, b, .int .i64 s.2] 67 (0, 0)) := by
  obtain ⟨es, k, h1, h2, h3, h4, ⟨g, cap, hg, hh, ht⟩, h6⟩ := h
  exact ⟨_, _, hh⟩
theorem box3 {w : World} {b T : Nat} {x0 x1 x2 : Value} (h : w.heap[b]? = some (.cells #[x0, x1, x2] T (0, 0))) :
    w.cell? ⟨b, 0, none⟩ = some x0 ∧ w.cell? ⟨b, 1, none⟩ = some x1 ∧ w.cell? ⟨b, 2, none⟩ = some x2 := by
  refine ⟨?_, ?_, ?_⟩ <;> simp [World.cell?, h]
/-- A new parser over tokens. -/
theorem pin_new {w : World} {v : Value} {es : List Tok} (hk : IsK w v es) (hw : KW w) (hg : GoodL es) (hl : es.length ≤ 5000) : PIn (w.alloc (.cells #[v, .int .i64 0, .int .i64 0] 67)) w.heap.size (es, 0) := by
  have hb := bel_new w (.cells #[v, .int .i64 0, .int .i64 0] 67)
  have hp := hg.len
  obtain ⟨b, off, cap, k1, k2⟩ := hw
  rcases hk with ⟨e, _⟩ | ⟨_, g, c, rfl, hc⟩
  · subst e; simp at hp
  have t0 := (hc 0 _ (List.getElem?_eq_getElem hp)).1
  refine ⟨es, 0, hl, hg, hp, rfl, ⟨g, c, World.block_lt_of_cell? w _ t0, heap_alloc_new w _, fun j e hj => (hc j e hj).step hb⟩, ?_, b, off, cap, ?_, keep_at hb k1, k2.step hb⟩
  · have := World.block_lt_of_cell? w _ k1
    dsimp only at this
    omega
  · exact World.block_lt_of_cell? w _ (k2 0 _ rfl)
def PostP (w w' : World) (r : Tree × Int × Nat) (e : Ending) : Prop := (∃ v, e = .returned (.tuple #[v, .int .i64 r.2.1, errV r.2.2]) ∧ IsT w' (New w' w.heap.size) r.1 v) ∧ Below w.heap.size w w'
theorem isT_zero (w : World) (F : Nat → Prop) : IsT w F default (.agg #[.int .i64 0, .string ⟨#[]⟩, .slice none 0 0, .int .i64 0]) := IsT.of (IsKids.nil _ _)
theorem below_of_only {w w1 w2 : World} {b : Nat} (h : Below w.heap.size w w1) (ho : Only b w1 w2) (hb : w.heap.size ≤ b) : Below w.heap.size w w2 := h.trans (ho.below hb h.size)
theorem split_none (s : ByteArray) (w : World) (hs : s.size ≤ 4096) (hn : splitT s.data.toList = none) :
    Calls Tryd.prog 32 #[.string s] w fun e w' => e = .returned (.tuple #[.slice none 0 0, .iface 52 (.int .i64 2)]) ∧ Below w.heap.size w w' := by
  have h := split_any s w hs
  rw [hn] at h
  exact h
theorem split_some (s : ByteArray) (w : World) (hs : s.size ≤ 4096) {es : List Tok} (hn : splitT s.data.toList = some es) :
    Calls Tryd.prog 32 #[.string s] w fun e w' => (∃ v, e = .returned (.tuple #[v, .nilIface]) ∧ OwnK 70 w' w.heap.size v es) ∧ Below w.heap.size w w' := by
  have h := split_any s w hs
  rw [hn] at h
  exact h
set_option maxRecDepth 20000 in
set_option maxHeartbeats 2000000 in
theorem parse_any (s : ByteArray) (w : World) (hw : KW w) : Calls Tryd.prog 18 #[.string s] w fun e w' => PostP w w' (parseF s.data.toList) e := by
  have HW := Lib.hid hw
  clear hw
  have hsz : s.size = s.data.toList.length := by rw [Array.length_toList]; rfl
  obtain ⟨R, hR⟩ : ∃ R, parseF s.data.toList = R := ⟨_, rfl⟩
  rw [hR]
  have HR := Lib.hid hR
  clear hR
  by_cases hl : s.size ≤ 4096
  rotate_left
  · have HQ := Lib.hid (show (default, 0, 5) = R by rw [← HR.out, parseF_large (by omega)])
    have HS := Lib.hid (fun W => split_large s W hl)
    clear hl hsz
    go_enter Tryd.func18, Tryd.ntmps18
    go_wp2_with (go_at_call 32; refine (HS.out _).mono ?_; rintro e w1 ⟨rfl, hb1⟩; have HB1 := Lib.hid hb1; have HR1 := Lib.hid (keep_blk hb1 (heap_alloc_new w _)); obtain ⟨r0, r1, r2, r3, q0, q1, q2, q3⟩ := box4 HR1.out; clear hb1)
    refine bodyPost_ret (v := .tuple #[.agg #[.int .i64 0, .string ⟨#[]⟩, .slice none 0 0, .int .i64 0], .int .i64 0, .iface 52 (.int .i64 5)]) (by simp [results, Tryd.results18, go_sem, r0, r1, r2, r3, q0, q1, q2, q3]) rfl ?_
    rw [← HQ.out]
    exact ⟨⟨_, rfl, isT_zero _ _⟩, below_of_only ((bel_new w _).trans (HB1.out.mono (bel_new w _).size)) (Only.set4 _ _ _ _ _ _) (Nat.le_refl _)⟩
  obtain ⟨o, ho⟩ : ∃ o, splitT s.data.toList = o := ⟨_, rfl⟩
  cases o with
  | none =>
    have HQ := Lib.hid (show (default, 0, 2) = R by rw [← HR.out, parseF_none (by omega) ho])
    have HS := Lib.hid (fun W => split_none s W hl ho)
    clear hl hsz ho
    go_enter Tryd.func18, Tryd.ntmps18
    go_wp2_with (go_at_call 32; refine (HS.out _).mono ?_; rintro e w1 ⟨rfl, hb1⟩; have HB1 := Lib.hid hb1; have HR1 := Lib.hid (keep_blk hb1 (heap_alloc_new w _)); obtain ⟨r0, r1, r2, r3, q0, q1, q2, q3⟩ := box4 HR1.out; clear hb1)
    refine bodyPost_ret (v := .tuple #[.agg #[.int .i64 0, .string ⟨#[]⟩, .slice none 0 0, .int .i64 0], .int .i64 0, .iface 52 (.int .i64 2)]) (by simp [results, Tryd.results18, go_sem, r0, r1, r2, r3, q0, q1, q2, q3]) rfl ?_
    rw [← HQ.out]
    exact ⟨⟨_, rfl, isT_zero _ _⟩, below_of_only ((bel_new w _).trans (HB1.out.mono (bel_new w _).size)) (Only.set4 _ _ _ _ _ _) (Nat.le_refl _)⟩
  | some es =>
    have HQ0 := Lib.hid (show parseL es = R by rw [← HR.out, parseF_some (by omega) ho])
    have HG := Lib.hid (splitT_goodL ho)
    have HLN := Lib.hid (show es.length ≤ 5000 by have := splitT_len ho; omega)
    have HS := Lib.hid (fun W => split_some s W hl ho)
    have HST := Lib.hid (fun W pb (hW : PIn W pb (es, 0)) => show Calls Tryd.prog 33 #[.pointer (some ⟨pb, 0, none⟩)] W fun e w' => PostK W w' pb (parseR es) e from (all_con _).stmts W pb (es, 0) hW (by simp [rankN]))
    have HSZ := Lib.hid (parse_size HG.out HLN.out)
    have HBD := Lib.hid (parse_bd HG.out)
    clear hl hsz ho HR
    have HQ1 : Hid ((if (endF (parseR es).2).2 ≠ 0 then (default, (endF (parseR es).2).2, 2)
      else if 512 < sizeT (.node 1 [] (parseR es).1.kids 1) ∨ 32 < depthT (.node 1 [] (parseR es).1.kids 1) then (default, 0, 5)
      else (.node 1 [] (parseR es).1.kids 1, 0, 0)) = R) := Lib.hid HQ0.out
    clear HQ0
    generalize parseR es = r at *
    go_enter Tryd.func18, Tryd.ntmps18
    go_upto_region 6 with (first | (go_at_call 32; (with_reducible refine (HS.out _).mono ?_); rintro e w1 ⟨⟨v1, rfl, ho1⟩, hb1⟩; have HB1 := Lib.hid ((bel_new w _).trans (hb1.mono (bel_new w _).size)); have HR1 := Lib.hid (keep_blk hb1 (heap_alloc_new w _)); have HP1 := Lib.hid (pin_new ho1.isK (HW.out.step HB1.out) HG.out HLN.out); obtain ⟨a1, c1, rfl⟩ := ho1.isK.shape; clear hb1 ho1) | (go_at_call 33; (with_reducible refine (HST.out _ _ HP1.out).mono ?_); rintro e w3 ⟨⟨v3, rfl, hk3⟩, hp3, ho3⟩; have HK3 := Lib.hid hk3; obtain ⟨a3, c3, rfl⟩ := isKids_shape hk3; have HP3 := Lib.hid hp3; have HO3 := Lib.hid ho3; clear hk3 hp3 ho3))
    have hpb : w.heap.size < w1.heap.size := block_lt HR1.out
    have hw3 : w1.heap.size < w3.heap.size := by have := HP3.out.lt; omega
    have HB4 := Lib.hid ((below_of_only (HB1.out.trans ((bel_new w1 _).mono HB1.out.size)) HO3.out (by omega)).alloc (by omega) (.cells #[.int .i64 1, .string ⟨#[]⟩, .slice a3 r.1.kids.length c3, .int .i64 1] 32))
    have HR4 := Lib.hid (new_blk (y := (.cells #[.int .i64 1, .string ⟨#[]⟩, .slice a3 r.1.kids.length c3, .int .i64 1] 32)) (HO3.out.keep (new_blk HR1.out) (by omega)))
    have HN4 := Lib.hid (heap_alloc_new w3 (.cells #[.int .i64 1, .string ⟨#[]⟩, .slice a3 r.1.kids.length c3, .int .i64 1] 32))
    have HK4 := Lib.hid ((HK3.out.step (bel_new w3 (.cells #[.int .i64 1, .string ⟨#[]⟩, .slice a3 r.1.kids.length c3, .int .i64 1] 32))).mono (G := New (w3.alloc (.cells #[.int .i64 1, .string ⟨#[]⟩, .slice a3 r.1.kids.length c3, .int .i64 1] 32)) (w.heap.size + 1)) (fun k hk hlt => ⟨by have := hk.1; simp at this; omega, hlt⟩))
    have HP4 := Lib.hid (HP3.out.alloc (x := (.cells #[.int .i64 1, .string ⟨#[]⟩, .slice a3 r.1.kids.length c3, .int .i64 1] 32)))
    have hnb : ¬ w3.heap.size = w.heap.size := by omega
    have hnb2 : ¬ w.heap.size = w3.heap.size := by omega
    have hpn : ¬ w1.heap.size = w.heap.size := by omega
    have hpn2 : ¬ w.heap.size = w1.heap.size := by omega
    have hpn3 : ¬ w1.heap.size = w3.heap.size := by omega
    have hpn4 : ¬ w3.heap.size = w1.heap.size := by omega
    clear HB1 HR1 HP1 HK3 HP3 HO3 HST HS
    generalize World.alloc w3 _ = w4 at *
    generalize w3.heap.size = nb at *
    generalize w1.heap.size = pb at *
    have hl4 : nb < w4.heap.size := block_lt HN4.out
    obtain ⟨r0, r1, r2, r3, q0, q1, q2, q3⟩ := box4 HR4.out
    obtain ⟨b0, b1, b2, b3, z0, z1, z2, z3⟩ := box4 HN4.out
    by_cases hz : r.2.2 = 0
    rotate_left
    · have HOK := Lib.hid (fun W (hW : PIn W pb r.2) => ok_no W pb r.2 hW hz)
      have HQ := Lib.hid (show (default, r.2.2, 2) = R by have h := HQ1.out; rw [endF_bad hz, if_pos hz] at h; exact h)
      obtain ⟨xa, xb, hbx⟩ := HP4.out.box
      obtain ⟨p0, p1, p2⟩ := box3 hbx
      clear hz hbx HQ1
      go_upto_region 9 with (first | (go_at_call 34; (with_reducible refine (HOK.out _ HP4.out).mono ?_); rintro e w34 ⟨rfl, rfl⟩))
      go_region
      go_wp2_with fail
      refine bodyPost_ret (v := .tuple #[.agg #[.int .i64 0, .string ⟨#[]⟩, .slice none 0 0, .int .i64 0], .int .i64 r.2.2, .iface 52 (.int .i64 2)]) (by simp [results, Tryd.results18, go_sem, r0, r1, r2, r3, q0, q1, q2, q3]) rfl ?_
      rw [← HQ.out]
      exact ⟨⟨_, rfl, isT_zero _ _⟩, below_of_only HB4.out ((Only.refl _ _).drew.trans (Only.set4 _ _ _ _ _ _)) (Nat.le_refl _)⟩
    have HOK := Lib.hid (fun W (hW : PIn W pb r.2) => ok_yes W pb r.2 hW hz)
    have HPK := Lib.hid (fun W (hW : PIn W pb r.2) => show Calls Tryd.prog 35 #[.pointer (some ⟨pb, 0, none⟩)] W fun e w' => e = .returned (.agg #[.int .i64 (hdT r.2.1).kind, .string ⟨(hdT r.2.1).text.toArray⟩, .int .i64 (hdT r.2.1).line, .int .i64 (hdT r.2.1).col]) ∧ Below W.heap.size W w' from peek_in W pb r.2 hW)
    have hfk := tok_kind (.int .i64 (hdT r.2.1).kind) (.string ⟨(hdT r.2.1).text.toArray⟩) (.int .i64 (hdT r.2.1).line) (.int .i64 (hdT r.2.1).col)
    by_cases hk : (hdT r.2.1).kind = 5
    rotate_left
    · have HOK2 := Lib.hid (fun W (hW : PIn W pb (failF r.2)) => ok_no W pb (failF r.2) hW (fail_bad HBD.out.good))
      have HQ := Lib.hid (show (default, (failF r.2).2, 2) = R by have h := HQ1.out; rw [endF_fail hz hk, if_pos (fail_bad HBD.out.good)] at h; exact h)
      have e5 : ((hdT r.2.1).kind != 5) = true := by simpa using hk
      clear hz hk HQ1
      go_upto_region 9 with (first | (go_at_call 34; (with_reducible refine (HOK.out _ HP4.out).mono ?_); rintro e w34 ⟨rfl, rfl⟩) | (go_at_call 35; (with_reducible refine (HPK.out _ HP4.out).mono ?_); rintro e w5 ⟨rfl, hb5⟩; have HP5 := Lib.hid (HP4.out.step hb5); have HR5 := Lib.hid (keep_blk hb5 HR4.out); have HB5 := Lib.hid (HB4.out.trans (hb5.mono HB4.out.size)); clear hb5) | (go_at_call 36; (with_reducible refine (fail_in _ pb r.2 HP5.out).mono ?_); rintro e w6 ⟨rfl, hp6, ho6⟩; have HP6 := Lib.hid hp6; have HR6 := Lib.hid (ho6.keep HR5.out hpn2); have HB6 := Lib.hid (below_of_only HB5.out ho6 (by omega)); obtain ⟨r0, r1, r2, r3, q0, q1, q2, q3⟩ := box4 HR6.out; obtain ⟨xa, xb, hbx⟩ := hp6.box; obtain ⟨p0, p1, p2⟩ := box3 hbx; clear hp6 ho6 hbx) | (go_at_call 34; (with_reducible refine (HOK2.out _ HP6.out).mono ?_); rintro e w34 ⟨rfl, rfl⟩))
      go_region
      go_wp2_with fail
      refine bodyPost_ret (v := .tuple #[.agg #[.int .i64 0, .string ⟨#[]⟩, .slice none 0 0, .int .i64 0], .int .i64 (failF r.2).2, .iface 52 (.int .i64 2)]) (by simp [results, Tryd.results18, go_sem, r0, r1, r2, r3, q0, q1, q2, q3]) rfl ?_
      rw [← HQ.out]
      exact ⟨⟨_, rfl, isT_zero _ _⟩, below_of_only HB6.out ((Only.refl _ _).drew.trans (Only.set4 _ _ _ _ _ _)) (Nat.le_refl _)⟩
    have HQ2 := Lib.hid (show (if 512 < sizeT (.node 1 [] r.1.kids 1) ∨ 32 < depthT (.node 1 [] r.1.kids 1) then (default, 0, 5)
      else (.node 1 [] r.1.kids 1, 0, 0)) = R by have h := HQ1.out; rw [endF_end hk, if_neg (fun h => h hz)] at h; exact h)
    have e5 : ((hdT r.2.1).kind != 5) = false := by simp [hk]
    clear hz hk HQ1
    go_upto_region 10 with (first | (go_at_call 34; (with_reducible refine (HOK.out _ HP4.out).mono ?_); rintro e w34 ⟨rfl, rfl⟩) | (go_at_call 35; (with_reducible refine (HPK.out _ HP4.out).mono ?_); rintro e w5 ⟨rfl, hb5⟩; have HP5 := Lib.hid (HP4.out.step hb5); have HR5 := Lib.hid (keep_blk hb5 HR4.out); have HN5 := Lib.hid (keep_blk hb5 HN4.out); have HK5 := Lib.hid ((HK4.out.step hb5).mono (G := New w5 (w.heap.size + 1)) (fun k hk hlt => ⟨hk.1, hlt⟩)); have HB5 := Lib.hid (HB4.out.trans (hb5.mono HB4.out.size)); clear hb5) | (go_at_call 34; (with_reducible refine (HOK.out _ HP5.out).mono ?_); rintro e w34 ⟨rfl, rfl⟩))
    clear HP4 HR4 HN4 HK4 HB4 b0 b1 b2 b3 z0 z1 z2 z3 r0 r1 r2 r3 q0 q1 q2 q3 hl4
    have HT5 := Lib.hid (IsT.of (k := 1) (l := 1) (t := []) HK5.out)
    have HCS := Lib.hid (fun W (hW : Below w5.heap.size w5 W) => size_any _ _ W _ (HT5.out.step hW) HSZ.out)
    have HCD := Lib.hid (fun W (hW : Below w5.heap.size w5 W) => depth_any _ _ W _ (HT5.out.step hW) HSZ.out)
    obtain ⟨r0, r1, r2, r3, q0, q1, q2, q3⟩ := box4 HR5.out
    obtain ⟨b0, b1, b2, b3, z0, z1, z2, z3⟩ := box4 HN5.out
    generalize hS : sizeT (.node 1 [] r.1.kids 1) = S at *
    generalize hD : depthT (.node 1 [] r.1.kids 1) = D at *
    have HHS := Lib.hid hS
    have HHD := Lib.hid hD
    clear hS hD
    have hS1 : (S : Int) ≤ 1000000000 := by have := HSZ.out; omega
    have hS0 : (0 : Int) ≤ (S : Int) := by omega
    have hD0 : (0 : Int) ≤ (D : Int) := by omega
    by_cases hs : 512 < S
    · have HQ := Lib.hid (show (default, 0, 5) = R by have h := HQ2.out; rw [if_pos (.inl hs)] at h; exact h)
      have hsi : (512 : Int) < (S : Int) := by omega
      clear hs HQ2
      go_wp2_with (go_at_call 23; (with_reducible refine (HCS.out _ (Below.refl _ _)).mono ?_); rintro e w6 ⟨rfl, hb6⟩; have HB6 := Lib.hid hb6; have HR6 := Lib.hid (keep_blk hb6 HR5.out); have HN6 := Lib.hid (keep_blk hb6 HN5.out); obtain ⟨r0, r1, r2, r3, q0, q1, q2, q3⟩ := box4 HR6.out; obtain ⟨b0, b1, b2, b3, z0, z1, z2, z3⟩ := box4 HN6.out; clear hb6)
      refine bodyPost_ret (v := .tuple #[.agg #[.int .i64 0, .string ⟨#[]⟩, .slice none 0 0, .int .i64 0], .int .i64 0, .iface 52 (.int .i64 5)]) (by simp [results, Tryd.results18, go_sem, r0, r1, r2, r3, q0, q1, q2, q3]) rfl ?_
      rw [← HQ.out]
      exact ⟨⟨_, rfl, isT_zero _ _⟩, below_of_only (HB5.out.trans (HB6.out.mono HB5.out.size)) (Only.set4 _ _ _ _ _ _) (Nat.le_refl _)⟩
    have hsi : (S : Int) ≤ 512 := by omega
    by_cases hd : 32 < D
    · have HQ := Lib.hid (show (default, 0, 5) = R by have h := HQ2.out; rw [if_pos (.inr hd)] at h; exact h)
      have hdi : (32 : Int) < (D : Int) := by omega
      clear hs hd HQ2
      go_wp2_with (first | (go_at_call 23; (with_reducible refine (HCS.out _ (Below.refl _ _)).mono ?_); rintro e w6 ⟨rfl, hb6⟩; have HB6 := Lib.hid hb6; have HR6 := Lib.hid (keep_blk hb6 HR5.out); have HN6 := Lib.hid (keep_blk hb6 HN5.out); obtain ⟨r0, r1, r2, r3, q0, q1, q2, q3⟩ := box4 HR6.out; obtain ⟨b0, b1, b2, b3, z0, z1, z2, z3⟩ := box4 HN6.out; clear hb6) | (go_at_call 37; (with_reducible refine (HCD.out _ HB6.out).mono ?_); rintro e w7 ⟨rfl, hb7⟩; have HB7 := Lib.hid (HB6.out.trans (hb7.mono HB6.out.size)); have HR7 := Lib.hid (keep_blk hb7 HR6.out); have HN7 := Lib.hid (keep_blk hb7 HN6.out); obtain ⟨r0, r1, r2, r3, q0, q1, q2, q3⟩ := box4 HR7.out; obtain ⟨b0, b1, b2, b3, z0, z1, z2, z3⟩ := box4 HN7.out; clear hb7))
      refine bodyPost_ret (v := .tuple #[.agg #[.int .i64 0, .string ⟨#[]⟩, .slice none 0 0, .int .i64 0], .int .i64 0, .iface 52 (.int .i64 5)]) (by simp [results, Tryd.results18, go_sem, r0, r1, r2, r3, q0, q1, q2, q3]) rfl ?_
      rw [← HQ.out]
      exact ⟨⟨_, rfl, isT_zero _ _⟩, below_of_only (HB5.out.trans (HB7.out.mono HB5.out.size)) (Only.set4 _ _ _ _ _ _) (Nat.le_refl _)⟩
    · have HQ := Lib.hid (show (.node 1 [] r.1.kids 1, 0, 0) = R by have h := HQ2.out; rw [if_neg (fun h => h.elim hs hd)] at h; exact h)
      have hdi : (D : Int) ≤ 32 := by omega
      clear hs hd HQ2
      go_wp2_with (first | (go_at_call 23; (with_reducible refine (HCS.out _ (Below.refl _ _)).mono ?_); rintro e w6 ⟨rfl, hb6⟩; have HB6 := Lib.hid hb6; have HR6 := Lib.hid (keep_blk hb6 HR5.out); have HN6 := Lib.hid (keep_blk hb6 HN5.out); obtain ⟨r0, r1, r2, r3, q0, q1, q2, q3⟩ := box4 HR6.out; obtain ⟨b0, b1, b2, b3, z0, z1, z2, z3⟩ := box4 HN6.out; clear hb6) | (go_at_call 37; (with_reducible refine (HCD.out _ HB6.out).mono ?_); rintro e w7 ⟨rfl, hb7⟩; have HB7 := Lib.hid (HB6.out.trans (hb7.mono HB6.out.size)); have HR7 := Lib.hid (keep_blk hb7 HR6.out); have HN7 := Lib.hid (keep_blk hb7 HN6.out); obtain ⟨r0, r1, r2, r3, q0, q1, q2, q3⟩ := box4 HR7.out; obtain ⟨b0, b1, b2, b3, z0, z1, z2, z3⟩ := box4 HN7.out; clear hb7))
      refine bodyPost_ret (v := .tuple #[.agg #[.int .i64 1, .string ⟨#[]⟩, .slice a3 r.1.kids.length c3, .int .i64 1], .int .i64 0, .nilIface]) (by simp [results, Tryd.results18, go_sem, r0, r1, r2, r3, q0, q1, q2, q3]) rfl ?_
      rw [← HQ.out]
      have hfin := below_of_only (HB5.out.trans (HB7.out.mono HB5.out.size)) (Only.set4 w.heap.size w7 (.int .i64 1) (.string ⟨#[]⟩) (.slice a3 r.1.kids.length c3) (.int .i64 1)) (Nat.le_refl _)
      refine ⟨⟨_, rfl, ?_⟩, hfin⟩
      have hk7 : IsKids w7 (New w7 (w.heap.size + 1)) r.1.kids (.slice a3 r.1.kids.length c3) := (HK5.out.step HB7.out).mono (fun b hb hlt => ⟨hb.1, hlt⟩)
      exact IsT.of ((hk7.only (Only.set4 w.heap.size w7 (.int .i64 1) (.string ⟨#[]⟩) (.slice a3 r.1.kids.length c3) (.int .i64 1)) (Nat.lt_succ_self _)).mono (fun b hb hlt => ⟨by have := hb.1; omega, hlt⟩))
end Go.Proofs.YtogkiifljdnjgaaDoor

/- The fixed example. Condition: the keywords lie in memory. -/
namespace Go.Proofs.YtogkiifljdnjgaaDoor
open Go.RowKit
set_option linter.unusedVariables false
set_option linter.unusedSimpArgs false

def exT : Tree := .node 1 [] [.node 9 [] [.node 20 [52, 48, 51] [] 1] 1] 1
theorem ex_parse : parseF [100, 101, 110, 121, 32, 52, 48, 51, 59] = (exT, 0, 0) := by
  rw [parseF_some (by decide) ex_split]
  rfl
theorem ex_size : sizeT exT = 3 := by rfl
set_option maxRecDepth 20000 in
theorem awake_any (w : World) (hw : KW w) : Calls Tryd.prog 8 #[] w fun e w' => e = .returned (.bool true) ∧ Below w.heap.size w w' := by
  have HP := Lib.hid (parse_any ⟨#[100, 101, 110, 121, 32, 52, 48, 51, 59]⟩ w hw)
  have HE := Lib.hid (show parseF (ByteArray.mk #[100, 101, 110, 121, 32, 52, 48, 51, 59]).data.toList = (exT, 0, 0) from ex_parse)
  clear hw
  go_enter Tryd.func8, Tryd.ntmps8
  go_upto_region 2 with (go_at_call 18; refine HP.out.mono ?_; rintro e w1 hpost; rw [HE.out] at hpost; obtain ⟨⟨v, rfl, ht⟩, hb1⟩ := hpost; rw [errV0]; obtain ⟨kv, rfl, hk⟩ := isT_node.1 ht; obtain ⟨b, off, cap, k0, x0, a0, m0, n0, l0, rfl, c0, c1, c2, c3, hT⟩ := hk.at (k := 0) rfl; have hk0 : k0 = 9 := (by obtain ⟨kv2, he, _⟩ := isT_node.1 hT; simp at he; exact he.1); subst hk0; rw [Nat.zero_mul, Nat.add_zero] at c0; have HB1 := Lib.hid hb1; have HT := Lib.hid (IsT.of (k := 1) (l := 1) (t := []) hk); clear hk hT ht hb1)
  have hlb := World.block_lt_of_cell? _ _ c0
  have HSZ := Lib.hid (fun W (hW : Below w1.heap.size w1 W) => size_any exT _ W _ (HT.out.step hW) (by decide))
  rw [ex_size] at HSZ
  go_wp2_with (go_at_call 23; refine (HSZ.out _ (bel_new _ _)).mono ?_; rintro e w2 ⟨rfl, hb2⟩; have HB2 := Lib.hid hb2; clear hb2)
  go_ret
  exact ⟨rfl, (HB1.out.trans ((bel_new w1 _).mono HB1.out.size)).trans (HB2.out.mono (by have := HB1.out.size; simp; omega))⟩

end Go.Proofs.YtogkiifljdnjgaaDoor
