/- The walk of chosen. No condition beyond the callees' contracts. -/
import Derived.Test.YtogkiifljdnjgaaDoorArgs
namespace Go.Proofs.YtogkiifljdnjgaaDoor
open Go.RowKit
set_option linter.unusedVariables false
set_option linter.unusedSimpArgs false

def ConC (line : Int) (n : Nat) : Prop := ∀ (w : World) (pb : Nat) (s : PS), PIn w pb s → 10 * s.1.length + 9 ≤ n →
  Calls Tryd.prog 69 #[.pointer (some ⟨pb, 0, none⟩), .int .i64 line] w fun e w' => PostN w w' pb (pRun n (.chosen line) s) e
theorem Chs.size {w wx : World} {kv : Value} {a b c d : Value} {ks : List Tree} (hn : wx.heap[w.heap.size + 1]? = some (.cells #[a, b, c, d] 32 (0, 0))) (ho : OwnTs 32 wx (w.heap.size + 2) kv ks) : w.heap.size + 2 ≤ wx.heap.size := by
  have := block_lt hn
  omega
theorem Chs.step {w wx wy : World} {pb : Nat} {ks : List Tree} {line : Int} {s : PS} (h : Chs w wx pb ks line s) (hb : Below wx.heap.size wx wy) : Chs w wy pb ks line s := by
  obtain ⟨kv, h1, h2, h3, h4, h5⟩ := h
  exact ⟨kv, keep_blk hb h1, keep_blk hb h2, h3.step hb, h4.step hb, h5.bel hb⟩
theorem Chs.call {w wx wy : World} {pb : Nat} {ks : List Tree} {line : Int} {s s' : PS} (h : Chs w wx pb ks line s) (hlt : pb < w.heap.size) (ho : Only pb wx wy) (hp : PIn wy pb s') : Chs w wy pb ks line s' := by
  obtain ⟨kv, h1, h2, h3, h4, h5⟩ := h
  exact ⟨kv, ho.keep h1 (by omega), ho.keep h2 (by omega), h3.only ho (by omega), hp, h5.trans ho⟩
theorem Chs.done {w wx w' : World} {pb : Nat} {ks : List Tree} {line : Int} {s : PS} {kv : Value} (h : OwnTs 32 wx (w.heap.size + 2) kv ks ∧ PIn wx pb s ∧ Only pb w wx) (hlt : pb < w.heap.size) (hw : Only w.heap.size wx w') :
    PostN w w' pb (.node 2 [] ks line, s) (.returned (.agg #[.int .i64 2, .string ⟨#[]⟩, kv, .int .i64 line])) :=
  PostN.node (tx := []) (B := w.heap.size + 2) h.1.kids (by omega) h.2.1 h.2.2 hlt hw
set_option maxRecDepth 20000 in
set_option maxHeartbeats 8000000 in
theorem chosen_con (n : Nat) (line : Int) (HE : ConN 85 .expr n) (HB : ConN 86 .block n) (HC : ∀ l, ConC l n) : ConC line (n + 1) := by
  intro w pb s hp hr
  have HEx := Lib.hid HE
  have HBl := Lib.hid HB
  have HCh := Lib.hid HC
  have HP := Lib.hid hp
  have hlt := hp.lt
  have hpw2 : ¬ w.heap.size = pb := by omega
  have HRK := Lib.hid hr
  obtain ⟨R, hR⟩ : ∃ R, pRun (n + 1) (.chosen line) s = R := ⟨_, rfl⟩
  rw [hR]
  have hR' : chosenB (pRun n) line s = R := hR
  unfold chosenB at hR'
  dsimp only at hR'
  have HC1 := Lib.hid (fun W (hW : PIn W pb s) => HEx.out W pb s hW (by have h1 := HRK.out; simp [rankN] at h1 ⊢; omega))
  have hle1 := pRun_le n .expr s
  generalize pRun n .expr s = r1 at *
  have HLE1 := Lib.hid hle1
  clear hle1 hR
  have HR1 := Lib.hid hR'
  clear hR' hp hr HE HB HC
  go_enter Tryd.func69, Tryd.ntmps69
  go_upto_region 2 with fail
  go_cut [] (fun wx => Chs w wx pb [r1.1] line r1.2)
  case first =>
    have HPA := Lib.hid (HP.out.alloc (x := (.cells #[.int .i64 0, .string ⟨#[]⟩, .slice none 0 0, .int .i64 0] 32)) |>.alloc (x := (.cells #[.int .i64 2, .string ⟨#[]⟩, .slice none 0 0, .int .i64 line] 32)))
    have HNA := Lib.hid (heap_alloc_new (w.alloc (.cells #[.int .i64 0, .string ⟨#[]⟩, .slice none 0 0, .int .i64 0] 32)) (.cells #[.int .i64 2, .string ⟨#[]⟩, .slice none 0 0, .int .i64 line] 32))
    have HRA := Lib.hid (new_blk (y := (.cells #[.int .i64 2, .string ⟨#[]⟩, .slice none 0 0, .int .i64 line] 32)) (heap_alloc_new w (.cells #[.int .i64 0, .string ⟨#[]⟩, .slice none 0 0, .int .i64 0] 32)))
    have HOA := Lib.hid (((Only.of_below (b := pb) (bel_new w (.cells #[.int .i64 0, .string ⟨#[]⟩, .slice none 0 0, .int .i64 0] 32)))).alloc (x := (.cells #[.int .i64 2, .string ⟨#[]⟩, .slice none 0 0, .int .i64 line] 32)))
    have hsz : (w.alloc (.cells #[.int .i64 0, .string ⟨#[]⟩, .slice none 0 0, .int .i64 0] 32)).heap.size = w.heap.size + 1 := by simp
    rw [hsz] at HNA
    have HSA := Lib.hid (show w.heap.size + 2 ≤ ((w.alloc (.cells #[.int .i64 0, .string ⟨#[]⟩, .slice none 0 0, .int .i64 0] 32)).alloc (.cells #[.int .i64 2, .string ⟨#[]⟩, .slice none 0 0, .int .i64 line] 32)).heap.size by simp)
    generalize World.alloc (World.alloc w _) _ = A at *
    obtain ⟨b0, b1, b2, b3, z0, z1, z2, z3⟩ := box4 HNA.out
    go_region_law (first | (go_simp; go_at_call 85; (refine (HC1.out A.drew HPA.out.drew).mono ?_); rintro e w1 ⟨⟨v1, rfl, ht1⟩, hp1, ho1⟩; obtain ⟨k1, x1, a1, m1, c1, l1, rfl⟩ := isT_shape ht1; have HT1 := Lib.hid ht1; have HP1 := Lib.hid hp1; have HO1 := Lib.hid ho1.of_drew; have HN1 := Lib.hid (HO1.out.keep HNA.out (by omega)); obtain ⟨b0, b1, b2, b3, z0, z1, z2, z3⟩ := box4 HN1.out; have hln := block_lt HN1.out; clear ht1 hp1 ho1) | (refine step_appN rfl (.tmp 10) (.tmp 13) rfl (w.heap.size + 2) _ [] rfl (OwnTs.nil _ _ _) r1.1 _ _ _ _ rfl (New w1 A.drew.heap.size) HT1.out (fun k hk => ⟨by have h1 := hk.1; have h2 : A.drew.heap.size = A.heap.size := rfl; have h3 := HSA.out; omega, hk.2, fun e => by cases e⟩) (by simp) (by have h1 := HO1.out.size; have h3 := HSA.out; omega) ?_; intro v2 w2 ho2 hb2 hk2; have HO2 := Lib.hid ho2; obtain ⟨a2, c2, rfl⟩ := ho2.shape; have HB2 := Lib.hid hb2; have HN2 := Lib.hid ((hk2 _ hln (fun e => by cases e)).trans HN1.out); obtain ⟨b0, b1, b2, b3, z0, z1, z2, z3⟩ := box4 HN2.out; clear ho2 hb2 hk2))
    all_goals
      go_wp2_with fail
      go_meet
      exact Chs.add (wx := A) (ks := []) hlt HRA.out HNA.out HOA.out HO1.out HP1.out HO2.out HB2.out rfl
  case rest =>
    have HCH := Lib.hid hcut
    obtain ⟨kv, hrb, hnb, hown, hpi, hon⟩ := hcut
    obtain ⟨ak, ck, rfl⟩ := hown.shape
    have HRA := Lib.hid hrb
    have HNA := Lib.hid hnb
    have HOW := Lib.hid hown
    have HPA := Lib.hid hpi
    have HOA := Lib.hid hon
    have HSA := Lib.hid (Chs.size hnb hown)
    clear hrb hnb hown hpi hon
    obtain ⟨b0, b1, b2, b3, z0, z1, z2, z3⟩ := box4 HNA.out
    obtain ⟨d0, d1, d2, d3, y0, y1, y2, y3⟩ := box4 HRA.out
    by_cases hz : r1.2.2 = 0
    · have HOK := Lib.hid (fun W (hW : PIn W pb r1.2) => ok_yes W pb r1.2 hW hz)
      have HR2 := Lib.hid (show (let r2 := pRun n .block r1.2
        if r2.2.2 ≠ 0 ∨ isW r2.2.1 1 [101, 108, 115, 101] = false then (Tree.node 2 [] [r1.1, r2.1] line, r2.2)
        else
          let s3 : PS := (nxt r2.2.1, r2.2.2)
          if isW s3.1 1 [105, 102] = true then
            let r4 := pRun n (.chosen (hdT s3.1).line) (nxt s3.1, s3.2)
            (.node 2 [] [r1.1, r2.1, r4.1] line, r4.2)
          else
            let r4 := pRun n .block s3
            (.node 2 [] [r1.1, r2.1, r4.1] line, r4.2)) = R from by have h := HR1.out; rwa [if_neg (fun h => h hz)] at h)
      clear hz HR1
      have HC2 := Lib.hid (fun W (hW : PIn W pb r1.2) => HBl.out W pb r1.2 hW (by have h1 := HRK.out; have h2 := HLE1.out; simp [rankN] at h1 ⊢; omega))
      have hle2 := pRun_le n .block r1.2
      generalize pRun n .block r1.2 = r2 at *
      have HLE2 := Lib.hid hle2
      clear hle2
      go_upto_region 4 with (first | (go_at_call 34; (with_reducible refine (HOK.out _ HPA.out).mono ?_); rintro e w34 ⟨rfl, rfl⟩))
      go_cut [] (fun wx => Chs w wx pb [r1.1, r2.1] line r2.2)
      case first =>
        go_region_law (first | (go_simp; go_at_call 86; (refine (HC2.out wc.drew HPA.out.drew).mono ?_); rintro e w1 ⟨⟨v1, rfl, ht1⟩, hp1, ho1⟩; obtain ⟨k1, x1, a1, m1, c1, l1, rfl⟩ := isT_shape ht1; have HT1 := Lib.hid ht1; have HP1 := Lib.hid hp1; have HO1 := Lib.hid ho1.of_drew; have HN1 := Lib.hid (HO1.out.keep HNA.out (by omega)); obtain ⟨b0, b1, b2, b3, z0, z1, z2, z3⟩ := box4 HN1.out; have hln := block_lt HN1.out; clear ht1 hp1 ho1) | (refine step_appN rfl (.tmp 19) (.tmp 22) rfl (w.heap.size + 2) _ [r1.1] rfl (HOW.out.only HO1.out (by omega)) r2.1 _ _ _ _ rfl (New w1 wc.drew.heap.size) HT1.out (fun k hk => ⟨by have h1 := hk.1; have h2 : wc.drew.heap.size = wc.heap.size := rfl; have h3 := HSA.out; omega, hk.2, fun e => by have h1 := (HOW.out.lt k e).2; have h2 := hk.1; have h3 : wc.drew.heap.size = wc.heap.size := rfl; omega⟩) (by simp) (by have h1 := HO1.out.size; have h3 := HSA.out; omega) ?_; intro v2 w2 ho2 hb2 hk2; have HO2 := Lib.hid ho2; obtain ⟨a2, c2, rfl⟩ := ho2.shape; have HB2 := Lib.hid hb2; have HN2 := Lib.hid ((hk2 _ hln (fun e => by have h1 := (HOW.out.lt _ e).1; omega)).trans HN1.out); obtain ⟨b0, b1, b2, b3, z0, z1, z2, z3⟩ := box4 HN2.out; clear ho2 hb2 hk2))
        all_goals
          go_wp2_with fail
          go_meet
          exact Chs.add (wx := wc) (ks := [r1.1]) hlt HRA.out HNA.out HOA.out HO1.out HP1.out HO2.out HB2.out rfl
      case rest =>
        clear HCH HRA HNA HOW HPA HOA HSA b0 b1 b2 b3 z0 z1 z2 z3 d0 d1 d2 d3 y0 y1 y2 y3
        have HCH := Lib.hid hcut
        obtain ⟨kv, hrb, hnb, hown, hpi, hon⟩ := hcut
        obtain ⟨ak, ck, rfl⟩ := hown.shape
        have HRA := Lib.hid hrb
        have HNA := Lib.hid hnb
        have HOW := Lib.hid hown
        have HPA := Lib.hid hpi
        have HOA := Lib.hid hon
        have HSA := Lib.hid (Chs.size hnb hown)
        clear hrb hnb hown hpi hon
        obtain ⟨b0, b1, b2, b3, z0, z1, z2, z3⟩ := box4 HNA.out
        obtain ⟨d0, d1, d2, d3, y0, y1, y2, y3⟩ := box4 HRA.out
        by_cases hz2 : r2.2.2 = 0
        · have HOK2 := Lib.hid (fun W (hW : PIn W pb r2.2) => ok_yes W pb r2.2 hW hz2)
          by_cases he : isW r2.2.1 1 [101, 108, 115, 101] = true
          · have HIS := Lib.hid (fun W (hW : PIn W pb r2.2) => is_yes W pb r2.2 hW 1 [101, 108, 115, 101] he)
            have HKD := Lib.hid (fun (h : GoodL r2.2.1) => h.nxt_lt (by rw [isW_kind he]; decide))
            have HR3 := Lib.hid (show (
                if isW (nxt r2.2.1) 1 [105, 102] = true then
                  (Tree.node 2 [] [r1.1, r2.1, (pRun n (.chosen (hdT (nxt r2.2.1)).line) (nxt (nxt r2.2.1), r2.2.2)).1] line, (pRun n (.chosen (hdT (nxt r2.2.1)).line) (nxt (nxt r2.2.1), r2.2.2)).2)
                else (.node 2 [] [r1.1, r2.1, (pRun n .block (nxt r2.2.1, r2.2.2)).1] line, (pRun n .block (nxt r2.2.1, r2.2.2)).2)) = R from by have h := HR2.out; rwa [if_neg (fun h => by rcases h with h | h; exact h hz2; rw [he] at h; cases h)] at h)
            clear HR2 hz2 he
            by_cases hi : isW (nxt r2.2.1) 1 [105, 102] = true
            · have HIF := Lib.hid (fun W (hW : PIn W pb (nxt r2.2.1, r2.2.2)) => is_yes W pb (nxt r2.2.1, r2.2.2) hW 1 [105, 102] hi)
              have HKD2 := Lib.hid (fun (h : GoodL (nxt r2.2.1)) => h.nxt_lt (by rw [isW_kind hi]; decide))
              have HR4 := Lib.hid (show (Tree.node 2 [] [r1.1, r2.1, (pRun n (.chosen (hdT (nxt r2.2.1)).line) (nxt (nxt r2.2.1), r2.2.2)).1] line, (pRun n (.chosen (hdT (nxt r2.2.1)).line) (nxt (nxt r2.2.1), r2.2.2)).2) = R from by have h := HR3.out; rwa [if_pos hi] at h)
              clear HR3 hi
              have HC3 := Lib.hid (fun W (hW : PIn W pb (nxt (nxt r2.2.1), r2.2.2)) => HCh.out (hdT (nxt r2.2.1)).line W pb (nxt (nxt r2.2.1), r2.2.2) hW (by have h1 := HRK.out; have h2 := HLE1.out; have h3 := HLE2.out; have h4 := HKD.out HPA.out.good; have h5 := nxt_le' (nxt r2.2.1); dsimp only; omega))
              generalize pRun n (.chosen (hdT (nxt r2.2.1)).line) (nxt (nxt r2.2.1), r2.2.2) = r4 at *
              go_upto_region 10 with (first | (go_at_call 34; (with_reducible refine (HOK2.out _ HPA.out).mono ?_); rintro e w34 ⟨rfl, rfl⟩) | (go_at_call 47; (with_reducible refine (HIS.out _ HPA.out).mono ?_); rintro e w5 ⟨rfl, hb5⟩; have HC5 := Lib.hid (HCH.out.step hb5); have HP5 := Lib.hid (HPA.out.step hb5); clear hb5) | (go_at_call 68; (with_reducible refine (next_in _ pb r2.2 HP5.out).mono ?_); rintro e w6 ⟨rfl, hp6, ho6⟩; have HC6 := Lib.hid (HC5.out.call hlt ho6 hp6); have HP6 := Lib.hid hp6; clear hp6 ho6) | (go_at_call 47; (with_reducible refine (HIF.out _ HP6.out).mono ?_); rintro e w7 ⟨rfl, hb7⟩; have HC7 := Lib.hid (HC6.out.step hb7); have HP7 := Lib.hid (HP6.out.step hb7); clear hb7) | (go_at_call 68; (with_reducible refine (next_in _ pb (nxt r2.2.1, r2.2.2) HP7.out).mono ?_); rintro e w8 ⟨rfl, hp8, ho8⟩; have HC8 := Lib.hid (HC7.out.call hlt ho8 hp8); clear hp8 ho8; rw [tokVal]))
              go_cut [] (fun wx => Chs w wx pb [r1.1, r2.1, r4.1] line r4.2)
              case first =>
                have HTB := Lib.hid (heap_alloc_new w8 (.cells #[.int .i64 (hdT (nxt r2.2.1)).kind, .string ⟨(hdT (nxt r2.2.1)).text.toArray⟩, .int .i64 (hdT (nxt r2.2.1)).line, .int .i64 (hdT (nxt r2.2.1)).col] 70))
                have HC9 := Lib.hid (HC8.out.step (bel_new w8 (.cells #[.int .i64 (hdT (nxt r2.2.1)).kind, .string ⟨(hdT (nxt r2.2.1)).text.toArray⟩, .int .i64 (hdT (nxt r2.2.1)).line, .int .i64 (hdT (nxt r2.2.1)).col] 70)))
                generalize w8.heap.size = tb at *
                generalize World.alloc w8 _ = wy at *
                clear HCH HRA HNA HOW HPA HOA HSA b0 b1 b2 b3 z0 z1 z2 z3 d0 d1 d2 d3 y0 y1 y2 y3
                have hcut := HC9.out
                have HCH := Lib.hid hcut
                obtain ⟨kv, hrb, hnb, hown, hpi, hon⟩ := hcut
                obtain ⟨ak, ck, rfl⟩ := hown.shape
                have HRA := Lib.hid hrb
                have HNA := Lib.hid hnb
                have HOW := Lib.hid hown
                have HPA := Lib.hid hpi
                have HOA := Lib.hid hon
                have HSA := Lib.hid (Chs.size hnb hown)
                clear hrb hnb hown hpi hon
                obtain ⟨b0, b1, b2, b3, z0, z1, z2, z3⟩ := box4 HNA.out
                obtain ⟨d0, d1, d2, d3, y0, y1, y2, y3⟩ := box4 HRA.out
                obtain ⟨p0, p1, p2, p3, _, _, _, _⟩ := box4 HTB.out
                generalize hdT (nxt r2.2.1) = tk at *
                go_region_law (first | (go_simp; go_at_call 69; (refine (HC3.out wy.drew HPA.out.drew).mono ?_); rintro e w1 ⟨⟨v1, rfl, ht1⟩, hp1, ho1⟩; obtain ⟨k1, x1, a1, m1, c1, l1, rfl⟩ := isT_shape ht1; have HT1 := Lib.hid ht1; have HP1 := Lib.hid hp1; have HO1 := Lib.hid ho1.of_drew; have HN1 := Lib.hid (HO1.out.keep HNA.out (by omega)); obtain ⟨b0, b1, b2, b3, z0, z1, z2, z3⟩ := box4 HN1.out; have hln := block_lt HN1.out; clear ht1 hp1 ho1) | (refine step_appN rfl (.tmp 41) (.tmp 46) rfl (w.heap.size + 2) _ [r1.1, r2.1] rfl (HOW.out.only HO1.out (by omega)) r4.1 _ _ _ _ rfl (New w1 wy.drew.heap.size) HT1.out (fun k hk => ⟨by have h1 := hk.1; have h2 : wy.drew.heap.size = wy.heap.size := rfl; have h3 := HSA.out; omega, hk.2, fun e => by have h1 := (HOW.out.lt k e).2; have h2 := hk.1; have h3 : wy.drew.heap.size = wy.heap.size := rfl; omega⟩) (by simp) (by have h1 := HO1.out.size; have h3 := HSA.out; omega) ?_; intro v2 w2 ho2 hb2 hk2; have HO2 := Lib.hid ho2; obtain ⟨a2, c2, rfl⟩ := ho2.shape; have HB2 := Lib.hid hb2; have HN2 := Lib.hid ((hk2 _ hln (fun e => by have h1 := (HOW.out.lt _ e).1; omega)).trans HN1.out); obtain ⟨b0, b1, b2, b3, z0, z1, z2, z3⟩ := box4 HN2.out; clear ho2 hb2 hk2))
                all_goals
                  go_wp2_with fail
                  go_meet
                  exact Chs.add (wx := wy) (ks := [r1.1, r2.1]) hlt HRA.out HNA.out HOA.out HO1.out HP1.out HO2.out HB2.out rfl
              case rest =>
                clear HCH HRA HNA HOW HPA HOA HSA b0 b1 b2 b3 z0 z1 z2 z3 d0 d1 d2 d3 y0 y1 y2 y3
                have HCH := Lib.hid hcut
                obtain ⟨kv, hrb, hnb, hown, hpi, hon⟩ := hcut
                obtain ⟨ak, ck, rfl⟩ := hown.shape
                have HRA := Lib.hid hrb
                have HNA := Lib.hid hnb
                have HOW := Lib.hid hown
                have HPA := Lib.hid hpi
                have HOA := Lib.hid hon
                have HSA := Lib.hid (Chs.size hnb hown)
                clear hrb hnb hown hpi hon
                obtain ⟨b0, b1, b2, b3, z0, z1, z2, z3⟩ := box4 HNA.out
                obtain ⟨d0, d1, d2, d3, y0, y1, y2, y3⟩ := box4 HRA.out
                have HQ := HR4
                have HCR := Lib.hid (And.intro HOW.out (And.intro HPA.out HOA.out))
                go_wp2_with fail
                refine bodyPost_ret (v := .agg #[.int .i64 2, .string ⟨#[]⟩, .slice ak 3 ck, .int .i64 line]) (by simp [results, Tryd.results69, go_sem, b0, b1, b2, b3, z0, z1, z2, z3, d0, d1, d2, d3, y0, y1, y2, y3]) rfl ?_
                rw [← HQ.out]
                exact Chs.done HCR.out hlt (Only.set4 _ _ _ _ _ _)
            · have hi : isW (nxt r2.2.1) 1 [105, 102] = false := by simpa using hi
              have HIF := Lib.hid (fun W (hW : PIn W pb (nxt r2.2.1, r2.2.2)) => is_no W pb (nxt r2.2.1, r2.2.2) hW 1 [105, 102] hi)
              have HR4 := Lib.hid (show (Tree.node 2 [] [r1.1, r2.1, (pRun n .block (nxt r2.2.1, r2.2.2)).1] line, (pRun n .block (nxt r2.2.1, r2.2.2)).2) = R from by have h := HR3.out; rwa [hi, if_neg (by decide)] at h)
              clear HR3 hi
              have HC3 := Lib.hid (fun W (hW : PIn W pb (nxt r2.2.1, r2.2.2)) => HBl.out W pb (nxt r2.2.1, r2.2.2) hW (by have h1 := HRK.out; have h2 := HLE1.out; have h3 := HLE2.out; have h4 := HKD.out HPA.out.good; simp [rankN]; omega))
              generalize pRun n .block (nxt r2.2.1, r2.2.2) = r4 at *
              go_upto_region 12 with (first | (go_at_call 34; (with_reducible refine (HOK2.out _ HPA.out).mono ?_); rintro e w34 ⟨rfl, rfl⟩) | (go_at_call 47; (with_reducible refine (HIS.out _ HPA.out).mono ?_); rintro e w5 ⟨rfl, hb5⟩; have HC5 := Lib.hid (HCH.out.step hb5); have HP5 := Lib.hid (HPA.out.step hb5); clear hb5) | (go_at_call 68; (with_reducible refine (next_in _ pb r2.2 HP5.out).mono ?_); rintro e w6 ⟨rfl, hp6, ho6⟩; have HC6 := Lib.hid (HC5.out.call hlt ho6 hp6); have HP6 := Lib.hid hp6; clear hp6 ho6) | (go_at_call 47; (with_reducible refine (HIF.out _ HP6.out).mono ?_); rintro e w7 ⟨rfl, hb7⟩; have HC7 := Lib.hid (HC6.out.step hb7); have HP7 := Lib.hid (HP6.out.step hb7); clear hb7))
              go_cut [] (fun wx => Chs w wx pb [r1.1, r2.1, r4.1] line r4.2)
              case first =>
                clear HCH HRA HNA HOW HPA HOA HSA b0 b1 b2 b3 z0 z1 z2 z3 d0 d1 d2 d3 y0 y1 y2 y3
                have hcut := HC7.out
                have HCH := Lib.hid hcut
                obtain ⟨kv, hrb, hnb, hown, hpi, hon⟩ := hcut
                obtain ⟨ak, ck, rfl⟩ := hown.shape
                have HRA := Lib.hid hrb
                have HNA := Lib.hid hnb
                have HOW := Lib.hid hown
                have HPA := Lib.hid hpi
                have HOA := Lib.hid hon
                have HSA := Lib.hid (Chs.size hnb hown)
                clear hrb hnb hown hpi hon
                obtain ⟨b0, b1, b2, b3, z0, z1, z2, z3⟩ := box4 HNA.out
                obtain ⟨d0, d1, d2, d3, y0, y1, y2, y3⟩ := box4 HRA.out
                go_region_law (first | (go_simp; go_at_call 86; (refine (HC3.out w7.drew HPA.out.drew).mono ?_); rintro e w1 ⟨⟨v1, rfl, ht1⟩, hp1, ho1⟩; obtain ⟨k1, x1, a1, m1, c1, l1, rfl⟩ := isT_shape ht1; have HT1 := Lib.hid ht1; have HP1 := Lib.hid hp1; have HO1 := Lib.hid ho1.of_drew; have HN1 := Lib.hid (HO1.out.keep HNA.out (by omega)); obtain ⟨b0, b1, b2, b3, z0, z1, z2, z3⟩ := box4 HN1.out; have hln := block_lt HN1.out; clear ht1 hp1 ho1) | (refine step_appN rfl (.tmp 51) (.tmp 54) rfl (w.heap.size + 2) _ [r1.1, r2.1] rfl (HOW.out.only HO1.out (by omega)) r4.1 _ _ _ _ rfl (New w1 w7.drew.heap.size) HT1.out (fun k hk => ⟨by have h1 := hk.1; have h2 : w7.drew.heap.size = w7.heap.size := rfl; have h3 := HSA.out; omega, hk.2, fun e => by have h1 := (HOW.out.lt k e).2; have h2 := hk.1; have h3 : w7.drew.heap.size = w7.heap.size := rfl; omega⟩) (by simp) (by have h1 := HO1.out.size; have h3 := HSA.out; omega) ?_; intro v2 w2 ho2 hb2 hk2; have HO2 := Lib.hid ho2; obtain ⟨a2, c2, rfl⟩ := ho2.shape; have HB2 := Lib.hid hb2; have HN2 := Lib.hid ((hk2 _ hln (fun e => by have h1 := (HOW.out.lt _ e).1; omega)).trans HN1.out); obtain ⟨b0, b1, b2, b3, z0, z1, z2, z3⟩ := box4 HN2.out; clear ho2 hb2 hk2))
                all_goals
                  go_wp2_with fail
                  go_meet
                  exact Chs.add (wx := w7) (ks := [r1.1, r2.1]) hlt HRA.out HNA.out HOA.out HO1.out HP1.out HO2.out HB2.out rfl
              case rest =>
                clear HCH HRA HNA HOW HPA HOA HSA b0 b1 b2 b3 z0 z1 z2 z3 d0 d1 d2 d3 y0 y1 y2 y3
                have HCH := Lib.hid hcut
                obtain ⟨kv, hrb, hnb, hown, hpi, hon⟩ := hcut
                obtain ⟨ak, ck, rfl⟩ := hown.shape
                have HRA := Lib.hid hrb
                have HNA := Lib.hid hnb
                have HOW := Lib.hid hown
                have HPA := Lib.hid hpi
                have HOA := Lib.hid hon
                have HSA := Lib.hid (Chs.size hnb hown)
                clear hrb hnb hown hpi hon
                obtain ⟨b0, b1, b2, b3, z0, z1, z2, z3⟩ := box4 HNA.out
                obtain ⟨d0, d1, d2, d3, y0, y1, y2, y3⟩ := box4 HRA.out
                have HQ := HR4
                have HCR := Lib.hid (And.intro HOW.out (And.intro HPA.out HOA.out))
                go_wp2_with fail
                refine bodyPost_ret (v := .agg #[.int .i64 2, .string ⟨#[]⟩, .slice ak 3 ck, .int .i64 line]) (by simp [results, Tryd.results69, go_sem, b0, b1, b2, b3, z0, z1, z2, z3, d0, d1, d2, d3, y0, y1, y2, y3]) rfl ?_
                rw [← HQ.out]
                exact Chs.done HCR.out hlt (Only.set4 _ _ _ _ _ _)
          · have he : isW r2.2.1 1 [101, 108, 115, 101] = false := by simpa using he
            have HIS := Lib.hid (fun W (hW : PIn W pb r2.2) => is_no W pb r2.2 hW 1 [101, 108, 115, 101] he)
            have HQ := Lib.hid (show (Tree.node 2 [] [r1.1, r2.1] line, r2.2) = R from by have h := HR2.out; rwa [if_pos (.inr he)] at h)
            clear HR2 hz2 he
            go_wp2_with (first | (go_at_call 34; (with_reducible refine (HOK2.out _ HPA.out).mono ?_); rintro e w34 ⟨rfl, rfl⟩) | (go_at_call 47; (with_reducible refine (HIS.out _ HPA.out).mono ?_); rintro e w5 ⟨rfl, hb5⟩; have HC5 := Lib.hid (And.intro (HOW.out.step hb5) (And.intro (HPA.out.step hb5) (HOA.out.bel hb5))); obtain ⟨b0, b1, b2, b3, z0, z1, z2, z3⟩ := box4 (keep_blk hb5 HNA.out); obtain ⟨d0, d1, d2, d3, y0, y1, y2, y3⟩ := box4 (keep_blk hb5 HRA.out); clear hb5))
            have HCR := HC5
            refine bodyPost_ret (v := .agg #[.int .i64 2, .string ⟨#[]⟩, .slice ak 2 ck, .int .i64 line]) (by simp [results, Tryd.results69, go_sem, b0, b1, b2, b3, z0, z1, z2, z3, d0, d1, d2, d3, y0, y1, y2, y3]) rfl ?_
            rw [← HQ.out]
            exact Chs.done HCR.out hlt (Only.set4 _ _ _ _ _ _)
        · have HOK2 := Lib.hid (fun W (hW : PIn W pb r2.2) => ok_no W pb r2.2 hW hz2)
          have HQ := Lib.hid (show (Tree.node 2 [] [r1.1, r2.1] line, r2.2) = R from by have h := HR2.out; rwa [if_pos (.inl hz2)] at h)
          clear HR2 hz2
          have HCR := Lib.hid (And.intro HOW.out (And.intro HPA.out HOA.out))
          go_wp2_with (first | (go_at_call 34; (with_reducible refine (HOK2.out _ HPA.out).mono ?_); rintro e w34 ⟨rfl, rfl⟩))
          refine bodyPost_ret (v := .agg #[.int .i64 2, .string ⟨#[]⟩, .slice ak 2 ck, .int .i64 line]) (by simp [results, Tryd.results69, go_sem, b0, b1, b2, b3, z0, z1, z2, z3, d0, d1, d2, d3, y0, y1, y2, y3]) rfl ?_
          rw [← HQ.out]
          exact Chs.done HCR.out hlt (Only.set4 _ _ _ _ _ _)
    · have HOK := Lib.hid (fun W (hW : PIn W pb r1.2) => ok_no W pb r1.2 hW hz)
      have HQ := Lib.hid (show (Tree.node 2 [] [r1.1] line, r1.2) = R from by have h := HR1.out; rwa [if_pos hz] at h)
      clear HR1 hz
      have HCR := Lib.hid (And.intro HOW.out (And.intro HPA.out HOA.out))
      go_wp2_with (first | (go_at_call 34; (with_reducible refine (HOK.out _ HPA.out).mono ?_); rintro e w34 ⟨rfl, rfl⟩))
      refine bodyPost_ret (v := .agg #[.int .i64 2, .string ⟨#[]⟩, .slice ak 1 ck, .int .i64 line]) (by simp [results, Tryd.results69, go_sem, b0, b1, b2, b3, z0, z1, z2, z3, d0, d1, d2, d3, y0, y1, y2, y3]) rfl ?_
      rw [← HQ.out]
      exact Chs.done HCR.out hlt (Only.set4 _ _ _ _ _ _)
end Go.Proofs.YtogkiifljdnjgaaDoor
