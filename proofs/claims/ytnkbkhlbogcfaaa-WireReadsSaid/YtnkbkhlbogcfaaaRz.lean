/- The document's read of a text. -/
import Derived.Test.YtnkbkhlbogcfaaaRy
import Derived.BigRegion
set_option linter.unusedVariables false
set_option linter.unusedSimpArgs false
namespace Go.Proofs.Ytnkbkhlbogcfaaa
open Go.RowKit Go.Proofs.YtnkbkhlbogcfaaaW.PrintWords
noncomputable section

set_option maxHeartbeats 2000000 in
set_option maxRecDepth 100000 in
theorem dtext_any (n c at_ : Nat) (e : Int) (A : Option Addr) (b : List UInt8) (w : World) (hR : RB w A b) (hl : b.length = n) (hat : at_ ≤ n) (hnc : n ≤ c) (hn : n ≤ 900000) :
    Calls Try.prog 95 #[.agg #[.slice A n c, .int .i64 at_, .int .i64 e]] w fun ex w' => ex = .returned (.tuple #[.agg #[.slice A n c, .int .i64 ((rText b at_ e).2.1 : Nat), .int .i64 (rText b at_ e).2.2], .string (bs (rText b at_ e).1)]) ∧ Below w.heap.size w w' := by
  obtain ⟨x, at', e', hq⟩ : ∃ x at' e', rShort b at_ e = (x, at', e') := ⟨_, _, _, rfl⟩
  have hxI := (rShort_at (e := e) (b := b) (at_ := at_) (by omega)).2.2
  have KS := fun (wx : World) (hb : Below w.heap.size w wx) => dshort_any n c at_ e A b wx (hR.below hb) hl hat hnc hn
  obtain ⟨tgt, htg⟩ : ∃ t, t = rText b at_ e := ⟨_, rfl⟩
  rw [← htg]
  have htg' := htg
  unfold rText at htg'
  rw [hq] at KS hxI htg'
  dsimp only at KS hxI htg'
  have hat' := (rShort_at (e := e) (b := b) (at_ := at_) (by omega)).2.1
  rw [hq, hl] at hat'
  have at'n : at' ≤ n := hat'
  rw [hl] at htg'
  have KW := fun (wx : World) (hb : Below w.heap.size w wx) => draw_any x n c at' 0 A b wx (hR.below hb) hl at'n hnc (by omega)
  have KW := Lib.hid KW
  have HL := Lib.hid hl
  have HK := Lib.hid (And.intro KS hR)
  have HT := Lib.hid htg'
  have x0 : (0 : Int) ≤ (x : Int) := by omega
  clear KS hR htg htg' hq hl hat'
  by_cases he : e' = 0
  · subst he
    · by_cases hs : n < at' + x
      · have HE := Lib.hid (show tgt = ([], at_, 2) by rw [HT.out, if_neg (by omega), if_pos hs])
        go_enter Try.func95, Try.ntmps95
        go_wp2_with fail
        refine (HK.out.1 _ (below_alloc2 w _ _)).mono ?_
        rintro ex w1 ⟨rfl, hb1⟩
        have hB := begun (at' := at') (e' := 0) HK.out.2 hb1
        obtain ⟨⟨q0, q1, q2⟩, _⟩ := row3_cells hB.arg
        obtain ⟨⟨y0, y1, y2⟩, ⟨z0, z1, z2⟩⟩ := row3_cells hB.res
        have H1 := Lib.hid hB
        clear hb1 hB
        go_wp2_with fail
        refine (left_any n c at' 0 A _ at'n hnc).mono ?_
        rintro ex w2 ⟨rfl, hb2⟩
        have hB2 := H1.out.go hb2
        clear q0 q1 q2 y0 y1 y2 z0 z1 z2
        obtain ⟨⟨q0, q1, q2⟩, _⟩ := row3_cells hB2.arg
        obtain ⟨⟨y0, y1, y2⟩, ⟨z0, z1, z2⟩⟩ := row3_cells hB2.res
        obtain ⟨⟨n0, n1, n2⟩, _⟩ := row3_cells hB2.next
        rw [H1.out.at_g] at n0 n1 n2
        have H1 := Lib.hid hB2
        clear hb2 hB2
        obtain ⟨D, hD⟩ : ∃ D, D = dropA A c at' := ⟨_, rfl⟩
        obtain ⟨d, hd⟩ : ∃ d, d = n - at' := ⟨_, rfl⟩
        obtain ⟨cc, hcc⟩ : ∃ cc, cc = c - at' := ⟨_, rfl⟩
        rw [← hD, ← hd, ← hcc]
        have dI : (d : Int) < (x : Int) := by omega
        clear hD hd hcc hxI hs
        go_wp2_with fail
        refine (dfail_any 2 A n c at_ e _).mono ?_
        rintro ex w2 ⟨rfl, hb2⟩
        have hB2 := H1.out.go hb2
        obtain ⟨⟨y0, y1, y2⟩, ⟨z0, z1, z2⟩⟩ := row3_cells hB2.res
        have H2 := Lib.hid hB2
        clear hb2 hB2
        go_wp2
        refine post_ct rfl (w.heap.size + 1) _ _ _ rfl (row3_store H2.out.res) rfl ?_
        rw [HE.out]
        exact ⟨rfl, below_store3 H2.out.below _ (by omega) _ _ _⟩
      · have HE := Lib.hid (show tgt = ((b.drop at').take x, at' + x, 0) by rw [HT.out, if_neg (by omega), if_neg hs])
        have er1 : rRaw b x at' 0 = ((b.drop at').take x, at' + x, 0) := by
          unfold rRaw
          rw [if_neg (by omega), if_neg (by have := HL.out; omega), Int.toNat_natCast]
        rw [er1] at KW
        have hlx := Lib.hid (show ((b.drop at').take x).length = x by have := HL.out; simp; omega)
        dsimp only at KW
        rw [hlx.out] at KW
        clear er1
        go_enter Try.func95, Try.ntmps95
        go_wp2_with fail
        refine (HK.out.1 _ (below_alloc2 w _ _)).mono ?_
        rintro ex w1 ⟨rfl, hb1⟩
        have hB := begun (at' := at') (e' := 0) HK.out.2 hb1
        obtain ⟨⟨q0, q1, q2⟩, _⟩ := row3_cells hB.arg
        obtain ⟨⟨y0, y1, y2⟩, ⟨z0, z1, z2⟩⟩ := row3_cells hB.res
        have H1 := Lib.hid hB
        clear hb1 hB
        go_wp2_with fail
        refine (left_any n c at' 0 A _ at'n hnc).mono ?_
        rintro ex w2 ⟨rfl, hb2⟩
        have hB2 := H1.out.go hb2
        clear q0 q1 q2 y0 y1 y2 z0 z1 z2
        obtain ⟨⟨q0, q1, q2⟩, _⟩ := row3_cells hB2.arg
        obtain ⟨⟨y0, y1, y2⟩, ⟨z0, z1, z2⟩⟩ := row3_cells hB2.res
        obtain ⟨⟨n0, n1, n2⟩, _⟩ := row3_cells hB2.next
        rw [H1.out.at_g] at n0 n1 n2
        have H1 := Lib.hid hB2
        clear hb2 hB2
        obtain ⟨D, hD⟩ : ∃ D, D = dropA A c at' := ⟨_, rfl⟩
        obtain ⟨d, hd⟩ : ∃ d, d = n - at' := ⟨_, rfl⟩
        obtain ⟨cc, hcc⟩ : ∃ cc, cc = c - at' := ⟨_, rfl⟩
        rw [← hD, ← hd, ← hcc]
        have dI : (x : Int) ≤ (d : Int) := by omega
        clear hD hd hcc hxI hs
        go_wp2_with fail
        refine (KW.out _ H1.out.below).mono ?_
        rintro ex w3 ⟨A3, c3, rfl, hc3, hrb3, hb3⟩
        obtain ⟨W3, hW3⟩ : ∃ W3, W3 = w3.alloc (.cells #[.slice A n c, .int .i64 ((at' : Int) + (x : Int)), .int .i64 0] 83) := ⟨_, rfl⟩
        have hba : Below w3.heap.size w3 W3 := by rw [hW3]; exact below_alloc (Below.refl _ _) _
        have hB3 := (H1.out.go hb3).go hba
        have ea : ((at' + x : Nat) : Int) = (at' : Int) + (x : Int) := by omega
        go_wp2_with fail
        rw [← hW3]
        obtain ⟨g3, hg3⟩ : ∃ g3, g3 = w3.heap.size := ⟨_, rfl⟩
        rw [← hg3]
        have hn3 : W3.heap[g3]? = some (.cells #[.slice A n c, .int .i64 ((at' : Int) + (x : Int)), .int .i64 0] 83 (0, 0)) := by rw [hW3, hg3]; exact heap_alloc_new _ _
        clear q0 q1 q2 y0 y1 y2 z0 z1 z2 n0 n1 n2
        obtain ⟨⟨n0, n1, n2⟩, _⟩ := row3_cells hn3
        obtain ⟨⟨y0, y1, y2⟩, ⟨z0, z1, z2⟩⟩ := row3_cells hB3.res
        have hres := hB3.res
        have hcv := run_convB (c := c3) (hrb3 W3.drew (HK.out.2.below hB3.below.drew)) hlx.out
        have hcv1 := run_convB (c := c3) (hrb3 ((((W3.setCell ⟨w.heap.size + 1, 0, none⟩ (.slice A n c)).setCell ⟨w.heap.size + 1, 1, none⟩ (.int .i64 ((at' : Int) + (x : Int)))).setCell ⟨w.heap.size + 1, 2, none⟩ (.int .i64 0)).drew) (HK.out.2.below (below_store3 hB3.below _ (by omega) _ _ _).drew)) hlx.out
        have H3 := Lib.hid hB3
        clear hn3 hB3 hW3 hg3 hba hres hrb3 hb3
        go_region
        go_wp2
        refine post_ct rfl (w.heap.size + 1) _ _ _ rfl (by rw [heap_drew]; exact row3_store H3.out.res) rfl ?_
        rw [HE.out, ea]
        exact ⟨rfl, (below_store3 H3.out.below _ (by omega) _ _ _).drew⟩
  · have HE := Lib.hid (show tgt = ([], at', e') by rw [HT.out, if_pos he])
    have g1 : (e' == 0) = false := by simp [he]
    have g2 : (e' != 0) = true := by simp [he]
    clear hxI x0
    go_enter Try.func95, Try.ntmps95
    go_wp2_with fail
    refine (HK.out.1 _ (below_alloc2 w _ _)).mono ?_
    rintro ex w1 ⟨rfl, hb1⟩
    have hB := begun (at' := at') (e' := e') HK.out.2 hb1
    obtain ⟨⟨q0, q1, q2⟩, _⟩ := row3_cells hB.arg
    obtain ⟨⟨y0, y1, y2⟩, ⟨z0, z1, z2⟩⟩ := row3_cells hB.res
    have H1 := Lib.hid hB
    clear hb1 hB
    go_wp2
    refine post_ct rfl (w.heap.size + 1) _ _ _ rfl (row3_store H1.out.res) rfl ?_
    rw [HE.out]
    exact ⟨rfl, below_store3 H1.out.below _ (by omega) _ _ _⟩
end
end Go.Proofs.Ytnkbkhlbogcfaaa
