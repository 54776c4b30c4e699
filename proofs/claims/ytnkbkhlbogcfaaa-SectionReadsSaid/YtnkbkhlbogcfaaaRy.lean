/- The document's reads: signed numbers, texts, lists. -/
import Derived.Test.YtnkbkhlbogcfaaaRx
import Derived.Test.YtnkbkhlbogcfaaaRv
set_option linter.unusedVariables false
set_option linter.unusedSimpArgs false
namespace Go.Proofs.Ytnkbkhlbogcfaaa
open Go.RowKit Go.Proofs.YtnkbkhlbogcfaaaW.PrintWords
noncomputable section

/-- the beginning that the reads of a short number have in common: behind the call, and the store of what is read -/
structure Begun (w w1 W : World) (g : Nat) (A : Option Addr) (n c at_ : Nat) (e : Int) (at' : Nat) (e' : Int) (b : List UInt8) : Prop where
  below : Below w.heap.size w W
  rb : RB W A b
  arg : W.heap[w.heap.size]? = some (.cells #[.slice A n c, .int .i64 at_, .int .i64 e] 83 (0, 0))
  res : W.heap[w.heap.size + 1]? = some (.cells #[.slice none 0 0, .int .i64 0, .int .i64 0] 83 (0, 0))
  next : W.heap[g]? = some (.cells #[.slice A n c, .int .i64 at', .int .i64 e'] 83 (0, 0))
  at_g : g = w1.heap.size
  g_gt : w.heap.size + 1 < g
theorem begun {w w1 : World} {A : Option Addr} {n c at_ at' : Nat} {e e' : Int} {b : List UInt8} (hR : RB w A b)
    (hb1 : Below ((w.alloc (.cells #[.slice A n c, .int .i64 at_, .int .i64 e] 83)).alloc (.cells #[.slice none 0 0, .int .i64 0, .int .i64 0] 83)).heap.size ((w.alloc (.cells #[.slice A n c, .int .i64 at_, .int .i64 e] 83)).alloc (.cells #[.slice none 0 0, .int .i64 0, .int .i64 0] 83)) w1) :
    Begun w w1 (w1.alloc (.cells #[.slice A n c, .int .i64 at', .int .i64 e'] 83)) w1.heap.size A n c at_ e at' e' b := by
  have hs : w.heap.size + 2 ≤ w1.heap.size := by have := hb1.size; simpa using this
  have hb := (below_alloc2 w _ _).trans (hb1.mono (by simp; omega))
  have hbW : Below w1.heap.size w1 (w1.alloc (.cells #[.slice A n c, .int .i64 at', .int .i64 e'] 83)) := below_alloc (Below.refl _ _) _
  refine ⟨hb.trans (hbW.mono hb.size), (hR.below hb).below hbW, ?_, ?_, heap_alloc_new _ _, rfl, by omega⟩
  · rw [hbW.block _ (by omega), hb1.block w.heap.size (by simp; omega)]
    exact heap_alloc2_old w _ _
  · rw [hbW.block _ (by omega), hb1.block (w.heap.size + 1) (by simp)]
    exact heap_alloc2_new w _ _
theorem Begun.go {w w1 W w2 : World} {g : Nat} {A : Option Addr} {n c at_ at' : Nat} {e e' : Int} {b : List UInt8} (h : Begun w w1 W g A n c at_ e at' e' b) (hb : Below W.heap.size W w2) : Begun w w1 w2 g A n c at_ e at' e' b := by
  refine ⟨h.below.trans (hb.mono h.below.size), h.rb.below hb, ?_, ?_, ?_, h.at_g, h.g_gt⟩
  · exact (hb.block _ (blk_lt h.arg)).trans h.arg
  · exact (hb.block _ (blk_lt h.res)).trans h.res
  · exact (hb.block _ (blk_lt h.next)).trans h.next

set_option maxHeartbeats 2000000 in
set_option maxRecDepth 100000 in
theorem dsigned_any (n c at_ : Nat) (e : Int) (A : Option Addr) (b : List UInt8) (w : World) (hR : RB w A b) (hl : b.length = n) (hat : at_ ≤ n) (hnc : n ≤ c) (hn : n ≤ 900000) :
    Calls Try.prog 94 #[.agg #[.slice A n c, .int .i64 at_, .int .i64 e]] w fun ex w' => ex = .returned (.tuple #[.agg #[.slice A n c, .int .i64 ((rSigned b at_ e).2.1 : Nat), .int .i64 (rSigned b at_ e).2.2], .int .i64 (rSigned b at_ e).1]) ∧ Below w.heap.size w w' := by
  obtain ⟨x, at', e', hq⟩ : ∃ x at' e', rShort b at_ e = (x, at', e') := ⟨_, _, _, rfl⟩
  have hxI := (rShort_at (e := e) (b := b) (at_ := at_) (by omega)).2.2
  have KS := fun (wx : World) (hb : Below w.heap.size w wx) => dshort_any n c at_ e A b wx (hR.below hb) hl hat hnc hn
  obtain ⟨tgt, htg⟩ : ∃ t, t = rSigned b at_ e := ⟨_, rfl⟩
  rw [← htg]
  have htg' := htg
  unfold rSigned at htg'
  rw [hq] at KS hxI htg'
  dsimp only at KS hxI htg'
  have HK := Lib.hid (And.intro KS hR)
  have HT := Lib.hid htg'
  have x0 : (0 : Int) ≤ (x : Int) := by omega
  clear KS hR htg htg' hq hl
  by_cases he : e' = 0
  · subst he
    by_cases hbig : (2305843009213693952 : Int) ≤ ((x / 2 : Nat) : Int)
    · have HE := Lib.hid (show tgt = (0, at_, 3) by rw [HT.out, if_neg (by omega), if_pos hbig])
      have g1 : decide ((2305843009213693952 : Int) ≤ (x : Int) / 2) = true := by simp; omega
      have g3 : (x : Int) / 2 ≤ 9223372036854770000 := by omega
      clear hbig hxI
      go_enter Try.func94, Try.ntmps94
      go_wp2_with fail
      refine (HK.out.1 _ (below_alloc2 w _ _)).mono ?_
      rintro ex w1 ⟨rfl, hb1⟩
      have hB := begun (at' := at') (e' := 0) HK.out.2 hb1
      obtain ⟨⟨q0, q1, q2⟩, _⟩ := row3_cells hB.arg
      obtain ⟨⟨y0, y1, y2⟩, ⟨z0, z1, z2⟩⟩ := row3_cells hB.res
      have H1 := Lib.hid hB
      clear hb1 hB
      go_wp2_with fail
      refine (dfail_any 3 A n c at_ e _).mono ?_
      rintro ex w2 ⟨rfl, hb2⟩
      have hB2 := H1.out.go hb2
      obtain ⟨⟨y0, y1, y2⟩, ⟨z0, z1, z2⟩⟩ := row3_cells hB2.res
      have H2 := Lib.hid hB2
      clear hb2 hB2
      go_wp2
      refine post_ct rfl (w.heap.size + 1) _ _ _ rfl (row3_store H2.out.res) rfl ?_
      rw [HE.out]
      exact ⟨rfl, below_store3 H2.out.below _ (by omega) _ _ _⟩
    · have g1 : decide ((2305843009213693952 : Int) ≤ (x : Int) / 2) = false := by simp; omega
      have g3 : (x : Int) / 2 ≤ 9223372036854770000 := by omega
      by_cases ho : x % 2 = 1
      · have g2 : ((x : Int) % 2 == 1) = true := by simp; omega
        have HE := Lib.hid (show tgt = (-((x : Int) / 2 + 1), at', 0) by rw [HT.out, if_neg (by omega), if_neg hbig]; unfold sgnR; rw [if_pos ho]; congr 1)
        clear ho hbig hxI
        go_enter Try.func94, Try.ntmps94
        go_wp2_with fail
        refine (HK.out.1 _ (below_alloc2 w _ _)).mono ?_
        rintro ex w1 ⟨rfl, hb1⟩
        have hB := begun (at' := at') (e' := 0) HK.out.2 hb1
        obtain ⟨⟨q0, q1, q2⟩, _⟩ := row3_cells hB.arg
        obtain ⟨⟨y0, y1, y2⟩, ⟨z0, z1, z2⟩⟩ := row3_cells hB.res
        have H1 := Lib.hid hB
        clear hb1 hB
        go_wp2
        refine post_ct rfl (w.heap.size + 1) _ _ _ rfl (row3_store H1.out.res) rfl ?_
        rw [HE.out]
        exact ⟨rfl, below_store3 H1.out.below _ (by omega) _ _ _⟩
      · have g2 : ((x : Int) % 2 == 1) = false := by simp; omega
        have HE := Lib.hid (show tgt = ((x : Int) / 2, at', 0) by rw [HT.out, if_neg (by omega), if_neg hbig]; unfold sgnR; rw [if_neg ho]; congr 1)
        clear ho hbig hxI
        go_enter Try.func94, Try.ntmps94
        go_wp2_with fail
        refine (HK.out.1 _ (below_alloc2 w _ _)).mono ?_
        rintro ex w1 ⟨rfl, hb1⟩
        have hB := begun (at' := at') (e' := 0) HK.out.2 hb1
        obtain ⟨⟨q0, q1, q2⟩, _⟩ := row3_cells hB.arg
        obtain ⟨⟨y0, y1, y2⟩, ⟨z0, z1, z2⟩⟩ := row3_cells hB.res
        have H1 := Lib.hid hB
        clear hb1 hB
        go_wp2
        refine post_ct rfl (w.heap.size + 1) _ _ _ rfl (row3_store H1.out.res) rfl ?_
        rw [HE.out]
        exact ⟨rfl, below_store3 H1.out.below _ (by omega) _ _ _⟩
  · have HE := Lib.hid (show tgt = (0, at', e') by rw [HT.out, if_pos he])
    have g1 : (e' == 0) = false := by simp [he]
    have g2 : (e' != 0) = true := by simp [he]
    clear hxI x0
    go_enter Try.func94, Try.ntmps94
    go_wp2_with fail
    refine (HK.out.1 _ (below_alloc2 w _ _)).mono ?_
    rintro ex w1 ⟨rfl, hb1⟩
    have hB := begun (at' := at') (e' := e') HK.out.2 hb1
    obtain ⟨⟨q0, q1, q2⟩, _⟩ := row3_cells hB.arg
    obtain ⟨⟨y0, y1, y2⟩, ⟨z0, z1, z2⟩⟩ := row3_cells hB.res
    have H1 := Lib.hid hB
    clear hb1 hB
    go_wp2
    refine post_ct rfl (w.heap.size + 1) _ _ _ rfl (row3_store H1.out.res) rfl ?_
    rw [HE.out]
    exact ⟨rfl, below_store3 H1.out.below _ (by omega) _ _ _⟩

set_option maxHeartbeats 2000000 in
set_option maxRecDepth 100000 in
theorem dlist_any (most : Int) (n c at_ : Nat) (e : Int) (A : Option Addr) (b : List UInt8) (w : World) (hR : RB w A b) (hl : b.length = n) (hat : at_ ≤ n) (hnc : n ≤ c) (hn : n ≤ 900000) :
    Calls Try.prog 96 #[.agg #[.slice A n c, .int .i64 at_, .int .i64 e], .int .i64 most] w fun ex w' => ex = .returned (.tuple #[.agg #[.slice A n c, .int .i64 ((rList b most at_ e).2.1 : Nat), .int .i64 (rList b most at_ e).2.2], .int .i64 ((rList b most at_ e).1 : Nat)]) ∧ Below w.heap.size w w' := by
  obtain ⟨x, at', e', hq⟩ : ∃ x at' e', rShort b at_ e = (x, at', e') := ⟨_, _, _, rfl⟩
  have hxI := (rShort_at (e := e) (b := b) (at_ := at_) (by omega)).2.2
  have KS := fun (wx : World) (hb : Below w.heap.size w wx) => dshort_any n c at_ e A b wx (hR.below hb) hl hat hnc hn
  obtain ⟨tgt, htg⟩ : ∃ t, t = rList b most at_ e := ⟨_, rfl⟩
  rw [← htg]
  have htg' := htg
  unfold rList at htg'
  rw [hq] at KS hxI htg'
  dsimp only at KS hxI htg'
  have hat' := (rShort_at (e := e) (b := b) (at_ := at_) (by omega)).2.1
  rw [hq, hl] at hat'
  have at'n : at' ≤ n := hat'
  rw [hl] at htg'
  have HK := Lib.hid (And.intro KS hR)
  have HT := Lib.hid htg'
  have x0 : (0 : Int) ≤ (x : Int) := by omega
  clear KS hR htg htg' hq hl hat'
  by_cases he : e' = 0
  · subst he
    by_cases hm : most < (x : Int)
    · have HE := Lib.hid (show tgt = (0, at_, 3) by rw [HT.out, if_neg (by omega), if_pos hm])
      clear hxI
      go_enter Try.func96, Try.ntmps96
      go_wp2_with fail
      refine (HK.out.1 _ (below_alloc2 w _ _)).mono ?_
      rintro ex w1 ⟨rfl, hb1⟩
      have hB := begun (at' := at') (e' := 0) HK.out.2 hb1
      obtain ⟨⟨q0, q1, q2⟩, _⟩ := row3_cells hB.arg
      obtain ⟨⟨y0, y1, y2⟩, ⟨z0, z1, z2⟩⟩ := row3_cells hB.res
      have H1 := Lib.hid hB
      clear hb1 hB
      go_wp2_with fail
      refine (dfail_any 3 A n c at_ e _).mono ?_
      rintro ex w2 ⟨rfl, hb2⟩
      have hB2 := H1.out.go hb2
      obtain ⟨⟨y0, y1, y2⟩, ⟨z0, z1, z2⟩⟩ := row3_cells hB2.res
      have H2 := Lib.hid hB2
      clear hb2 hB2
      go_wp2
      refine post_ct rfl (w.heap.size + 1) _ _ _ rfl (row3_store H2.out.res) rfl ?_
      rw [HE.out]
      exact ⟨rfl, below_store3 H2.out.below _ (by omega) _ _ _⟩
    · have hm' : (x : Int) ≤ most := by omega
      by_cases hs : n < at' + x
      · have HE := Lib.hid (show tgt = (0, at_, 2) by rw [HT.out, if_neg (by omega), if_neg hm, if_pos hs])
        go_enter Try.func96, Try.ntmps96
        go_wp2_with fail
        refine (HK.out.1 _ (below_alloc2 w _ _)).mono ?_
        rintro ex w1 ⟨rfl, hb1⟩
        have hB := begun (at' := at') (e' := 0) HK.out.2 hb1
        obtain ⟨⟨q0, q1, q2⟩, _⟩ := row3_cells hB.arg
        obtain ⟨⟨y0, y1, y2⟩, ⟨z0, z1, z2⟩⟩ := row3_cells hB.res
        have H1 := Lib.hid hB
        clear hb1 hB
        go_wp2_with fail
        refine (left_any n c at' 0 A _ at'n hnc).mono ?_
        rintro ex w2 ⟨rfl, hb2⟩
        have hB2 := H1.out.go hb2
        clear q0 q1 q2 y0 y1 y2 z0 z1 z2
        obtain ⟨⟨q0, q1, q2⟩, _⟩ := row3_cells hB2.arg
        obtain ⟨⟨y0, y1, y2⟩, ⟨z0, z1, z2⟩⟩ := row3_cells hB2.res
        obtain ⟨⟨n0, n1, n2⟩, _⟩ := row3_cells hB2.next
        rw [H1.out.at_g] at n0 n1 n2
        have H1 := Lib.hid hB2
        clear hb2 hB2
        obtain ⟨D, hD⟩ : ∃ D, D = dropA A c at' := ⟨_, rfl⟩
        obtain ⟨d, hd⟩ : ∃ d, d = n - at' := ⟨_, rfl⟩
        obtain ⟨cc, hcc⟩ : ∃ cc, cc = c - at' := ⟨_, rfl⟩
        rw [← hD, ← hd, ← hcc]
        have dI : (d : Int) < (x : Int) := by omega
        clear hD hd hcc hxI hs
        go_wp2_with fail
        refine (dfail_any 2 A n c at_ e _).mono ?_
        rintro ex w2 ⟨rfl, hb2⟩
        have hB2 := H1.out.go hb2
        obtain ⟨⟨y0, y1, y2⟩, ⟨z0, z1, z2⟩⟩ := row3_cells hB2.res
        have H2 := Lib.hid hB2
        clear hb2 hB2
        go_wp2
        refine post_ct rfl (w.heap.size + 1) _ _ _ rfl (row3_store H2.out.res) rfl ?_
        rw [HE.out]
        exact ⟨rfl, below_store3 H2.out.below _ (by omega) _ _ _⟩
      · have HE := Lib.hid (show tgt = (x, at', 0) by rw [HT.out, if_neg (by omega), if_neg hm, if_neg hs])
        go_enter Try.func96, Try.ntmps96
        go_wp2_with fail
        refine (HK.out.1 _ (below_alloc2 w _ _)).mono ?_
        rintro ex w1 ⟨rfl, hb1⟩
        have hB := begun (at' := at') (e' := 0) HK.out.2 hb1
        obtain ⟨⟨q0, q1, q2⟩, _⟩ := row3_cells hB.arg
        obtain ⟨⟨y0, y1, y2⟩, ⟨z0, z1, z2⟩⟩ := row3_cells hB.res
        have H1 := Lib.hid hB
        clear hb1 hB
        go_wp2_with fail
        refine (left_any n c at' 0 A _ at'n hnc).mono ?_
        rintro ex w2 ⟨rfl, hb2⟩
        have hB2 := H1.out.go hb2
        clear q0 q1 q2 y0 y1 y2 z0 z1 z2
        obtain ⟨⟨q0, q1, q2⟩, _⟩ := row3_cells hB2.arg
        obtain ⟨⟨y0, y1, y2⟩, ⟨z0, z1, z2⟩⟩ := row3_cells hB2.res
        obtain ⟨⟨n0, n1, n2⟩, _⟩ := row3_cells hB2.next
        rw [H1.out.at_g] at n0 n1 n2
        have H1 := Lib.hid hB2
        clear hb2 hB2
        obtain ⟨D, hD⟩ : ∃ D, D = dropA A c at' := ⟨_, rfl⟩
        obtain ⟨d, hd⟩ : ∃ d, d = n - at' := ⟨_, rfl⟩
        obtain ⟨cc, hcc⟩ : ∃ cc, cc = c - at' := ⟨_, rfl⟩
        rw [← hD, ← hd, ← hcc]
        have dI : (x : Int) ≤ (d : Int) := by omega
        clear hD hd hcc hxI hs
        go_wp2
        refine post_ct rfl (w.heap.size + 1) _ _ _ rfl (row3_store H1.out.res) rfl ?_
        rw [HE.out]
        exact ⟨rfl, below_store3 H1.out.below _ (by omega) _ _ _⟩
  · have HE := Lib.hid (show tgt = (0, at', e') by rw [HT.out, if_pos he])
    have g1 : (e' == 0) = false := by simp [he]
    have g2 : (e' != 0) = true := by simp [he]
    clear hxI x0
    go_enter Try.func96, Try.ntmps96
    go_wp2_with fail
    refine (HK.out.1 _ (below_alloc2 w _ _)).mono ?_
    rintro ex w1 ⟨rfl, hb1⟩
    have hB := begun (at' := at') (e' := e') HK.out.2 hb1
    obtain ⟨⟨q0, q1, q2⟩, _⟩ := row3_cells hB.arg
    obtain ⟨⟨y0, y1, y2⟩, ⟨z0, z1, z2⟩⟩ := row3_cells hB.res
    have H1 := Lib.hid hB
    clear hb1 hB
    go_wp2
    refine post_ct rfl (w.heap.size + 1) _ _ _ rfl (row3_store H1.out.res) rfl ?_
    rw [HE.out]
    exact ⟨rfl, below_store3 H1.out.below _ (by omega) _ _ _⟩
end
end Go.Proofs.Ytnkbkhlbogcfaaa
