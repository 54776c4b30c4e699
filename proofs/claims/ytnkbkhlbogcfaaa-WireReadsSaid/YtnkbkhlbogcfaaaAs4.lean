/- Something that is read, of both: a number of so many bytes. -/
import Derived.Test.YtnkbkhlbogcfaaaAs3
import Derived.Test.YtnkbkhlbogcfaaaK
set_option linter.unusedVariables false
set_option linter.unusedSimpArgs false
namespace Go.Proofs.Ytnkbkhlbogcfaaa
open Go.RowKit Go.Proofs.YtnkbkhlbogcfaaaW.PrintWords
noncomputable section

/-- a struct that is all zeros -/
abbrev R0 : Obj := .cells #[.slice none 0 0, .int .i64 0, .int .i64 0] 83
theorem Asks.stored {w W W2 : World} {A : Option Addr} {n c at_ at' g : Nat} {e e' : Int} {x : PutV} (h : Asks w W A n c at_ e x) (hA : Below W.heap.size W W2) (hz : W2.heap[g]? = some R0) (hg : W.heap.size ≤ g) :
    Asked w (((W2.setCell ⟨g, 0, none⟩ (.slice A n c)).setCell ⟨g, 1, none⟩ (.int .i64 at')).setCell ⟨g, 2, none⟩ (.int .i64 e')) g A n c at_ e at' e' x := by
  have h2 := h.go (below_store3 hA g hg (.slice A n c) (.int .i64 at') (.int .i64 e'))
  exact ⟨h2.below, h2.arg, h2.put, h2.res, row3_store hz, by have := h.size; omega⟩

set_option maxHeartbeats 4000000 in
set_option maxRecDepth 100000 in
theorem ask0 (p base n c c1 at_ : Nat) (e : Int) (A A1 : Option Addr) (b : List UInt8) (w : World) (x : PutV) (hk : x.k = 0) (hx : x.ok) (hR : RB w A b) (hl : b.length = n) (hr : RdB w base p A1 n c1 b at_ e) (hat : at_ ≤ n) (hnc : n ≤ c) (hn : n ≤ 1000) :
    Calls Try.prog 65 #[.pointer (some ⟨p, 0, none⟩), .agg #[.slice A n c, .int .i64 at_, .int .i64 e], .agg #[.int .i64 x.k, .int .i64 x.n, .int .i64 x.v, .string x.s]] w
      (AskQ w base p A A1 n c c1 b (askR b x at_ e).1 (askR b x at_ e).2) := by
  have e1 : askR b x at_ e = (rFixed b (wideN x.n) at_ e).2 := by unfold askR; rw [hk]; simp
  rw [e1]
  unfold AskQ
  obtain ⟨v, at', e', hq⟩ : ∃ v at' e', rFixed b (wideN x.n) at_ e = (v, at', e') := ⟨_, _, _, rfl⟩
  have KD := fun (wx : World) (hb : Below w.heap.size w wx) => dfixed_any (wideN x.n) n c at_ e A b wx (wideN_le _) (hR.below hb) hl hat hnc (by omega)
  have KP := fun (wx : World) (h : RdB wx base p A1 n c1 b at_ e) => fixedR_any (wideN x.n) p base n c1 at_ e A1 b wx (wideN_le _) h hat (by omega)
  rw [hq] at KD KP ⊢
  dsimp only at KD KP ⊢
  have HK := Lib.hid (And.intro KD KP)
  have HR := Lib.hid hr
  obtain ⟨xk, xn, xv, xs⟩ := x
  obtain ⟨_, ⟨a3, a4⟩, _, _⟩ := hx
  dsimp only at hk HK a3 a4 ⊢
  subst hk
  have HX := Lib.hid (asks w A n c at_ e ⟨0, xn, xv, xs⟩)
  obtain ⟨wn, hwn⟩ : ∃ wn, wn = wideN xn := ⟨_, rfl⟩
  have KW := Lib.hid (fun (wx : World) => (show Calls Try.prog 32 #[.int .i64 xn] wx fun e w' => e = .returned (.int .i64 wn) ∧ Below wx.heap.size wx w' by rw [hwn]; exact wide_any xn a3 a4 wx))
  rw [← hwn] at HK
  clear KD KP hR hl hr e1 hq hwn a3 a4
  go_enter Try.func65, Try.ntmps65
  go_wp2_with fail
  obtain ⟨W0, hW0⟩ : ∃ W0, W0 = ((w.alloc (.cells #[.slice A n c, .int .i64 at_, .int .i64 e] 83)).alloc (.cells #[.int .i64 0, .int .i64 xn, .int .i64 xv, .string xs] 71)).alloc (.cells #[.slice none 0 0, .int .i64 0, .int .i64 0] 83) := ⟨_, rfl⟩
  rw [← hW0]
  have HX := Lib.hid (show Asks w W0 A n c at_ e ⟨0, xn, xv, xs⟩ by rw [hW0]; exact HX.out)
  clear hW0
  have KC := Lib.hid (show ∀ w', Below W0.heap.size W0 w' → w'.cell? ⟨w.heap.size, 0, none⟩ = some (.slice A n c) ∧ w'.cell? ⟨w.heap.size, 1, none⟩ = some (.int .i64 at_) ∧ w'.cell? ⟨w.heap.size, 2, none⟩ = some (.int .i64 e) ∧ w'.cell? ⟨w.heap.size + 1, 1, none⟩ = some (.int .i64 xn) by
    intro w' hb
    have h := HX.out.go hb
    exact ⟨(row3_cells h.arg).1.1, (row3_cells h.arg).1.2.1, (row3_cells h.arg).1.2.2, (row4_cells h.put).2.1⟩)
  have hd0 : Below W0.heap.size W0 W0.drew := (Below.refl _ _).drew
  go_region_held3 (fun w' => w'.cell? ⟨w.heap.size, 0, none⟩ = some (.slice A n c) ∧ w'.cell? ⟨w.heap.size, 1, none⟩ = some (.int .i64 at_) ∧ w'.cell? ⟨w.heap.size, 2, none⟩ = some (.int .i64 e) ∧ w'.cell? ⟨w.heap.size + 1, 1, none⟩ = some (.int .i64 xn))
    (first | exact KC.out _ hd0 | exact KC.out _ (hd0.alloc (Nat.le_refl _) _) | exact KC.out _ hA1 | exact KC.out _ (hA1.alloc hA1.size _) | exact KC.out _ hA2 | exact KC.out _ (hA2.alloc hA2.size _) | exact KC.out _ (below_store3 hA2 _ hg2 _ _ _))
    (first
      | (go_at_call 32; with_reducible refine (KW.out _).mono ?_; rintro ex w1 ⟨rfl, hb1⟩; have hA1 : Below W0.heap.size W0 w1 := (((Below.refl W0.heap.size W0).alloc (Nat.le_refl _) R0).drew).trans (hb1.mono (by simp)); have hz1 : w1.heap[W0.heap.size]? = some R0 := (hb1.block W0.heap.size (by simp)).trans (by rw [heap_drew]; exact heap_alloc_new W0 _); have hg1 : W0.heap.size ≤ W0.heap.size := Nat.le_refl _)
      | (go_at_call 32; with_reducible refine (KW.out _).mono ?_; rintro ex w1 ⟨rfl, hb1⟩; have hA1 : Below W0.heap.size W0 w1 := hd0.trans (hb1.mono (by simp)))
      | (go_at_call 92; with_reducible refine (HK.out.1 _ (HX.out.below.trans (hA1.mono HX.out.below.size))).mono ?_; rintro ex w2 ⟨rfl, hb2⟩; have hA2 := hA1.trans (hb2.mono hA1.size); have hz2 := (hb2.block _ (blk_lt hz1)).trans hz1; have hg2 := hg1; obtain ⟨⟨y0, y1, y2⟩, ⟨z0, z1, z2⟩⟩ := row3_cells hz2)
      | (go_at_call 92; with_reducible refine (HK.out.1 _ (HX.out.below.trans ((hA1.alloc hA1.size R0).mono HX.out.below.size))).mono ?_; rintro ex w2 ⟨rfl, hb2⟩; have hA2 := (hA1.alloc hA1.size R0).trans (hb2.mono (hA1.alloc hA1.size R0).size); have hz2 : w2.heap[w1.heap.size]? = some R0 := (hb2.block _ (by simp)).trans (heap_alloc_new w1 _); have hg2 := hA1.size; obtain ⟨⟨y0, y1, y2⟩, ⟨z0, z1, z2⟩⟩ := row3_cells hz2)
      | (go_at_call 92; with_reducible refine (HK.out.1 _ (HX.out.below.trans (hA1.mono HX.out.below.size))).mono ?_; rintro ex w2 ⟨rfl, hb2⟩; have hA2 := hA1.trans (hb2.mono hA1.size)))
  all_goals
    first
      | (have hAs : Asked w (((w2.setCell ⟨w1.heap.size, 0, none⟩ (.slice A n c)).setCell ⟨w1.heap.size, 1, none⟩ (.int .i64 at')).setCell ⟨w1.heap.size, 2, none⟩ (.int .i64 e')) w1.heap.size A n c at_ e at' e' ⟨0, xn, xv, xs⟩ := HX.out.stored hA2 hz2 hg2
         obtain ⟨Wf, hWf⟩ : ∃ Wf, Wf = (((w2.setCell ⟨w1.heap.size, 0, none⟩ (.slice A n c)).setCell ⟨w1.heap.size, 1, none⟩ (.int .i64 at')).setCell ⟨w1.heap.size, 2, none⟩ (.int .i64 e')) := ⟨_, rfl⟩
         rw [← hWf] at hAs ⊢
         clear hWf
         obtain ⟨gN, hgN⟩ : ∃ g, g = w1.heap.size := ⟨_, rfl⟩
         rw [← hgN] at hAs ⊢; clear hgN)
      | (have hAs : Asked w (((w2.setCell ⟨W0.heap.size, 0, none⟩ (.slice A n c)).setCell ⟨W0.heap.size, 1, none⟩ (.int .i64 at')).setCell ⟨W0.heap.size, 2, none⟩ (.int .i64 e')) W0.heap.size A n c at_ e at' e' ⟨0, xn, xv, xs⟩ := HX.out.stored hA2 hz2 hg2
         obtain ⟨Wf, hWf⟩ : ∃ Wf, Wf = (((w2.setCell ⟨W0.heap.size, 0, none⟩ (.slice A n c)).setCell ⟨W0.heap.size, 1, none⟩ (.int .i64 at')).setCell ⟨W0.heap.size, 2, none⟩ (.int .i64 e')) := ⟨_, rfl⟩
         rw [← hWf] at hAs ⊢
         clear hWf
         obtain ⟨gN, hgN⟩ : ∃ g, g = W0.heap.size := ⟨_, rfl⟩
         rw [← hgN] at hAs ⊢; clear hgN)
      | (have hAs : Asked w (w2.alloc (.cells #[.slice A n c, .int .i64 at', .int .i64 e'] 83)) w2.heap.size A n c at_ e at' e' ⟨0, xn, xv, xs⟩ := (HX.out.go hA2).next (at' := at') (e' := e')
         obtain ⟨Wf, hWf⟩ : ∃ Wf, Wf = (w2.alloc (.cells #[.slice A n c, .int .i64 at', .int .i64 e'] 83)) := ⟨_, rfl⟩
         rw [← hWf] at hAs ⊢
         clear hWf
         obtain ⟨gN, hgN⟩ : ∃ g, g = w2.heap.size := ⟨_, rfl⟩
         rw [← hgN] at hAs ⊢; clear hgN)
    have H1 := Lib.hid hAs
    clear hAs
    obtain ⟨⟨n0, n1, n2⟩, _⟩ := row3_cells H1.out.next
    obtain ⟨_, m1, _, _⟩ := row4_cells H1.out.put
    have hw0 : Below Wf.heap.size Wf Wf.drew := (Below.refl _ _).drew
    have HRE := Lib.hid (HR.out.below H1.out.below)
    have HGB := Lib.hid (show ∀ w', Below Wf.heap.size Wf w' → w'.heap[gN]? = some (.cells #[.slice A n c, .int .i64 at', .int .i64 e'] 83 (0, 0)) ∧ w'.heap[w.heap.size + 1 + 1]? = some (.cells #[.slice none 0 0, .int .i64 0, .int .i64 0] 83 (0, 0)) ∧ w'.heap[w.heap.size + 1]? = some (.cells #[.int .i64 0, .int .i64 xn, .int .i64 xv, .string xs] 71 (0, 0)) from
      fun w' hb => ⟨(hb.block _ (blk_lt H1.out.next)).trans H1.out.next, (hb.block _ (blk_lt H1.out.res)).trans H1.out.res, (hb.block _ (blk_lt H1.out.put)).trans H1.out.put⟩)
    have hp := HR.out.lt
    have hgg := H1.out.g_gt
    go_wp2_with fail
    go_region_held3 (fun w' => w'.cell? ⟨gN, 0, none⟩ = some (.slice A n c) ∧ w'.cell? ⟨gN, 1, none⟩ = some (.int .i64 at') ∧ w'.cell? ⟨gN, 2, none⟩ = some (.int .i64 e') ∧ w'.cell? ⟨w.heap.size + 1, 1, none⟩ = some (.int .i64 xn))
      (first | exact And.intro n0 (And.intro n1 (And.intro n2 m1)) | exact q8 | exact q9 | exact q5)
      (first
        | (go_at_call 32; with_reducible refine (KW.out _).mono ?_; rintro ex w4 ⟨rfl, hb4⟩; have hb4' := hw0.trans (hb4.mono (by simp)); obtain ⟨hq1, hq2, hq3⟩ := HGB.out _ hb4'; have q8 := And.intro (row3_cells hq1).1.1 (And.intro (row3_cells hq1).1.2.1 (And.intro (row3_cells hq1).1.2.2 (row4_cells hq3).2.1)); have hre := HRE.out.below hb4')
        | (go_at_call 54; with_reducible refine (HK.out.2 _ hre).mono ?_; rintro ex w5 ⟨rfl, hr5, hm5⟩; have hs1 := (hm5.block _ (blk_lt hq1) (by omega) (by simp)).trans hq1; have hs2 := (hm5.block _ (blk_lt hq2) (by omega) (by simp)).trans hq2; have hs3 := (hm5.block _ (blk_lt hq3) (by omega) (by simp)).trans hq3; have q9 := And.intro (row3_cells hs1).1.1 (And.intro (row3_cells hs1).1.2.1 (And.intro (row3_cells hs1).1.2.2 (row4_cells hs3).2.1)); have q5' := store3_cells hs1 H1.out.g_gt (.slice A n c) (.int .i64 at') (.int .i64 e'); have q5 := And.intro q5'.1 (And.intro q5'.2.1 (And.intro q5'.2.2 (store_cell4 hs3 (Nat.lt_succ_self _) (.slice A n c) (.int .i64 at') (.int .i64 e')).2)); have q4 := row3_cells hs2; obtain ⟨⟨y0, y1, y2⟩, ⟨z0, z1, z2⟩⟩ := q4))
    have HF := Lib.hid (And.intro hr5 (And.intro (Mod.trans (mod_of_below (H1.out.below.trans (hb4'.mono H1.out.below.size)) p none) (Succ.refl _ _) hm5) hs2))
    clear hr5 hm5 hq1 hq2 hq3 q8 q9 q5 q5' hs1 hs2 hs3 hre hb4 hb4'
    go_wp2
    refine post_ct rfl (w.heap.size + 1 + 1) _ _ _ rfl (row3_store HF.out.2.2) rfl ?_
    exact ⟨rfl, HF.out.1.store3 (by omega) (blk_ne HR.out (by omega)) _ _ _, mod_store3 HF.out.2.1 (by omega) _ _ _⟩
/-- something that is read, of both: they do not part -/
theorem ask_any (p base n c c1 at_ : Nat) (e : Int) (A A1 : Option Addr) (b : List UInt8) (w : World) (x : PutV) (hx : x.ok) (hR : RB w A b) (hAp : ∀ ad, A = some ad → 0 < b.length → ad.block < p) (hl : b.length = n) (hr : RdB w base p A1 n c1 b at_ e) (hat : at_ ≤ n) (hnc : n ≤ c) (hn : n ≤ 1000) :
    Calls Try.prog 65 #[.pointer (some ⟨p, 0, none⟩), .agg #[.slice A n c, .int .i64 at_, .int .i64 e], .agg #[.int .i64 x.k, .int .i64 x.n, .int .i64 x.v, .string x.s]] w
      (AskQ w base p A A1 n c c1 b (askR b x at_ e).1 (askR b x at_ e).2) := by
  by_cases h0 : x.k = 0
  · exact ask0 p base n c c1 at_ e A A1 b w x h0 hx hR hl hr hat hnc hn
  by_cases h1 : x.k = 1
  · exact ask1 p base n c c1 at_ e A A1 b w x h1 hR hl hr hat hnc hn
  by_cases h2 : x.k = 2
  · exact ask2 p base n c c1 at_ e A A1 b w x h2 hR hl hr hat hnc hn
  by_cases h3 : x.k = 3
  · exact ask3 p base n c c1 at_ e A A1 b w x h3 hR hl hr hat hnc hn
  by_cases h4 : x.k = 4
  · exact ask4 p base n c c1 at_ e A A1 b w x h4 hR hl hr hat hnc hn
  by_cases h5 : x.k = 5
  · exact ask5 p base n c c1 at_ e A A1 b w x h5 hx hr
  · exact askRaw p base n c c1 at_ e A A1 b w x ⟨h0, h1, h2, h3, h4, h5⟩ hR hAp hl hr hat hnc hn
theorem askR_at (b : List UInt8) (x : PutV) (at_ : Nat) (e : Int) (h : at_ ≤ b.length) : (askR b x at_ e).1 ≤ b.length := by
  unfold askR
  split
  · exact (rRaw_at (e := e) (wideN x.n : Int) h).2.1
  · split
    · exact (rShort_at h).2.1
    · split
      · exact rSigned_at h
      · split
        · exact (rText_at h).1
        · split
          · exact rList_at _ h
          · split
            · exact h
            · exact (rRaw_at _ h).2.1
end
end Go.Proofs.Ytnkbkhlbogcfaaa
