/- Something that is read, of both: an error that is noted; bytes. -/
import Derived.Test.YtnkbkhlbogcfaaaAs2
set_option linter.unusedVariables false
set_option linter.unusedSimpArgs false
namespace Go.Proofs.Ytnkbkhlbogcfaaa
open Go.RowKit Go.Proofs.YtnkbkhlbogcfaaaW.PrintWords
noncomputable section

set_option maxHeartbeats 4000000 in
set_option maxRecDepth 100000 in
theorem ask5 (p base n c c1 at_ : Nat) (e : Int) (A A1 : Option Addr) (b : List UInt8) (w : World) (x : PutV) (hk : x.k = 5) (hx : x.ok) (hr : RdB w base p A1 n c1 b at_ e) :
    Calls Try.prog 65 #[.pointer (some ⟨p, 0, none⟩), .agg #[.slice A n c, .int .i64 at_, .int .i64 e], .agg #[.int .i64 x.k, .int .i64 x.n, .int .i64 x.v, .string x.s]] w
      (AskQ w base p A A1 n c c1 b (askR b x at_ e).1 (askR b x at_ e).2) := by
  have e1 : askR b x at_ e = (at_, if e = 0 then x.v.tmod 10 else e) := by unfold askR; rw [hk]; simp
  rw [e1]
  unfold AskQ
  dsimp only
  have HR := Lib.hid hr
  obtain ⟨xk, xn, xv, xs⟩ := x
  obtain ⟨_, _, ⟨v1, v2⟩, _⟩ := hx
  dsimp only at hk v1 v2 ⊢
  subst hk
  have hplt := hr.lt
  clear hr e1
  by_cases h0 : e = 0
  · subst h0
    rw [if_pos rfl]
    have HX := Lib.hid (asks w A n c at_ (xv.tmod 10) ⟨5, xn, xv, xs⟩)
    go_enter Try.func65, Try.ntmps65
    go_wp2_with fail
    refine (rfail_any (xv.tmod 10) p base n c1 at_ 0 A1 b _ (HR.out.below HX.out.below)).mono ?_
    rintro ex w1 ⟨rfl, hr1, hm1⟩
    rw [if_pos rfl] at hr1
    have hq1 := (hm1.block _ (blk_lt HX.out.arg) (by omega) (by simp)).trans HX.out.arg
    have hq2 := (hm1.block _ (blk_lt HX.out.res) (by omega) (by simp)).trans HX.out.res
    obtain ⟨⟨x0, x1, x2⟩, _⟩ := row3_cells hq1
    obtain ⟨⟨y0, y1, y2⟩, ⟨z0, z1, z2⟩⟩ := row3_cells hq2
    have HF := Lib.hid (And.intro hr1 (And.intro (Mod.trans (mod_of_below HX.out.below p none) (Succ.refl _ _) hm1) hq2))
    clear hr1 hm1 hq1 hq2
    go_wp2
    refine post_ct rfl (w.heap.size + 1 + 1) _ _ _ rfl (row3_store HF.out.2.2) rfl ?_
    exact ⟨rfl, HF.out.1.store3 (by omega) (blk_ne HR.out (by omega)) _ _ _, mod_store3 HF.out.2.1 (by omega) _ _ _⟩
  · rw [if_neg h0]
    have g1 : (e == 0) = false := by simp [h0]
    have HX := Lib.hid (asks w A n c at_ (e) ⟨5, xn, xv, xs⟩)
    go_enter Try.func65, Try.ntmps65
    go_wp2_with fail
    refine (rfail_any (xv.tmod 10) p base n c1 at_ e A1 b _ (HR.out.below HX.out.below)).mono ?_
    rintro ex w1 ⟨rfl, hr1, hm1⟩
    rw [if_neg h0] at hr1
    have hq1 := (hm1.block _ (blk_lt HX.out.arg) (by omega) (by simp)).trans HX.out.arg
    have hq2 := (hm1.block _ (blk_lt HX.out.res) (by omega) (by simp)).trans HX.out.res
    obtain ⟨⟨x0, x1, x2⟩, _⟩ := row3_cells hq1
    obtain ⟨⟨y0, y1, y2⟩, ⟨z0, z1, z2⟩⟩ := row3_cells hq2
    have HF := Lib.hid (And.intro hr1 (And.intro (Mod.trans (mod_of_below HX.out.below p none) (Succ.refl _ _) hm1) hq2))
    clear hr1 hm1 hq1 hq2
    go_wp2
    refine post_ct rfl (w.heap.size + 1 + 1) _ _ _ rfl (row3_store HF.out.2.2) rfl ?_
    exact ⟨rfl, HF.out.1.store3 (by omega) (blk_ne HR.out (by omega)) _ _ _, mod_store3 HF.out.2.1 (by omega) _ _ _⟩

theorem RB.mod {w w' : World} {A : Option Addr} {b : List UInt8} {p : Nat} (h : RB w A b) (hm : Mod w w' p none) (hA : ∀ ad, A = some ad → 0 < b.length → ad.block < p) : RB w' A b :=
  h.keep fun ad e hn => hm.block _ (h.lt e hn) (Nat.ne_of_lt (hA ad e hn)) (by simp)
theorem same_self (a : List UInt8) (A B : Option Addr) (n c d : Nat) (w : World) (hn : a.length = n) (hA : RB w A a) (hB : RB w B a) (hs : n < 100000000) :
    Calls Try.prog 38 #[.slice A n c, .slice B n d] w fun e w' => e = .returned (.bool true) ∧ Below w.heap.size w w' := by
  have h := same_any a a A B n n c d w hn hn hA hB hs
  simp only [decide_true] at h
  exact h

set_option maxHeartbeats 4000000 in
set_option maxRecDepth 100000 in
theorem askRaw (p base n c c1 at_ : Nat) (e : Int) (A A1 : Option Addr) (b : List UInt8) (w : World) (x : PutV) (hk : x.k ≠ 0 ∧ x.k ≠ 1 ∧ x.k ≠ 2 ∧ x.k ≠ 3 ∧ x.k ≠ 4 ∧ x.k ≠ 5) (hR : RB w A b) (hAp : ∀ ad, A = some ad → 0 < b.length → ad.block < p) (hl : b.length = n) (hr : RdB w base p A1 n c1 b at_ e) (hat : at_ ≤ n) (hnc : n ≤ c) (hn : n ≤ 1000) :
    Calls Try.prog 65 #[.pointer (some ⟨p, 0, none⟩), .agg #[.slice A n c, .int .i64 at_, .int .i64 e], .agg #[.int .i64 x.k, .int .i64 x.n, .int .i64 x.v, .string x.s]] w
      (AskQ w base p A A1 n c c1 b (askR b x at_ e).1 (askR b x at_ e).2) := by
  obtain ⟨xk, xn, xv, xs⟩ := x
  obtain ⟨k0, k1, k2, k3, k4, k5⟩ := hk
  dsimp only at k0 k1 k2 k3 k4 k5 ⊢
  have e1 : askR b ⟨xk, xn, xv, xs⟩ at_ e = (rRaw b xn at_ e).2 := by unfold askR; simp [k0, k1, k2, k3, k4, k5]
  rw [e1]
  unfold AskQ
  have hvl := (rRaw_at (e := e) (b := b) (at_ := at_) xn (by omega)).2.2
  obtain ⟨v, at', e', hq⟩ : ∃ v at' e', rRaw b xn at_ e = (v, at', e') := ⟨_, _, _, rfl⟩
  have KD := fun (wx : World) (hb : Below w.heap.size w wx) => draw_any xn n c at_ e A b wx (hR.below hb) hl hat hnc (by omega)
  have KP := fun (wx : World) (h : RdB wx base p A1 n c1 b at_ e) => rawR_any xn p base n c1 at_ e A1 b wx h hat (by omega)
  rw [hq] at KD KP hvl ⊢
  dsimp only at KD KP hvl ⊢
  have HK := Lib.hid (And.intro KD KP)
  have HR := Lib.hid hr
  have HB := Lib.hid (And.intro hR hAp)
  have HX := Lib.hid (asks w A n c at_ e ⟨xk, xn, xv, xs⟩)
  have b0 : (xk == 0) = false := by simp [k0]
  have b1 : (xk == 1) = false := by simp [k1]
  have b2 : (xk == 2) = false := by simp [k2]
  have b3 : (xk == 3) = false := by simp [k3]
  have b4 : (xk == 4) = false := by simp [k4]
  have b5 : (xk == 5) = false := by simp [k5]
  have vl : v.length ≤ 1000 := by omega
  obtain ⟨vn, hvn⟩ : ∃ vn, vn = v.length := ⟨_, rfl⟩
  rw [← hvn] at HK
  have HV := Lib.hid (And.intro hvn vl)
  clear KD KP hR hAp hl hr e1 hq hvl k0 k1 k2 k3 k4 k5 hvn vl
  go_enter Try.func65, Try.ntmps65
  go_wp2_with fail
  refine (HK.out.1 _ HX.out.below).mono ?_
  rintro ex w1 ⟨A2, c2, rfl, hc2, hrb2, hb1⟩
  have hA := (HX.out.go hb1).next (at' := at') (e' := e')
  obtain ⟨W, hW⟩ : ∃ W, W = w1.alloc (.cells #[.slice A n c, .int .i64 at', .int .i64 e'] 83) := ⟨_, rfl⟩
  rw [← hW] at hA
  obtain ⟨⟨y0, y1, y2⟩, ⟨z0, z1, z2⟩⟩ := row3_cells hA.res
  have H1 := Lib.hid hA
  have HRB := Lib.hid hrb2
  clear hb1 hA hrb2
  go_wp2_with fail
  rw [← hW]
  have HRE := Lib.hid (HR.out.below H1.out.below)
  have hbd : Below W.heap.size W W.drew := (Below.refl _ _).drew
  have HGN := Lib.hid (show ∀ w', Mod W.drew w' p none → w'.heap[w1.heap.size]? = some (.cells #[.slice A n c, .int .i64 at', .int .i64 e'] 83 (0, 0)) ∧ w'.heap[w.heap.size + 1 + 1]? = some (.cells #[.slice none 0 0, .int .i64 0, .int .i64 0] 83 (0, 0)) ∧ w'.heap[w.heap.size + 1]? = some (.cells #[.int .i64 xk, .int .i64 xn, .int .i64 xv, .string xs] 71 (0, 0)) by
    intro w' hm
    have hp := HR.out.lt
    have hg := H1.out.g_gt
    refine ⟨?_, ?_, ?_⟩
    · rw [hm.block _ (by rw [heap_drew]; exact blk_lt H1.out.next) (by omega) (by simp), heap_drew]; exact H1.out.next
    · rw [hm.block _ (by rw [heap_drew]; exact blk_lt H1.out.res) (by omega) (by simp), heap_drew]; exact H1.out.res
    · rw [hm.block _ (by rw [heap_drew]; exact blk_lt H1.out.put) (by omega) (by simp), heap_drew]; exact H1.out.put)
  obtain ⟨⟨n0, n1, n2⟩, _⟩ := row3_cells H1.out.next
  obtain ⟨_, m1, _, _⟩ := row4_cells H1.out.put
  clear hW
  go_region_held3 (fun w' => w'.cell? ⟨w1.heap.size, 0, none⟩ = some (.slice A n c) ∧ w'.cell? ⟨w1.heap.size, 1, none⟩ = some (.int .i64 at') ∧ w'.cell? ⟨w1.heap.size, 2, none⟩ = some (.int .i64 e') ∧ w'.cell? ⟨w.heap.size + 1, 1, none⟩ = some (.int .i64 xn))
    (first | exact And.intro n0 (And.intro n1 (And.intro n2 m1)) | exact q8 | exact q9 | exact q5)
    (first
      | (go_at_call 42; with_reducible refine (HK.out.2 _ (HRE.out.below hbd)).mono ?_; rintro ex w4 ⟨A4, c4, rfl, ho4, hr4, hm4⟩; obtain ⟨hq1, hq2, hq3⟩ := HGN.out _ hm4; have q8 := And.intro (row3_cells hq1).1.1 (And.intro (row3_cells hq1).1.2.1 (And.intro (row3_cells hq1).1.2.2 (row4_cells hq3).2.1)); have hrv := HRB.out _ (RB.mod ((HB.out.1.below H1.out.below).below hbd) hm4 HB.out.2))
      | (go_at_call 38; with_reducible refine (same_self v A4 A2 vn c4 c2 _ HV.out.1.symm ho4.rb hrv (by have := HV.out; omega)).mono ?_; rintro ex w5 ⟨rfl, hb5⟩; have hs1 := (hb5.block _ (blk_lt hq1)).trans hq1; have hs2 := (hb5.block _ (blk_lt hq2)).trans hq2; have hs3 := (hb5.block _ (blk_lt hq3)).trans hq3; have q9 := And.intro (row3_cells hs1).1.1 (And.intro (row3_cells hs1).1.2.1 (And.intro (row3_cells hs1).1.2.2 (row4_cells hs3).2.1)); have q5' := store3_cells hs1 H1.out.g_gt (.slice A n c) (.int .i64 at') (.int .i64 e'); have q5 := And.intro q5'.1 (And.intro q5'.2.1 (And.intro q5'.2.2 (store_cell4 hs3 (Nat.lt_succ_self _) (.slice A n c) (.int .i64 at') (.int .i64 e')).2)); have q4 := row3_cells hs2; obtain ⟨⟨y0, y1, y2⟩, ⟨z0, z1, z2⟩⟩ := q4))
  have hr5 := hr4.below hb5
  have HF := Lib.hid (And.intro hr5 (And.intro (Mod.trans (Mod.trans (mod_of_below H1.out.below.drew p none) (Succ.refl _ _) hm4) (Succ.refl _ _) (mod_of_below hb5 p none)) hs2))
  clear hr4 hm4 hq1 hq2 hq3 q8 q9 q5 q5' hs1 hs2 hs3 hr5 hb5 hrv ho4
  go_wp2
  refine post_ct rfl (w.heap.size + 1 + 1) _ _ _ rfl (row3_store HF.out.2.2) rfl ?_
  have hlt := HR.out.lt
  exact ⟨rfl, HF.out.1.store3 (by omega) (blk_ne HR.out (by omega)) _ _ _, mod_store3 HF.out.2.1 (by omega) _ _ _⟩
end
end Go.Proofs.Ytnkbkhlbogcfaaa
