/- WireReads: the walk. -/
import Derived.Test.YtnkbkhlbogcfaaaAs4
import Derived.Test.YtnkbkhlbogcfaaaL5
set_option linter.unusedVariables false
set_option linter.unusedSimpArgs false
namespace Go.Proofs.Ytnkbkhlbogcfaaa
open Go.RowKit Go.Proofs.YtnkbkhlbogcfaaaW.PrintWords
noncomputable section

theorem rleft_int (p base n c at_ : Nat) (e : Int) (A : Option Addr) (b : List UInt8) (w : World) (h : RdB w base p A n c b at_ e) (hat : at_ ≤ n) (hn : n ≤ 1000000) :
    Calls Try.prog 58 #[.pointer (some ⟨p, 0, none⟩)] w fun ex w' => ex = .returned (.int .i64 ((n : Int) - (at_ : Int))) ∧ Below w.heap.size w w' := by
  have h1 := rleft_any p base n c at_ e A b w h hat hn
  rw [show ((n - at_ : Nat) : Int) = (n : Int) - (at_ : Int) by omega] at h1
  exact h1

theorem row_store3 {w : World} {g h : Nat} {o : Obj} (hg : w.heap[g]? = some o) (hne : g ≠ h) (a b c : Value) :
    (((w.setCell ⟨h, 0, none⟩ a).setCell ⟨h, 1, none⟩ b).setCell ⟨h, 2, none⟩ c).heap[g]? = some o := by
  rw [Below.heap_setCell _ _ _ _ (by dsimp only; omega), Below.heap_setCell _ _ _ _ (by dsimp only; omega), Below.heap_setCell _ _ _ _ (by dsimp only; omega)]
  exact hg
theorem row_alloc {w : World} {g : Nat} {o : Obj} (hg : w.heap[g]? = some o) (q : Obj) : (w.alloc q).heap[g]? = some o := ((below_alloc (Below.refl w.heap.size w) q).block g (blk_lt hg)).trans hg

theorem ask_all (p base n c c1 at_ : Nat) (e : Int) (A A1 : Option Addr) (b : List UInt8) (w : World) (x : PutV) (at' : Nat) (e' : Int) (hq : askR b x at_ e = (at', e')) (hx : x.ok) (hR : RB w A b) (hAp : ∀ ad, A = some ad → 0 < b.length → ad.block < p) (hl : b.length = n) (hr : RdB w base p A1 n c1 b at_ e) (hat : at_ ≤ n) (hnc : n ≤ c) (hn : n ≤ 1000) :
    Calls Try.prog 65 #[.pointer (some ⟨p, 0, none⟩), .agg #[.slice A n c, .int .i64 at_, .int .i64 e], .agg #[.int .i64 x.k, .int .i64 x.n, .int .i64 x.v, .string x.s]] w
      fun ex w' => ex = .returned (.tuple #[.agg #[.slice A n c, .int .i64 at', .int .i64 e'], .bool true]) ∧ RdB w' base p A1 n c1 b at' e' ∧ Mod w w' p none := by
  have h := ask_any p base n c c1 at_ e A A1 b w x hx hR hAp hl hr hat hnc hn
  rw [hq] at h
  exact h

set_option maxHeartbeats 8000000 in
set_option maxRecDepth 100000 in
theorem wireReads_row {w : World} (A0 : Option Addr) (a0 : List UInt8) (c0 : Nat) (h0 : RB w A0 a0) (l0 : a0.length ≤ c0) (A : Option Addr) (l : List PutV) (c : Nat) (hP : PU w A l) (hc : l.length ≤ c) :
    Calls Try.prog 16 #[.slice A0 a0.length c0, .slice A l.length c] w fun e w' => e = .returned (.bool true) ∧ Below w.heap.size w w' := by
  obtain ⟨b, hb⟩ : ∃ a, a = few a0 200 := ⟨_, rfl⟩
  obtain ⟨n, hn⟩ : ∃ n, n = min a0.length 200 := ⟨_, rfl⟩
  have Lb : b.length = n := by rw [hb, hn, few_length]
  have Rb : RB w A0 b := by rw [hb]; exact few_rb h0 _
  have n3 : n ≤ 200 := by omega
  have nc : n ≤ c0 := by omega
  have HN := Lib.hid hn
  have HR := Lib.hid (And.intro Rb Lb)
  have hl0 := Lib.hid l0
  have hP' := Lib.hid hP
  obtain ⟨L, hL⟩ : ∃ L, L = l.length := ⟨_, rfl⟩
  have hLI : (L : Int) ≤ 9223372036854775807 := by have := hP.1; omega
  rw [← hL]
  have hLh := Lib.hid hL
  clear hb hn Lb Rb h0 l0 hP hL hc
  have nI : (n : Int) ≤ 200 := by omega
  have ncI : (n : Int) ≤ (c0 : Int) := by omega
  go_enter Try.func16, Try.ntmps16
  go_wp2_with fail
  refine (few_any A0 _ c0 200 _ hl0.out (by omega)).mono ?_
  rintro e w' ⟨rfl, rfl⟩
  rw [← HN.out]
  go_wp2_with fail
  refine (newReader_any b A0 n c0 _ HR.out.2 HR.out.1 (by omega)).mono ?_
  rintro e w1 ⟨A1, c1, p, rfl, hr1, hb1⟩
  have H1 := Lib.hid (And.intro hr1 hb1)
  clear hr1 hb1
  go_wp2_with fail
  obtain ⟨W, hW⟩ : ∃ W, W = w1.alloc (.cells #[.slice A0 n c0, .int .i64 0, .int .i64 0] 83) := ⟨_, rfl⟩
  rw [← hW]
  obtain ⟨gx, hgx⟩ : ∃ g, g = w1.heap.size := ⟨_, rfl⟩
  rw [← hgx]
  have hx1 : W.heap[gx]? = some (.cells #[.slice A0 n c0, .int .i64 0, .int .i64 0] 83 (0, 0)) := by rw [hW, hgx]; exact heap_alloc_new _ _
  have hbW : Below w1.heap.size w1 W := by rw [hW]; exact below_alloc (Below.refl _ _) _
  have hpx : p < gx := by rw [hgx]; exact H1.out.1.lt
  have hA1 : Ytnkbkhlbogcfaaa.blk A1 ≠ some gx := by intro q; have := H1.out.1.own.blk_lt gx q; omega
  have hgw : w.heap.size < gx := by have := H1.out.1.base_p; omega
  have HW := Lib.hid (And.intro hx1 (And.intro (H1.out.1.below hbW) (H1.out.2.trans (hbW.mono H1.out.2.size))))
  have HA1 := Lib.hid hA1
  clear hW hx1 hbW hA1 hgx
  go_loopw [7] (fun i wr => ∃ (k at_ : Nat) (e : Int), k ≤ L ∧ k ≤ 20 ∧ i = .int .i64 k ∧ at_ ≤ n ∧ RdB wr w.heap.size p A1 n c1 b at_ e ∧ wr.heap[gx]? = some (.cells #[.slice A0 n c0, .int .i64 at_, .int .i64 e] 83 (0, 0)) ∧ Below w.heap.size w wr)
    (fun i _ => L - (intOf i).toNat)
  case atStart => exact ⟨0, 0, 0, by omega, by omega, rfl, by omega, HW.out.2.1, HW.out.1, HW.out.2.2⟩
  case round =>
    obtain ⟨k, at_, e, hk1, hk2, rfl, hat, hrd, hxr, hb⟩ := hrel
    have HRd := Lib.hid hrd
    have HXr := Lib.hid hxr
    have HB := Lib.hid hb
    have k0 : (0 : Int) ≤ (k : Int) := by omega
    have atI : (at_ : Int) ≤ (n : Int) := by omega
    have at0 : (0 : Int) ≤ (at_ : Int) := by omega
    by_cases hgo : k < L ∧ k < 20
    · obtain ⟨g1, g2⟩ := hgo
      have j1 : (k : Int) < (L : Int) := by omega
      have j2 : (k : Int) < 20 := by omega
      obtain ⟨x, hx⟩ : ∃ x, l[k]? = some x := ⟨_, List.getElem?_eq_getElem (by have := hLh.out; omega)⟩
      have hxok := hP'.out.2.1 _ (List.mem_of_getElem? hx)
      obtain ⟨ad, had, e0, e1, e2, e3⟩ := (hP'.out.below HB.out).2.2 k _ hx
      have KS : ∀ w', w'.heap[gx]? = some (.cells #[.slice A0 n c0, .int .i64 at_, .int .i64 e] 83 (0, 0)) → Below w.heap.size w w' →
          (w'.cell? ⟨gx, 0, none⟩ = some (.slice A0 n c0) ∧ w'.cell? ⟨gx, 1, none⟩ = some (.int .i64 at_) ∧ w'.cell? ⟨gx, 2, none⟩ = some (.int .i64 e)) ∧ w'.cell? (ad.add (k * 4)) = some (.int .i64 x.k) ∧ w'.cell? ⟨(ad.add (k * 4)).block, (ad.add (k * 4)).off + 1, none⟩ = some (.int .i64 x.n) ∧
            w'.cell? ⟨(ad.add (k * 4)).block, (ad.add (k * 4)).off + 2, none⟩ = some (.int .i64 x.v) ∧ w'.cell? ⟨(ad.add (k * 4)).block, (ad.add (k * 4)).off + 3, none⟩ = some (.string x.s) := by
        intro w' h1 h
        obtain ⟨ad', had', q0, q1, q2, q3⟩ := (hP'.out.below h).2.2 k _ hx
        have he : ad = ad' := by rw [had] at had'; injection had'
        subst he
        exact ⟨rd_cells h1, q0, q1, q2, q3⟩
      have KS := Lib.hid KS
      obtain ⟨at', e', hq⟩ : ∃ at' e', askR b x at_ e = (at', e') := ⟨_, _, rfl⟩
      have hat' := askR_at b x at_ e (by have := HR.out.2; omega)
      have KA := fun (wx : World) (hb : Below w.heap.size w wx) (hr : RdB wx w.heap.size p A1 n c1 b at_ e) =>
        ask_all p w.heap.size n c0 c1 at_ e A0 A1 b wx x at' e' hq hxok (HR.out.1.below hb) (fun ad h h0 => Nat.lt_of_lt_of_le (HR.out.1.lt h h0) HRd.out.base_p) HR.out.2 hr hat nc (by omega)
      rw [hq] at hat'
      dsimp only at hat'
      rw [HR.out.2] at hat'
      have KA := Lib.hid KA
      subst had
      clear hx hq hxok e0 e1 e2 e3 hrd hxr hb
      have hd0 : Below wr.heap.size wr wr.drew := (Below.refl _ _).drew
      have ha0 : Below wr.heap.size wr (wr.alloc R0).drew := ((Below.refl wr.heap.size wr).alloc (Nat.le_refl _) R0).drew
      have hx0d : wr.drew.heap[gx]? = some (.cells #[.slice A0 n c0, .int .i64 at_, .int .i64 e] 83 (0, 0)) := by rw [heap_drew]; exact HXr.out
      have hx0a : (wr.alloc R0).drew.heap[gx]? = some (.cells #[.slice A0 n c0, .int .i64 at_, .int .i64 e] 83 (0, 0)) := by rw [heap_drew]; exact row_alloc HXr.out _
      have hz0a : (wr.alloc R0).drew.heap[wr.heap.size]? = some R0 := by rw [heap_drew]; exact heap_alloc_new wr _
      have HX0 := Lib.hid (And.intro hx0d (And.intro hx0a hz0a))
      clear hx0d hx0a hz0a
      have hS0 := KS.out wr.drew (by rw [heap_drew]; exact HXr.out) HB.out.drew
      have hS1 := KS.out (wr.alloc R0).drew (by rw [heap_drew]; exact row_alloc HXr.out _) (HB.out.trans (ha0.mono HB.out.size))
      have hs0 := KS.out wr HXr.out HB.out
      clear hS0 hS1
      go_wp2_with fail
      go_region_held3 (fun w' => (w'.cell? ⟨gx, 0, none⟩ = some (.slice A0 n c0) ∧ w'.cell? ⟨gx, 1, none⟩ = some (.int .i64 at_) ∧ w'.cell? ⟨gx, 2, none⟩ = some (.int .i64 e)) ∧ w'.cell? (ad.add (k * 4)) = some (.int .i64 x.k) ∧ w'.cell? ⟨(ad.add (k * 4)).block, (ad.add (k * 4)).off + 1, none⟩ = some (.int .i64 x.n) ∧
            w'.cell? ⟨(ad.add (k * 4)).block, (ad.add (k * 4)).off + 2, none⟩ = some (.int .i64 x.v) ∧ w'.cell? ⟨(ad.add (k * 4)).block, (ad.add (k * 4)).off + 3, none⟩ = some (.string x.s))
        (first | exact KS.out wr.drew (by rw [heap_drew]; exact HXr.out) HB.out.drew | exact KS.out (wr.alloc R0).drew (by rw [heap_drew]; exact row_alloc HXr.out _) (HB.out.trans (ha0.mono HB.out.size)) | exact KS.out _ hx4 hb4 | exact KS.out _ (row_alloc hx4 _) (hb4.alloc hb4.size _) | exact KS.out _ (row_store3 hx4 (by have := blk_lt HXr.out; omega) _ _ _) (below_store3 hb4 _ HB.out.size _ _ _))
        (first
          | (go_at_call 65; with_reducible refine (KA.out _ (HB.out.trans (ha0.mono HB.out.size)) (HRd.out.below ha0)).mono ?_; rintro ex w4 ⟨rfl, hr4, hm4⟩; have hz4 := (hm4.block _ (blk_lt HX0.out.2.2) (by have := HRd.out.lt; omega) (by simp)).trans HX0.out.2.2; have hx4 := (hm4.block gx (blk_lt HX0.out.2.1) (by omega) (by simp)).trans HX0.out.2.1; have hb4 := (HB.out.trans (ha0.mono HB.out.size)).trans (hm4.below (HRd.out.below ha0).base_le HRd.out.base_p (fun k hk => by cases hk)); obtain ⟨⟨y0, y1, y2⟩, ⟨z0, z1, z2⟩⟩ := row3_cells hz4)
          | (go_at_call 65; with_reducible refine (KA.out _ HB.out.drew (HRd.out.below hd0)).mono ?_; rintro ex w4 ⟨rfl, hr4, hm4⟩; have hx4 := (hm4.block gx (blk_lt HX0.out.1) (by omega) (by simp)).trans HX0.out.1; have hb4 := HB.out.drew.trans (hm4.below (HRd.out.below hd0).base_le HRd.out.base_p (fun k hk => by cases hk))))
      all_goals
        first
        | (have hAs : (((w4.setCell ⟨wr.heap.size, 0, none⟩ (.slice A0 n c0)).setCell ⟨wr.heap.size, 1, none⟩ (.int .i64 at')).setCell ⟨wr.heap.size, 2, none⟩ (.int .i64 e')).heap[wr.heap.size]? = some (.cells #[.slice A0 n c0, .int .i64 at', .int .i64 e'] 83 (0, 0)) ∧ (((w4.setCell ⟨wr.heap.size, 0, none⟩ (.slice A0 n c0)).setCell ⟨wr.heap.size, 1, none⟩ (.int .i64 at')).setCell ⟨wr.heap.size, 2, none⟩ (.int .i64 e')).heap[gx]? = some (.cells #[.slice A0 n c0, .int .i64 at_, .int .i64 e] 83 (0, 0)) ∧ RdB (((w4.setCell ⟨wr.heap.size, 0, none⟩ (.slice A0 n c0)).setCell ⟨wr.heap.size, 1, none⟩ (.int .i64 at')).setCell ⟨wr.heap.size, 2, none⟩ (.int .i64 e')) w.heap.size p A1 n c1 b at' e' ∧ Below w.heap.size w (((w4.setCell ⟨wr.heap.size, 0, none⟩ (.slice A0 n c0)).setCell ⟨wr.heap.size, 1, none⟩ (.int .i64 at')).setCell ⟨wr.heap.size, 2, none⟩ (.int .i64 e')) ∧ gx < wr.heap.size := ⟨row3_store hz4, row_store3 hx4 (by have := blk_lt HXr.out; omega) _ _ _, hr4.store3 (by have := HRd.out.lt; omega) (blk_ne HRd.out (Nat.le_refl _)) _ _ _, below_store3 hb4 _ HB.out.size _ _ _, blk_lt HXr.out⟩
           obtain ⟨Wf, hWf⟩ : ∃ Wf, Wf = (((w4.setCell ⟨wr.heap.size, 0, none⟩ (.slice A0 n c0)).setCell ⟨wr.heap.size, 1, none⟩ (.int .i64 at')).setCell ⟨wr.heap.size, 2, none⟩ (.int .i64 e')) := ⟨_, rfl⟩
           rw [← hWf] at hAs ⊢
           clear hWf
           obtain ⟨gN, hgN⟩ : ∃ g, g = wr.heap.size := ⟨_, rfl⟩
           rw [← hgN] at hAs ⊢
           clear hgN)
        | (have hAs : (w4.alloc (.cells #[.slice A0 n c0, .int .i64 at', .int .i64 e'] 83)).heap[w4.heap.size]? = some (.cells #[.slice A0 n c0, .int .i64 at', .int .i64 e'] 83 (0, 0)) ∧ (w4.alloc (.cells #[.slice A0 n c0, .int .i64 at', .int .i64 e'] 83)).heap[gx]? = some (.cells #[.slice A0 n c0, .int .i64 at_, .int .i64 e] 83 (0, 0)) ∧ RdB (w4.alloc (.cells #[.slice A0 n c0, .int .i64 at', .int .i64 e'] 83)) w.heap.size p A1 n c1 b at' e' ∧ Below w.heap.size w (w4.alloc (.cells #[.slice A0 n c0, .int .i64 at', .int .i64 e'] 83)) ∧ gx < w4.heap.size := ⟨heap_alloc_new w4 _, row_alloc hx4 _, hr4.below (below_alloc (Below.refl _ _) _), hb4.alloc hb4.size _, blk_lt hx4⟩
           obtain ⟨Wf, hWf⟩ : ∃ Wf, Wf = (w4.alloc (.cells #[.slice A0 n c0, .int .i64 at', .int .i64 e'] 83)) := ⟨_, rfl⟩
           rw [← hWf] at hAs ⊢
           clear hWf
           obtain ⟨gN, hgN⟩ : ∃ g, g = w4.heap.size := ⟨_, rfl⟩
           rw [← hgN] at hAs ⊢
           clear hgN)
        have HF := Lib.hid hAs
        obtain ⟨⟨n0, n1, n2⟩, _⟩ := row3_cells hAs.1
        obtain ⟨⟨x0, x1, x2⟩, ⟨v0, v1, v2⟩⟩ := row3_cells hAs.2.1
        clear hAs hr4 hm4 hb4 hs0
        try clear y0 y1 y2 z0 z1 z2 hz4
        clear hx4
        obtain ⟨WG, hWG⟩ : ∃ WG, WG = (((Wf.setCell ⟨gx, 0, none⟩ (.slice A0 n c0)).setCell ⟨gx, 1, none⟩ (.int .i64 at')).setCell ⟨gx, 2, none⟩ (.int .i64 e')) := ⟨_, rfl⟩
        have hG : WG.heap[gx]? = some (.cells #[.slice A0 n c0, .int .i64 at', .int .i64 e'] 83 (0, 0)) ∧ RdB WG w.heap.size p A1 n c1 b at' e' ∧ Below w.heap.size w WG := by
          rw [hWG]
          exact ⟨row3_store HF.out.2.1, HF.out.2.2.1.store3 (by omega) HA1.out _ _ _, below_store3 HF.out.2.2.2.1 _ (by omega) _ _ _⟩
        have HG := Lib.hid hG
        have hRdd := hG.2.1.below (Below.refl WG.heap.size WG).drew
        obtain ⟨⟨s0, s1, s2⟩, _⟩ := row3_cells hG.1
        have atI' : (at' : Int) ≤ (n : Int) := by omega
        have at0' : (0 : Int) ≤ (at' : Int) := by omega
        clear hG
        have hwr : IntKind.i64.wrap ((n : Int) - (at' : Int)) = (n : Int) - (at' : Int) := by rw [IntWalk.i64_left, IntWalk.wrap64_in _ ⟨by omega, by omega⟩]
        go_wp2_with fail
        rw [← hWG]
        clear hWG x0 x1 x2 v0 v1 v2 n0 n1 n2
        go_region_held3 (fun w' => w'.cell? ⟨gx, 1, none⟩ = some (.int .i64 at') ∧ w'.cell? ⟨gx, 2, none⟩ = some (.int .i64 e'))
          (first | exact And.intro s1 s2 | exact q6)
          (first
            | (go_at_call 49; with_reducible refine (rat_any p w.heap.size n c1 at' e' A1 b _ hRdd).mono ?_; rintro ex w5 ⟨rfl, rfl⟩)
            | (go_at_call 48; with_reducible refine (rerr_any p w.heap.size n c1 at' e' A1 b _ hRdd).mono ?_; rintro ex w5 ⟨rfl, rfl⟩)
            | (go_at_call 58; with_reducible refine (rleft_int p w.heap.size n c1 at' e' A1 b _ hRdd hat' (by omega)).mono ?_; rintro ex w6 ⟨rfl, hb6⟩; have hb6' := ((Below.refl WG.heap.size WG).drew).trans (hb6.mono (by simp)); have hx6 := (hb6'.block _ (blk_lt HG.out.1)).trans HG.out.1; have q6 := And.intro (rd_cells hx6).2.1 (rd_cells hx6).2.2))
        all_goals
          have H6 := Lib.hid (And.intro hx6 (And.intro (HG.out.2.1.below hb6') (HG.out.2.2.trans (hb6'.mono HG.out.2.2.size))))
          clear hx6 q6 hb6 hb6' hRdd
          go_wp2
          go_roundw
          case rel => exact ⟨k + 1, at', e', by omega, by omega, by go_num, hat', H6.out.2.1, H6.out.1, H6.out.2.2⟩
          case measure => simp [intOf]; omega
    · have hkI : (k : Int) = (L : Int) ∨ ((k : Int) < (L : Int) ∧ (k : Int) = 20) := by omega
      obtain ⟨⟨x0, x1, x2⟩, _⟩ := row3_cells HXr.out
      have hEnd := rend_any p w.heap.size n c1 at_ e A1 b wr HRd.out hat (by omega)
      clear hgo hrd hxr hb
      by_cases hfin : e = 0 ∧ at_ < n
      · rw [if_pos hfin] at hEnd
        obtain ⟨rfl, hlt⟩ := hfin
        have ltI : (at_ : Int) < (n : Int) := by omega
        have HE := Lib.hid hEnd
        clear hEnd
        rcases hkI with hkI | ⟨hkI, hkJ⟩
        all_goals
          go_wp2_with fail
          refine HE.out.mono ?_
          rintro ex u1 ⟨rfl, hr, hm⟩
          have R1 := Lib.hid hr
          have B1 := Lib.hid (HB.out.trans (hm.below HRd.out.base_le HRd.out.base_p (fun k hk => by cases hk)))
          clear hr hm
          go_wp2_with fail
          refine (rerr_any p w.heap.size n c1 at_ _ A1 b _ R1.out).mono ?_
          rintro ex u2 ⟨rfl, rfl⟩
          go_wp2_with fail
          refine ((lives01_any _).mono (fun ex w9 h => And.intro h.1 (B1.out.trans (h.2.mono B1.out.size)))).mono ?_
          rintro ex w8 ⟨rfl, hb8⟩
          have HB8 := Lib.hid hb8
          clear hb8
          go_wp2
          go_ret
          exact ⟨rfl, HB8.out⟩
      · rw [if_neg hfin] at hEnd
        have HE := Lib.hid hEnd
        clear hEnd
        have hc : (e = 0 ∧ (at_ : Int) = (n : Int)) ∨ (e == 0) = false := by
          by_cases h0 : e = 0
          · exact .inl ⟨h0, by have : ¬ at_ < n := fun h => hfin ⟨h0, h⟩; omega⟩
          · exact .inr (by simp [h0])
        clear hfin
        rcases hc with ⟨rfl, hge⟩ | hne
        all_goals
          rcases hkI with hkI | ⟨hkI, hkJ⟩
          all_goals
            go_wp2_with fail
            refine HE.out.mono ?_
            rintro ex u1 ⟨rfl, hr, hm⟩
            have R1 := Lib.hid hr
            have B1 := Lib.hid (HB.out.trans (hm.below HRd.out.base_le HRd.out.base_p (fun k hk => by cases hk)))
            clear hr hm
            go_wp2_with fail
            refine (rerr_any p w.heap.size n c1 at_ _ A1 b _ R1.out).mono ?_
            rintro ex u2 ⟨rfl, rfl⟩
            go_wp2_with fail
            refine ((lives01_any _).mono (fun ex w9 h => And.intro h.1 (B1.out.trans (h.2.mono B1.out.size)))).mono ?_
            rintro ex w8 ⟨rfl, hb8⟩
            have HB8 := Lib.hid hb8
            clear hb8
            go_wp2
            go_ret
            exact ⟨rfl, HB8.out⟩
end
end Go.Proofs.Ytnkbkhlbogcfaaa
