/- SectionBodies: the walk. -/
import Derived.Test.YtnkbkhlbogcfaaaRg
import Derived.Test.YtnkbkhlbogcfaaaW13
import Derived.Test.YtnkbkhlbogcfaaaSi
import Derived.OpenShut
import Derived.BigRegion
import Derived.Deep.RegionHeld3
set_option linter.unusedVariables false
set_option linter.unusedSimpArgs false
namespace Go.Proofs.Ytnkbkhlbogcfaaa
open Go.RowKit Go.Proofs.YtnkbkhlbogcfaaaW.PrintWords
noncomputable section

theorem stB_mono (l : List SecV) {i j : Nat} (h : i ≤ j) : stB l i ≤ stB l j := by
  unfold stB bodyB
  have e := List.take_append_drop i (l.take j)
  rw [List.take_take, Nat.min_eq_left h] at e
  rw [← e, List.flatMap_append, List.length_append]; omega

set_option maxHeartbeats 4000000 in
set_option maxRecDepth 100000 in
theorem sectionBodies_row {w : World} (A : Option Addr) (l : List SecV) (c : Nat) (hS : SE w A l) (hc : l.length ≤ c) (y : Int) (wy : (Lit.int .i64 y).wf = true) (z : Int) (wz : (Lit.int .i64 z).wf = true) (x0 x1 x2 x3 : UInt8) :
    Calls Try.prog 19 #[.slice A l.length c, .int .i64 y, .int .i64 z, .agg #[.int .u8 (x0.toNat : Int), .int .u8 (x1.toNat : Int), .int .u8 (x2.toNat : Int), .int .u8 (x3.toNat : Int)]] w fun e w' => e = .returned (.bool true) ∧ Below w.heap.size w w' := by
  obtain ⟨z1, z2⟩ := bounds_i64 wz
  obtain ⟨y1, y2⟩ := bounds_i64 wy
  have KY := Lib.hid (fun (m : Nat) (hm : 0 < m) (hm2 : (m : Int) ≤ 9223372036854775807) (wx : World) => around_any y m hm hm2 y1 y2 wx)
  have KZ := Lib.hid (fun (m : Nat) (hm : 0 < m) (hm2 : (m : Int) ≤ 9223372036854775807) (wx : World) => around_any z m hm hm2 z1 z2 wx)
  clear wy wz y1 y2 z1 z2
  have hb0 : Below w.heap.size w (w.alloc (.cells (arr4 [x0, x1, x2, x3]) 23)) := below_alloc (Below.refl _ _) _
  have hx0 : (w.alloc (.cells (arr4 [x0, x1, x2, x3]) 23)).heap[w.heap.size]? = some (.cells (arr4 [x0, x1, x2, x3]) 23 (0, 0)) := heap_alloc_new w _
  have HG := Lib.hid (good_false l A l.length c (w.alloc (.cells (arr4 [x0, x1, x2, x3]) 23)) rfl (hS.below hb0))
  have H00 := Lib.hid (And.intro hb0 hx0)
  obtain ⟨L, hL⟩ : ∃ L, L = l.length := ⟨_, rfl⟩
  rw [← hL] at HG ⊢
  clear hS hc hL hb0 hx0
  go_enter Try.func19, Try.ntmps19
  go_wp2_with fail
  refine HG.out.mono ?_
  rintro e w1 ⟨A1, n1, c1, rfl, hn, ho1, hs1, hb1⟩
  have hsz : w.heap.size < (w.alloc (.cells (arr4 [x0, x1, x2, x3]) 23)).heap.size := by simp
  have HX1 := Lib.hid ((hb1.block w.heap.size hsz).trans H00.out.2)
  obtain ⟨gl, hgl⟩ : ∃ gl, gl = goodL false l := ⟨_, rfl⟩
  have HM : May 3 (goodL false l) := goodL_may 3 (by omega) l
  have H100 := goodL_100 false l
  rw [← hgl] at ho1 hs1 HM H100
  have hlen := ho1.len
  have HF := Lib.hid (file_ok HM H100)
  have HFT := Lib.hid (fun n p k x y => file_turned HM H100 (n := n) (p := p) (k := k) (x := x) (y := y))
  have HFL := file_len HM H100
  have HM := Lib.hid HM
  have H100 := Lib.hid H100
  have H1 := Lib.hid (And.intro hs1 (And.intro (H00.out.1.trans (hb1.mono H00.out.1.size)) hlen))
  have hsz1 : w.heap.size < w1.heap.size := Nat.lt_of_lt_of_le hsz hb1.size
  clear ho1 hs1 hb1 hgl hlen HG H00 hsz
  go_wp2_with fail
  refine (rwrite_any 3 gl A1 n1 c1 _ H1.out.2.2 H1.out.1 HM.out H100.out).mono ?_
  rintro e w2 ⟨A2, N, c2, rfl, hN, ho2, hb2⟩
  obtain ⟨b, hbe⟩ : ∃ b, b = fileH 3 gl := ⟨_, rfl⟩
  have hfb : fileB 3 gl = sealL b := by rw [hbe]; rfl
  rw [hfb] at ho2 HF
  rw [← hbe] at HF HFT HFL
  obtain ⟨n, hn2⟩ : ∃ n, n = b.length := ⟨_, rfl⟩
  rw [← hn2] at HFL
  have hst : n = stB gl n1 := by rw [HFL, ← H1.out.2.2]; unfold stB; rw [List.take_length]
  have HST := Lib.hid hst
  have hNn : N = n + 4 := by have h := ho2.len; rw [sealL_length, ← hn2] at h; exact h.symm
  subst hNn
  have HX2 := Lib.hid ((hb2.block w.heap.size hsz1).trans HX1.out)
  obtain ⟨g, rfl, hg, hgl⟩ := ho2.form (by omega)
  have hgx : w.heap.size < g := Nat.lt_of_lt_of_le hsz1 hg
  have HG := Lib.hid (And.intro hgx hgl)
  have HO1 := Lib.hid (ho2.lower (Nat.le_of_lt hsz1))
  have HB1 := Lib.hid (H1.out.2.1.trans (hb2.mono (Nat.le_of_lt hsz1)))
  have HSE := Lib.hid (H1.out.1.below hb2)
  have HL := Lib.hid H1.out.2.2
  have HBL := Lib.hid hn2
  clear ho2 hb2 hfb hbe hn2 hg hgl hgx HM H1 HX1 hsz1 HFL hst
  have x0len : ([x0, x1, x2, x3] : List UInt8).length = 4 := rfl
  obtain ⟨x, hx⟩ : ∃ x, x = [x0, x1, x2, x3] := ⟨_, rfl⟩
  rw [← hx] at HX2 x0len
  have hxl := Lib.hid x0len
  clear hx x0len
  have hseal : (sealL b).length = n + 4 := by rw [sealL_length, ← HBL.out]
  have HS := Lib.hid hseal
  clear hseal
  by_cases hn0 : n1 = 0
  · subst hn0
    go_wp2_with fail
    refine (lives16_any HB1.out).mono ?_
    rintro e w4 ⟨rfl, hb4⟩
    have HB4 := Lib.hid hb4
    clear hb4
    go_wp2
    go_ret
    exact ⟨rfl, HB4.out⟩
  have b1 : ((n1 : Int) == 0) = false := by simp; omega
  go_wp2_with fail
  have hp := arN_lt y (m := n1) (by omega)
  refine (KY.out n1 (by omega) (by omega) _).mono ?_
  rintro e w2' ⟨rfl, rfl⟩
  obtain ⟨w2, rfl⟩ : ∃ u, u = w2' := ⟨_, rfl⟩
  obtain ⟨nn, hpe⟩ : ∃ p, p = arN y n1 := ⟨_, rfl⟩
  rw [← hpe] at hp ⊢
  clear hpe KY
  go_wp2_with fail
  refine (rspans_any gl (some ⟨g, 0, none⟩) (n + 4) c2 A1 n1 c1 _ HL.out HSE.out H100.out hn (by rw [HST.out])).mono ?_
  rintro e w3 ⟨gs, t, rfl, hp3, hwt, hb3⟩
  obtain ⟨v, hv⟩ : ∃ v, gl[nn]? = some v := ⟨_, List.getElem?_eq_getElem (by have := HL.out; omega)⟩
  have ht := hwt.at_ nn v (Nat.zero_le _) hv
  have q0 := hp3.cells (g := gs) rfl _ _ (spCells_at ht).1
  have q1 := hp3.cells (g := gs) rfl _ _ (spCells_at ht).2
  rw [add_plain] at q0 q1
  have hvl := H100.out v (List.mem_of_getElem? hv)
  have hsn : stB gl nn + v.b.length + 4 ≤ n := by rw [← stB_succ hv, HST.out]; exact stB_mono gl (by omega)
  obtain ⟨s, hs⟩ : ∃ s, s = stB gl nn := ⟨_, rfl⟩
  obtain ⟨m, hm⟩ : ∃ m, m = v.b.length := ⟨_, rfl⟩
  rw [← hs] at q0 q1 hsn
  rw [← hm] at q1 hvl hsn
  dsimp only at q0 q1
  have HV := Lib.hid (And.intro hv (And.intro hs hm))
  have hwsz : w.heap.size < w2.heap.size := Nat.lt_trans HG.out.1 HG.out.2
  obtain ⟨w4, hw4⟩ : ∃ w4, w4 = w3.alloc (.cells #[.int .i64 (s : Int), .int .i64 ((s : Int) + (m : Int))] 93) := ⟨_, rfl⟩
  have hb4 : Below w3.heap.size w3 w4 := by rw [hw4]; exact below_alloc (Below.refl _ _) _
  have hsp4 : w4.heap[w3.heap.size]? = some (.cells #[.int .i64 (s : Int), .int .i64 ((s : Int) + (m : Int))] 93 (0, 0)) := by rw [hw4]; exact heap_alloc_new w3 _
  have HW4 := Lib.hid hw4
  have hgs : g < w3.heap.size := Nat.lt_of_lt_of_le HG.out.2 hb3.size
  obtain ⟨sp, hsp⟩ : ∃ sp, sp = w3.heap.size := ⟨_, rfl⟩
  have HBA := Lib.hid (fun (R : Obj) => (HB1.out.trans (hb3.mono HB1.out.size)).trans ((below_alloc (Below.refl w3.heap.size w3) R).mono (Nat.le_trans HB1.out.size hb3.size)))
  have HB4 := Lib.hid ((HB1.out.trans (hb3.mono HB1.out.size)).trans (hb4.mono (Nat.le_trans HB1.out.size hb3.size)))
  have HX4 := Lib.hid ((hb4.block w.heap.size (Nat.lt_of_lt_of_le hwsz hb3.size)).trans ((hb3.block w.heap.size hwsz).trans HX2.out))
  have HO4 := Lib.hid ((HO1.out.below hb3).below hb4)
  rw [← hsp] at hsp4 hgs
  have HSP := Lib.hid hsp4
  have HSPE := Lib.hid hsp
  have HGS := Lib.hid hgs
  clear hv hs hm ht hwt hp3 hwsz hw4 hb4 hsp4 hsp hgs hb3 HX2 HO1 HB1
  have i1 : (0 : Int) ≤ (nn : Int) := by omega
  have i2 : (nn : Int) < (n1 : Int) := by omega
  by_cases hm0 : m = 0
  · have b2 : ((s : Int) == (s : Int) + (m : Int)) = true := by simp [hm0]
    go_wp2_with fail
    refine (lives16_any (HBA.out _)).mono ?_
    rintro e w5 ⟨rfl, hb5⟩
    have HB5 := Lib.hid hb5
    clear hb5
    go_wp2
    go_ret
    exact ⟨rfl, HB5.out⟩
  have b2 : ((s : Int) == (s : Int) + (m : Int)) = false := by simp; omega
  have hd := arN_lt z (m := m) (by omega)
  have KZm := Lib.hid (KZ.out m (by omega) (by omega))
  obtain ⟨d, hde⟩ : ∃ d, d = arN z m := ⟨_, rfl⟩
  rw [← hde] at hd KZm
  clear hde KZ
  go_wp2_with fail
  rw [← HW4.out, ← HSPE.out]
  have KS := Lib.hid (show ∀ (wx : World), wx.heap = w4.heap → wx.cell? ⟨sp, 0, none⟩ = some (.int .i64 (s : Int)) ∧ wx.cell? ⟨sp, 1, none⟩ = some (.int .i64 ((s : Int) + (m : Int))) by
    intro wx hwx
    have h := HSP.out
    rw [← hwx] at h
    exact ⟨cell_of_row wx sp 0 _ _ _ h, cell_of_row wx sp 1 _ _ _ h⟩)
  have hms : (s : Int) + (m : Int) - (s : Int) = (m : Int) := by omega
  have hwm : IntKind.i64.wrap (m : Int) = (m : Int) := IntWalk.i64_in _ (by omega)
  have KZm := Lib.hid (show ∀ wx, Calls Try.prog 52 #[.int .i64 z, .int .i64 (IntKind.i64.wrap (m : Int))] wx fun e w' => e = .returned (.int .i64 d) ∧ w' = wx by intro wx; rw [hwm]; exact KZm.out wx)
  clear hwm
  go_region_held3 (fun w' => w'.cell? ⟨sp, 0, none⟩ = some (.int .i64 (s : Int)) ∧ w'.cell? ⟨sp, 1, none⟩ = some (.int .i64 ((s : Int) + (m : Int))))
    (exact KS.out _ rfl)
    ((go_at_call 52; with_reducible refine (KZm.out _).mono ?_; rintro e w5 ⟨rfl, rfl⟩))
  all_goals
    go_wp2_with fail
  all_goals
    obtain ⟨p, hpd⟩ : ∃ p, p = s + d := ⟨_, rfl⟩
    have hpw : IntKind.i64.wrap ((s : Int) + (d : Int)) = (p : Int) := by rw [hpd, IntWalk.i64_in _ (by omega)]; omega
    rw [hpw]
    have hps : s ≤ p := by omega
    have hpm : p < s + m := by omega
    have hmn : s + m + 4 ≤ n := by omega
    clear hpw KS hpd hd hms KZm
    go_loopw [13, 14] (fun t i wr => ∃ k : Nat, k ≤ 4 ∧ p + k ≤ s + m ∧ i = .int .i64 k ∧ t = .bool (some0 x k) ∧ OB wr w.heap.size (some ⟨g, 0, none⟩) (n + 4) c2 (turn (sealL b) p k x) ∧
        wr.heap[w.heap.size]? = some (.cells (arr4 x) 23 (0, 0)) ∧ wr.heap[sp]? = some (.cells #[.int .i64 (s : Int), .int .i64 ((s : Int) + (m : Int))] 93 (0, 0)) ∧ Below w.heap.size w wr)
      (fun _ i _ => 4 - (intOf i).toNat)
    case atStart => exact ⟨0, by omega, by omega, rfl, by rw [some0_zero], by rw [turn_zero _ _ _ (by rw [HS.out]; omega)]; exact own_drew HO4.out, HX4.out, HSP.out, HB4.out.drew⟩
    case round =>
      obtain ⟨k, hk4, hpk, rfl, rfl, ho, hxb, hspb, hb⟩ := hrel
      have HO := Lib.hid ho
      have HXB := Lib.hid hxb
      have HSB := Lib.hid hspb
      have HB := Lib.hid hb
      have sc0 := cell_of_row wr sp 0 _ _ _ hspb
      have sc1 := cell_of_row wr sp 1 _ _ _ hspb
      clear ho hxb hb hspb
      by_cases hgo : k < 4 ∧ p + k < s + m
      · obtain ⟨hlt, hpe⟩ := hgo
        have hin : p + k < n + 4 := by omega
        obtain ⟨cc, hc⟩ : ∃ c, (sealL b)[p + k]? = some c := ⟨_, List.getElem?_eq_getElem (by rw [HS.out]; exact hin)⟩
        obtain ⟨yy, hy⟩ : ∃ y, x[k]? = some y := ⟨_, List.getElem?_eq_getElem (by rw [hxl.out]; exact hlt)⟩
        have hct := turn_at (b := sealL b) (p := p) (k := k) (x := x) (by rw [HS.out]; exact hin) (by rw [hxl.out]; exact hlt) hc
        obtain ⟨ad, had, e1⟩ := HO.out.rb.at_ hct
        injection had with had
        subst had
        rw [add_plain] at e1
        have e2 := cell_of_row wr w.heap.size k _ _ _ HXB.out
        rw [arr4_at hy] at e2
        obtain ⟨u, hu⟩ : ∃ u, u = cc ^^^ yy := ⟨_, rfl⟩
        have x1 := u8x cc yy
        rw [← hu] at x1
        obtain ⟨f1, hst, hgr⟩ := HO.out.store (p + k) u
        have e3 : (wr.setCell ⟨g, p + k, none⟩ (.int .u8 (u.toNat : Int))).cell? ⟨w.heap.size, k, none⟩ = some (.int .u8 (yy.toNat : Int)) := by
          exact (World.cell?_of_block (w := wr) (a := ⟨w.heap.size, k, none⟩) (Below.heap_setCell wr ⟨g, p + k, none⟩ _ w.heap.size (by have := HG.out.1; simp; omega))).trans e2
        have HST := Lib.hid (And.intro hst hgr)
        have HCY := Lib.hid (And.intro hc (And.intro hy hu))
        have i0 : (0 : Int) ≤ (p : Int) + (k : Int) := by omega
        have i1 : (p : Int) + (k : Int) < (n : Int) + 4 := by omega
        have i2 : (0 : Int) ≤ (k : Int) := by omega
        have i3 : (k : Int) < 4 := by omega
        have hsum : IntKind.i64.wrap ((p : Int) + (k : Int)) = (p : Int) + (k : Int) := IntWalk.i64_in _ (by omega)
        have i4 : (p : Int) + (k : Int) < (s : Int) + (m : Int) := by omega
        have hne := Lib.hid (some0_succ hy)
        clear hst hgr hc hy hu hct
        cases hT : some0 x k
        all_goals
          go_wp2_with fail
          go_region
          go_wp2
          go_roundw
          case rel =>
            refine ⟨k + 1, by omega, by omega, by go_num, ?_, ?_, ?_, ?_, (HB.out.trans ((Below.refl _ _).setCell (by have := HG.out.1; simp; omega) _)).drew⟩
            · rw [hne.out, hT]
              first
                | rfl
                | (rw [byte_ne0]; rfl)
            · rw [turn_succ (by rw [HS.out]; omega) (by rw [hxl.out]; omega) HCY.out.1 HCY.out.2.1, ← HCY.out.2.2]
              exact HST.out.1
            · rw [heap_drew, Below.heap_setCell _ _ _ _ (by have := HG.out.1; simp; omega)]
              exact HXB.out
            · rw [heap_drew, Below.heap_setCell _ _ _ _ (by have := HGS.out; simp; omega)]
              exact HSB.out
          case measure => simp [intOf]; omega
      · have HK := Lib.hid hgo
        have hHT := Lib.hid (turn_append (b := b) (t := sumL (Cm.crc b)) (p := p) (k := k) (x := x) (by rw [← HBL.out]; omega) (by rw [hxl.out]; exact hk4))
        have hTl := Lib.hid (show (turn b p k x).length = n by rw [turn_length (by rw [← HBL.out]; omega) (by rw [hxl.out]; exact hk4), HBL.out])
        have HRT := Lib.hid (show RB wr (some ⟨g, 0, none⟩) (turn b p k x) by
          have h := HO.out.rb.take n (by rw [turn_length (by rw [HS.out]; omega) (by rw [hxl.out]; exact hk4), HS.out]; omega)
          have e : turn (sealL b) p k x = turn b p k x ++ sumL (Cm.crc b) := hHT.out
          rw [e, ← hTl.out, List.take_left] at h
          exact h)
        have hLc := HO.out.cap
        by_cases h4 : k < 4
        all_goals
          first
            | (have i5 : (4 : Int) ≤ (k : Int) := by omega)
            | (have i5 : (s : Int) + (m : Int) ≤ (p : Int) + (k : Int) := by omega)
        all_goals
          clear hgo
          cases hT : some0 x k
          all_goals
            go_wp2_with fail
            refine (rseal_any (turn b p k x) (some ⟨g, 0, none⟩) n c2 _ hTl.out HRT.out (by omega)).mono ?_
            rintro e w5 ⟨A6, c6, rfl, ho6, hb6⟩
            have H6 := Lib.hid (And.intro ho6 (HB.out.trans (hb6.mono HB.out.size)))
            clear ho6 hb6
            go_wp2_with fail
            refine (readF_any (sealL (turn b p k x)) A6 (n + 4) c6 _ H6.out.1.len H6.out.1.rb H6.out.1.cap (by omega)).mono ?_
            rintro e w6 ⟨hr, hb6⟩
            have HB6 := Lib.hid (H6.out.2.trans (hb6.mono H6.out.2.size))
            clear hb6
            first
              | (have hE4 := HFT.out nn p k v x HV.out.1 (by rw [hxl.out]; exact hk4) hk4 (by rw [← HV.out.2.1]; exact hps) (by rw [← HV.out.2.1, ← HV.out.2.2]; exact hpk) hT
                 rw [hE4] at hr
                 rcases hr with ⟨_, rfl⟩ | ⟨h0, _⟩
                 · clear hE4
                   go_wp2_with fail
                   refine (lives16_any HB6.out).mono ?_
                   rintro e w7 ⟨rfl, hb7⟩
                   have HB7 := Lib.hid hb7
                   clear hb7
                   go_wp2
                   go_ret
                   exact ⟨rfl, HB7.out⟩
                 · exact absurd h0 (by omega))
              | (rw [turn_same (b := b) (p := p) (k := k) (x := x) (by rw [← HBL.out]; omega) (by rw [hxl.out]; exact hk4) hT, HF.out.1] at hr
                 rcases hr with ⟨h0, _⟩ | ⟨_, gl2, l2, rfl, _, _⟩
                 · exact absurd rfl h0
                 · go_wp2_with fail
                   refine (lives16_any HB6.out).mono ?_
                   rintro e w7 ⟨rfl, hb7⟩
                   have HB7 := Lib.hid hb7
                   clear hb7
                   go_wp2
                   go_ret
                   exact ⟨rfl, HB7.out⟩)
end
end Go.Proofs.Ytnkbkhlbogcfaaa
