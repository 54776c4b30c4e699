/- SectionTurns: the walk. -/
import Derived.Test.YtnkbkhlbogcfaaaF
import Derived.Test.YtnkbkhlbogcfaaaSn
import Derived.Test.YtnkbkhlbogcfaaaRf
import Derived.Test.YtnkbkhlbogcfaaaW13
import Derived.OpenShut
import Derived.BigRegion
set_option linter.unusedVariables false
set_option linter.unusedSimpArgs false
namespace Go.Proofs.Ytnkbkhlbogcfaaa
open Go.RowKit Go.Proofs.YtnkbkhlbogcfaaaW.PrintWords
noncomputable section

set_option maxHeartbeats 4000000 in
set_option maxRecDepth 100000 in
theorem sectionTurns_row {w : World} (A : Option Addr) (l : List SecV) (c : Nat) (hS : SE w A l) (hc : l.length ≤ c) (z : Int) (wz : (Lit.int .i64 z).wf = true) (x0 x1 x2 x3 : UInt8) :
    Calls Try.prog 18 #[.slice A l.length c, .int .i64 z, .agg #[.int .u8 (x0.toNat : Int), .int .u8 (x1.toNat : Int), .int .u8 (x2.toNat : Int), .int .u8 (x3.toNat : Int)]] w fun e w' => e = .returned (.bool true) ∧ Below w.heap.size w w' := by
  obtain ⟨z1, z2⟩ := bounds_i64 wz
  have hb0 : Below w.heap.size w (w.alloc (.cells (arr4 [x0, x1, x2, x3]) 23)) := below_alloc (Below.refl _ _) _
  have hx0 : (w.alloc (.cells (arr4 [x0, x1, x2, x3]) 23)).heap[w.heap.size]? = some (.cells (arr4 [x0, x1, x2, x3]) 23 (0, 0)) := heap_alloc_new w _
  have HG := Lib.hid (good_false l A l.length c (w.alloc (.cells (arr4 [x0, x1, x2, x3]) 23)) rfl (hS.below hb0))
  have H00 := Lib.hid (And.intro hb0 hx0)
  obtain ⟨L, hL⟩ : ∃ L, L = l.length := ⟨_, rfl⟩
  rw [← hL] at HG ⊢
  clear hS hc wz hL hb0 hx0
  go_enter Try.func18, Try.ntmps18
  go_wp2_with fail
  refine HG.out.mono ?_
  rintro e w1 ⟨A1, n1, c1, rfl, hn, ho1, hs1, hb1⟩
  have hsz : w.heap.size < (w.alloc (.cells (arr4 [x0, x1, x2, x3]) 23)).heap.size := by simp
  have HX1 := Lib.hid ((hb1.block w.heap.size hsz).trans H00.out.2)
  obtain ⟨gl, hgl⟩ : ∃ gl, gl = goodL false l := ⟨_, rfl⟩
  have HM : May 3 (goodL false l) := goodL_may 3 (by omega) l
  have H100 := goodL_100 false l
  rw [← hgl] at ho1 hs1 HM H100
  have hlen := ho1.len
  have HF := Lib.hid (file_ok HM H100)
  have HM := Lib.hid HM
  have H100 := Lib.hid H100
  have H1 := Lib.hid (And.intro hs1 (And.intro (H00.out.1.trans (hb1.mono H00.out.1.size)) hlen))
  have hsz1 : w.heap.size < w1.heap.size := Nat.lt_of_lt_of_le hsz hb1.size
  clear ho1 hs1 hb1 hgl hlen HG H00 hsz
  go_wp2_with fail
  refine (rwrite_any 3 gl A1 n1 c1 _ H1.out.2.2 H1.out.1 HM.out H100.out).mono ?_
  rintro e w2 ⟨A2, N, c2, rfl, hN, ho2, hb2⟩
  obtain ⟨b, hbe⟩ : ∃ b, b = fileH 3 gl := ⟨_, rfl⟩
  have hfb : fileB 3 gl = sealL b := by rw [hbe]; rfl
  rw [hfb] at ho2 HF
  rw [← hbe] at HF
  obtain ⟨n, hn2⟩ : ∃ n, n = b.length := ⟨_, rfl⟩
  have hNn : N = n + 4 := by have h := ho2.len; rw [sealL_length, ← hn2] at h; exact h.symm
  subst hNn
  have HX2 := Lib.hid ((hb2.block w.heap.size hsz1).trans HX1.out)
  obtain ⟨g, rfl, hg, hgl⟩ := ho2.form (by omega)
  have hgx : w.heap.size < g := Nat.lt_of_lt_of_le hsz1 hg
  have HG := Lib.hid (And.intro hgx hgl)
  have HO1 := Lib.hid (ho2.lower (Nat.le_of_lt hsz1))
  have HB1 := Lib.hid (H1.out.2.1.trans (hb2.mono (Nat.le_of_lt hsz1)))
  have HBL := Lib.hid hn2
  clear ho2 hb2 hfb hbe hn2 hg hgl hgx HM H100 H1 HX1 hsz1
  have KA := Lib.hid (around_any z (n + 4) (by omega) (by omega) z1 z2 w2)
  have hp := arN_lt z (m := n + 4) (by omega)
  obtain ⟨p, hpe⟩ : ∃ p, p = arN z (n + 4) := ⟨_, rfl⟩
  rw [← hpe] at KA hp
  clear hpe
  have x0len : ([x0, x1, x2, x3] : List UInt8).length = 4 := rfl
  obtain ⟨x, hx⟩ : ∃ x, x = [x0, x1, x2, x3] := ⟨_, rfl⟩
  rw [← hx] at HX2 x0len
  have hxl := Lib.hid x0len
  clear hx x0len
  have hseal : (sealL b).length = n + 4 := by rw [sealL_length, ← HBL.out]
  have HS := Lib.hid hseal
  clear hseal
  go_wp2_with fail
  refine KA.out.mono ?_
  rintro e w2' ⟨rfl, rfl⟩
  obtain ⟨w2, rfl⟩ : ∃ u, u = w2' := ⟨_, rfl⟩
  have hpI : (p : Int) < (n : Int) + 4 := by omega
  by_cases hpn : n ≤ p
  all_goals go_wp2_with fail
  all_goals obtain ⟨en, hen⟩ : ∃ en : Nat, (n ≤ p ∧ en = n + 4) ∨ (p < n ∧ en = n) := by first | exact ⟨n + 4, Or.inl ⟨hpn, rfl⟩⟩ | exact ⟨n, Or.inr ⟨by omega, rfl⟩⟩
  all_goals have HEN := Lib.hid hen
  all_goals have hle : p ≤ en ∧ en ≤ n + 4 := by omega
  all_goals have HLE := Lib.hid hle
  all_goals clear hen hle
  all_goals
    go_loopw [10, 11] (fun t i wr => ∃ k : Nat, k ≤ 4 ∧ p + k ≤ en ∧ i = .int .i64 k ∧ t = .bool (some0 x k) ∧ OB wr w.heap.size (some ⟨g, 0, none⟩) (n + 4) c2 (turn (sealL b) p k x) ∧
        wr.heap[w.heap.size]? = some (.cells (arr4 x) 23 (0, 0)) ∧ Below w.heap.size w wr)
      (fun _ i _ => 4 - (intOf i).toNat)
  all_goals try (case atStart => exact ⟨0, by omega, HLE.out.1, rfl, by rw [some0_zero], by rw [turn_zero _ _ _ (by rw [HS.out]; omega)]; exact HO1.out, HX2.out, HB1.out⟩)
  all_goals
    (case round =>
      obtain ⟨k, hk4, hpk, rfl, rfl, ho, hxb, hb⟩ := hrel
      have HO := Lib.hid ho
      have HXB := Lib.hid hxb
      have HB := Lib.hid hb
      clear ho hxb hb
      by_cases hgo : k < 4 ∧ p + k < en
      · obtain ⟨hlt, hpe⟩ := hgo
        have hin : p + k < n + 4 := by have := HLE.out; omega
        obtain ⟨c, hc⟩ : ∃ c, (sealL b)[p + k]? = some c := ⟨_, List.getElem?_eq_getElem (by rw [HS.out]; exact hin)⟩
        obtain ⟨y, hy⟩ : ∃ y, x[k]? = some y := ⟨_, List.getElem?_eq_getElem (by rw [hxl.out]; exact hlt)⟩
        have hct := turn_at (b := sealL b) (p := p) (k := k) (x := x) (by rw [HS.out]; exact hin) (by rw [hxl.out]; exact hlt) hc
        obtain ⟨ad, had, e1⟩ := HO.out.rb.at_ hct
        injection had with had
        subst had
        rw [add_plain] at e1
        have e2 := cell_of_row wr w.heap.size k _ _ _ HXB.out
        rw [arr4_at hy] at e2
        obtain ⟨u, hu⟩ : ∃ u, u = c ^^^ y := ⟨_, rfl⟩
        have x1 := u8x c y
        rw [← hu] at x1
        obtain ⟨f1, hst, hgr⟩ := HO.out.store (p + k) u
        have e3 : (wr.setCell ⟨g, p + k, none⟩ (.int .u8 (u.toNat : Int))).cell? ⟨w.heap.size, k, none⟩ = some (.int .u8 (y.toNat : Int)) := by
          exact (World.cell?_of_block (w := wr) (a := ⟨w.heap.size, k, none⟩) (Below.heap_setCell wr ⟨g, p + k, none⟩ _ w.heap.size (by have := HG.out.1; simp; omega))).trans e2
        have HST := Lib.hid (And.intro hst hgr)
        have HCY := Lib.hid (And.intro hc (And.intro hy hu))
        have i0 : (0 : Int) ≤ (p : Int) + (k : Int) := by omega
        have i1 : (p : Int) + (k : Int) < (n : Int) + 4 := by omega
        have i2 : (0 : Int) ≤ (k : Int) := by omega
        have i3 : (k : Int) < 4 := by omega
        have hsum : IntKind.i64.wrap ((p : Int) + (k : Int)) = (p : Int) + (k : Int) := IntWalk.i64_in _ (by omega)
        first
          | (have i4 : (p : Int) + (k : Int) < (n : Int) := by have := HEN.out; omega)
          | (have i4 : (p : Int) + (k : Int) < (n : Int) + 4 := by omega)
        have hne := Lib.hid (some0_succ hy)
        clear hst hgr hc hy hu hct
        cases hT : some0 x k
        all_goals
          go_wp2_with fail
          go_region
          go_wp2
          go_roundw
          case rel =>
            refine ⟨k + 1, by omega, by omega, by go_num, ?_, ?_, ?_, (HB.out.trans ((Below.refl _ _).setCell (by have := HG.out.1; simp; omega) _)).drew⟩
            · rw [hne.out, hT]
              first
                | rfl
                | (rw [byte_ne0]; rfl)
            · rw [turn_succ (by rw [HS.out]; omega) (by rw [hxl.out]; omega) HCY.out.1 HCY.out.2.1, ← HCY.out.2.2]
              exact HST.out.1
            · rw [heap_drew, Below.heap_setCell _ _ _ _ (by have := HG.out.1; simp; omega)]
              exact HXB.out
          case measure => simp [intOf]; omega
      · have HK := Lib.hid hgo
        by_cases h4 : k < 4
        all_goals
          first
            | (have i5 : (4 : Int) ≤ (k : Int) := by omega)
            | (have i5 : (n : Int) + 4 ≤ (p : Int) + (k : Int) := by have := HEN.out; omega)
            | (have i5 : (n : Int) ≤ (p : Int) + (k : Int) := by have := HEN.out; omega)
        all_goals
          clear hgo
          have hL : (turn (sealL b) p k x).length = n + 4 := by rw [turn_length (by rw [HS.out]; have := HLE.out; omega) (by rw [hxl.out]; exact hk4), HS.out]
          have hLc := HO.out.cap
          cases hT : some0 x k
          all_goals
            go_wp2_with fail
            refine (readF_any (turn (sealL b) p k x) (some ⟨g, 0, none⟩) (n + 4) c2 _ hL HO.out.rb hLc (by omega)).mono ?_
            rintro e w3 ⟨hr, hb3⟩
            have HB3 := Lib.hid (HB.out.trans (hb3.mono HB.out.size))
            first
              | (have hE := turn_open (b := b) (p := p) (k := k) (x := x) (by rw [hxl.out]; exact hk4) hk4 (by rw [← HBL.out]; have := HEN.out; omega) hT
                 have hE4 : fileE (turn (sealL b) p k x) = 4 := by unfold fileE; rw [if_pos (by rw [hE.1]; omega), hE.1]
                 rw [hE4] at hr
                 rcases hr with ⟨_, rfl⟩ | ⟨h0, _⟩
                 · clear hL hLc hb3 hE hT hE4
                   go_wp2_with fail
                   refine (lives16_any HB3.out).mono ?_
                   rintro e w4 ⟨rfl, hb4⟩
                   have HB4 := Lib.hid hb4
                   clear hb4
                   go_wp2
                   go_ret
                   exact ⟨rfl, HB4.out⟩
                 · exact absurd h0 (by omega))
              | (have hq := turn_same (b := sealL b) (p := p) (k := k) (x := x) (by rw [HS.out]; have := HLE.out; omega) (by rw [hxl.out]; exact hk4) hT
                 rw [hq, HF.out.1] at hr
                 rcases hr with ⟨h0, _⟩ | ⟨_, gl2, l2, rfl, _, _⟩
                 · exact absurd rfl h0
                 · clear hL hLc hb3 hq hT
                   go_wp2_with fail
                   refine (lives16_any HB3.out).mono ?_
                   rintro e w4 ⟨rfl, hb4⟩
                   have HB4 := Lib.hid hb4
                   clear hb4
                   go_wp2
                   go_ret
                   exact ⟨rfl, HB4.out⟩))
end
end Go.Proofs.Ytnkbkhlbogcfaaa
