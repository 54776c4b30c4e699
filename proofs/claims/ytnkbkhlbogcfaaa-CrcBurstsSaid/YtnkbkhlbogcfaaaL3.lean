/- CrcBursts: the walk. -/
import Derived.Test.YtnkbkhlbogcfaaaF
import Derived.Test.YtnkbkhlbogcfaaaG
import Derived.OpenShut
import Derived.BigRegion
set_option linter.unusedVariables false
set_option linter.unusedSimpArgs false
namespace Go.Proofs.Ytnkbkhlbogcfaaa
open Go.RowKit Go.Proofs.YtnkbkhlbogcfaaaW.PrintWords
noncomputable section
attribute [local go_sem high] run_eql23

set_option maxHeartbeats 2000000 in
set_option maxRecDepth 100000 in
theorem crcBursts_row {w : World} (A0 : Option Addr) (a0 : List UInt8) (c0 : Nat) (h0 : RB w A0 a0) (l0 : a0.length ≤ c0) (z : Int) (wz : (Lit.int .i64 z).wf = true) (x0 x1 x2 x3 : UInt8) :
    Calls Try.prog 3 #[.slice A0 a0.length c0, .int .i64 z, .agg #[.int .u8 (x0.toNat : Int), .int .u8 (x1.toNat : Int), .int .u8 (x2.toNat : Int), .int .u8 (x3.toNat : Int)]] w fun e w' => e = .returned (.bool true) ∧ Below w.heap.size w w' := by
  obtain ⟨b, hb⟩ : ∃ a, a = few a0 300 := ⟨_, rfl⟩
  obtain ⟨n, hn⟩ : ∃ n, n = min a0.length 300 := ⟨_, rfl⟩
  have Lb : b.length = n := by rw [hb, hn, few_length]
  have Rb : RB w A0 b := by rw [hb]; exact few_rb h0 _
  have n3 : n ≤ 300 := by omega
  have nc : n ≤ c0 := by omega
  have HN := Lib.hid hn
  have HR := Lib.hid (And.intro Rb Lb)
  have hl0 := Lib.hid l0
  clear hb hn Lb Rb h0 l0
  obtain ⟨Z, hZ⟩ : ∃ Z, Z = ((x0.toNat : Int) == 0 && (x1.toNat : Int) == 0 && (x2.toNat : Int) == 0 && (x3.toNat : Int) == 0) := ⟨_, rfl⟩
  have zlo : (-9223372036854775808 : Int) ≤ z := by have := bounds_i64 wz; omega
  have zhi : z ≤ 9223372036854775807 := by have := bounds_i64 wz; omega
  have hb0 : Below w.heap.size w (w.alloc (.cells (arr4 [x0, x1, x2, x3]) 23)) := below_alloc (Below.refl _ _) _
  have hx0 : (w.alloc (.cells (arr4 [x0, x1, x2, x3]) 23)).heap[w.heap.size]? = some (.cells (arr4 [x0, x1, x2, x3]) 23 (0, 0)) := heap_alloc_new w _
  have HX0 := Lib.hid hx0
  have HB0 := Lib.hid hb0
  have he := run_eql23 (x0.toNat : Int) (x1.toNat : Int) (x2.toNat : Int) (x3.toNat : Int) 0 0 0 0
  rw [← hZ] at he
  clear hx0 hb0 hZ
  cases Z
  · by_cases hn0 : n = 0
    · subst hn0
      go_enter Try.func3, Try.ntmps3
      go_wp2_with fail
      refine (few_any A0 _ c0 300 _ hl0.out (by omega)).mono ?_
      rintro e w' ⟨rfl, rfl⟩
      rw [← HN.out]
      go_wp2_with fail
      refine (lives02_any _).mono ?_
      rintro e w3 ⟨rfl, hb3⟩
      go_wp2_with fail
      go_ret
      exact ⟨rfl, HB0.out.trans (hb3.mono HB0.out.size)⟩
    · have hnpos : 0 < n := by omega
      obtain ⟨p, hp, k1, k2⟩ := place z n hnpos
      obtain ⟨x, hx⟩ : ∃ x, x = [x0, x1, x2, x3] := ⟨_, rfl⟩
      have hx4 : x.length = 4 := by rw [hx]; rfl
      have HX1 := Lib.hid (And.intro hx hx4)
      have hpI : (p : Int) < (n : Int) := by omega
      have hnI : (0 : Int) < (n : Int) := by omega
      have hn0f : ((n : Int) == 0) = false := by rw [beq_eq_false_iff_ne]; omega
      clear hx hx4 hn0 hnpos
      by_cases hz : z < 0
      all_goals first | (have k := k1 hz; clear k1 k2) | (have k := k2 (by omega); clear k1 k2)
      all_goals
        go_enter Try.func3, Try.ntmps3
        go_wp2_with fail
        refine (few_any A0 _ c0 300 _ hl0.out (by omega)).mono ?_
        rintro e w' ⟨rfl, rfl⟩
        rw [← HN.out]
        go_wp2_with (at_builtin; refine appB w.heap.size none 0 0 [] A0 n c0 b rfl rfl rfl rfl (OB.nil _ _) (HR.out.1.below HB0.out) HR.out.2 HB0.out.size (by omega) ?_; intro A1 c1 w1 ho1 hg1 hs1; simp only [Nat.zero_add, List.nil_append] at ho1)
        try rw [k]
        clear k
        have hb1 : Below w.heap.size w w1 := HB0.out.grown hg1 HB0.out.size (by intro k hk; cases hk)
        have hxb1 : w1.heap[w.heap.size]? = some (.cells (arr4 x) 23 (0, 0)) := by
          rw [hg1.block w.heap.size (by simp) (by simp [Value.ownBlock]), HX1.out.1]
          exact HX0.out
        simp only [Nat.zero_add] at hs1
        obtain ⟨g, rfl, hg, hgl⟩ := ho1.form (by omega)
        have hgx : w.heap.size < g := by
          rcases hs1 with h | ⟨k, h, hk⟩
          · simp [Value.ownBlock] at h
          · simp [Value.ownBlock] at h; simp at hk; omega
        have HG := Lib.hid hgx
        have HO1 := Lib.hid ho1
        have HB1 := Lib.hid hb1
        have HXB1 := Lib.hid hxb1
        clear ho1 hb1 hxb1 hg1 hs1 hg hgl hgx
        go_loopw [8, 9] (fun t i wr => ∃ k : Nat, k ≤ 4 ∧ p + k ≤ n ∧ i = .int .i64 k ∧ t = .bool (some0 x k) ∧ OB wr w.heap.size (some ⟨g, 0, none⟩) n c1 (turn b p k x) ∧
            wr.heap[w.heap.size]? = some (.cells (arr4 x) 23 (0, 0)) ∧ Below w.heap.size w wr)
          (fun _ i _ => 4 - (intOf i).toNat)
        case atStart => exact ⟨0, by omega, by omega, rfl, by rw [some0_zero], by rw [turn_zero _ _ _ (by rw [HR.out.2]; omega)]; exact HO1.out, HXB1.out, HB1.out⟩
        case round =>
          obtain ⟨k, hk4, hpk, rfl, rfl, ho, hxb, hb⟩ := hrel
          have HO := Lib.hid ho
          have HXB := Lib.hid hxb
          have HB := Lib.hid hb
          clear ho hxb hb
          by_cases hgo : k < 4 ∧ p + k < n
          · obtain ⟨hlt, hpe⟩ := hgo
            obtain ⟨c, hc⟩ : ∃ c, b[p + k]? = some c := ⟨_, List.getElem?_eq_getElem (by rw [HR.out.2]; exact hpe)⟩
            obtain ⟨y, hy⟩ : ∃ y, x[k]? = some y := ⟨_, List.getElem?_eq_getElem (by rw [HX1.out.2]; exact hlt)⟩
            have hct := turn_at (b := b) (p := p) (k := k) (x := x) (by rw [HR.out.2]; exact hpe) (by rw [HX1.out.2]; exact hlt) hc
            obtain ⟨ad, had, e1⟩ := (HR.out.1.below HB.out).at_ hc
            obtain ⟨ad2, had2, e4⟩ := HO.out.rb.at_ hct
            injection had2 with had2
            subst had2
            rw [add_plain] at e4
            have e2 := cell_of_row wr w.heap.size k _ _ _ HXB.out
            rw [arr4_at hy] at e2
            obtain ⟨u, hu⟩ : ∃ u, u = c ^^^ y := ⟨_, rfl⟩
            have x1 := u8x c y
            rw [← hu] at x1
            obtain ⟨f1, hst, hgr⟩ := HO.out.store (p + k) u
            have e3 : (wr.setCell ⟨g, p + k, none⟩ (.int .u8 (u.toNat : Int))).cell? ⟨w.heap.size, k, none⟩ = some (.int .u8 (y.toNat : Int)) :=
              (World.cell?_of_block (w := wr) (a := ⟨w.heap.size, k, none⟩) (Below.heap_setCell wr ⟨g, p + k, none⟩ _ w.heap.size (by have := HG.out; simp; omega))).trans e2
            have HST := Lib.hid (And.intro hst hgr)
            have HCY := Lib.hid (And.intro hc (And.intro hy hu))
            have i0 : (0 : Int) ≤ (p : Int) + (k : Int) := by omega
            have i1 : (p : Int) + (k : Int) < (n : Int) := by omega
            have i2 : (0 : Int) ≤ (k : Int) := by omega
            have i3 : (k : Int) < 4 := by omega
            have hsum : IntKind.i64.wrap ((p : Int) + (k : Int)) = (p : Int) + (k : Int) := IntWalk.i64_in _ (by omega)
            have hne := Lib.hid (some0_succ hy)
            subst had
            clear hst hgr hc hy hu hct
            cases hT : some0 x k
            all_goals
              go_wp2_with fail
              go_region
              go_wp2
              go_roundw
              case rel =>
                refine ⟨k + 1, by omega, by omega, by go_num, ?_, ?_, ?_, (HB.out.trans ((Below.refl _ _).setCell (by have := HG.out; simp; omega) _)).drew⟩
                · rw [hne.out, hT]
                  first
                    | rfl
                    | (rw [byte_ne0]; rfl)
                · rw [turn_succ (by rw [HR.out.2]; omega) (by rw [HX1.out.2]; omega) HCY.out.1 HCY.out.2.1, ← HCY.out.2.2]
                  exact HST.out.1
                · rw [heap_drew, Below.heap_setCell _ _ _ _ (by have := HG.out; simp; omega)]
                  exact HXB.out
              case measure => simp [intOf]; omega
          · have HK := Lib.hid hgo
            by_cases h4 : k < 4
            all_goals
              first
                | (have i5 : (4 : Int) ≤ (k : Int) := by omega)
                | (have i5 : (n : Int) ≤ (p : Int) + (k : Int) := by omega)
            all_goals
              clear hgo
              have hL : (turn b p k x).length = n := by rw [turn_length (by rw [HR.out.2]; omega) (by rw [HX1.out.2]; exact hk4), HR.out.2]
              obtain ⟨X, hX⟩ : ∃ X, X = Cm.crc b := ⟨_, rfl⟩
              obtain ⟨X', hX'⟩ : ∃ X, X = Cm.crc (turn b p k x) := ⟨_, rfl⟩
              have hXX := Lib.hid (And.intro hX hX')
              clear hX hX'
              cases hT : some0 x k
              all_goals
                go_wp2_with fail
                refine (of_len (turn b p k x) (some ⟨g, 0, none⟩) n c1 _ hL HO.out.rb (by omega)).mono ?_
                rintro e w2 ⟨rfl, hb2⟩
                rw [← hXX.out.2]
                have HB2 := Lib.hid (HB.out.trans (hb2.mono HB.out.size))
                clear hb2
                go_wp2_with fail
                refine (of_len b A0 n c0 _ HR.out.2 (HR.out.1.below HB2.out) (by omega)).mono ?_
                rintro e w3 ⟨rfl, hb3⟩
                rw [← hXX.out.1]
                have HB3 := Lib.hid (HB2.out.trans (hb3.mono HB2.out.size))
                clear hb3
                first
                  | (have hq := turn_crc (b := b) (p := p) (k := k) (x := x) (by rw [HR.out.2]; exact hpk) (by rw [HX1.out.2]; exact hk4) hk4 hT
                     rw [← hXX.out.1, ← hXX.out.2] at hq
                     have hq' : ((X' : Int) != (X : Int)) = true := by rw [bne_iff_ne]; omega)
                  | (have hq := turn_same (b := b) (p := p) (k := k) (x := x) (by rw [HR.out.2]; exact hpk) (by rw [HX1.out.2]; exact hk4) hT
                     have hq' : ((X' : Int) != (X : Int)) = false := by rw [hXX.out.1, hXX.out.2, hq]; simp)
                clear hL hT hq
                go_wp2_with fail
                refine (lives02_any _).mono ?_
                rintro e w4 ⟨rfl, hb4⟩
                go_wp2_with fail
                go_ret
                exact ⟨rfl, HB3.out.trans (hb4.mono HB3.out.size)⟩
  · go_enter Try.func3, Try.ntmps3
    go_wp2_with fail
    refine (few_any A0 _ c0 300 _ hl0.out (by omega)).mono ?_
    rintro e w' ⟨rfl, rfl⟩
    rw [← HN.out]
    go_wp2_with fail
    refine (lives02_any _).mono ?_
    rintro e w3 ⟨rfl, hb3⟩
    go_wp2_with fail
    go_ret
    exact ⟨rfl, HB0.out.trans (hb3.mono HB0.out.size)⟩
end
end Go.Proofs.Ytnkbkhlbogcfaaa
