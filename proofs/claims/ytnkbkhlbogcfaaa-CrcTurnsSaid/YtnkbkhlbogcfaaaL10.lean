/- CrcTurns: the walk. -/
import Derived.Test.YtnkbkhlbogcfaaaF
import Derived.OpenShut
import Derived.BigRegion
set_option linter.unusedVariables false
set_option linter.unusedSimpArgs false
namespace Go.Proofs.Ytnkbkhlbogcfaaa
open Go.RowKit Go.Proofs.YtnkbkhlbogcfaaaW.PrintWords
noncomputable section

/-- a place among n, made of any number -/
def norm (z : Int) : Int := if z < 0 then -(z + 1) else z

set_option maxHeartbeats 2000000 in
set_option maxRecDepth 100000 in
theorem crcTurns_row {w : World} (A0 : Option Addr) (a0 : List UInt8) (c0 : Nat) (h0 : RB w A0 a0) (l0 : a0.length ≤ c0) (z : Int) (wz : (Lit.int .i64 z).wf = true) (x0 x1 x2 x3 : UInt8) :
    Calls Try.prog 10 #[.slice A0 a0.length c0, .int .i64 z, .agg #[.int .u8 (x0.toNat : Int), .int .u8 (x1.toNat : Int), .int .u8 (x2.toNat : Int), .int .u8 (x3.toNat : Int)]] w fun e w' => e = .returned (.bool true) ∧ Below w.heap.size w w' := by
  obtain ⟨b, hb⟩ : ∃ a, a = few a0 200 := ⟨_, rfl⟩
  obtain ⟨n, hn⟩ : ∃ n, n = min a0.length 200 := ⟨_, rfl⟩
  have Lb : b.length = n := by rw [hb, hn, few_length]
  have Rb : RB w A0 b := by rw [hb]; exact few_rb h0 _
  have n3 : n ≤ 200 := by omega
  have nc : n ≤ c0 := by omega
  have HN := Lib.hid hn
  have HR := Lib.hid (And.intro Rb Lb)
  have hl0 := Lib.hid l0
  clear hb hn Lb Rb h0 l0
  go_enter Try.func10, Try.ntmps10
  go_wp2_with fail
  refine (few_any A0 _ c0 200 _ hl0.out (by omega)).mono ?_
  rintro e w' ⟨rfl, rfl⟩
  rw [← HN.out]
  go_wp2_with fail
  have hb0 : Below w.heap.size w (w.alloc (.cells (arr4 [x0, x1, x2, x3]) 23)) := below_alloc (Below.refl _ _) _
  have hx0 : (w.alloc (.cells (arr4 [x0, x1, x2, x3]) 23)).heap[w.heap.size]? = some (.cells (arr4 [x0, x1, x2, x3]) 23 (0, 0)) := heap_alloc_new w _
  refine (seal_any b A0 n c0 _ HR.out.2 (HR.out.1.below hb0) (by omega)).mono ?_
  rintro e w1 ⟨A1, c1, rfl, ho1, hb1⟩
  have hsz : w.heap.size < (w.alloc (.cells (arr4 [x0, x1, x2, x3]) 23)).heap.size := by simp
  have HX1 := Lib.hid ((hb1.block w.heap.size hsz).trans hx0)
  obtain ⟨g, rfl, hg, hgl⟩ := ho1.form (by omega)
  have hgx : w.heap.size < g := Nat.lt_of_lt_of_le hsz hg
  have HG := Lib.hid (And.intro hgx hgl)
  have HO1 := Lib.hid (ho1.lower hb0.size)
  have HB1 := Lib.hid (hb0.trans (hb1.mono hb0.size))
  clear hb0 hx0 hsz ho1 hb1 hg hgl hgx
  have zlo : (-9223372036854775808 : Int) ≤ z := by have := bounds_i64 wz; omega
  have zhi : z ≤ 9223372036854775807 := by have := bounds_i64 wz; omega
  obtain ⟨p, hp, k1, k2⟩ := place z (n + 4) (by omega)
  have x0len : ([x0, x1, x2, x3] : List UInt8).length = 4 := rfl
  obtain ⟨x, hx⟩ : ∃ x, x = [x0, x1, x2, x3] := ⟨_, rfl⟩
  rw [← hx] at HX1 x0len
  have hxl := Lib.hid x0len
  clear hx x0len
  rw [show ((n + 4 : Nat) : Int) = (n : Int) + 4 by omega] at k1 k2
  have hseal : (sealL b).length = n + 4 := by rw [sealL_length, HR.out.2]
  have HS := Lib.hid hseal
  clear hseal
  by_cases hz : z < 0
  all_goals by_cases hpn : n ≤ p
  all_goals first | (have k := k1 hz; clear k1 k2) | (have k := k2 (by omega); clear k1 k2)
  all_goals have hpI : (p : Int) < (n : Int) + 4 := by omega
  all_goals go_wp2_with fail
  all_goals try rw [k]
  all_goals clear k
  all_goals obtain ⟨en, hen⟩ : ∃ en : Nat, (n ≤ p ∧ en = n + 4) ∨ (p < n ∧ en = n) := by first | exact ⟨n + 4, Or.inl ⟨hpn, rfl⟩⟩ | exact ⟨n, Or.inr ⟨by omega, rfl⟩⟩
  all_goals have HEN := Lib.hid hen
  all_goals have hle : p ≤ en ∧ en ≤ n + 4 := by omega
  all_goals have HLE := Lib.hid hle
  all_goals clear hen hle
  all_goals
    go_loopw [9, 10] (fun t i wr => ∃ k : Nat, k ≤ 4 ∧ p + k ≤ en ∧ i = .int .i64 k ∧ t = .bool (some0 x k) ∧ OB wr w.heap.size (some ⟨g, 0, none⟩) (n + 4) c1 (turn (sealL b) p k x) ∧
        wr.heap[w.heap.size]? = some (.cells (arr4 x) 23 (0, 0)) ∧ Below w.heap.size w wr)
      (fun _ i _ => 4 - (intOf i).toNat)
  all_goals try (case atStart => exact ⟨0, by omega, HLE.out.1, rfl, by rw [some0_zero], by rw [turn_zero _ _ _ (by rw [HS.out]; omega)]; exact HO1.out, HX1.out, HB1.out⟩)
  all_goals
    (case round =>
      obtain ⟨k, hk4, hpk, rfl, rfl, ho, hxb, hb⟩ := hrel
      have HO := Lib.hid ho
      have HXB := Lib.hid hxb
      have HB := Lib.hid hb
      clear ho hxb hb
      by_cases hgo : k < 4 ∧ p + k < en
      · obtain ⟨hlt, hpe⟩ := hgo
        have hin : p + k < n + 4 := by have := HLE.out; omega
        obtain ⟨c, hc⟩ : ∃ c, (sealL b)[p + k]? = some c := ⟨_, List.getElem?_eq_getElem (by rw [HS.out]; exact hin)⟩
        obtain ⟨y, hy⟩ : ∃ y, x[k]? = some y := ⟨_, List.getElem?_eq_getElem (by rw [hxl.out]; exact hlt)⟩
        have hct := turn_at (b := sealL b) (p := p) (k := k) (x := x) (by rw [HS.out]; exact hin) (by rw [hxl.out]; exact hlt) hc
        obtain ⟨ad, had, e1⟩ := HO.out.rb.at_ hct
        injection had with had
        subst had
        rw [add_plain] at e1
        have e2 := cell_of_row wr w.heap.size k _ _ _ HXB.out
        rw [arr4_at hy] at e2
        obtain ⟨u, hu⟩ : ∃ u, u = c ^^^ y := ⟨_, rfl⟩
        have x1 := u8x c y
        rw [← hu] at x1
        obtain ⟨f1, hst, hgr⟩ := HO.out.store (p + k) u
        have e3 : (wr.setCell ⟨g, p + k, none⟩ (.int .u8 (u.toNat : Int))).cell? ⟨w.heap.size, k, none⟩ = some (.int .u8 (y.toNat : Int)) := by
          exact (World.cell?_of_block (w := wr) (a := ⟨w.heap.size, k, none⟩) (Below.heap_setCell wr ⟨g, p + k, none⟩ _ w.heap.size (by have := HG.out.1; simp; omega))).trans e2
        have HST := Lib.hid (And.intro hst hgr)
        have HCY := Lib.hid (And.intro hc (And.intro hy hu))
        have i0 : (0 : Int) ≤ (p : Int) + (k : Int) := by omega
        have i1 : (p : Int) + (k : Int) < (n : Int) + 4 := by omega
        have i2 : (0 : Int) ≤ (k : Int) := by omega
        have i3 : (k : Int) < 4 := by omega
        have hsum : IntKind.i64.wrap ((p : Int) + (k : Int)) = (p : Int) + (k : Int) := IntWalk.i64_in _ (by omega)
        first
          | (have i4 : (p : Int) + (k : Int) < (n : Int) := by have := HEN.out; omega)
          | (have i4 : (p : Int) + (k : Int) < (n : Int) + 4 := by omega)
        have hne := Lib.hid (some0_succ hy)
        clear hst hgr hc hy hu hct
        cases hT : some0 x k
        all_goals
          go_wp2_with fail
          go_region
          go_wp2
          go_roundw
          case rel =>
            refine ⟨k + 1, by omega, by omega, by go_num, ?_, ?_, ?_, (HB.out.trans ((Below.refl _ _).setCell (by have := HG.out.1; simp; omega) _)).drew⟩
            · rw [hne.out, hT]
              first
                | rfl
                | (rw [byte_ne0]; rfl)
            · rw [turn_succ (by rw [HS.out]; omega) (by rw [hxl.out]; omega) HCY.out.1 HCY.out.2.1, ← HCY.out.2.2]
              exact HST.out.1
            · rw [heap_drew, Below.heap_setCell _ _ _ _ (by have := HG.out.1; simp; omega)]
              exact HXB.out
          case measure => simp [intOf]; omega
      · have HK := Lib.hid hgo
        by_cases h4 : k < 4
        all_goals
          first
            | (have i5 : (4 : Int) ≤ (k : Int) := by omega)
            | (have i5 : (n : Int) + 4 ≤ (p : Int) + (k : Int) := by have := HEN.out; omega)
            | (have i5 : (n : Int) ≤ (p : Int) + (k : Int) := by have := HEN.out; omega)
        all_goals
          clear hgo
          have hL : (turn (sealL b) p k x).length = n + 4 := by rw [turn_length (by rw [HS.out]; have := HLE.out; omega) (by rw [hxl.out]; exact hk4), HS.out]
          have hLc := HO.out.cap
          cases hT : some0 x k
          all_goals
            go_wp2_with fail
            refine (open_any (turn (sealL b) p k x) (some ⟨g, 0, none⟩) (n + 4) c1 _ hL HO.out.rb (by omega) hLc).mono ?_
            rintro e w2 ⟨A2, n2, c2, rfl, ho2, hb2⟩
            have HB2 := Lib.hid (HB.out.trans (hb2.mono HB.out.size))
            first
              | (have hE := turn_open (b := b) (p := p) (k := k) (x := x) (by rw [hxl.out]; exact hk4) hk4 (by rw [HR.out.2]; have := HEN.out; omega) hT
                 rw [hE.1]
                 rw [hE.2] at ho2
                 have hn2 : n2 = 0 := by rw [← ho2.len]; rfl
                 subst hn2
                 clear hL hLc ho2 hb2 hE hT
                 go_wp2_with fail
                 refine (lives02_any _).mono ?_
                 rintro e w3 ⟨rfl, hb3⟩
                 go_wp2_with fail
                 go_ret
                 exact ⟨rfl, HB2.out.trans (hb3.mono HB2.out.size)⟩)
              | (have hq := turn_same (b := sealL b) (p := p) (k := k) (x := x) (by rw [HS.out]; have := HLE.out; omega) (by rw [hxl.out]; exact hk4) hT
                 rw [hq, (openE_seal b).1]
                 rw [hq, (openE_seal b).2] at ho2
                 have HO2 := Lib.hid ho2
                 clear hL hLc ho2 hq hT
                 go_wp2_with fail
                 refine (same_any b b A2 A0 n2 n c2 c0 _ HO2.out.len HR.out.2 HO2.out.rb (HR.out.1.below HB2.out) (by have := HO2.out.len; have := HR.out.2; omega)).mono ?_
                 rintro e w3 ⟨rfl, hb3⟩
                 rw [decide_eq_true rfl]
                 have HB3 := Lib.hid (HB2.out.trans (hb3.mono HB2.out.size))
                 clear hb3
                 go_wp2_with fail
                 refine (lives02_any _).mono ?_
                 rintro e w4 ⟨rfl, hb4⟩
                 go_wp2_with fail
                 go_ret
                 exact ⟨rfl, HB3.out.trans (hb4.mono HB3.out.size)⟩))
end
end Go.Proofs.Ytnkbkhlbogcfaaa
