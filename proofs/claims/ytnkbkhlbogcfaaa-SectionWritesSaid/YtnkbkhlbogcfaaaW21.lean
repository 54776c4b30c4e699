/- SectionWrites: the walk. -/
import Derived.Test.YtnkbkhlbogcfaaaSq
import Derived.Test.YtnkbkhlbogcfaaaW13
import Derived.Test.YtnkbkhlbogcfaaaSi
import Derived.OpenShut
import Derived.BigRegion
import Derived.Deep.RegionHeld3
set_option linter.unusedVariables false
set_option linter.unusedSimpArgs false
namespace Go.Proofs.Ytnkbkhlbogcfaaa
open Go.RowKit Go.Proofs.YtnkbkhlbogcfaaaW.PrintWords
noncomputable section
theorem part3 (cs : Array Value) (i : Nat) (v : Value) (h : cs[i]? = some v) (w : World) : (part 3 cs i).run Try.prog w = .ok v w := by
  have hag : (isAgg 3).run Try.prog w = .ok false w := by
    unfold isAgg
    simp [Sem.run_bind, run_underlying Try.underlying3]
  simp [part, Sem.run_bind, hag, h]
theorem run_eqarr2 (d : Nat) (a0 a1 b0 b1 : Int) (w : World) :
    (Op.equalIn (d + 2) 93 (.agg #[.int .i64 a0, .int .i64 a1]) (.agg #[.int .i64 b0, .int .i64 b1])).run Try.prog w = .ok (a0 == b0 && a1 == b1) w := by
  obtain ⟨i0, hi, hz0, hz1, hz2⟩ := info_parts Try.info3'
  have he : ∀ (a b : Int) (w : World), (Op.equalIn (d + 1) 3 (.int .i64 a) (.int .i64 b)).run Try.prog w = .ok (a == b) w := fun a b w => run_equalIn_int w d 3 .i64 .i64 a b Try.underlying3
  have p0 : ∀ (a b : Value) (w : World), (part 3 #[a, b] 0).run Try.prog w = .ok a w := fun a b w => part3 _ _ _ rfl w
  have p1 : ∀ (a b : Value) (w : World), (part 3 #[a, b] 1).run Try.prog w = .ok b w := fun a b w => part3 _ _ _ rfl w
  rw [Op.equalIn]
  simp only [Sem.run_bind, run_underlying Try.underlying93, Result.andThen_ok]
  simp [sizeOf, typeInfo, hi, hz1, show List.range' 0 2 = [0, 1] from rfl, List.forIn_cons, Sem.run_bind, p0, p1, he]
  by_cases h0 : a0 = b0
  · by_cases h1 : a1 = b1
    · simp [h0, h1]
    · simp [h0, h1]
  · simp [h0]
/-- '!=' of two places -/
theorem run_neq93 (a b : Int) (w : World) :
    (binOp .neq 93 (.agg #[.int .i64 a, .int .i64 b]) (.agg #[.int .i64 a, .int .i64 b])).run Try.prog w = .ok (.bool false) w := by
  rw [run_neq_struct, run_eqarr2 9998]
  simp
attribute [local go_sem high] run_neq93

theorem write_both (v : Int) (l : List SecV) (A : Option Addr) (L c : Nat) (w : World) (hL : l.length = L) (hS : SE w A l) (h100 : ∀ x ∈ l, x.b.length ≤ 100) :
    Calls Try.prog 51 #[.int .i64 v, .slice A L c] w fun e w' => ∃ A' n c', e = .returned (.tuple #[.slice A' n c', .int .i64 (cond (decide (May v l)) 0 1)]) ∧ (decide (May v l) = false → n = 0) ∧ Below w.heap.size w w' := by
  by_cases hM : May v l
  · rw [decide_eq_true hM]
    refine (write_any v l A L c w hL hS hM h100).mono ?_
    rintro e w' ⟨A', n, c', rfl, _, _, hb⟩
    exact ⟨A', n, c', rfl, (fun h => by cases h), hb⟩
  · rw [decide_eq_false hM]
    refine (write_no v l A L c w hL hS hM).mono ?_
    rintro e w' ⟨rfl, hb⟩
    exact ⟨none, 0, 0, rfl, (fun _ => rfl), hb⟩

set_option maxHeartbeats 8000000 in
set_option maxRecDepth 100000 in
theorem sectionWrites_row {w : World} (z : Int) (wz : (Lit.int .i64 z).wf = true) (A : Option Addr) (l : List SecV) (c : Nat) (hS : SE w A l) (hc : l.length ≤ c) :
    Calls Try.prog 21 #[.int .i64 z, .slice A l.length c] w fun e w' => e = .returned (.bool true) ∧ Below w.heap.size w w' := by
  obtain ⟨z1, z2⟩ := bounds_i64 wz
  have HGT := Lib.hid (good_true l A l.length c w rfl hS)
  have HGF := Lib.hid (fun (wx : World) (h : Below w.heap.size w wx) => good_false l A l.length c wx rfl (hS.below h))
  obtain ⟨L, hL⟩ : ∃ L, L = l.length := ⟨_, rfl⟩
  rw [← hL] at HGT HGF ⊢
  have v256 := arN_lt z (m := 256) (by omega)
  obtain ⟨v, hv⟩ : ∃ v, v = arN z 256 := ⟨_, rfl⟩
  have KA := Lib.hid (fun (wx : World) => around_any z 256 (by omega) (by omega) (by omega) (by omega) wx)
  rw [← hv] at KA v256
  have hMf := goodL_may v v256 l
  have h100f := goodL_100 false l
  have h100t := Lib.hid (goodL_100 true l)
  clear hL hS hc wz hv
  go_enter Try.func21, Try.ntmps21
  go_wp2_with fail
  refine HGT.out.mono ?_
  rintro e w1 ⟨A1, n1, c1, rfl, hn1, ho1, hs1, hb1⟩
  have hl1 := ho1.len
  have H1 := Lib.hid (And.intro hs1 (And.intro hl1 hb1))
  clear ho1 hs1 hl1 hb1
  go_wp2_with fail
  refine (rmay_any z (goodL true l) A1 n1 c1 w1 H1.out.2.1 H1.out.1).mono ?_
  rintro e w2 ⟨rfl, hb2⟩
  have H2 := Lib.hid (And.intro (H1.out.1.below hb2) (And.intro H1.out.2.1 (H1.out.2.2.trans (hb2.mono H1.out.2.2.size))))
  clear hb2
  have KW := Lib.hid (write_both z (goodL true l) A1 n1 c1 w2 H2.out.2.1 H2.out.1 h100t.out)
  have KM := Lib.hid (fun (wx : World) (h : Below w2.heap.size w2 wx) => may_any z (goodL true l) A1 n1 c1 wx H2.out.2.1 (H2.out.1.below h))
  obtain ⟨q, hq⟩ : ∃ q, q = decide (May z (goodL true l)) := ⟨_, rfl⟩
  rw [← hq] at KW KM ⊢
  clear hq
  go_wp2_with fail
  refine KW.out.mono ?_
  rintro e w3 ⟨A3, n3, c3, rfl, hz3, hb3⟩
  have H3 := Lib.hid (And.intro hb3 (H2.out.2.2.trans (hb3.mono H2.out.2.2.size)))
  clear hb3
  cases q
  all_goals try (obtain rfl := hz3 rfl)
  all_goals
    clear hz3
    dsimp only [cond]
    go_wp2_with fail
    refine (KM.out _ H3.out.1).mono ?_
    rintro e w4 ⟨rfl, hb4⟩
    have HB4 := Lib.hid (H3.out.2.trans (hb4.mono H3.out.2.size))
    clear hb4
    go_wp2_with fail
  all_goals
    refine (HGF.out w4 HB4.out).mono ?_
    rintro e w5 ⟨A5, n, c5, rfl, hn, ho5, hs5, hb5⟩
    obtain ⟨gl, hgl⟩ : ∃ gl, gl = goodL false l := ⟨_, rfl⟩
    rw [← hgl] at ho5 hs5 hMf h100f
    have hl5 := ho5.len
    have H5 := Lib.hid (And.intro hs5 (And.intro hl5 (HB4.out.trans (hb5.mono HB4.out.size))))
    have HM := Lib.hid hMf
    have H100 := Lib.hid h100f
    clear ho5 hs5 hb5 hgl hl5 hMf h100f H1 H2 H3 HB4 HGT HGF h100t KW KM
    go_wp2_with fail
    refine (KA.out _).mono ?_
    rintro e w5' ⟨rfl, rfl⟩
    obtain ⟨w5, rfl⟩ : ∃ u, u = w5' := ⟨_, rfl⟩
    go_wp2_with fail
    refine (write_any v gl A5 n c5 _ H5.out.2.1 H5.out.1 HM.out H100.out).mono ?_
    rintro e w7 ⟨A7, N, c7, rfl, hN, ho7, hb7⟩
    have H7 := Lib.hid (And.intro ho7 (And.intro (H5.out.1.below hb7) (H5.out.2.2.trans (hb7.mono H5.out.2.2.size))))
    have HNL := Lib.hid (show N = stB gl n + 4 by
      have h := ho7.len
      have h2 := file_len HM.out H100.out
      rw [← h]
      unfold fileB
      rw [sealL_length, h2, ← H5.out.2.1]
      unfold stB
      rw [List.take_length])
    clear ho7 hb7
    go_wp2_with fail
    refine (rwrite_any v gl A5 n c5 _ H5.out.2.1 H7.out.2.1 HM.out H100.out).mono ?_
    rintro e w8 ⟨A8, N8, c8, rfl, hN8, ho8, hb8⟩
    have hNN : N8 = N := by rw [← ho8.len, H7.out.1.len]
    subst hNN
    have H8 := Lib.hid (And.intro ho8 (And.intro (H7.out.1.below hb8) (And.intro (H7.out.2.1.below hb8) (H7.out.2.2.trans (hb8.mono H7.out.2.2.size)))))
    clear ho8 hb8
    go_wp2_with fail
    refine (same_any (fileB v gl) (fileB v gl) A7 A8 N8 N8 c7 c8 _ H8.out.1.len H8.out.1.len H8.out.2.1.rb H8.out.1.rb (by omega)).mono ?_
    rintro e w9 ⟨rfl, hb9⟩
    rw [decide_eq_true rfl]
    have H9 := Lib.hid (And.intro (H8.out.2.1.below hb9) (And.intro (H8.out.2.2.1.below hb9) (H8.out.2.2.2.trans (hb9.mono H8.out.2.2.2.size))))
    clear hb9
    go_wp2_with fail
    have KR := readF_any (fileB v gl) A7 N8 c7 w9 H9.out.1.len H9.out.1.rb H9.out.1.cap (by omega)
    rw [(file_ok HM.out H100.out).1, (file_ok HM.out H100.out).2, file_ver HM.out H100.out, file_cnt HM.out H100.out, H5.out.2.1] at KR
    dsimp only at KR
    rw [Int.toNat_natCast] at KR
    refine KR.mono ?_
    rintro e w10 ⟨(⟨h0, _⟩ | ⟨_, gm, m, rfl, hom, hgm⟩), hb10⟩
    · exact absurd rfl h0
    have hgm' : Got w10 w9.heap.size (fileH v gl) gl.length gl.length m := by rw [H5.out.2.1]; exact hgm
    have H10 := Lib.hid (And.intro (got_se hom hgm (by omega)) (And.intro (got_same HM.out H100.out hgm') (And.intro (H9.out.1.below hb10) (And.intro (H9.out.2.1.below hb10) (H9.out.2.2.trans (hb10.mono H9.out.2.2.size))))))
    clear hom hgm hgm' hb10 KR
    go_wp2_with fail
    have KS := sspans_any (fileB v gl) A7 N8 c7 w10 H10.out.2.2.1.len H10.out.2.2.1.rb H10.out.2.2.1.cap (by omega)
    rw [(file_ok HM.out H100.out).1, (file_ok HM.out H100.out).2, file_cnt HM.out H100.out, H5.out.2.1] at KS
    dsimp only at KS
    refine KS.mono ?_
    rintro e w11 ⟨(⟨h0, _⟩ | ⟨_, gs, rfl, hsp⟩), hb11⟩
    · exact absurd rfl h0
    have HWA := spL_file HM.out H100.out
    rw [H5.out.2.1] at HWA
    obtain ⟨sp, hspe⟩ : ∃ sp, sp = spL (fileH v gl) n n := ⟨_, rfl⟩
    rw [← hspe] at hsp HWA
    have H11 := Lib.hid (And.intro (H10.out.1.below hb11) (And.intro H10.out.2.1 (And.intro (H10.out.2.2.2.1.below hb11) (And.intro hsp (H10.out.2.2.2.2.trans (hb11.mono H10.out.2.2.2.2.size))))))
    have HWA := Lib.hid HWA
    clear hsp hspe hb11 KS
    go_wp2_with fail
    refine (rspans_any gl A7 N8 c7 A5 n c5 w11 H5.out.2.1 H11.out.2.2.1 H100.out hn HNL.out).mono ?_
    rintro e w12 ⟨gt, t, rfl, hpt, hwt, hb12⟩
    have hst : t = sp := hwt.eq HWA.out
    subst hst
    have H12 := Lib.hid (And.intro (H11.out.1.below hb12) (And.intro H11.out.2.1 (And.intro (H11.out.2.2.1.below hb12) (And.intro (H11.out.2.2.2.1.below hb12) (And.intro hpt (H11.out.2.2.2.2.trans (hb12.mono H11.out.2.2.2.2.size)))))))
    clear hpt hb12 hwt
    go_wp2_with fail
    go_loopw [19] (fun i wr => ∃ k : Nat, k ≤ n ∧ i = .int .i64 k ∧ Below w12.heap.size w12 wr) (fun i _ => n - (intOf i).toNat)
    case atStart => exact ⟨0, by omega, rfl, Below.refl _ _⟩
    case round =>
      obtain ⟨k, hk, rfl, hwr⟩ := hrel
      have HWR := Lib.hid hwr
      have k0 : (0 : Int) ≤ (k : Int) := by omega
      by_cases hlt : k < n
      · have j1 : (k : Int) < (n : Int) := by omega
        obtain ⟨y, hy⟩ : ∃ y, t[k]? = some y := ⟨_, List.getElem?_eq_getElem (by rw [H12.out.2.2.2.1.len]; exact hlt)⟩
        have q0 := (H12.out.2.2.2.1.below hwr).cells (g := gs) rfl _ _ (spCells_at hy).1
        have q1 := (H12.out.2.2.2.1.below hwr).cells (g := gs) rfl _ _ (spCells_at hy).2
        have r0 := (H12.out.2.2.2.2.1.below hwr).cells (g := gt) rfl _ _ (spCells_at hy).1
        have r1 := (H12.out.2.2.2.2.1.below hwr).cells (g := gt) rfl _ _ (spCells_at hy).2
        rw [add_plain] at q0 q1 r0 r1
        clear hwr hy
        go_wp2_with fail
        go_quiet (fail)
        go_wp2
        go_roundw
        case rel => exact ⟨k + 1, by omega, by go_num, pw_below_drewN HWR.out _⟩
        case measure => simp [intOf]; omega
      · obtain rfl : k = n := by omega
        clear hwr
        go_wp2_with fail
        refine (rsame_true m gl (some ⟨gm, 0, none⟩) A5 k k c5 wr (by rw [H12.out.2.1.1, H5.out.2.1]) H12.out.2.1 (H12.out.1.below HWR.out) (H12.out.2.2.1.below HWR.out) (by
          intro x hx
          obtain ⟨i, hi, rfl⟩ := List.mem_iff_getElem.1 hx
          have hi2 : i < gl.length := by rw [← H12.out.2.1.1]; exact hi
          have h := (H12.out.2.1.2 i _ _ (List.getElem?_eq_getElem hi) (List.getElem?_eq_getElem hi2)).2
          have h100 := H100.out _ (List.getElem_mem hi2)
          rw [h]; omega)).mono ?_
        rintro e w13 ⟨rfl, hb13⟩
        have H13 := Lib.hid (HWR.out.trans (hb13.mono HWR.out.size))
        clear hb13
        go_wp2_with fail
        refine (ssame_true m gl (some ⟨gm, 0, none⟩) A5 k k c5 w13 (by rw [H12.out.2.1.1, H5.out.2.1]) H12.out.2.1 (H12.out.1.below H13.out) (H12.out.2.2.1.below H13.out) (by
          intro x hx
          obtain ⟨i, hi, rfl⟩ := List.mem_iff_getElem.1 hx
          have hi2 : i < gl.length := by rw [← H12.out.2.1.1]; exact hi
          have h := (H12.out.2.1.2 i _ _ (List.getElem?_eq_getElem hi) (List.getElem?_eq_getElem hi2)).2
          have h100 := H100.out _ (List.getElem_mem hi2)
          rw [h]; omega)).mono ?_
        rintro e w14 ⟨rfl, hb14⟩
        have H14 := Lib.hid (H12.out.2.2.2.2.2.trans ((H13.out.trans (hb14.mono H13.out.size)).mono H12.out.2.2.2.2.2.size))
        clear hb14
        go_wp2_with fail
        refine (lives16_any H14.out).mono ?_
        rintro e w15 ⟨rfl, hb15⟩
        have H15 := Lib.hid hb15
        clear hb15
        go_wp2
        go_ret
        exact ⟨rfl, H15.out⟩
end
end Go.Proofs.Ytnkbkhlbogcfaaa
