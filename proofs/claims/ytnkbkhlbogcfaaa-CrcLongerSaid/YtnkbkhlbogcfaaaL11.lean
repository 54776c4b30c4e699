/- CrcLonger: the walk. -/
import Derived.Test.YtnkbkhlbogcfaaaF
import Derived.OpenShut
set_option linter.unusedVariables false
set_option linter.unusedSimpArgs false
namespace Go.Proofs.Ytnkbkhlbogcfaaa
open Go.RowKit Go.Proofs.YtnkbkhlbogcfaaaW.PrintWords
noncomputable section

set_option maxHeartbeats 2000000 in
set_option maxRecDepth 100000 in
theorem crcLonger_row {w : World} (A0 : Option Addr) (a0 : List UInt8) (c0 : Nat) (h0 : RB w A0 a0) (l0 : a0.length ≤ c0) (A1 : Option Addr) (m0 : List UInt8) (c1 : Nat) (h1 : RB w A1 m0) (l1 : m0.length ≤ c1) (z : Int) (wz : (Lit.int .i64 z).wf = true) :
    Calls Try.prog 11 #[.slice A0 a0.length c0, .slice A1 m0.length c1, .int .i64 z] w fun e w' => e = .returned (.bool true) ∧ Below w.heap.size w w' := by
  obtain ⟨b, hb⟩ : ∃ a, a = few a0 100 := ⟨_, rfl⟩
  obtain ⟨n, hn⟩ : ∃ n, n = min a0.length 100 := ⟨_, rfl⟩
  obtain ⟨r, hr⟩ : ∃ a, a = few m0 4 := ⟨_, rfl⟩
  obtain ⟨m, hm⟩ : ∃ n, n = min m0.length 4 := ⟨_, rfl⟩
  have Lb : b.length = n := by rw [hb, hn, few_length]
  have Rb : RB w A0 b := by rw [hb]; exact few_rb h0 _
  have Lr : r.length = m := by rw [hr, hm, few_length]
  have Rr : RB w A1 r := by rw [hr]; exact few_rb h1 _
  have n3 : n ≤ 100 := by omega
  have m3 : m ≤ 4 := by omega
  have HN := Lib.hid (And.intro hn hm)
  have HR := Lib.hid (And.intro Rb Lb)
  have HM := Lib.hid (And.intro Rr Lr)
  have hl0 := Lib.hid l0
  have hl1 := Lib.hid l1
  clear hb hn hr hm Lb Rb Lr Rr h0 l0 h1 l1
  have zlo : (-9223372036854775808 : Int) ≤ z := by have := bounds_i64 wz; omega
  have zhi : z ≤ 9223372036854775807 := by have := bounds_i64 wz; omega
  obtain ⟨q, hq, k1, k2⟩ := place z (n + 5) (by omega)
  rw [show ((n + 5 : Nat) : Int) = (n : Int) + 4 + 1 by omega] at k1 k2
  have hqI : (q : Int) < (n : Int) + 5 := by omega
  by_cases hz : z < 0
  all_goals first | (have k := k1 hz; have hzd : decide (z < 0) = true := decide_eq_true hz; clear k1 k2) | (have k := k2 (by omega); have hzd : decide (z < 0) = false := decide_eq_false hz; clear k1 k2)
  all_goals have hn4 : ((n : Int) + 4 == 0) = false := by rw [beq_eq_false_iff_ne]; omega
  all_goals
    go_enter Try.func11, Try.ntmps11
    go_wp2_with fail
    refine (few_any A0 _ c0 100 _ hl0.out (by omega)).mono ?_
    rintro e w' ⟨rfl, rfl⟩
    rw [← HN.out.1]
    go_wp2_with fail
    refine (few_any A1 _ c1 4 _ hl1.out (by omega)).mono ?_
    rintro e w' ⟨rfl, rfl⟩
    rw [← HN.out.2]
    go_wp2_with fail
    refine (seal_any b A0 n c0 _ HR.out.2 HR.out.1 (by omega)).mono ?_
    rintro e w1 ⟨A2, c2, rfl, ho2, hb2⟩
    have HO2 := Lib.hid ho2
    have HB2 := Lib.hid hb2
    clear ho2 hb2
    have hcap2 : (n : Int) + 4 ≤ (c2 : Int) := by have := HO2.out.cap; omega
    go_wp2_with (first
      | (at_builtin; refine appN (W0 := w1) w1.heap.size none 0 0 [] A1 m c1 r rfl rfl rfl rfl (OB.nil _ _) (HM.out.1.below HB2.out) HM.out.2 (Below.refl _ _) (Nat.le_refl _) (by omega) ?_; intro A3 c3 w3 ho3 hb3 hz3; simp only [Nat.zero_add, List.nil_append] at ho3; have tok1 : True := trivial)
      | (at_builtin; have _t := tok1; refine appN (W0 := w1) w1.heap.size A3 m c3 r A2 (n + 4) c2 (sealL b) rfl rfl rfl rfl ho3 (HO2.out.below hb3).rb HO2.out.len hb3 hb3.size (by omega) ?_; intro A4 c4 w4 ho4 hb4 hz4; clear tok1; have tok2 : True := trivial)
      | (at_builtin; have _t := tok2; refine appN (W0 := w4) w4.heap.size none 0 0 [] A2 (n + 4) c2 (sealL b) rfl rfl rfl rfl (OB.nil _ _) (HO2.out.below hb4).rb HO2.out.len (Below.refl _ _) (Nat.le_refl _) (by omega) ?_; intro A5 c5 w5 ho5 hb5 hz5; simp only [Nat.zero_add, List.nil_append] at ho5; clear tok2; have tok3 : True := trivial)
      | (at_builtin; have _t := tok3; refine appN (W0 := w4) w4.heap.size A5 (n + 4) c5 (sealL b) A1 m c1 r rfl rfl rfl rfl ho5 ((HM.out.1.below HB2.out).below (hb4.trans (hb5.mono hb4.size))) HM.out.2 hb5 hb5.size (by omega) ?_; intro A6 c6 w6 ho6 hb6 hz6; clear tok3))
    have hb16 : Below w1.heap.size w1 w6 := hb4.trans (hb6.mono hb4.size)
    have r4 : RB w6 A4 (r ++ sealL b) := (ho4.below hb6).rb
    have r2 : RB w6 A2 (sealL b) := (HO2.out.below hb16).rb
    have hsl : (sealL b).length = n + 4 := HO2.out.len
    obtain ⟨cs, hcs⟩ : ∃ cs : Array Value, cs = #[Value.slice A4 (m + (n + 4)) c4, Value.slice A6 (n + 4 + m) c6, Value.slice A2 (n + 4 - q) c2] := ⟨_, rfl⟩
    have KEY : ∀ j, j < 3 → ∃ (A : Option Addr) (l c : Nat) (bs : List UInt8), cs[j]? = some (.slice A l c) ∧ bs.length = l ∧ RB w6 A bs ∧ l ≤ c ∧ l < 1000 := by
      intro j hj
      rw [hcs]
      match j, hj with
      | 0, _ => exact ⟨A4, _, c4, _, rfl, ho4.len, r4, ho4.cap, by omega⟩
      | 1, _ => exact ⟨A6, _, c6, _, rfl, ho6.len, ho6.rb, ho6.cap, by omega⟩
      | 2, _ => exact ⟨A2, _, c2, (sealL b).take (n + 4 - q), rfl, by rw [List.length_take]; omega, r2.take _ (by omega), by have := HO2.out.cap; omega, by omega⟩
    have hbl : Below w.heap.size w (w6.alloc (.cells cs 22)) := below_alloc (HB2.out.trans (hb16.mono HB2.out.size)) _
    have hcb : (w6.alloc (.cells cs 22)).heap[w6.heap.size]? = some (.cells cs 22 (0, 0)) := heap_alloc_new w6 _
    have hb67 : Below w6.heap.size w6 (w6.alloc (.cells cs 22)) := below_alloc (Below.refl _ _) _
    have hsz7 : w6.heap.size < (w6.alloc (.cells cs 22)).heap.size := by simp
    rw [← hcs]
    obtain ⟨w7, hw7⟩ : ∃ w7, w7 = w6.alloc (.cells cs 22) := ⟨_, rfl⟩
    rw [← hw7] at hbl hcb hb67 hsz7
    rw [← hw7]
    have HK := Lib.hid (And.intro KEY (And.intro hbl (And.intro hcb (And.intro hb67 hsz7))))
    clear KEY hbl hcb hb67 hsz7 hw7 hcs r4 r2 hsl hb16 ho3 ho4 ho5 ho6 hb3 hb4 hb5 hb6 hz3 hz4 hz5 hz6
    try rw [k]
    clear k zlo zhi
    go_loopw [13, 14, 15, 16] (fun i _ _ _ wr => ∃ j : Nat, j ≤ 3 ∧ i = .int .i64 j ∧ Below w7.heap.size w7 wr) (fun i _ _ _ _ => 3 - (intOf i).toNat)
    case atStart => exact ⟨0, by omega, rfl, Below.refl _ _⟩
    case round =>
      obtain ⟨j, hj, rfl, hb⟩ := hrel
      have HB := Lib.hid hb
      clear hb
      by_cases hlt : j < 3
      · obtain ⟨A, l, c, bs, hc, hl, hR, hlc, hl1⟩ := HK.out.1 j hlt
        have e1 := cell_of_row wr w6.heap.size j _ _ _ ((HB.out.block w6.heap.size HK.out.2.2.2.2).trans HK.out.2.2.1)
        rw [hc] at e1
        have HC := Lib.hid (And.intro hl (And.intro hR hlc))
        obtain ⟨E, hE⟩ : ∃ E, E = openE bs := ⟨_, rfl⟩
        have HE := Lib.hid hE
        have i0 : (0 : Int) ≤ (j : Int) := by omega
        have i1 : (j : Int) < 3 := by omega
        clear hc hl hR hlc hE
        go_wp2_with fail
        refine (open_any bs A l c _ HC.out.1 ((HC.out.2.1.below HK.out.2.2.2.1).below HB.out) (by omega) HC.out.2.2).mono ?_
        rintro e w8 ⟨A8, n8, c8, rfl, ho8, hb8⟩
        rw [← HE.out]
        have e2 := (hb8.cell (p := ⟨w6.heap.size, j, none⟩) (Nat.lt_of_lt_of_le HK.out.2.2.2.2 HB.out.size)).trans e1
        have HB8 := Lib.hid (HB.out.trans (hb8.mono HB.out.size))
        have HO8 := Lib.hid ho8
        clear ho8 hb8
        go_wp2_with fail
        refine (why_any bs A l c _ HC.out.1 ((HC.out.2.1.below HK.out.2.2.2.1).below HB8.out) (by omega) HC.out.2.2).mono ?_
        rintro e w9 ⟨rfl, hb9⟩
        rw [← HE.out]
        have HB9 := Lib.hid (HB8.out.trans (hb9.mono HB8.out.size))
        clear hb9
        have q1 : (E != E) = false := by simp
        by_cases hz0 : E = 0
        · have q2 : (E != 0) = false := by simp [hz0]
          clear hz0
          go_wp2_with fail
          go_roundw
          case rel => exact ⟨j + 1, by omega, by go_num, HB9.out⟩
          case measure => simp [intOf]; omega
        · have q2 : (E != 0) = true := by rw [bne_iff_ne]; exact hz0
          have h8 := HO8.out.len
          rw [openE_not (by rw [← HE.out]; exact hz0)] at h8
          have h80 : n8 = 0 := by rw [← h8]; rfl
          subst h80
          clear hz0 h8
          go_wp2_with fail
          go_roundw
          case rel => exact ⟨j + 1, by omega, by go_num, HB9.out⟩
          case measure => simp [intOf]; omega
      · obtain rfl : j = 3 := by omega
        go_wp2_with fail
        refine (lives02_any _).mono ?_
        rintro e w8 ⟨rfl, hb8⟩
        go_wp2_with fail
        go_ret
        have h8 := HB.out.trans (hb8.mono HB.out.size)
        exact ⟨rfl, HK.out.2.1.trans (h8.mono HK.out.2.1.size)⟩
end
end Go.Proofs.Ytnkbkhlbogcfaaa
