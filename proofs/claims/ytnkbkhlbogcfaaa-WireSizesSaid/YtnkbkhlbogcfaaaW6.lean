/- WireSizes: the walk. -/
import Derived.Test.YtnkbkhlbogcfaaaP
set_option linter.unusedVariables false
set_option linter.unusedSimpArgs false
namespace Go.Proofs.Ytnkbkhlbogcfaaa
open Go.RowKit Go.Proofs.YtnkbkhlbogcfaaaW.PrintWords
noncomputable section

theorem shortB_digits : ∀ (m d : Nat), m < 2 ^ d → (d = 0 ∨ 2 ^ (d - 1) ≤ m) → (shortB m).length = max ((d + 6) / 7) 1 := by
  intro m
  induction m using Nat.strongRecOn with
  | ind m ih =>
    intro d h1 h2
    by_cases hm : m < 128
    · rw [shortB_one hm]
      have hd : d ≤ 7 := by
        rcases h2 with rfl | h2
        · omega
        · rcases Nat.lt_or_ge 7 d with h | h
          · have := Nat.pow_le_pow_right (show 0 < 2 by omega) (show 7 ≤ d - 1 by omega)
            omega
          · exact h
      simp only [List.length_singleton]
      omega
    · rw [shortB_more hm, List.length_cons]
      have hd : 8 ≤ d := by
        rcases Nat.lt_or_ge d 8 with h | h
        · have := Nat.pow_le_pow_right (show 0 < 2 by omega) (show d ≤ 7 by omega)
          omega
        · exact h
      obtain ⟨c, rfl⟩ : ∃ c, d = c + 8 := ⟨d - 8, by omega⟩
      have e1 : 2 ^ (c + 8) = 2 ^ (c + 1) * 128 := by rw [show c + 8 = (c + 1) + 7 by omega, Nat.pow_add]
      have e2 : 2 ^ (c + 8 - 1) = 2 ^ c * 128 := by rw [show c + 8 - 1 = c + 7 by omega, Nat.pow_add]
      rw [e1] at h1
      rw [e2] at h2
      rw [ih (m / 128) (by omega) (c + 1) (by omega) (.inr (by rw [Nat.add_sub_cancel]; omega))]
      omega
theorem digits64 {m d : Nat} (hm : (m : Int) ≤ 9223372036854775807) (h : d = 0 ∨ 2 ^ (d - 1) ≤ m) : d ≤ 63 := by
  rcases Nat.lt_or_ge 63 d with h1 | h1
  · have h2 := Nat.pow_le_pow_right (show 0 < 2 by omega) (show 63 ≤ d - 1 by omega)
    have h3 : ((2 ^ 63 : Nat) : Int) = 9223372036854775808 := by kernel_rfl
    generalize 2 ^ 63 = X at *
    omega
  · exact h1

theorem u64_nat (v : Int) : ∃ V : Nat, IntKind.u64.wrap v = (V : Int) ∧ (V : Int) < 18446744073709551616 := by
  refine ⟨(v % 18446744073709551616).toNat, ?_, by omega⟩
  rw [Int.toNat_of_nonneg (by omega)]
  rfl

set_option maxHeartbeats 2000000 in
set_option maxRecDepth 100000 in
theorem wireSizes_row {w : World} (v : Int) (hv : (Lit.int .i64 v).wf = true) (s : ByteArray) (hs : s.size ≤ maxLen) (z : Int) (hz : (Lit.int .i64 z).wf = true) :
    Calls Try.prog 6 #[.int .i64 v, .string s, .int .i64 z] w fun e w' => e = .returned (.bool true) ∧ Below w.heap.size w w' := by
  have v1 : (-9223372036854775808 : Int) ≤ v := by have := bounds_i64 hv; omega
  have v2 : v ≤ 9223372036854775807 := by have := bounds_i64 hv; omega
  have z1 : (-9223372036854775808 : Int) ≤ z := by have := bounds_i64 hz; omega
  have z2 : z ≤ 9223372036854775807 := by have := bounds_i64 hz; omega
  have hsI : (s.size : Int) ≤ 9223372036854775807 := by unfold maxLen at hs; omega
  obtain ⟨k, hk⟩ : ∃ k, k = min s.size 300 := ⟨_, rfl⟩
  have hmin := Lib.hid (show ([(300 : Int)].foldl min (s.size : Int)) = (k : Int) by simp only [List.foldl_cons, List.foldl_nil]; omega)
  have k1 : k ≤ s.size := by omega
  have k2 : k ≤ 300 := by omega
  have i1 : (k : Int) ≤ (s.size : Int) := by omega
  obtain ⟨m, hm⟩ : ∃ m : Nat, max v 0 = (m : Int) := ⟨(max v 0).toNat, by omega⟩
  have hm2 : (m : Int) ≤ 9223372036854775807 := by omega
  have hM := Lib.hid hm
  have hmax := Lib.hid (show ([(0 : Int)].foldl max v) = (m : Int) from hm)
  have hw0 := Lib.hid (WrB.new w)
  clear hv hz hs hk hm
  go_enter Try.func6, Try.ntmps6
  go_wp2_with (first | (refine wpList_min (o := ⟨some 16, _, _, _, _, _⟩) .i64 s.size [300] k _ _ rfl rfl ?_ hmin.out ?_; simp [go_sem]))
  refine (wide_any z z1 z2 _).mono ?_
  rintro e w1 ⟨rfl, hb1⟩
  have hB1 := Lib.hid hb1
  clear hb1
  have hw1 := Lib.hid (hw0.out.below (by simpa using hB1.out))
  obtain ⟨V, hV, hV2⟩ := u64_nat v
  have hVh := Lib.hid hV
  clear hV
  go_wp2_with fail
  rw [hVh.out]
  refine (fixed_any V (wideN z) w.heap.size w.heap.size 0 0 none [] _ hw1.out (wideN_le z) (by omega)).mono ?_
  rintro e w2 ⟨A2, c2, rfl, hw2, hm2', hs2⟩
  rw [Nat.zero_add] at hw2
  have hW2 := Lib.hid (And.intro hw2 (hw1.out.mod_below hw1.out.base_le hm2'))
  clear hw2 hm2' hs2
  have hn2 := Lib.hid (WrB.new w2)
  go_wp2_with fail
  refine (short_any v m w2.heap.size w2.heap.size 0 0 none [] _ hn2.out hM.out v2 (by omega)).mono ?_
  rintro e w3 ⟨A3, c3, rfl, hw3, hm3, hs3⟩
  rw [Nat.zero_add] at hw3
  have hW3 := Lib.hid (And.intro hw3 ((below_alloc (Below.refl _ _) _).trans (hn2.out.mod_below (by simp) hm3)))
  clear hw3 hm3 hs3
  have hn3 := Lib.hid (WrB.new w3)
  have hyk : (s.extract 0 k).size = k := by rw [ByteArray.size_extract]; omega
  obtain ⟨y, hy⟩ : ∃ y, y = s.extract 0 k := ⟨_, rfl⟩
  rw [← hy] at hyk
  have hY := Lib.hid hyk
  clear hyk
  go_wp2_with fail
  rw [← hy]
  refine (text_any y w3.heap.size w3.heap.size 0 0 none [] _ hn3.out (by have := hY.out; omega) (by omega)).mono ?_
  rintro e w4 ⟨A4, c4, rfl, hw4, hm4, hs4⟩
  obtain ⟨l, hl⟩ : ∃ l : Nat, l = if k ≤ 127 then 1 else 2 := ⟨_, rfl⟩
  have hlk : (shortB k).length = l := by
    rw [hl]
    by_cases h : k ≤ 127
    · rw [if_pos h, shortB_one (by omega)]; rfl
    · rw [if_neg h, shortB_more (by omega), shortB_one (by omega)]; rfl
  rw [hY.out, Nat.zero_add, hlk] at hw4
  have hW4 := Lib.hid (And.intro hw4 ((below_alloc (Below.refl _ _) _).trans (hn3.out.mod_below (by simp) hm4)))
  clear hw4 hm4 hs4
  have hL := Lib.hid hl
  clear hl hlk
  go_wp2_with (refine wpList_max (o := ⟨some 28, _, _, _, _, _⟩) .i64 v [0] m _ _ rfl rfl ?_ hmax.out ?_; simp [go_sem])
  go_loopw [10, 11] (fun dd x wr => ∃ d : Nat, dd = .int .i64 d ∧ x = .int .i64 ((m / 2 ^ d : Nat) : Int) ∧ (d = 0 ∨ 2 ^ (d - 1) ≤ m) ∧ wr = w4)
    (fun _ x _ => (intOf x).toNat)
  case atStart => exact ⟨0, rfl, by simp, .inl rfl, rfl⟩
  case round =>
    obtain ⟨d, rfl, rfl, hd, rfl⟩ := hrel
    have hd63 := digits64 hm2 hd
    obtain ⟨x, hx⟩ : ∃ x, x = m / 2 ^ d := ⟨_, rfl⟩
    rw [← hx]
    have hD := Lib.hid hd
    have hX := Lib.hid hx
    have x0 : (0 : Int) ≤ (x : Int) := by omega
    have d63 : (d : Int) ≤ 63 := by omega
    have d00 : (0 : Int) ≤ (d : Int) := by omega
    clear hx hd
    by_cases hpos : 0 < x
    · have x1 : (0 : Int) < (x : Int) := by omega
      have x2 : (x : Int) ≤ 9223372036854775807 := by have h1 : m / 2 ^ d ≤ m := Nat.div_le_self _ _; rw [← hX.out] at h1; omega
      go_wp2
      go_roundw
      case rel =>
        refine ⟨d + 1, by go_num, ?_, .inr ?_, trivial⟩
        · congr 1
          rw [Nat.pow_succ, ← Nat.div_div_eq_div_mul, ← hX.out]
          omega
        · rw [Nat.add_sub_cancel]
          have := hX.out
          rw [this] at hpos
          exact (Nat.div_pos_iff.1 hpos).2
      case measure => simp [intOf]; omega
    · have xz : x = 0 := by omega
      have xzI : (x : Int) ≤ 0 := by omega
      have hlt : m < 2 ^ d := by
        have := hX.out
        rw [xz] at this
        rcases Nat.lt_or_ge m (2 ^ d) with h | h
        · exact h
        · have := Nat.div_pos h (Nat.two_pow_pos d); omega
      have hdig := shortB_digits m d hlt hD.out
      obtain ⟨L, hLd⟩ : ∃ L, L = (shortB m).length := ⟨_, rfl⟩
      rw [← hLd] at hdig hW3
      have hcase : (((d : Int) + 6) / 7 < 1 ∧ ((L : Int) == 1) = true) ∨ (¬ ((d : Int) + 6) / 7 < 1 ∧ ((L : Int) == ((d : Int) + 6) / 7) = true) := by
        by_cases h : ((d : Int) + 6) / 7 < 1
        · exact .inl ⟨h, by rw [beq_iff_eq]; omega⟩
        · exact .inr ⟨h, by rw [beq_iff_eq]; omega⟩
      clear hlt hdig hLd
      clear x0 hpos hX hD xz
      obtain ⟨q, hq⟩ : ∃ q : Nat, q = l + k := ⟨_, rfl⟩
      have HQ := Lib.hid hq
      have t3 : ((q : Int) == (k : Int) + (l : Int)) = true := by rw [hq]; simp; omega
      rw [← hq] at hW4
      clear hq
      have WA := Lib.hid ((hW2.out.1.below hW3.out.2).below hW4.out.2)
      have WB := Lib.hid (hW3.out.1.below hW4.out.2)
      rcases hcase with ⟨hc1, hc2⟩ | ⟨hc1, hc2⟩ <;> by_cases hk7 : k ≤ 127
      all_goals
        have hl' := hL.out
        first | rw [if_pos hk7] at hl' | rw [if_neg hk7] at hl'
        subst hl'
        first
          | have T3 := Lib.hid (show ((q : Int) == (k : Int) + 1) = true from t3)
          | have T3 := Lib.hid (show ((q : Int) == (k : Int) + 2) = true from t3)
        clear hL t3 hy
        have ys : (y.size : Int) = (k : Int) := by have := hY.out; omega
        clear hV2
        go_wp2_with fail
        refine (wlen_any _ _ _ _ _ _ _ WA.out).mono ?_
        rintro e w5 ⟨rfl, rfl⟩
        go_wp2_with fail
        refine (wide_any z z1 z2 _).mono ?_
        rintro e w6 ⟨rfl, hb6⟩
        have hB6 := Lib.hid hb6
        clear hb6
        go_wp2_with fail
        refine (wlen_any _ _ _ _ _ _ _ (WB.out.below hB6.out)).mono ?_
        rintro e w7 ⟨rfl, rfl⟩
        go_wp2_with fail
        refine (wlen_any _ _ _ _ _ _ _ (hW4.out.1.below hB6.out)).mono ?_
        rintro e w8 ⟨rfl, rfl⟩
        have t3 := T3.out
        go_wp2_with fail
        refine (lives01_any _).mono ?_
        rintro e w9 ⟨rfl, hb9⟩
        have hB9 := Lib.hid hb9
        clear hb9
        go_wp2
        go_ret
        refine ⟨rfl, ?_⟩
        have b1 := hB1.out.mono (show w.heap.size ≤ _ by simp)
        have b2 := hW2.out.2
        have s1 := hw1.out.base_le
        have s2 : w.heap.size ≤ w2.heap.size := hW2.out.1.base_le
        have b3 := hW3.out.2.mono s2
        have s3 : w.heap.size ≤ w3.heap.size := Nat.le_trans s2 hW3.out.2.size
        have b4 := hW4.out.2.mono s3
        have s4 := Nat.le_trans s3 hW4.out.2.size
        have b6 := hB6.out.mono s4
        have b9 := hB9.out.mono (Nat.le_trans s4 hB6.out.size)
        exact ((((((below_alloc (Below.refl _ _) _).trans b1).trans b2).trans b3).trans b4).trans b6).trans b9
end
end Go.Proofs.Ytnkbkhlbogcfaaa
