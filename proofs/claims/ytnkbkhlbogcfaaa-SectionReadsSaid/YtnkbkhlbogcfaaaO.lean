/- The document's numbers and texts as bytes: the walks. -/
import Derived.Test.YtnkbkhlbogcfaaaK
set_option linter.unusedVariables false
set_option linter.unusedSimpArgs false
namespace Go.Proofs.Ytnkbkhlbogcfaaa
open Go.RowKit Go.Proofs.YtnkbkhlbogcfaaaW.PrintWords
noncomputable section

set_option maxHeartbeats 1000000 in
set_option maxRecDepth 100000 in
theorem rfixed_any (v k : Nat) (hk : k ≤ 8) (hv : (v : Int) < 18446744073709551616) (w : World) :
    Calls Try.prog 77 #[.int .u64 v, .int .i64 k] w fun e w' => ∃ A' c', e = .returned (.slice A' k c') ∧ OB w' w.heap.size A' k c' (fixedB v k) ∧ Below w.heap.size w w' := by
  have v0 : (0 : Int) ≤ (v : Int) := by omega
  go_enter Try.func77, Try.ntmps77
  go_wp2
  go_loopw [0, 5, 6] (fun q s i wr => ∃ (j : Nat) (A1 : Option Addr) (c1 : Nat), j ≤ k ∧ i = .int .i64 j ∧ s = .slice A1 j c1 ∧ q = .int .u64 (v / 256 ^ j : Nat) ∧ OB wr w.heap.size A1 j c1 (fixedB v j) ∧ Below w.heap.size w wr)
    (fun _ _ i _ => k - (intOf i).toNat)
  case atStart => exact ⟨0, none, 0, by omega, rfl, rfl, by simp, OB.nil _ _, Below.refl _ _⟩
  case round =>
    obtain ⟨j, A1, c1, hj, rfl, rfl, rfl, ho, hb⟩ := hrel
    obtain ⟨q, hq⟩ : ∃ q, q = v / 256 ^ j := ⟨_, rfl⟩
    rw [← hq]
    have q0 : (0 : Int) ≤ (q : Int) := by omega
    have q1 : (q : Int) < 18446744073709551616 := by have h1 : v / 256 ^ j ≤ v := Nat.div_le_self _ _; omega
    have hW := Lib.hid (And.intro ho hb)
    have hQ := Lib.hid hq
    have hY := Lib.hid (show (q : Int) % 256 = ((UInt8.ofNat q).toNat : Int) from (ofNat_cast _).symm)
    clear ho hb hq
    by_cases hlt : j < k
    · go_wp2_with (at_builtin; refine app8 (UInt8.ofNat q) w.heap.size A1 j c1 (fixedB v j) rfl rfl rfl rfl hY.out hW.out.1 hW.out.2.size (by omega) ?_; intro A2 c2 w2 ho2 hg2 hs2)
      go_roundw
      case rel =>
        refine ⟨j + 1, A2, c2, by omega, by go_num, rfl, ?_, ?_, hW.out.2.grown hg2 hW.out.2.size hW.out.1.blk_base⟩
        · congr 1
          rw [Nat.pow_succ, ← Nat.div_div_eq_div_mul, ← hQ.out]
          omega
        · rw [fixedB_succ, ← hQ.out]
          exact ho2
      case measure => simp [intOf]; omega
    · obtain rfl : j = k := by omega
      go_wp2
      go_ret
      exact ⟨A1, c1, rfl, hW.out.1, hW.out.2⟩

set_option maxHeartbeats 1000000 in
set_option maxRecDepth 100000 in
theorem rshort_any (v : Int) (m : Nat) (hm : max v 0 = (m : Int)) (hv : v ≤ 9223372036854775807) (w : World) :
    Calls Try.prog 78 #[.int .i64 v] w fun e w' => ∃ A' c', e = .returned (.slice A' (shortB m).length c') ∧ OB w' w.heap.size A' (shortB m).length c' (shortB m) ∧ Below w.heap.size w w' := by
  have hl9 := Lib.hid (shortB_le9 (m := m) (by omega))
  have hmI : (m : Int) ≤ 9223372036854775807 := by omega
  have hcase : (v < 0 ∧ m = 0) ∨ (0 ≤ v ∧ v = (m : Int)) := by omega
  clear hm
  rcases hcase with ⟨hneg, rfl⟩ | ⟨hpos, rfl⟩
  all_goals
    go_enter Try.func78, Try.ntmps78
    go_wp2
    first
      | (go_loopw [0, 3] (fun q s wr => ∃ (j : Nat) (A1 : Option Addr) (n1 c1 : Nat) (ys : List UInt8), j ≤ m ∧ q = .int .i64 j ∧ s = .slice A1 n1 c1 ∧ OB wr w.heap.size A1 n1 c1 ys ∧ ys ++ shortB j = shortB m ∧ Below w.heap.size w wr)
          (fun q _ _ => (intOf q).toNat)
         case atStart => exact ⟨m, none, 0, 0, [], Nat.le_refl _, rfl, rfl, OB.nil _ _, rfl, Below.refl _ _⟩)
      | (go_loopw [0, 3] (fun q s wr => ∃ (j : Nat) (A1 : Option Addr) (n1 c1 : Nat) (ys : List UInt8), j ≤ 0 ∧ q = .int .i64 j ∧ s = .slice A1 n1 c1 ∧ OB wr w.heap.size A1 n1 c1 ys ∧ ys ++ shortB j = shortB 0 ∧ Below w.heap.size w wr)
          (fun q _ _ => (intOf q).toNat)
         case atStart => exact ⟨0, none, 0, 0, [], Nat.le_refl _, rfl, rfl, OB.nil _ _, rfl, Below.refl _ _⟩)
    case round =>
      obtain ⟨j, A1, n1, c1, ys, hj, rfl, rfl, ho, hx, hb⟩ := hrel
      have j0 : (0 : Int) ≤ (j : Int) := by omega
      have hn1 : n1 ≤ 100 := by
        have h1 := congrArg List.length hx
        simp only [List.length_append] at h1
        have h2 := ho.len
        have h4 := hl9.out
        omega
      have hW := Lib.hid (And.intro ho hb)
      have hX := Lib.hid hx
      clear ho hb hx
      by_cases hlt : j < 128
      · have hY := Lib.hid (show (j : Int) = ((UInt8.ofNat j).toNat : Int) by rw [ofNat_cast]; omega)
        go_wp2_with (at_builtin; refine app8 (UInt8.ofNat j) w.heap.size A1 n1 c1 ys rfl rfl rfl rfl hY.out hW.out.1 hW.out.2.size (by omega) ?_; intro A2 c2 w2 ho2 hg2 hs2)
        go_ret
        have hX' := hX.out
        rw [shortB_one hlt] at hX'
        rw [hX'] at ho2
        have e := ho2.len
        rw [e]
        exact ⟨A2, c2, rfl, ho2, hW.out.2.grown hg2 hW.out.2.size hW.out.1.blk_base⟩
      · try (exfalso; omega)
        all_goals
          have hY := Lib.hid (show 128 + (j : Int) % 128 = ((UInt8.ofNat (128 + j % 128)).toNat : Int) by rw [ofNat_cast]; omega)
          go_wp2_with (at_builtin; refine app8 (UInt8.ofNat (128 + j % 128)) w.heap.size A1 n1 c1 ys rfl rfl rfl rfl hY.out hW.out.1 hW.out.2.size (by omega) ?_; intro A2 c2 w2 ho2 hg2 hs2)
          go_roundw
          case rel =>
            refine ⟨j / 128, A2, n1 + 1, c2, ys ++ [UInt8.ofNat (128 + j % 128)], by omega, by go_num, rfl, ho2, ?_, hW.out.2.grown hg2 hW.out.2.size hW.out.1.blk_base⟩
            have hX' := hX.out
            rw [shortB_more hlt] at hX'
            simpa using hX'
          case measure => simp [intOf]; omega

set_option maxHeartbeats 1000000 in
set_option maxRecDepth 100000 in
theorem rsigned_any (v : Int) (w : World) :
    Calls Try.prog 79 #[.int .i64 v] w fun e w' => ∃ A' c', e = .returned (.slice A' (shortB (signN v)).length c') ∧ OB w' w.heap.size A' (shortB (signN v)).length c' (shortB (signN v)) ∧ Below w.heap.size w w' := by
  obtain ⟨t, ht⟩ : ∃ t, t = clampI v := ⟨_, rfl⟩
  have hcl : (v < -2305843009213693952 ∧ t = -2305843009213693952) ∨ (-2305843009213693952 ≤ v ∧ 2305843009213693951 < v ∧ t = 2305843009213693951) ∨ (-2305843009213693952 ≤ v ∧ v ≤ 2305843009213693951 ∧ t = v) := by
    rw [ht]; unfold clampI; omega
  obtain ⟨m, hm⟩ : ∃ m, m = signN v := ⟨_, rfl⟩
  rw [← hm]
  unfold signN at hm
  rw [← ht] at hm
  have hmm : (t < 0 ∧ 2 * (-(t + 1)) + 1 = (m : Int)) ∨ (0 ≤ t ∧ 2 * t = (m : Int)) := by
    by_cases h : t < 0
    · rw [if_pos h] at hm; omega
    · rw [if_neg h] at hm; omega
  have hmI : (m : Int) ≤ 4611686018427387904 := by omega
  clear ht hm
  rcases hcl with ⟨a1, rfl⟩ | ⟨a1, a2, rfl⟩ | ⟨a1, a2, rfl⟩ <;> rcases hmm with ⟨b1, b2⟩ | ⟨b1, b2⟩
  all_goals try (exfalso; omega)
  all_goals
    have hM := Lib.hid b2
    clear b2
    go_enter Try.func79, Try.ntmps79
    go_wp2_with fail
    refine (rshort_any _ m (by have := hM.out; omega) (by have := hM.out; omega) _).mono ?_
    rintro e w1 ⟨A1, c1, rfl, ho1, hb1⟩
    have hW := Lib.hid (And.intro ho1 hb1)
    clear ho1 hb1
    go_wp2
    go_ret
    exact ⟨A1, c1, rfl, hW.out.1, hW.out.2⟩
end
end Go.Proofs.Ytnkbkhlbogcfaaa
