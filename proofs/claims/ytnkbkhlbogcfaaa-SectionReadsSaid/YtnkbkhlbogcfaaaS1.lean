/- A short number at the beginning of bytes: the walk. -/
import Derived.Test.YtnkbkhlbogcfaaaSm
import Derived.Test.YtnkbkhlbogcfaaaN
set_option linter.unusedVariables false
set_option linter.unusedSimpArgs false
namespace Go.Proofs.Ytnkbkhlbogcfaaa
open Go.RowKit Go.Proofs.YtnkbkhlbogcfaaaW.PrintWords
noncomputable section

theorem i64_or_nat (a b : Nat) (ha : (a : Int) ≤ 9223372036854775807) (hb : (b : Int) ≤ 9223372036854775807) : bits BinOp.or .i64 (a : Int) (b : Int) = ((a ||| b : Nat) : Int) := by
  have e63 : ((2 ^ 63 : Nat) : Int) = 9223372036854775808 := by kernel_rfl
  have hx : a ||| b < 2 ^ 63 := Nat.or_lt_two_pow (Int.ofNat_lt.1 (by rw [e63]; omega)) (Int.ofNat_lt.1 (by rw [e63]; omega))
  have hx' : ((a ||| b : Nat) : Int) < 9223372036854775808 := by rw [← e63]; exact Int.ofNat_lt.2 hx
  have e64 : ((18446744073709551616 : Nat) : Int) = 18446744073709551616 := rfl
  show IntKind.i64.wrap ((BitVec.ofInt 64 (a : Int) ||| BitVec.ofInt 64 (b : Int)).toNat : Int) = _
  rw [BitVec.toNat_or, ofInt_u64 a (Int.ofNat_lt.1 (by rw [e64]; omega)), ofInt_u64 b (Int.ofNat_lt.1 (by rw [e64]; omega)), IntWalk.i64_left, IntWalk.wrap64_in _ ⟨by omega, by omega⟩]
theorem or_up (a z k : Nat) (ha : a < 128 ^ k) : a ||| z * 128 ^ k = a + z * 128 ^ k := by
  have e : 128 ^ k = 2 ^ (7 * k) := by rw [Nat.pow_mul]
  rw [e] at ha ⊢
  have := Nat.two_pow_add_eq_or_of_lt ha z
  rw [Nat.mul_comm z, Nat.add_comm, this, Nat.or_comm]
theorem up_le (z k : Nat) (hz : z ≤ 127) (hk : k ≤ 8) : ((z * 128 ^ k : Nat) : Int) ≤ 9151314442816847872 ∧ ((128 ^ k : Nat) : Int) ≤ 72057594037927936 := by
  have h1 : 128 ^ k ≤ 128 ^ 8 := Nat.pow_le_pow_right (by omega) hk
  have e8 : ((128 ^ 8 : Nat) : Int) = 72057594037927936 := by kernel_rfl
  have h2 : z * 128 ^ k ≤ 127 * 128 ^ 8 := Nat.mul_le_mul hz h1
  have h3 : ((127 * 128 ^ 8 : Nat) : Int) = 9151314442816847872 := by kernel_rfl
  exact ⟨by rw [← h3]; exact Int.ofNat_le.2 h2, by rw [← e8]; exact Int.ofNat_le.2 h1⟩

theorem or_step (x z k q s : Nat) (hx : x < 128 ^ k) (hq : q = z * 128 ^ k) (hs : s = x + q) (h1 : (x : Int) ≤ 9223372036854775807) (h2 : (q : Int) ≤ 9223372036854775807) : bits BinOp.or .i64 (x : Int) (q : Int) = (s : Int) := by
  rw [i64_or_nat x q h1 h2, hq, or_up x z k hx, hs, hq]
theorem and_step (y : UInt8) (z : Nat) (hz : z = y.toNat % 128) : bits BinOp.and .u8 (y.toNat : Int) 127 = (z : Int) := by
  have hyl := y.toNat_lt
  rw [show (127 : Int) = ((127 : Nat) : Int) from rfl, u8_and_nat _ _ (by omega) (by omega), hz]
  congr 1
  exact Nat.and_two_pow_sub_one_eq_mod y.toNat 7
theorem shl_step (z k q : Nat) (hq : q = z * 128 ^ k) (h2 : (q : Int) ≤ 9223372036854775807) : RowKit.wrap64 ((z : Int) * 2 ^ (7 * k)) = (q : Int) := by
  have e : (z : Int) * 2 ^ (7 * k) = (q : Int) := by
    rw [hq, Int.natCast_mul, Int.natCast_pow, Int.pow_mul]
    rfl
  rw [e]
  exact IntWalk.wrap64_in _ ⟨by omega, by omega⟩

set_option maxHeartbeats 2000000 in
set_option maxRecDepth 100000 in
theorem short_read (b : List UInt8) (A : Option Addr) (n c : Nat) (w : World) (hl : b.length = n) (hR : RB w A b) (hn : n ≤ 1000000) (hc : n ≤ c) :
    Calls Try.prog 86 #[.slice A n c] w fun e w' => e = .returned (.tuple #[.int .i64 ((rdS 0 0 b).1 : Nat), .int .i64 ((rdS 0 0 b).2.1 : Nat), .int .i64 ((rdS 0 0 b).2.2 : Nat)]) ∧ w' = w := by
  obtain ⟨k9, hk9⟩ : ∃ k9, k9 = min n 9 := ⟨_, rfl⟩
  have hmin := Lib.hid (show ([(9 : Int)].foldl min (n : Int)) = (k9 : Int) by simp only [List.foldl_cons, List.foldl_nil]; omega)
  have hk1 : k9 ≤ n := by omega
  have hk2 : k9 ≤ 9 := by omega
  have i1 : (k9 : Int) ≤ (c : Int) := by omega
  have H9 := Lib.hid hk9
  have H := Lib.hid (And.intro hR hl)
  clear hR hl hk9
  go_enter Try.func86, Try.ntmps86
  go_wp2_with (refine wpList_min (o := ⟨some 11, _, _, _, _, _⟩) .i64 n [9] k9 _ _ rfl rfl ?_ hmin.out ?_; simp [go_sem])
  go_loopw [5, 14] (fun v i wr => ∃ (k x : Nat), k ≤ k9 ∧ i = .int .i64 k ∧ v = .int .i64 x ∧ x < 128 ^ k ∧ rdS k x (b.drop k) = rdS 0 0 b ∧ wr = w) (fun _ i _ => k9 - (intOf i).toNat)
  case atStart => exact ⟨0, 0, by omega, rfl, rfl, by simp, rfl, rfl⟩
  case round =>
    obtain ⟨k, x, hk, rfl, rfl, hx, hr, rfl⟩ := hrel
    have k0 : (0 : Int) ≤ (k : Int) := by omega
    have x0 : (0 : Int) ≤ (x : Int) := by omega
    have HX := Lib.hid (And.intro hx hr)
    clear hx hr
    by_cases hlt : k < k9
    · have kn : (k : Int) < (k9 : Int) := by omega
      have kn9 : (k : Int) ≤ 8 := by omega
      obtain ⟨y, hy⟩ : ∃ y, b[k]? = some y := ⟨_, List.getElem?_eq_getElem (by have := H.out.2; omega)⟩
      obtain ⟨ad, had, e1⟩ := H.out.1.at_ hy
      subst had
      have hk8 : k ≤ 8 := by omega
      have hyl := y.toNat_lt
      obtain ⟨z, hz⟩ : ∃ z, z = y.toNat % 128 := ⟨_, rfl⟩
      have hz127 : z ≤ 127 := by omega
      obtain ⟨u1, u2⟩ := up_le z k hz127 hk8
      have hxb : ((x : Nat) : Int) < 72057594037927936 := by have := Int.ofNat_lt.2 HX.out.1; omega
      obtain ⟨q, hq⟩ : ∃ q, q = z * 128 ^ k := ⟨_, rfl⟩
      obtain ⟨s, hs⟩ : ∃ s, s = x + q := ⟨_, rfl⟩
      rw [← hq] at u1
      have xle : (x : Int) ≤ 9223372036854775807 := by omega
      have qle : (q : Int) ≤ 9223372036854775807 := by omega
      have FF := Lib.hid (And.intro (and_step y z hz) (And.intro (shl_step z k q hq qle) (or_step x z k q s HX.out.1 hq hs xle qle)))
      have hsl : s < 128 ^ (k + 1) := by
        have h1 := HX.out.1
        have h2 : z * 128 ^ k ≤ 127 * 128 ^ k := Nat.mul_le_mul_right _ hz127
        rw [hs, hq, Nat.pow_succ]
        omega
      have hsI : (s : Int) ≤ 9223372036854775807 := by omega
      have hd : b.drop k = y :: b.drop (k + 1) := by
        have := List.getElem?_eq_some_iff.1 hy
        rw [List.drop_eq_getElem_cons this.1, this.2]
      have hrd : rdS 0 0 b = rdS k x (y :: b.drop (k + 1)) := by rw [← hd, HX.out.2]
      have HF := Lib.hid (And.intro hsl (And.intro hrd (And.intro hz (And.intro hq hs))))
      have y0 : (0 : Int) ≤ (y.toNat : Int) := by omega
      have zI : (z : Int) ≤ 127 := by omega
      have z0 : (0 : Int) ≤ (z : Int) := by omega
      clear hsl hrd hz hq hs hd hy hyl
      by_cases hbig : 128 ≤ y.toNat
      · have g1 : (128 : Int) ≤ (y.toNat : Int) := by omega
        obtain ⟨f1, f3, f4⟩ := FF.out
        go_wp2
        go_roundw
        case rel =>
          refine ⟨k + 1, s, by omega, by go_num, rfl, HF.out.1, ?_, trivial⟩
          rw [HF.out.2.1, rdS_more hk8 hbig, ← HF.out.2.2.1, ← HF.out.2.2.2.1, ← HF.out.2.2.2.2]
        case measure => simp [intOf]; omega
      · have g1 : (y.toNat : Int) < 128 := by omega
        by_cases hzero : y.toNat = 0
        · have g2 : ((y.toNat : Int) == 0) = true := by simp [hzero]
          by_cases hk0 : 0 < k
          · have g3 : (0 : Int) < (k : Int) := by omega
            have HE := Lib.hid (show rdS 0 0 b = (0, 0, 3) by rw [HF.out.2.1, rdS_zero hk8 hzero hk0])
            clear hzero u1 u2 hxb xle qle hsI zI
            obtain ⟨f1, f3, f4⟩ := FF.out
            go_wp2
            go_ret3
            rw [HE.out]
            exact ⟨rfl, rfl⟩
          · have g3 : ((k : Int) > 0) = False := by simp; omega
            have g4 : ¬ (0 : Int) < (k : Int) := by omega
            have HE := Lib.hid (show rdS 0 0 b = (s, k + 1, 0) by rw [HF.out.2.1, rdS_last hk8 (by omega) (by omega), ← HF.out.2.2.1, ← HF.out.2.2.2.1, ← HF.out.2.2.2.2])
            clear hzero u1 u2 hxb xle qle hsI zI
            obtain ⟨f1, f3, f4⟩ := FF.out
            go_wp2
            go_ret3
            rw [HE.out]
            exact ⟨by simp, rfl⟩
        · have g2 : ((y.toNat : Int) == 0) = false := by simp [hzero]
          have HE := Lib.hid (show rdS 0 0 b = (s, k + 1, 0) by rw [HF.out.2.1, rdS_last hk8 (by omega) (by omega), ← HF.out.2.2.1, ← HF.out.2.2.2.1, ← HF.out.2.2.2.2])
          clear hzero u1 u2 hxb xle qle hsI zI
          obtain ⟨f1, f3, f4⟩ := FF.out
          go_wp2
          go_ret3
          rw [HE.out]
          exact ⟨by simp, rfl⟩
    · have kn : (k : Int) = (k9 : Int) := by omega
      have kk : k = k9 := by omega
      by_cases hn9 : 9 ≤ n
      · have g1 : (9 : Int) ≤ (n : Int) := by omega
        have HE := Lib.hid (show rdS 0 0 b = (0, 0, 3) by rw [← HX.out.2, show k = 9 by have := H9.out; omega, rdS_nine])
        go_wp2
        go_ret3
        rw [HE.out]
        exact ⟨rfl, rfl⟩
      · have g1 : (n : Int) < 9 := by omega
        have HE := Lib.hid (show rdS 0 0 b = (0, 0, 2) by rw [← HX.out.2, List.drop_of_length_le (by have := H9.out; have := H.out.2; omega), rdS_nil _ (by omega)])
        go_wp2
        go_ret3
        rw [HE.out]
        exact ⟨rfl, rfl⟩
end
end Go.Proofs.Ytnkbkhlbogcfaaa
