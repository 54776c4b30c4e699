/- A short number read from bytes: plain laws. -/
import Derived.Test.YtnkbkhlbogcfaaaI
set_option linter.unusedVariables false
set_option linter.unusedSimpArgs false
namespace Go.Proofs.Ytnkbkhlbogcfaaa
noncomputable section

/-- the short number at the beginning of bytes, of which i were read already and told v: the number, how many bytes it has, the error -/
def rdS (i v : Nat) : List UInt8 → Nat × Nat × Nat
  | [] => (0, 0, if 9 ≤ i then 3 else 2)
  | c :: r => if 9 ≤ i then (0, 0, 3) else if 128 ≤ c.toNat then rdS (i + 1) (v + (c.toNat % 128) * 128 ^ i) r
    else if c.toNat = 0 ∧ 0 < i then (0, 0, 3) else (v + (c.toNat % 128) * 128 ^ i, i + 1, 0)
/-- what is written as a short number is read -/
theorem rdS_shortB (r : List UInt8) : ∀ (k m i v : Nat), (shortB m).length = k → i + k ≤ 9 → (0 < i → 0 < m) → rdS i v (shortB m ++ r) = (v + m * 128 ^ i, i + k, 0) := by
  intro k
  induction k with
  | zero => intro m i v h _ _; have := shortB_pos m; omega
  | succ k ih =>
    intro m i v h h9 h0
    by_cases hm : m < 128
    · rw [shortB_one hm] at h ⊢
      obtain rfl : k = 0 := by simpa using h
      have ht : (UInt8.ofNat m).toNat = m := by simp only [UInt8.toNat_ofNat']; omega
      simp only [List.cons_append, List.nil_append, rdS]
      rw [if_neg (by omega), ht, if_neg (by omega), if_neg (by intro h; have := h0 h.2; omega), Nat.mod_eq_of_lt hm]
    · rw [shortB_more hm] at h ⊢
      have ht : (UInt8.ofNat (128 + m % 128)).toNat = 128 + m % 128 := by simp only [UInt8.toNat_ofNat']; omega
      simp only [List.cons_append, rdS]
      rw [if_neg (by omega), ht, if_pos (by omega)]
      rw [ih (m / 128) (i + 1) _ (by simpa using h) (by omega) (fun _ => by omega)]
      refine Prod.ext ?_ (Prod.ext (by simp; omega) rfl)
      simp only
      rw [Nat.pow_succ, show (128 + m % 128) % 128 = m % 128 by omega, Nat.add_assoc, ← Nat.mul_assoc, Nat.mul_right_comm, ← Nat.add_mul]
      congr 2
      try omega
theorem rdS_more {k x : Nat} {y : UInt8} {r : List UInt8} (hk : k ≤ 8) (hy : 128 ≤ y.toNat) : rdS k x (y :: r) = rdS (k + 1) (x + y.toNat % 128 * 128 ^ k) r := by
  simp only [rdS]; rw [if_neg (by omega), if_pos hy]
theorem rdS_zero {k x : Nat} {y : UInt8} {r : List UInt8} (hk : k ≤ 8) (hy : y.toNat = 0) (h0 : 0 < k) : rdS k x (y :: r) = (0, 0, 3) := by
  simp only [rdS]; rw [if_neg (by omega), if_neg (by omega), if_pos ⟨hy, h0⟩]
theorem rdS_last {k x : Nat} {y : UInt8} {r : List UInt8} (hk : k ≤ 8) (hy : y.toNat < 128) (h0 : ¬ (y.toNat = 0 ∧ 0 < k)) : rdS k x (y :: r) = (x + y.toNat % 128 * 128 ^ k, k + 1, 0) := by
  simp only [rdS]; rw [if_neg (by omega), if_neg (by omega), if_neg h0]
theorem rdS_nine (x : Nat) (r : List UInt8) : rdS 9 x r = (0, 0, 3) := by cases r <;> simp [rdS]
theorem rdS_nil {k : Nat} (x : Nat) (hk : k < 9) : rdS k x [] = (0, 0, 2) := by simp only [rdS]; rw [if_neg (by omega)]
/-- the number, the count, the error: their bounds -/
theorem rdS_bounds : ∀ (b : List UInt8) (i v : Nat), i ≤ 9 → v < 128 ^ i → (rdS i v b).1 < 128 ^ 9 ∧ (rdS i v b).2.1 ≤ i + b.length ∧ (rdS i v b).2.1 ≤ 9 ∧ (rdS i v b).2.2 ≤ 3 ∧ ((rdS i v b).2.2 ≠ 0 → (rdS i v b).1 = 0 ∧ (rdS i v b).2.1 = 0) := by
  intro b
  induction b with
  | nil => intro i v hi hv; simp only [rdS]; refine ⟨Nat.pow_pos (by omega), by omega, by omega, by split <;> omega, fun _ => ?_⟩; simp
  | cons c r ih =>
    intro i v hi hv
    have hz : v + c.toNat % 128 * 128 ^ i < 128 ^ (i + 1) := by
      have h1 : c.toNat % 128 * 128 ^ i ≤ 127 * 128 ^ i := Nat.mul_le_mul_right _ (by omega)
      rw [Nat.pow_succ]
      omega
    simp only [rdS]
    split
    · exact ⟨Nat.pow_pos (by omega), by simp, by simp, by simp, fun _ => by simp⟩
    · split
      · obtain ⟨h1, h2, h3, h4, h5⟩ := ih (i + 1) _ (by omega) hz
        exact ⟨h1, by simp only [List.length_cons]; omega, h3, h4, h5⟩
      · split
        · exact ⟨Nat.pow_pos (by omega), by simp, by simp, by simp, fun _ => by simp⟩
        · exact ⟨Nat.lt_of_lt_of_le hz (Nat.pow_le_pow_right (by omega) (by omega)), by simp only [List.length_cons]; omega, by simp only; omega, by simp, fun h => absurd rfl h⟩
theorem rd_lt (b : List UInt8) : ((rdS 0 0 b).1 : Int) ≤ 9223372036854775807 := by
  have h := (rdS_bounds b 0 0 (by omega) (by simp)).1
  have e : ((128 ^ 9 : Nat) : Int) = 9223372036854775808 := by kernel_rfl
  have := Int.ofNat_lt.2 h
  omega
/-- what is read without an error was written so -/
theorem rdS_inv : ∀ (b : List UInt8) (i v x n : Nat), rdS i v b = (x, n, 0) → ∃ m k, x = v + m * 128 ^ i ∧ n = i + k ∧ k ≤ b.length ∧ b.take k = shortB m ∧ n ≤ 9 ∧ (0 < i → 0 < m)  := by
  intro b
  induction b with
  | nil => intro i v x n h; simp only [rdS] at h; split at h <;> simp at h
  | cons c r ih =>
    intro i v x n h
    simp only [rdS] at h
    split at h
    · simp at h
    · rename_i h9
      split at h
      · rename_i hc
        obtain ⟨m, k, e1, e2, hk, ht, hn, hp⟩ := ih _ _ _ _ h
        have hm := hp (by omega)
        have hcl := c.toNat_lt
        refine ⟨c.toNat % 128 + m * 128, k + 1, ?_, by omega, by simpa using hk, ?_, hn, fun _ => by omega⟩
        · rw [e1, Nat.pow_succ, Nat.add_assoc, Nat.add_mul, Nat.mul_assoc m 128, Nat.mul_comm 128 (128 ^ i)]
        · rw [List.take_succ_cons, ht, shortB_more (n := c.toNat % 128 + m * 128) (by omega), show (c.toNat % 128 + m * 128) / 128 = m by omega]
          congr 1
          apply UInt8.toNat_inj.1
          simp only [UInt8.toNat_ofNat']
          omega
      · split at h
        · simp at h
        · rename_i hc h0
          simp only [Prod.mk.injEq, and_true] at h
          have hcl := c.toNat_lt
          refine ⟨c.toNat, 1, by rw [← h.1, Nat.mod_eq_of_lt (by omega)], by omega, by simp, ?_, by omega, fun _ => by omega⟩
          rw [shortB_one (by omega)]
          simp
end
end Go.Proofs.Ytnkbkhlbogcfaaa
