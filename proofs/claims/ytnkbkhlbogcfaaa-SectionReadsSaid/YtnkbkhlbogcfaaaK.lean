/- The document's numbers and texts as bytes. -/
import Derived.Test.YtnkbkhlbogcfaaaJ
set_option linter.unusedVariables false
set_option linter.unusedSimpArgs false
namespace Go.Proofs.Ytnkbkhlbogcfaaa
open Go.RowKit Go.Proofs.YtnkbkhlbogcfaaaW.PrintWords
noncomputable section

/-- 1, 2, 4 or 8, made of any -/
def wideN (z : Int) : Nat := 2 ^ ((if z < 0 then -(z + 1) else z).toNat % 4)
theorem wideN_cases (z : Int) : wideN z = 1 ∨ wideN z = 2 ∨ wideN z = 4 ∨ wideN z = 8 := by
  unfold wideN
  have h : (if z < 0 then -(z + 1) else z).toNat % 4 < 4 := Nat.mod_lt _ (by omega)
  generalize (if z < 0 then -(z + 1) else z).toNat % 4 = k at *
  match k, h with
  | 0, _ => exact .inl rfl
  | 1, _ => exact .inr (.inl rfl)
  | 2, _ => exact .inr (.inr (.inl rfl))
  | 3, _ => exact .inr (.inr (.inr rfl))
theorem wideN_le (z : Int) : wideN z ≤ 8 := by rcases wideN_cases z with h | h | h | h <;> omega
theorem wideN_pos (z : Int) : 1 ≤ wideN z := by rcases wideN_cases z with h | h | h | h <;> omega

set_option maxHeartbeats 1000000 in
set_option maxRecDepth 100000 in
theorem wide_any (z : Int) (hz1 : -9223372036854775808 ≤ z) (hz2 : z ≤ 9223372036854775807) (w : World) :
    Calls Try.prog 32 #[.int .i64 z] w fun e w' => e = .returned (.int .i64 (wideN z)) ∧ Below w.heap.size w w' := by
  obtain ⟨k, hk⟩ : ∃ k, k = (if z < 0 then -(z + 1) else z).toNat % 4 := ⟨_, rfl⟩
  have hk4 : k < 4 := by rw [hk]; exact Nat.mod_lt _ (by omega)
  have hw : wideN z = 2 ^ k := by rw [hk]; rfl
  have hW := Lib.hid hw
  have HV : ∀ (x : Nat) (h : x < 4), x = k → [Value.int IntKind.i64 1, Value.int IntKind.i64 2, Value.int IntKind.i64 4, Value.int IntKind.i64 8][x]'h = Value.int .i64 (wideN z : Int) := by
    intro x h e
    rw [hw]
    subst e
    match x, h with
    | 0, _ => rfl
    | 1, _ => rfl
    | 2, _ => rfl
    | 3, _ => rfl
  have HV' := Lib.hid HV
  have hkI : (k : Int) < 4 := by omega
  by_cases hneg : z < 0
  · have e : (-(z + 1)) % 4 = (k : Int) := by rw [if_pos hneg] at hk; omega
    have k1 : (z + 1).tmod 4 = -(k : Int) := by
      have h1 : (-(z + 1)).tmod 4 = (-(z + 1)) % 4 := Int.tmod_eq_emod_of_nonneg (by omega)
      rw [Int.neg_tmod] at h1
      omega
    clear hk hw e HV
    go_enter Try.func32, Try.ntmps32
    go_wp2
    go_ret
    rw [HV'.out _ _ (by omega)]
    exact ⟨rfl, below_alloc (Below.refl _ _) _⟩
  · have e : z % 4 = (k : Int) := by rw [if_neg hneg] at hk; omega
    clear hk hw HV
    go_enter Try.func32, Try.ntmps32
    go_wp2
    go_ret
    rw [HV'.out _ _ (by omega)]
    exact ⟨rfl, below_alloc (Below.refl _ _) _⟩
end
end Go.Proofs.Ytnkbkhlbogcfaaa
