/- A reader's read of a number of so many bytes. -/
import Derived.Test.YtnkbkhlbogcfaaaRu
set_option linter.unusedVariables false
set_option linter.unusedSimpArgs false
namespace Go.Proofs.Ytnkbkhlbogcfaaa
open Go.RowKit Go.Proofs.YtnkbkhlbogcfaaaW.PrintWords
noncomputable section

theorem u64_wrap_nat (a : Nat) (h : a < 2 ^ 64) : IntKind.u64.wrap (a : Int) = (a : Int) := by
  have e64 : ((2 ^ 64 : Nat) : Int) = 18446744073709551616 := by kernel_rfl
  have : (a : Int) < 18446744073709551616 := by rw [← e64]; exact Int.ofNat_lt.2 h
  show (a : Int) % 18446744073709551616 = _
  omega
theorem u64_or_nat (a b : Nat) (ha : a < 2 ^ 64) (hb : b < 2 ^ 64) : bits BinOp.or .u64 (a : Int) (b : Int) = ((a ||| b : Nat) : Int) := by
  show IntKind.u64.wrap ((BitVec.ofInt 64 (a : Int) ||| BitVec.ofInt 64 (b : Int)).toNat : Int) = _
  rw [BitVec.toNat_or, ofInt_u64 a ha, ofInt_u64 b hb]
  exact u64_wrap_nat _ (Nat.or_lt_two_pow ha hb)
theorem or_upB (a z k : Nat) (ha : a < 256 ^ k) : a ||| z * 256 ^ k = a + z * 256 ^ k := by
  have e : 256 ^ k = 2 ^ (8 * k) := by rw [Nat.pow_mul]
  rw [e] at ha ⊢
  have := Nat.two_pow_add_eq_or_of_lt ha z
  rw [Nat.mul_comm z, Nat.add_comm, this, Nat.or_comm]
/-- one more byte is told to a number -/
theorem num_step (r : List UInt8) (j : Nat) (y : UInt8) (hj : j ≤ 7) (hy : r[j]? = some y) : bits BinOp.or .u64 ((numB (r.take j) : Nat) : Int) (IntKind.u64.wrap ((y.toNat : Int) * 2 ^ (8 * j))) = ((numB (r.take (j + 1)) : Nat) : Int) := by
  have hjl : j < r.length := (List.getElem?_eq_some_iff.1 hy).1
  have hx := numB_lt (r.take j)
  rw [List.length_take, Nat.min_eq_left (by omega)] at hx
  have hyl := y.toNat_lt
  have h8 : 256 ^ j ≤ 256 ^ 7 := Nat.pow_le_pow_right (by omega) hj
  have e7 : 256 * 256 ^ 7 = 2 ^ 64 := by kernel_rfl
  have h1 : y.toNat * 256 ^ j < 2 ^ 64 := by
    have : y.toNat * 256 ^ j ≤ 255 * 256 ^ 7 := Nat.mul_le_mul (by omega) h8
    omega
  have h2 : numB (r.take j) < 2 ^ 64 := by omega
  have e : (y.toNat : Int) * 2 ^ (8 * j) = ((y.toNat * 256 ^ j : Nat) : Int) := by
    rw [Int.natCast_mul, Int.natCast_pow, Int.pow_mul]
    rfl
  rw [e, u64_wrap_nat _ h1, u64_or_nat _ _ h2 h1, or_upB _ _ _ hx]
  congr 1
  rw [List.take_add_one, hy, numB_append, List.length_take, Nat.min_eq_left (by omega)]
  simp [numB]

set_option maxHeartbeats 1000000 in
set_option maxRecDepth 100000 in
theorem fixedR_any (k p base n c at_ : Nat) (e : Int) (A : Option Addr) (b : List UInt8) (w : World) (hk : k ≤ 8) (h : RdB w base p A n c b at_ e) (hat : at_ ≤ n) (hn : n ≤ 900000) :
    Calls Try.prog 54 #[.pointer (some ⟨p, 0, none⟩), .int .i64 k] w fun ex w' => ex = .returned (.int .u64 ((rFixed b k at_ e).1 : Nat)) ∧ RdB w' base p A n c b (rFixed b k at_ e).2.1 (rFixed b k at_ e).2.2 ∧ Mod w w' p none := by
  have hlen := h.own.len
  have hl8 : (rRaw b k at_ e).1.length ≤ 8 := by
    unfold rRaw
    split
    · simp
    · split
      · simp
      · simp; omega
  unfold rFixed
  dsimp only
  obtain ⟨r, at', e', hr⟩ : ∃ r at' e', rRaw b k at_ e = (r, at', e') := ⟨_, _, _, rfl⟩
  have hRaw := rawR_any k p base n c at_ e A b w h hat hn
  rw [hr] at hRaw hl8 ⊢
  dsimp only at hRaw hl8 ⊢
  obtain ⟨l, hl⟩ : ∃ l, l = r.length := ⟨_, rfl⟩
  rw [← hl] at hRaw hl8
  have HR := Lib.hid hRaw
  have HL := Lib.hid hl
  have l8 : (l : Int) ≤ 8 := by omega
  clear hRaw h hr hl hlen
  go_enter Try.func54, Try.ntmps54
  go_wp2_with fail
  refine HR.out.mono ?_
  rintro ex w1 ⟨A1, c1, rfl, ho, hrd, hm⟩
  have HO := Lib.hid (And.intro ho (And.intro hrd hm))
  clear ho hrd hm
  go_wp2_with fail
  go_loopw [5, 12] (fun v i wr => ∃ j : Nat, j ≤ l ∧ i = .int .i64 j ∧ v = .int .u64 (numB (r.take j) : Nat) ∧ wr = w1) (fun _ i _ => l - (intOf i).toNat)
  case atStart => exact ⟨0, by omega, rfl, rfl, rfl⟩
  case round =>
    obtain ⟨j, hj, rfl, rfl, rfl⟩ := hrel
    have j0 : (0 : Int) ≤ (j : Int) := by omega
    by_cases hlt : j < l
    · have jl : (j : Int) < (l : Int) := by omega
      have jl8 : (j : Int) ≤ 7 := by omega
      obtain ⟨y, hy⟩ : ∃ y, r[j]? = some y := ⟨_, List.getElem?_eq_getElem (by have := HL.out; omega)⟩
      obtain ⟨ad, had, e1⟩ := HO.out.1.rb.at_ hy
      subst had
      have HY := Lib.hid hy
      obtain ⟨x, hx⟩ : ∃ x, x = numB (r.take j) := ⟨_, rfl⟩
      rw [← hx]
      have HX := Lib.hid hx
      clear hy hx
      have x0 : (0 : Int) ≤ (x : Int) := by omega
      have y0 : (0 : Int) ≤ (y.toNat : Int) := by omega
      have y1 : (y.toNat : Int) < 256 := by have := y.toNat_lt; omega
      have HS := Lib.hid (num_step r j y (by omega) HY.out)
      go_wp2
      go_roundw
      case rel =>
        refine ⟨j + 1, by omega, by go_num, ?_, trivial⟩
        rw [HX.out, HS.out]
      case measure => simp [intOf]; omega
    · obtain rfl : j = l := by omega
      go_wp2
      go_ret
      refine ⟨?_, HO.out.2⟩
      rw [List.take_of_length_le (by have := HL.out; omega)]
      rfl
end
end Go.Proofs.Ytnkbkhlbogcfaaa
