/- Bytes are added to a sum. -/
import Derived.Test.YtnkbkhlbogcfaaaC2
set_option linter.unusedVariables false
set_option linter.unusedSimpArgs false
namespace Go.Proofs.Ytnkbkhlbogcfaaa
open Go.RowKit Go.Proofs.YtnkbkhlbogcfaaaW.PrintWords
noncomputable section

set_option maxHeartbeats 1000000 in
set_option maxRecDepth 100000 in
theorem add_any (p r n : Nat) (b : List UInt8) (A : Option Addr) (c : Nat) (w : World) (hp : w.heap[p]? = some (.cells (sumA r n) 103 (0, 0))) (hr : r < 2 ^ 32) (hR : RB w A b) (hA : 0 < b.length → ∀ ad, A = some ad → ad.block ≠ p) (hn : n + b.length < 1000000) :
    Calls Try.prog 26 #[.pointer (some ⟨p, 0, none⟩), .slice A b.length c] w fun e w' => e = .returned (.tuple #[]) ∧ w'.heap[p]? = some (.cells (sumA (Cm.reg r b) (n + b.length)) 103 (0, 0)) ∧ Mod w w' p none := by
  have hH := Lib.hid (And.intro hp (And.intro hr (And.intro hR hA)))
  clear hp hr hR hA
  go_enter Try.func26, Try.ntmps26
  go_wp2
  go_loopw [5, 8] (fun _ i wr => ∃ k : Nat, k ≤ b.length ∧ i = .int .i64 k ∧ wr.heap[p]? = some (.cells (sumA (Cm.reg r (b.take k)) n) 103 (0, 0)) ∧ Mod w wr p none)
    (fun _ i _ => b.length - (intOf i).toNat)
  case atStart =>
    exact ⟨0, by omega, rfl, hH.out.1, Mod.refl _ _ _⟩
  case round =>
    obtain ⟨k, hk, rfl, hb, hm⟩ := hrel
    obtain ⟨R, hR⟩ : ∃ R, R = Cm.reg r (b.take k) := ⟨_, rfl⟩
    have hRl : R < 2 ^ 32 := by rw [hR]; exact Cm.reg_lt hH.out.2.1 _
    rw [← hR] at hb
    have hb' := Lib.hid hb
    have hm' := Lib.hid hm
    have hR' := Lib.hid hR
    by_cases hlt : k < b.length
    · obtain ⟨x, hx⟩ : ∃ x, b[k]? = some x := ⟨_, List.getElem?_eq_getElem hlt⟩
      obtain ⟨ad, hA, hc⟩ := (hH.out.2.2.1.keep (w1 := wr) (fun ad e hn => hm.block _ (hH.out.2.2.1.lt e hn) (hH.out.2.2.2 hn ad e) (by simp))).at_ hx
      obtain ⟨j, hj⟩ : ∃ j, j = (R % 256) ^^^ x.toNat := ⟨_, rfl⟩
      have hjl : j < 256 := by rw [hj]; exact Nat.xor_lt_two_pow (n := 8) (by omega) (by have := x.toNat_lt; omega)
      have hi : bits BinOp.xor .u8 ((R : Int) % 256) (x.toNat : Int) = (j : Int) := by
        rw [hj]; exact u8_xor_nat (R % 256) x.toNat (by omega) (by have := x.toNat_lt; omega)
      have hjI : (j : Int) < 256 := by omega
      have c1 := cell_of_row wr p 256 _ _ _ hb
      rw [sumA_reg] at c1
      have c2 := cell_of_row wr p j _ _ _ hb
      rw [sumA_tab _ _ _ hjl] at c2
      have f1 := frozen_of_row wr p 256 _ _ hb
      have hR0 : (0 : Int) ≤ R := by omega
      have hx' := Lib.hid hx
      have hj' := Lib.hid hj
      have hRl' := Lib.hid hRl
      subst hA
      clear hx hj hRl hb hm hR
      go_wp2
      go_region
      go_wp2
      go_roundw
      case rel =>
        refine ⟨k + 1, by omega, by go_num, ?_, (hm'.out.setCell _ _).drew⟩
        have e1 : bits BinOp.xor .u32 (Cm.step8 j : Nat) ((R : Int) / 256) = ((Cm.step8 j ^^^ (R / 256) : Nat) : Int) :=
          u32_xor_nat _ (R / 256) (Cm.step8_lt (by omega)) (by have := hRl'.out; omega)
        have e2 : Cm.reg r (b.take (k + 1)) = Cm.step8 j ^^^ (R / 256) := by
          have ht : b.take (k + 1) = b.take k ++ [x] := by rw [List.take_add_one, hx'.out]; rfl
          rw [ht, Cm.reg_append, ← hR'.out, hj'.out]
          exact Cm.round R x.toNat
        rw [heap_drew, heap_setCell_same _ _ _ _ _ _ hb'.out, e1, sumA_set_reg, e2]
      case measure => simp [intOf]; omega
    · obtain rfl : k = b.length := by omega
      rw [List.take_length] at hR'
      have c1 := cell_of_row wr p 257 _ _ _ hb
      rw [sumA_num] at c1
      have f1 := frozen_of_row wr p 257 _ _ hb
      clear hb hm hR hRl
      have hnI : (n : Int) + b.length < 1000000 := by omega
      go_wp2
      go_end0
      refine ⟨rfl, ?_, hm'.out.setCell _ _⟩
      rw [heap_setCell_same _ _ _ _ _ _ hb'.out, show ((n : Int) + b.length) = ((n + b.length : Nat) : Int) by omega, sumA_set_num, hR'.out]

end
end Go.Proofs.Ytnkbkhlbogcfaaa
