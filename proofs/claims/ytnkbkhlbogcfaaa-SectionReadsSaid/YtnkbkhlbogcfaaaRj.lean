/- Do bytes begin with the four ones? the walk. -/
import Derived.Test.YtnkbkhlbogcfaaaRh
set_option linter.unusedVariables false
set_option linter.unusedSimpArgs false
namespace Go.Proofs.Ytnkbkhlbogcfaaa
open Go.RowKit Go.Proofs.YtnkbkhlbogcfaaaW.PrintWords
noncomputable section

theorem byte_eq (y : UInt8) (n : Nat) (hn : n < 256) : ((y.toNat : Int) == (n : Int)) = decide (y = UInt8.ofNat n) := by
  by_cases h : y = UInt8.ofNat n
  · rw [decide_eq_true h, h, UInt8.toNat_ofNat', Nat.mod_eq_of_lt (by simpa using hn)]
    simp
  · rw [decide_eq_false h]
    simp only [beq_eq_false_iff_ne, ne_eq]
    intro q
    refine h (UInt8.toNat_inj.1 ?_)
    rw [UInt8.toNat_ofNat', Nat.mod_eq_of_lt (by simpa using hn)]
    omega
set_option maxHeartbeats 1000000 in
set_option maxRecDepth 100000 in
theorem begins_any (b : List UInt8) (A : Option Addr) (n c : Nat) (w : World) (hl : b.length = n) (hR : RB w A b) (h4 : ¬ n < 4) :
    Calls Try.prog 100 #[.slice A n c] w fun e w' => e = .returned (.bool (decide (b.take 4 = [72, 73, 66, 82]))) ∧ w' = w := by
  obtain ⟨y0, y1, y2, y3, r, rfl⟩ : ∃ y0 y1 y2 y3 r, b = y0 :: y1 :: y2 :: y3 :: r := by
    match b, hl with
    | [], h => simp at h; omega
    | [_], h => simp at h; omega
    | [_, _], h => simp at h; omega
    | [_, _, _], h => simp at h; omega
    | y0 :: y1 :: y2 :: y3 :: r, _ => exact ⟨y0, y1, y2, y3, r, rfl⟩
  obtain ⟨ad, had, c0⟩ := hR.at_ (k := 0) (x := y0) rfl
  obtain ⟨ad', had', c1⟩ := hR.at_ (k := 1) (x := y1) rfl
  rw [had] at had'; injection had' with had'; subst had'
  obtain ⟨ad', had', c2⟩ := hR.at_ (k := 2) (x := y2) rfl
  rw [had] at had'; injection had' with had'; subst had'
  obtain ⟨ad', had', c3⟩ := hR.at_ (k := 3) (x := y3) rfl
  rw [had] at had'; injection had' with had'; subst had'
  subst had
  have b0 : ((y0.toNat : Int) == 72) = decide (y0 = UInt8.ofNat 72) := byte_eq y0 72 (by omega)
  have b1 : ((y1.toNat : Int) == 73) = decide (y1 = UInt8.ofNat 73) := byte_eq y1 73 (by omega)
  have b2 : ((y2.toNat : Int) == 66) = decide (y2 = UInt8.ofNat 66) := byte_eq y2 66 (by omega)
  have b3 : ((y3.toNat : Int) == 82) = decide (y3 = UInt8.ofNat 82) := byte_eq y3 82 (by omega)
  have c0 : w.cell? ad = some (.int .u8 (y0.toNat : Int)) := by have h := c0; rwa [show ad.add 0 = ad from by simp [Addr.add]] at h
  have c1 : w.cell? ⟨ad.block, ad.off + 1, none⟩ = some (.int .u8 (y1.toNat : Int)) := by have h := c1; rwa [show ad.add 1 = ⟨ad.block, ad.off + 1, none⟩ from by simp [Addr.add]] at h
  have c2 : w.cell? ⟨ad.block, ad.off + 2, none⟩ = some (.int .u8 (y2.toNat : Int)) := by have h := c2; rwa [show ad.add 2 = ⟨ad.block, ad.off + 2, none⟩ from by simp [Addr.add]] at h
  have c3 : w.cell? ⟨ad.block, ad.off + 3, none⟩ = some (.int .u8 (y3.toNat : Int)) := by have h := c3; rwa [show ad.add 3 = ⟨ad.block, ad.off + 3, none⟩ from by simp [Addr.add]] at h
  have nI : (4 : Int) ≤ (n : Int) := by omega
  have hd : decide ((y0 :: y1 :: y2 :: y3 :: r).take 4 = [72, 73, 66, 82]) = (decide (y0 = UInt8.ofNat 72) && decide (y1 = UInt8.ofNat 73) && decide (y2 = UInt8.ofNat 66) && decide (y3 = UInt8.ofNat 82)) := by
    simp [and_assoc, Bool.and_assoc]
  rw [hd]
  clear hl hR hd h4
  obtain ⟨d0, hd0⟩ : ∃ d, d = decide (y0 = UInt8.ofNat 72) := ⟨_, rfl⟩
  obtain ⟨d1, hd1⟩ : ∃ d, d = decide (y1 = UInt8.ofNat 73) := ⟨_, rfl⟩
  obtain ⟨d2, hd2⟩ : ∃ d, d = decide (y2 = UInt8.ofNat 66) := ⟨_, rfl⟩
  obtain ⟨d3, hd3⟩ : ∃ d, d = decide (y3 = UInt8.ofNat 82) := ⟨_, rfl⟩
  rw [← hd0] at b0 ⊢
  rw [← hd1] at b1 ⊢
  rw [← hd2] at b2 ⊢
  rw [← hd3] at b3 ⊢
  clear hd0 hd1 hd2 hd3
  go_enter Try.func100, Try.ntmps100
  cases d0
  · go_wp2
    go_ret
    exact ⟨rfl, rfl⟩
  cases d1
  · go_wp2
    go_ret
    exact ⟨rfl, rfl⟩
  cases d2
  · go_wp2
    go_ret
    exact ⟨rfl, rfl⟩
  cases d3
  all_goals
    go_wp2
    go_ret
    exact ⟨rfl, rfl⟩
end
end Go.Proofs.Ytnkbkhlbogcfaaa
