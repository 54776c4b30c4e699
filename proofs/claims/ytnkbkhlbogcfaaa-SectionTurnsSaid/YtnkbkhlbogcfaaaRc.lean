/- The functions that take is handed: what each tells, and keeps. -/
import Derived.Test.YtnkbkhlbogcfaaaUt
set_option linter.unusedVariables false
set_option linter.unusedSimpArgs false
namespace Go.Proofs.Ytnkbkhlbogcfaaa
open Go.RowKit Go.Proofs.YtnkbkhlbogcfaaaW.PrintWords
noncomputable section

set_option maxHeartbeats 1000000 in
set_option maxRecDepth 100000 in
theorem clos85 (g n c : Nat) (A : Option Addr) (b : List UInt8) (w : World) (hg : w.heap[g]? = some (.cells #[.int .i64 0] 3 (0, 0))) (hl : b.length = n) (hR : RB w A b) (hn : n ≤ 1000000) (hnc : n ≤ c) :
    Calls Try.prog 85 #[.slice A n c, .pointer (some ⟨g, 0, none⟩)] w fun e w' => e = .returned (.tuple #[.int .i64 ((rdS 0 0 b).2.1 : Nat), .int .i64 ((rdS 0 0 b).2.2 : Nat)]) ∧
      Below g w w' ∧ w'.cell? ⟨g, 0, none⟩ = some (.int .i64 ((rdS 0 0 b).1 : Nat)) := by
  have c1 := cell_of_one hg
  have f1 := free_of_one hg
  have hG := Lib.hid hg
  have hS := short_read b A n c w hl hR hn hnc
  obtain ⟨x, k, er, hq⟩ : ∃ x k er, rdS 0 0 b = (x, k, er) := ⟨_, _, _, rfl⟩
  rw [hq] at hS ⊢
  dsimp only at hS ⊢
  have hS' := Lib.hid hS
  clear hS hg hR hq hl
  go_enter Try.func85, Try.ntmps85
  go_wp2_with fail
  refine hS'.out.mono ?_
  rintro e w1 ⟨rfl, rfl⟩
  go_wp2
  go_ret2
  exact ⟨rfl, (Below.refl _ _).setCell (by simp) _, cell_of_one (one_setCell hG.out)⟩

/-- what Signed makes of a short number -/
def sgS (q : Nat × Nat × Nat) : Int × Nat × Nat := if q.2.2 = 0 ∧ (2305843009213693952 : Int) ≤ ((q.1 / 2 : Nat) : Int) then (0, 0, 3) else (sgnR q.1, q.2.1, q.2.2)

set_option maxHeartbeats 1000000 in
set_option maxRecDepth 100000 in
theorem clos87 (g n c : Nat) (A : Option Addr) (b : List UInt8) (w : World) (hg : w.heap[g]? = some (.cells #[.int .i64 0] 3 (0, 0))) (hl : b.length = n) (hR : RB w A b) (hn : n ≤ 1000000) (hnc : n ≤ c) :
    Calls Try.prog 87 #[.slice A n c, .pointer (some ⟨g, 0, none⟩)] w fun e w' => e = .returned (.tuple #[.int .i64 ((sgS (rdS 0 0 b)).2.1 : Nat), .int .i64 ((sgS (rdS 0 0 b)).2.2 : Nat)]) ∧
      Below g w w' ∧ w'.cell? ⟨g, 0, none⟩ = some (.int .i64 (sgS (rdS 0 0 b)).1) := by
  have c1 := cell_of_one hg
  have f1 := free_of_one hg
  have hG := Lib.hid hg
  have hS := short_read b A n c w hl hR hn hnc
  have hx := rd_lt b
  have he := (rdS_bounds b 0 0 (by omega) (by simp)).2.2.2.2
  obtain ⟨x, k, er, hq⟩ : ∃ x k er, rdS 0 0 b = (x, k, er) := ⟨_, _, _, rfl⟩
  rw [hq] at hS hx he ⊢
  dsimp only at hS hx he ⊢
  have x0 : (0 : Int) ≤ (x : Int) := by omega
  have hS' := Lib.hid hS
  have hE := Lib.hid he
  clear hS hg hR hq hl he
  by_cases h0 : er = 0
  · subst h0
    by_cases hb : (2305843009213693952 : Int) ≤ ((x / 2 : Nat) : Int)
    · have e1 : sgS (x, k, 0) = (0, 0, 3) := by unfold sgS; rw [if_pos ⟨rfl, hb⟩]
      rw [e1]
      have g1 : (2305843009213693952 : Int) ≤ (x : Int) / 2 := by omega
      clear hb e1
      go_enter Try.func87, Try.ntmps87
      go_wp2_with fail
      refine hS'.out.mono ?_
      rintro e w1 ⟨rfl, rfl⟩
      go_wp2
      go_ret2
      exact ⟨rfl, Below.refl _ _, c1⟩
    · have g1 : decide ((2305843009213693952 : Int) ≤ (x : Int) / 2) = false := by simp; omega
      have g3 : (x : Int) / 2 ≤ 9223372036854770000 := by omega
      have e1 : sgS (x, k, 0) = (sgnR x, k, 0) := by unfold sgS; rw [if_neg (fun h => hb h.2)]
      rw [e1]
      dsimp only
      clear hb e1
      by_cases ho : x % 2 = 1
      · have g2 : ((x : Int) % 2 == 1) = true := by simp; omega
        have e2 := Lib.hid (show sgnR x = -((x : Int) / 2 + 1) by unfold sgnR; rw [if_pos ho]; omega)
        clear ho hx
        go_enter Try.func87, Try.ntmps87
        go_wp2_with fail
        refine hS'.out.mono ?_
        rintro e w1 ⟨rfl, rfl⟩
        go_wp2
        go_ret2
        refine ⟨rfl, (Below.refl _ _).setCell (by simp) _, ?_⟩
        rw [e2.out]
        exact cell_of_one (one_setCell hG.out)
      · have g2 : ((x : Int) % 2 == 1) = false := by simp; omega
        have e2 := Lib.hid (show sgnR x = (x : Int) / 2 by unfold sgnR; rw [if_neg ho]; omega)
        clear ho hx
        go_enter Try.func87, Try.ntmps87
        go_wp2_with fail
        refine hS'.out.mono ?_
        rintro e w1 ⟨rfl, rfl⟩
        go_wp2
        go_ret2
        refine ⟨rfl, (Below.refl _ _).setCell (by simp) _, ?_⟩
        rw [e2.out]
        exact cell_of_one (one_setCell hG.out)
  · obtain ⟨rfl, rfl⟩ := hE.out h0
    have e1 : sgS (0, 0, er) = (0, 0, er) := by unfold sgS; rw [if_neg (fun h => h0 h.1)]; simp [sgnR]
    rw [e1]
    have g1 : ((er : Int) == 0) = false := by simp; omega
    clear e1 h0 hx x0
    go_enter Try.func87, Try.ntmps87
    go_wp2_with fail
    refine hS'.out.mono ?_
    rintro e w1 ⟨rfl, rfl⟩
    go_wp2
    go_ret2
    exact ⟨rfl, (Below.refl _ _).setCell (by simp) _, cell_of_one (one_setCell hG.out)⟩

/-- what List makes of a short number -/
def liS (most : Int) (n : Nat) (q : Nat × Nat × Nat) : Nat × Nat × Nat := if q.2.2 ≠ 0 then (0, 0, q.2.2) else if most < (q.1 : Int) then (0, 0, 3) else if n < q.2.1 + q.1 then (0, 0, 2) else q

set_option maxHeartbeats 1000000 in
set_option maxRecDepth 100000 in
theorem clos98 (most : Int) (h g n c : Nat) (A : Option Addr) (b : List UInt8) (w : World) (hh : w.heap[h]? = some (.cells #[.int .i64 most] 3 (0, 0))) (hg : w.heap[g]? = some (.cells #[.int .i64 0] 3 (0, 0))) (hl : b.length = n) (hR : RB w A b) (hn : n ≤ 1000000) (hnc : n ≤ c) :
    Calls Try.prog 98 #[.slice A n c, .pointer (some ⟨h, 0, none⟩), .pointer (some ⟨g, 0, none⟩)] w fun e w' => e = .returned (.tuple #[.int .i64 ((liS most n (rdS 0 0 b)).2.1 : Nat), .int .i64 ((liS most n (rdS 0 0 b)).2.2 : Nat)]) ∧
      Below g w w' ∧ w'.cell? ⟨g, 0, none⟩ = some (.int .i64 ((liS most n (rdS 0 0 b)).1 : Nat)) := by
  have c1 := cell_of_one hg
  have f1 := free_of_one hg
  have c2 := cell_of_one hh
  have hG := Lib.hid hg
  have hS := short_read b A n c w hl hR hn hnc
  have hx := rd_lt b
  have hk := (rdS_bounds b 0 0 (by omega) (by simp)).2.1
  obtain ⟨x, k, er, hq⟩ : ∃ x k er, rdS 0 0 b = (x, k, er) := ⟨_, _, _, rfl⟩
  rw [hq] at hS hx hk ⊢
  dsimp only at hS hx hk ⊢
  have x0 : (0 : Int) ≤ (x : Int) := by omega
  have k0 : (0 : Int) ≤ (k : Int) := by omega
  have kn : (k : Int) ≤ (n : Int) := by omega
  have hS' := Lib.hid hS
  clear hS hg hR hq hl hh hk
  by_cases h0 : er = 0
  · subst h0
    by_cases hb : most < (x : Int)
    · have e1 : liS most n (x, k, 0) = (0, 0, 3) := by unfold liS; rw [if_neg (by simp), if_pos hb]
      rw [e1]
      clear e1
      go_enter Try.func98, Try.ntmps98
      go_wp2_with fail
      refine hS'.out.mono ?_
      rintro e w1 ⟨rfl, rfl⟩
      go_wp2
      go_ret2
      exact ⟨rfl, Below.refl _ _, c1⟩
    · by_cases hs : n < k + x
      · have e1 : liS most n (x, k, 0) = (0, 0, 2) := by unfold liS; rw [if_neg (by simp), if_neg hb, if_pos hs]
        have g1 : (n : Int) - (k : Int) < (x : Int) := by omega
        rw [e1]
        clear e1 hs
        go_enter Try.func98, Try.ntmps98
        go_wp2_with fail
        refine hS'.out.mono ?_
        rintro e w1 ⟨rfl, rfl⟩
        go_wp2
        go_ret2
        exact ⟨rfl, Below.refl _ _, c1⟩
      · have e1 : liS most n (x, k, 0) = (x, k, 0) := by unfold liS; rw [if_neg (by simp), if_neg hb, if_neg hs]
        have g1 : (x : Int) ≤ (n : Int) - (k : Int) := by omega
        rw [e1]
        clear e1 hs
        go_enter Try.func98, Try.ntmps98
        go_wp2_with fail
        refine hS'.out.mono ?_
        rintro e w1 ⟨rfl, rfl⟩
        go_wp2
        go_ret2
        exact ⟨rfl, (Below.refl _ _).setCell (by simp) _, cell_of_one (one_setCell hG.out)⟩
  · have e1 : liS most n (x, k, er) = (0, 0, er) := by unfold liS; rw [if_pos h0]
    rw [e1]
    have g1 : ((er : Int) == 0) = false := by simp; omega
    have g2 : ((er : Int) != 0) = true := by simp; omega
    clear e1 h0
    go_enter Try.func98, Try.ntmps98
    go_wp2_with fail
    refine hS'.out.mono ?_
    rintro e w1 ⟨rfl, rfl⟩
    go_wp2
    go_ret2
    exact ⟨rfl, Below.refl _ _, c1⟩
end
end Go.Proofs.Ytnkbkhlbogcfaaa
