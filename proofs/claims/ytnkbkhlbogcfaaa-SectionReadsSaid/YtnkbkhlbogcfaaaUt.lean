/- Take: a reader reads by a function. -/
import Derived.Test.YtnkbkhlbogcfaaaV
import Derived.Test.YtnkbkhlbogcfaaaS1
import Derived.Test.YtnkbkhlbogcfaaaRp
set_option linter.unusedVariables false
set_option linter.unusedSimpArgs false
namespace Go.Proofs.Ytnkbkhlbogcfaaa
open Go.RowKit Go.Proofs.YtnkbkhlbogcfaaaW.PrintWords
noncomputable section

set_option maxHeartbeats 1000000 in
set_option maxRecDepth 100000 in
/-- take, where function 85 reads k bytes -/
theorem take85_ok (k : Nat) (T : World → Prop) (p n c at_ : Nat) (A : Option Addr) (w : World) (hp : w.heap[p]? = some (.cells #[.slice A n c, .int .i64 at_, .int .i64 0] 108 (0, 0)))
    (hat : at_ ≤ n) (hnc : n ≤ c) (hk : at_ + k ≤ 1000000) (cap0 : Value)
    (KC : Calls Try.prog 85 #[.slice (dropA A c at_) (n - at_) (c - at_), cap0] w.drew fun e w' => e = .returned (.tuple #[.int .i64 k, .int .i64 0]) ∧ T w')
    (KT : ∀ w', T w' → w'.heap[p]? = some (.cells #[.slice A n c, .int .i64 at_, .int .i64 0] 108 (0, 0))) :
    Calls Try.prog 82 #[.pointer (some ⟨p, 0, none⟩), .func (.func 85) #[] #[cap0]] w fun e w' => e = .returned (.tuple #[]) ∧ ∃ w1, T w1 ∧ w' = w1.setCell ⟨p, 1, none⟩ (.int .i64 ((at_ + k : Nat) : Int)) := by
  obtain ⟨c1, c2, c3⟩ := rd_cells hp
  have i1 : (at_ : Int) ≤ (n : Int) := by omega
  have i2 : (n : Int) ≤ (c : Int) := by omega
  unfold dropA at KC
  have KT' := Lib.hid KT
  have e0 : (0 : Int) ≤ (at_ : Int) := by omega
  have e1 : (at_ : Int) + (k : Int) ≤ 1000000 := by omega
  clear KT hp
  by_cases hca : c = at_
  all_goals
    first
      | rw [if_pos hca, hca, Nat.sub_self] at KC
      | rw [if_neg hca] at KC
    have KC' := Lib.hid KC
    clear KC
    go_enter Try.func82, Try.ntmps82
    go_wp2_with fail
    go_region_held3 (fun w' => w'.cell? ⟨p, 0, none⟩ = some (.slice A n c) ∧ w'.cell? ⟨p, 1, none⟩ = some (.int .i64 at_))
      (first | exact And.intro c1 c2 | exact d3)
      ((go_at_call 85; with_reducible refine KC'.out.mono ?_; rintro e w1 ⟨rfl, hT⟩; have d1 := KT'.out _ hT; have d3 : w1.cell? ⟨p, 0, none⟩ = some (.slice A n c) ∧ w1.cell? ⟨p, 1, none⟩ = some (.int .i64 at_) := ⟨(rd_cells d1).1, (rd_cells d1).2.1⟩))
    have f1 := frozen_of_row w1 p 1 _ _ d1
    have d4 := d3.2
    have HT := Lib.hid hT
    clear hT d1
    go_wp2
    go_end0
    refine ⟨rfl, w1, HT.out, ?_⟩
    rw [show ((at_ + k : Nat) : Int) = (at_ : Int) + (k : Int) by omega]

set_option maxHeartbeats 1000000 in
set_option maxRecDepth 100000 in
/-- take, where function 85 tells an error -/
theorem take85_err (k er : Int) (T : World → Prop) (p n c at_ : Nat) (A : Option Addr) (w : World) (hp : w.heap[p]? = some (.cells #[.slice A n c, .int .i64 at_, .int .i64 0] 108 (0, 0)))
    (hat : at_ ≤ n) (hnc : n ≤ c) (hn : n ≤ 1000000) (her : (er == 0) = false) (cap0 : Value)
    (KC : Calls Try.prog 85 #[.slice (dropA A c at_) (n - at_) (c - at_), cap0] w.drew fun e w' => e = .returned (.tuple #[.int .i64 k, .int .i64 er]) ∧ T w')
    (KT : ∀ w', T w' → w'.heap[p]? = some (.cells #[.slice A n c, .int .i64 at_, .int .i64 0] 108 (0, 0))) :
    Calls Try.prog 82 #[.pointer (some ⟨p, 0, none⟩), .func (.func 85) #[] #[cap0]] w fun e w' => e = .returned (.tuple #[]) ∧ ∃ w1, T w1 ∧ w' = w1.setCell ⟨p, 2, none⟩ (.int .i64 er) := by
  obtain ⟨c1, c2, c3⟩ := rd_cells hp
  have i1 : (at_ : Int) ≤ (n : Int) := by omega
  have i2 : (n : Int) ≤ (c : Int) := by omega
  unfold dropA at KC
  have KT' := Lib.hid KT
  have e0 : (0 : Int) ≤ (at_ : Int) := by omega
  have her' : ¬ er = 0 := by simpa using her
  clear KT hp
  by_cases hca : c = at_
  all_goals
    first
      | rw [if_pos hca, hca, Nat.sub_self] at KC
      | rw [if_neg hca] at KC
    have KC' := Lib.hid KC
    clear KC
    go_enter Try.func82, Try.ntmps82
    go_wp2_with fail
    go_region_held3 (fun w' => w'.cell? ⟨p, 0, none⟩ = some (.slice A n c) ∧ w'.cell? ⟨p, 1, none⟩ = some (.int .i64 at_))
      (first | exact And.intro c1 c2 | exact d3)
      ((go_at_call 85; with_reducible refine KC'.out.mono ?_; rintro e w1 ⟨rfl, hT⟩; have d1 := KT'.out _ hT; have d3 : w1.cell? ⟨p, 0, none⟩ = some (.slice A n c) ∧ w1.cell? ⟨p, 1, none⟩ = some (.int .i64 at_) := ⟨(rd_cells d1).1, (rd_cells d1).2.1⟩))
    have f1 := frozen_of_row w1 p 2 _ _ d1
    have d5 := (rd_cells d1).2.2
    have HT := Lib.hid hT
    clear hT d1
    go_wp2
    ((try simp only [Exit.inBlock, Exit.then]); refine bodyPost_ret (results_none rfl _ _ _) rfl ?_)
    exact ⟨rfl, w1, HT.out, rfl⟩


theorem take85_any (k er : Nat) (T : World → Prop) (p n c at_ : Nat) (A : Option Addr) (w : World) (hp : w.heap[p]? = some (.cells #[.slice A n c, .int .i64 at_, .int .i64 0] 108 (0, 0)))
    (hat : at_ ≤ n) (hnc : n ≤ c) (hn : n ≤ 1000000) (hk : at_ + k ≤ 1000000) (cap0 : Value)
    (KC : Calls Try.prog 85 #[.slice (dropA A c at_) (n - at_) (c - at_), cap0] w.drew fun e w' => e = .returned (.tuple #[.int .i64 (k : Int), .int .i64 (er : Int)]) ∧ T w')
    (KT : ∀ w', T w' → w'.heap[p]? = some (.cells #[.slice A n c, .int .i64 at_, .int .i64 0] 108 (0, 0))) :
    Calls Try.prog 82 #[.pointer (some ⟨p, 0, none⟩), .func (.func 85) #[] #[cap0]] w fun e w' => e = .returned (.tuple #[]) ∧ ∃ w1 j v, T w1 ∧ w' = w1.setCell ⟨p, j, none⟩ v ∧
      w'.heap[p]? = some (.cells #[.slice A n c, .int .i64 ((if er = 0 then at_ + k else at_ : Nat) : Int), .int .i64 (er : Int)] 108 (0, 0)) := by
  by_cases h0 : er = 0
  · subst h0
    rw [if_pos rfl]
    refine (take85_ok k T p n c at_ A w hp hat hnc hk cap0 KC KT).mono ?_
    rintro e w' ⟨rfl, w1, h1, rfl⟩
    exact ⟨rfl, w1, 1, _, h1, rfl, by rw [heap_setCell_same _ _ _ _ _ _ (KT _ h1)]; rfl⟩
  · rw [if_neg h0]
    refine (take85_err k er T p n c at_ A w hp hat hnc hn (by simp; omega) cap0 KC KT).mono ?_
    rintro e w' ⟨rfl, w1, h1, rfl⟩
    exact ⟨rfl, w1, 2, _, h1, rfl, by rw [heap_setCell_same _ _ _ _ _ _ (KT _ h1)]; rfl⟩

set_option maxHeartbeats 1000000 in
set_option maxRecDepth 100000 in
/-- take, where function 87 reads k bytes -/
theorem take87_ok (k : Nat) (T : World → Prop) (p n c at_ : Nat) (A : Option Addr) (w : World) (hp : w.heap[p]? = some (.cells #[.slice A n c, .int .i64 at_, .int .i64 0] 108 (0, 0)))
    (hat : at_ ≤ n) (hnc : n ≤ c) (hk : at_ + k ≤ 1000000) (cap0 : Value)
    (KC : Calls Try.prog 87 #[.slice (dropA A c at_) (n - at_) (c - at_), cap0] w.drew fun e w' => e = .returned (.tuple #[.int .i64 k, .int .i64 0]) ∧ T w')
    (KT : ∀ w', T w' → w'.heap[p]? = some (.cells #[.slice A n c, .int .i64 at_, .int .i64 0] 108 (0, 0))) :
    Calls Try.prog 82 #[.pointer (some ⟨p, 0, none⟩), .func (.func 87) #[] #[cap0]] w fun e w' => e = .returned (.tuple #[]) ∧ ∃ w1, T w1 ∧ w' = w1.setCell ⟨p, 1, none⟩ (.int .i64 ((at_ + k : Nat) : Int)) := by
  obtain ⟨c1, c2, c3⟩ := rd_cells hp
  have i1 : (at_ : Int) ≤ (n : Int) := by omega
  have i2 : (n : Int) ≤ (c : Int) := by omega
  unfold dropA at KC
  have KT' := Lib.hid KT
  have e0 : (0 : Int) ≤ (at_ : Int) := by omega
  have e1 : (at_ : Int) + (k : Int) ≤ 1000000 := by omega
  clear KT hp
  by_cases hca : c = at_
  all_goals
    first
      | rw [if_pos hca, hca, Nat.sub_self] at KC
      | rw [if_neg hca] at KC
    have KC' := Lib.hid KC
    clear KC
    go_enter Try.func82, Try.ntmps82
    go_wp2_with fail
    go_region_held3 (fun w' => w'.cell? ⟨p, 0, none⟩ = some (.slice A n c) ∧ w'.cell? ⟨p, 1, none⟩ = some (.int .i64 at_))
      (first | exact And.intro c1 c2 | exact d3)
      ((go_at_call 87; with_reducible refine KC'.out.mono ?_; rintro e w1 ⟨rfl, hT⟩; have d1 := KT'.out _ hT; have d3 : w1.cell? ⟨p, 0, none⟩ = some (.slice A n c) ∧ w1.cell? ⟨p, 1, none⟩ = some (.int .i64 at_) := ⟨(rd_cells d1).1, (rd_cells d1).2.1⟩))
    have f1 := frozen_of_row w1 p 1 _ _ d1
    have d4 := d3.2
    have HT := Lib.hid hT
    clear hT d1
    go_wp2
    go_end0
    refine ⟨rfl, w1, HT.out, ?_⟩
    rw [show ((at_ + k : Nat) : Int) = (at_ : Int) + (k : Int) by omega]

set_option maxHeartbeats 1000000 in
set_option maxRecDepth 100000 in
/-- take, where function 87 tells an error -/
theorem take87_err (k er : Int) (T : World → Prop) (p n c at_ : Nat) (A : Option Addr) (w : World) (hp : w.heap[p]? = some (.cells #[.slice A n c, .int .i64 at_, .int .i64 0] 108 (0, 0)))
    (hat : at_ ≤ n) (hnc : n ≤ c) (hn : n ≤ 1000000) (her : (er == 0) = false) (cap0 : Value)
    (KC : Calls Try.prog 87 #[.slice (dropA A c at_) (n - at_) (c - at_), cap0] w.drew fun e w' => e = .returned (.tuple #[.int .i64 k, .int .i64 er]) ∧ T w')
    (KT : ∀ w', T w' → w'.heap[p]? = some (.cells #[.slice A n c, .int .i64 at_, .int .i64 0] 108 (0, 0))) :
    Calls Try.prog 82 #[.pointer (some ⟨p, 0, none⟩), .func (.func 87) #[] #[cap0]] w fun e w' => e = .returned (.tuple #[]) ∧ ∃ w1, T w1 ∧ w' = w1.setCell ⟨p, 2, none⟩ (.int .i64 er) := by
  obtain ⟨c1, c2, c3⟩ := rd_cells hp
  have i1 : (at_ : Int) ≤ (n : Int) := by omega
  have i2 : (n : Int) ≤ (c : Int) := by omega
  unfold dropA at KC
  have KT' := Lib.hid KT
  have e0 : (0 : Int) ≤ (at_ : Int) := by omega
  have her' : ¬ er = 0 := by simpa using her
  clear KT hp
  by_cases hca : c = at_
  all_goals
    first
      | rw [if_pos hca, hca, Nat.sub_self] at KC
      | rw [if_neg hca] at KC
    have KC' := Lib.hid KC
    clear KC
    go_enter Try.func82, Try.ntmps82
    go_wp2_with fail
    go_region_held3 (fun w' => w'.cell? ⟨p, 0, none⟩ = some (.slice A n c) ∧ w'.cell? ⟨p, 1, none⟩ = some (.int .i64 at_))
      (first | exact And.intro c1 c2 | exact d3)
      ((go_at_call 87; with_reducible refine KC'.out.mono ?_; rintro e w1 ⟨rfl, hT⟩; have d1 := KT'.out _ hT; have d3 : w1.cell? ⟨p, 0, none⟩ = some (.slice A n c) ∧ w1.cell? ⟨p, 1, none⟩ = some (.int .i64 at_) := ⟨(rd_cells d1).1, (rd_cells d1).2.1⟩))
    have f1 := frozen_of_row w1 p 2 _ _ d1
    have d5 := (rd_cells d1).2.2
    have HT := Lib.hid hT
    clear hT d1
    go_wp2
    ((try simp only [Exit.inBlock, Exit.then]); refine bodyPost_ret (results_none rfl _ _ _) rfl ?_)
    exact ⟨rfl, w1, HT.out, rfl⟩


theorem take87_any (k er : Nat) (T : World → Prop) (p n c at_ : Nat) (A : Option Addr) (w : World) (hp : w.heap[p]? = some (.cells #[.slice A n c, .int .i64 at_, .int .i64 0] 108 (0, 0)))
    (hat : at_ ≤ n) (hnc : n ≤ c) (hn : n ≤ 1000000) (hk : at_ + k ≤ 1000000) (cap0 : Value)
    (KC : Calls Try.prog 87 #[.slice (dropA A c at_) (n - at_) (c - at_), cap0] w.drew fun e w' => e = .returned (.tuple #[.int .i64 (k : Int), .int .i64 (er : Int)]) ∧ T w')
    (KT : ∀ w', T w' → w'.heap[p]? = some (.cells #[.slice A n c, .int .i64 at_, .int .i64 0] 108 (0, 0))) :
    Calls Try.prog 82 #[.pointer (some ⟨p, 0, none⟩), .func (.func 87) #[] #[cap0]] w fun e w' => e = .returned (.tuple #[]) ∧ ∃ w1 j v, T w1 ∧ w' = w1.setCell ⟨p, j, none⟩ v ∧
      w'.heap[p]? = some (.cells #[.slice A n c, .int .i64 ((if er = 0 then at_ + k else at_ : Nat) : Int), .int .i64 (er : Int)] 108 (0, 0)) := by
  by_cases h0 : er = 0
  · subst h0
    rw [if_pos rfl]
    refine (take87_ok k T p n c at_ A w hp hat hnc hk cap0 KC KT).mono ?_
    rintro e w' ⟨rfl, w1, h1, rfl⟩
    exact ⟨rfl, w1, 1, _, h1, rfl, by rw [heap_setCell_same _ _ _ _ _ _ (KT _ h1)]; rfl⟩
  · rw [if_neg h0]
    refine (take87_err k er T p n c at_ A w hp hat hnc hn (by simp; omega) cap0 KC KT).mono ?_
    rintro e w' ⟨rfl, w1, h1, rfl⟩
    exact ⟨rfl, w1, 2, _, h1, rfl, by rw [heap_setCell_same _ _ _ _ _ _ (KT _ h1)]; rfl⟩

set_option maxHeartbeats 1000000 in
set_option maxRecDepth 100000 in
/-- take, where function 88 reads k bytes -/
theorem take88_ok (k : Nat) (T : World → Prop) (p n c at_ : Nat) (A : Option Addr) (w : World) (hp : w.heap[p]? = some (.cells #[.slice A n c, .int .i64 at_, .int .i64 0] 108 (0, 0)))
    (hat : at_ ≤ n) (hnc : n ≤ c) (hk : at_ + k ≤ 1000000) (cap0 : Value)
    (KC : Calls Try.prog 88 #[.slice (dropA A c at_) (n - at_) (c - at_), cap0] w.drew fun e w' => e = .returned (.tuple #[.int .i64 k, .int .i64 0]) ∧ T w')
    (KT : ∀ w', T w' → w'.heap[p]? = some (.cells #[.slice A n c, .int .i64 at_, .int .i64 0] 108 (0, 0))) :
    Calls Try.prog 82 #[.pointer (some ⟨p, 0, none⟩), .func (.func 88) #[] #[cap0]] w fun e w' => e = .returned (.tuple #[]) ∧ ∃ w1, T w1 ∧ w' = w1.setCell ⟨p, 1, none⟩ (.int .i64 ((at_ + k : Nat) : Int)) := by
  obtain ⟨c1, c2, c3⟩ := rd_cells hp
  have i1 : (at_ : Int) ≤ (n : Int) := by omega
  have i2 : (n : Int) ≤ (c : Int) := by omega
  unfold dropA at KC
  have KT' := Lib.hid KT
  have e0 : (0 : Int) ≤ (at_ : Int) := by omega
  have e1 : (at_ : Int) + (k : Int) ≤ 1000000 := by omega
  clear KT hp
  by_cases hca : c = at_
  all_goals
    first
      | rw [if_pos hca, hca, Nat.sub_self] at KC
      | rw [if_neg hca] at KC
    have KC' := Lib.hid KC
    clear KC
    go_enter Try.func82, Try.ntmps82
    go_wp2_with fail
    go_region_held3 (fun w' => w'.cell? ⟨p, 0, none⟩ = some (.slice A n c) ∧ w'.cell? ⟨p, 1, none⟩ = some (.int .i64 at_))
      (first | exact And.intro c1 c2 | exact d3)
      ((go_at_call 88; with_reducible refine KC'.out.mono ?_; rintro e w1 ⟨rfl, hT⟩; have d1 := KT'.out _ hT; have d3 : w1.cell? ⟨p, 0, none⟩ = some (.slice A n c) ∧ w1.cell? ⟨p, 1, none⟩ = some (.int .i64 at_) := ⟨(rd_cells d1).1, (rd_cells d1).2.1⟩))
    have f1 := frozen_of_row w1 p 1 _ _ d1
    have d4 := d3.2
    have HT := Lib.hid hT
    clear hT d1
    go_wp2
    go_end0
    refine ⟨rfl, w1, HT.out, ?_⟩
    rw [show ((at_ + k : Nat) : Int) = (at_ : Int) + (k : Int) by omega]

set_option maxHeartbeats 1000000 in
set_option maxRecDepth 100000 in
/-- take, where function 88 tells an error -/
theorem take88_err (k er : Int) (T : World → Prop) (p n c at_ : Nat) (A : Option Addr) (w : World) (hp : w.heap[p]? = some (.cells #[.slice A n c, .int .i64 at_, .int .i64 0] 108 (0, 0)))
    (hat : at_ ≤ n) (hnc : n ≤ c) (hn : n ≤ 1000000) (her : (er == 0) = false) (cap0 : Value)
    (KC : Calls Try.prog 88 #[.slice (dropA A c at_) (n - at_) (c - at_), cap0] w.drew fun e w' => e = .returned (.tuple #[.int .i64 k, .int .i64 er]) ∧ T w')
    (KT : ∀ w', T w' → w'.heap[p]? = some (.cells #[.slice A n c, .int .i64 at_, .int .i64 0] 108 (0, 0))) :
    Calls Try.prog 82 #[.pointer (some ⟨p, 0, none⟩), .func (.func 88) #[] #[cap0]] w fun e w' => e = .returned (.tuple #[]) ∧ ∃ w1, T w1 ∧ w' = w1.setCell ⟨p, 2, none⟩ (.int .i64 er) := by
  obtain ⟨c1, c2, c3⟩ := rd_cells hp
  have i1 : (at_ : Int) ≤ (n : Int) := by omega
  have i2 : (n : Int) ≤ (c : Int) := by omega
  unfold dropA at KC
  have KT' := Lib.hid KT
  have e0 : (0 : Int) ≤ (at_ : Int) := by omega
  have her' : ¬ er = 0 := by simpa using her
  clear KT hp
  by_cases hca : c = at_
  all_goals
    first
      | rw [if_pos hca, hca, Nat.sub_self] at KC
      | rw [if_neg hca] at KC
    have KC' := Lib.hid KC
    clear KC
    go_enter Try.func82, Try.ntmps82
    go_wp2_with fail
    go_region_held3 (fun w' => w'.cell? ⟨p, 0, none⟩ = some (.slice A n c) ∧ w'.cell? ⟨p, 1, none⟩ = some (.int .i64 at_))
      (first | exact And.intro c1 c2 | exact d3)
      ((go_at_call 88; with_reducible refine KC'.out.mono ?_; rintro e w1 ⟨rfl, hT⟩; have d1 := KT'.out _ hT; have d3 : w1.cell? ⟨p, 0, none⟩ = some (.slice A n c) ∧ w1.cell? ⟨p, 1, none⟩ = some (.int .i64 at_) := ⟨(rd_cells d1).1, (rd_cells d1).2.1⟩))
    have f1 := frozen_of_row w1 p 2 _ _ d1
    have d5 := (rd_cells d1).2.2
    have HT := Lib.hid hT
    clear hT d1
    go_wp2
    ((try simp only [Exit.inBlock, Exit.then]); refine bodyPost_ret (results_none rfl _ _ _) rfl ?_)
    exact ⟨rfl, w1, HT.out, rfl⟩


theorem take88_any (k er : Nat) (T : World → Prop) (p n c at_ : Nat) (A : Option Addr) (w : World) (hp : w.heap[p]? = some (.cells #[.slice A n c, .int .i64 at_, .int .i64 0] 108 (0, 0)))
    (hat : at_ ≤ n) (hnc : n ≤ c) (hn : n ≤ 1000000) (hk : at_ + k ≤ 1000000) (cap0 : Value)
    (KC : Calls Try.prog 88 #[.slice (dropA A c at_) (n - at_) (c - at_), cap0] w.drew fun e w' => e = .returned (.tuple #[.int .i64 (k : Int), .int .i64 (er : Int)]) ∧ T w')
    (KT : ∀ w', T w' → w'.heap[p]? = some (.cells #[.slice A n c, .int .i64 at_, .int .i64 0] 108 (0, 0))) :
    Calls Try.prog 82 #[.pointer (some ⟨p, 0, none⟩), .func (.func 88) #[] #[cap0]] w fun e w' => e = .returned (.tuple #[]) ∧ ∃ w1 j v, T w1 ∧ w' = w1.setCell ⟨p, j, none⟩ v ∧
      w'.heap[p]? = some (.cells #[.slice A n c, .int .i64 ((if er = 0 then at_ + k else at_ : Nat) : Int), .int .i64 (er : Int)] 108 (0, 0)) := by
  by_cases h0 : er = 0
  · subst h0
    rw [if_pos rfl]
    refine (take88_ok k T p n c at_ A w hp hat hnc hk cap0 KC KT).mono ?_
    rintro e w' ⟨rfl, w1, h1, rfl⟩
    exact ⟨rfl, w1, 1, _, h1, rfl, by rw [heap_setCell_same _ _ _ _ _ _ (KT _ h1)]; rfl⟩
  · rw [if_neg h0]
    refine (take88_err k er T p n c at_ A w hp hat hnc hn (by simp; omega) cap0 KC KT).mono ?_
    rintro e w' ⟨rfl, w1, h1, rfl⟩
    exact ⟨rfl, w1, 2, _, h1, rfl, by rw [heap_setCell_same _ _ _ _ _ _ (KT _ h1)]; rfl⟩

set_option maxHeartbeats 1000000 in
set_option maxRecDepth 100000 in
/-- take, where function 98 reads k bytes -/
theorem take98_ok (k : Nat) (T : World → Prop) (p n c at_ : Nat) (A : Option Addr) (w : World) (hp : w.heap[p]? = some (.cells #[.slice A n c, .int .i64 at_, .int .i64 0] 108 (0, 0)))
    (hat : at_ ≤ n) (hnc : n ≤ c) (hk : at_ + k ≤ 1000000) (cap0 cap1 : Value)
    (KC : Calls Try.prog 98 #[.slice (dropA A c at_) (n - at_) (c - at_), cap0, cap1] w.drew fun e w' => e = .returned (.tuple #[.int .i64 k, .int .i64 0]) ∧ T w')
    (KT : ∀ w', T w' → w'.heap[p]? = some (.cells #[.slice A n c, .int .i64 at_, .int .i64 0] 108 (0, 0))) :
    Calls Try.prog 82 #[.pointer (some ⟨p, 0, none⟩), .func (.func 98) #[] #[cap0, cap1]] w fun e w' => e = .returned (.tuple #[]) ∧ ∃ w1, T w1 ∧ w' = w1.setCell ⟨p, 1, none⟩ (.int .i64 ((at_ + k : Nat) : Int)) := by
  obtain ⟨c1, c2, c3⟩ := rd_cells hp
  have i1 : (at_ : Int) ≤ (n : Int) := by omega
  have i2 : (n : Int) ≤ (c : Int) := by omega
  unfold dropA at KC
  have KT' := Lib.hid KT
  have e0 : (0 : Int) ≤ (at_ : Int) := by omega
  have e1 : (at_ : Int) + (k : Int) ≤ 1000000 := by omega
  clear KT hp
  by_cases hca : c = at_
  all_goals
    first
      | rw [if_pos hca, hca, Nat.sub_self] at KC
      | rw [if_neg hca] at KC
    have KC' := Lib.hid KC
    clear KC
    go_enter Try.func82, Try.ntmps82
    go_wp2_with fail
    go_region_held3 (fun w' => w'.cell? ⟨p, 0, none⟩ = some (.slice A n c) ∧ w'.cell? ⟨p, 1, none⟩ = some (.int .i64 at_))
      (first | exact And.intro c1 c2 | exact d3)
      ((go_at_call 98; with_reducible refine KC'.out.mono ?_; rintro e w1 ⟨rfl, hT⟩; have d1 := KT'.out _ hT; have d3 : w1.cell? ⟨p, 0, none⟩ = some (.slice A n c) ∧ w1.cell? ⟨p, 1, none⟩ = some (.int .i64 at_) := ⟨(rd_cells d1).1, (rd_cells d1).2.1⟩))
    have f1 := frozen_of_row w1 p 1 _ _ d1
    have d4 := d3.2
    have HT := Lib.hid hT
    clear hT d1
    go_wp2
    go_end0
    refine ⟨rfl, w1, HT.out, ?_⟩
    rw [show ((at_ + k : Nat) : Int) = (at_ : Int) + (k : Int) by omega]

set_option maxHeartbeats 1000000 in
set_option maxRecDepth 100000 in
/-- take, where function 98 tells an error -/
theorem take98_err (k er : Int) (T : World → Prop) (p n c at_ : Nat) (A : Option Addr) (w : World) (hp : w.heap[p]? = some (.cells #[.slice A n c, .int .i64 at_, .int .i64 0] 108 (0, 0)))
    (hat : at_ ≤ n) (hnc : n ≤ c) (hn : n ≤ 1000000) (her : (er == 0) = false) (cap0 cap1 : Value)
    (KC : Calls Try.prog 98 #[.slice (dropA A c at_) (n - at_) (c - at_), cap0, cap1] w.drew fun e w' => e = .returned (.tuple #[.int .i64 k, .int .i64 er]) ∧ T w')
    (KT : ∀ w', T w' → w'.heap[p]? = some (.cells #[.slice A n c, .int .i64 at_, .int .i64 0] 108 (0, 0))) :
    Calls Try.prog 82 #[.pointer (some ⟨p, 0, none⟩), .func (.func 98) #[] #[cap0, cap1]] w fun e w' => e = .returned (.tuple #[]) ∧ ∃ w1, T w1 ∧ w' = w1.setCell ⟨p, 2, none⟩ (.int .i64 er) := by
  obtain ⟨c1, c2, c3⟩ := rd_cells hp
  have i1 : (at_ : Int) ≤ (n : Int) := by omega
  have i2 : (n : Int) ≤ (c : Int) := by omega
  unfold dropA at KC
  have KT' := Lib.hid KT
  have e0 : (0 : Int) ≤ (at_ : Int) := by omega
  have her' : ¬ er = 0 := by simpa using her
  clear KT hp
  by_cases hca : c = at_
  all_goals
    first
      | rw [if_pos hca, hca, Nat.sub_self] at KC
      | rw [if_neg hca] at KC
    have KC' := Lib.hid KC
    clear KC
    go_enter Try.func82, Try.ntmps82
    go_wp2_with fail
    go_region_held3 (fun w' => w'.cell? ⟨p, 0, none⟩ = some (.slice A n c) ∧ w'.cell? ⟨p, 1, none⟩ = some (.int .i64 at_))
      (first | exact And.intro c1 c2 | exact d3)
      ((go_at_call 98; with_reducible refine KC'.out.mono ?_; rintro e w1 ⟨rfl, hT⟩; have d1 := KT'.out _ hT; have d3 : w1.cell? ⟨p, 0, none⟩ = some (.slice A n c) ∧ w1.cell? ⟨p, 1, none⟩ = some (.int .i64 at_) := ⟨(rd_cells d1).1, (rd_cells d1).2.1⟩))
    have f1 := frozen_of_row w1 p 2 _ _ d1
    have d5 := (rd_cells d1).2.2
    have HT := Lib.hid hT
    clear hT d1
    go_wp2
    ((try simp only [Exit.inBlock, Exit.then]); refine bodyPost_ret (results_none rfl _ _ _) rfl ?_)
    exact ⟨rfl, w1, HT.out, rfl⟩


theorem take98_any (k er : Nat) (T : World → Prop) (p n c at_ : Nat) (A : Option Addr) (w : World) (hp : w.heap[p]? = some (.cells #[.slice A n c, .int .i64 at_, .int .i64 0] 108 (0, 0)))
    (hat : at_ ≤ n) (hnc : n ≤ c) (hn : n ≤ 1000000) (hk : at_ + k ≤ 1000000) (cap0 cap1 : Value)
    (KC : Calls Try.prog 98 #[.slice (dropA A c at_) (n - at_) (c - at_), cap0, cap1] w.drew fun e w' => e = .returned (.tuple #[.int .i64 (k : Int), .int .i64 (er : Int)]) ∧ T w')
    (KT : ∀ w', T w' → w'.heap[p]? = some (.cells #[.slice A n c, .int .i64 at_, .int .i64 0] 108 (0, 0))) :
    Calls Try.prog 82 #[.pointer (some ⟨p, 0, none⟩), .func (.func 98) #[] #[cap0, cap1]] w fun e w' => e = .returned (.tuple #[]) ∧ ∃ w1 j v, T w1 ∧ w' = w1.setCell ⟨p, j, none⟩ v ∧
      w'.heap[p]? = some (.cells #[.slice A n c, .int .i64 ((if er = 0 then at_ + k else at_ : Nat) : Int), .int .i64 (er : Int)] 108 (0, 0)) := by
  by_cases h0 : er = 0
  · subst h0
    rw [if_pos rfl]
    refine (take98_ok k T p n c at_ A w hp hat hnc hk cap0 cap1 KC KT).mono ?_
    rintro e w' ⟨rfl, w1, h1, rfl⟩
    exact ⟨rfl, w1, 1, _, h1, rfl, by rw [heap_setCell_same _ _ _ _ _ _ (KT _ h1)]; rfl⟩
  · rw [if_neg h0]
    refine (take98_err k er T p n c at_ A w hp hat hnc hn (by simp; omega) cap0 cap1 KC KT).mono ?_
    rintro e w' ⟨rfl, w1, h1, rfl⟩
    exact ⟨rfl, w1, 2, _, h1, rfl, by rw [heap_setCell_same _ _ _ _ _ _ (KT _ h1)]; rfl⟩

theorem take83_any (k er : Nat) (T : World → Prop) (p n c at_ : Nat) (A : Option Addr) (w : World) (hp : w.heap[p]? = some (.cells #[.slice A n c, .int .i64 at_, .int .i64 0] 108 (0, 0)))
    (hat : at_ ≤ n) (hnc : n ≤ c) (hn : n ≤ 1000000) (hk : at_ + k ≤ 1000000) (cap0 cap1 : Value)
    (KC : Calls Try.prog 83 #[.slice (dropA A c at_) (n - at_) (c - at_), cap0, cap1] w.drew fun e w' => e = .returned (.tuple #[.int .i64 (k : Int), .int .i64 (er : Int)]) ∧ T w')
    (KT : ∀ w', T w' → w'.heap[p]? = some (.cells #[.slice A n c, .int .i64 at_, .int .i64 0] 108 (0, 0))) :
    Calls Try.prog 82 #[.pointer (some ⟨p, 0, none⟩), .func (.func 83) #[] #[cap0, cap1]] w fun e w' => e = .returned (.tuple #[]) ∧ ∃ w1 j v, T w1 ∧ w' = w1.setCell ⟨p, j, none⟩ v ∧
      w'.heap[p]? = some (.cells #[.slice A n c, .int .i64 ((if er = 0 then at_ + k else at_ : Nat) : Int), .int .i64 (er : Int)] 108 (0, 0)) := by
  by_cases h0 : er = 0
  · subst h0
    rw [if_pos rfl]
    refine (take83_ok k T p n c at_ A w hp hat hnc hk cap0 cap1 KC KT).mono ?_
    rintro e w' ⟨rfl, w1, h1, rfl⟩
    exact ⟨rfl, w1, 1, _, h1, rfl, by rw [heap_setCell_same _ _ _ _ _ _ (KT _ h1)]; rfl⟩
  · rw [if_neg h0]
    refine (take83_err k er T p n c at_ A w hp hat hnc hn (by simp; omega) cap0 cap1 KC KT).mono ?_
    rintro e w' ⟨rfl, w1, h1, rfl⟩
    exact ⟨rfl, w1, 2, _, h1, rfl, by rw [heap_setCell_same _ _ _ _ _ _ (KT _ h1)]; rfl⟩


theorem rd_took {w w1 w' : World} {base p n c at_ at' j : Nat} {e0 e' : Int} {A : Option Addr} {b : List UInt8} {v : Value} (h : RdB w base p A n c b at_ e0) (hb : Below w.heap.size w w1) (hw : w' = w1.setCell ⟨p, j, none⟩ v)
    (hp : w'.heap[p]? = some (.cells #[.slice A n c, .int .i64 at', .int .i64 e'] 108 (0, 0))) : RdB w' base p A n c b at' e' ∧ Mod w w' p none ∧ (∀ q i, q ≠ p → w'.cell? ⟨q, i, none⟩ = w1.cell? ⟨q, i, none⟩) ∧ ∀ q, q ≠ p → w'.heap[q]? = w1.heap[q]? := by
  have h1 := h.below hb
  subst hw
  exact ⟨⟨hp, ownsRow_setCell_other h1.own (by rw [own_blk]; exact h1.ne) _, h.base_p⟩, Mod.setCell ⟨hb.os, hb.tape, hb.output, hb.size, fun q hq _ _ => hb.block q hq⟩ _ _,
    fun q i hq => World.cell?_of_block (Below.heap_setCell _ _ _ _ (by simpa using hq)), fun q hq => Below.heap_setCell _ _ _ _ (by simpa using hq)⟩
set_option maxHeartbeats 1000000 in
set_option maxRecDepth 100000 in
/-- take, where there was an error -/
theorem take_stop (er : Int) (s : Value) (at_ : Int) (p : Nat) (fv : Value) (w : World) (hp : w.heap[p]? = some (.cells #[s, .int .i64 at_, .int .i64 er] 108 (0, 0))) (her : (er == 0) = false) :
    Calls Try.prog 82 #[.pointer (some ⟨p, 0, none⟩), fv] w fun e w' => e = .returned (.tuple #[]) ∧ w' = w := by
  obtain ⟨c1, c2, c3⟩ := rd_cells hp
  have her' : ¬ er = 0 := by simpa using her
  clear hp
  go_enter Try.func82, Try.ntmps82
  go_wp2
  ((try simp only [Exit.inBlock, Exit.then]); refine bodyPost_ret (results_none rfl _ _ _) rfl ?_)
  exact ⟨rfl, rfl⟩
end
end Go.Proofs.Ytnkbkhlbogcfaaa
