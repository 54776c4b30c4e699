/- A reader in memory: made; read from. -/
import Derived.Test.YtnkbkhlbogcfaaaN
import Derived.StillTailTactics
import Derived.Deep.RegionHeld3
import Derived.Deep.Slices
set_option linter.unusedVariables false
set_option linter.unusedSimpArgs false
namespace Go.Proofs.Ytnkbkhlbogcfaaa
open Go.RowKit Go.Proofs.YtnkbkhlbogcfaaaW.PrintWords
noncomputable section

/-- a reader at p: bytes of its own, a place, an error -/
structure RdB (w : World) (base p : Nat) (A : Option Addr) (n c : Nat) (b : List UInt8) (at_ : Nat) (e : Int) : Prop where
  blk : w.heap[p]? = some (.cells #[.slice A n c, .int .i64 at_, .int .i64 e] 108 (0, 0))
  own : OB w base A n c b
  base_p : base ≤ p
theorem RdB.lt {w : World} {base p n c at_ : Nat} {e : Int} {A : Option Addr} {b : List UInt8} (h : RdB w base p A n c b at_ e) : p < w.heap.size := (Array.getElem?_eq_some_iff.1 h.blk).1
theorem RdB.ne {w : World} {base p n c at_ : Nat} {e : Int} {A : Option Addr} {b : List UInt8} (h : RdB w base p A n c b at_ e) : Ytnkbkhlbogcfaaa.blk A ≠ some p := by
  intro e
  obtain ⟨cur, hc⟩ := h.own.blk_type p e
  rw [h.blk] at hc
  injection hc with hc
  injection hc with _ ht
  exact absurd ht (by decide)
theorem RdB.below {w w1 : World} {base p n c at_ : Nat} {e : Int} {A : Option Addr} {b : List UInt8} (h : RdB w base p A n c b at_ e) (hb : Below w.heap.size w w1) : RdB w1 base p A n c b at_ e :=
  ⟨(hb.block p h.lt).trans h.blk, h.own.below hb, h.base_p⟩
theorem RdB.base_le {w : World} {base p n c at_ : Nat} {e : Int} {A : Option Addr} {b : List UInt8} (h : RdB w base p A n c b at_ e) : base ≤ w.heap.size := by have := h.lt; have := h.base_p; omega

set_option maxHeartbeats 1000000 in
set_option maxRecDepth 100000 in
theorem newReader_any (b : List UInt8) (A : Option Addr) (n c : Nat) (w : World) (hl : b.length = n) (hR : RB w A b) (hn : n < 1000000) :
    Calls Try.prog 41 #[.slice A n c] w fun e w' => ∃ A' c' p, e = .returned (.pointer (some ⟨p, 0, none⟩)) ∧ RdB w' w.heap.size p A' n c' b 0 0 ∧ Below w.heap.size w w' := by
  have hR' := Lib.hid hR
  have hl' := Lib.hid hl
  clear hR hl
  go_enter Try.func41, Try.ntmps41
  go_wp2_with fail
  refine (clone_any b A n c _ hl'.out hR'.out (by omega)).mono ?_
  rintro e w1 ⟨A1, c1, rfl, ho1, hb1⟩
  have H1 := Lib.hid (And.intro ho1 hb1)
  clear ho1 hb1
  go_wp2
  go_ret
  refine ⟨A1, c1, w1.heap.size, rfl, ⟨heap_alloc_new w1 _, H1.out.1.below (below_alloc (Below.refl _ _) _), H1.out.2.size⟩, H1.out.2.alloc H1.out.2.size _⟩

/-- where a slice's rest lies -/
def dropA (A : Option Addr) (c k : Nat) : Option Addr := if c = k then A else Option.map (fun x => x.add k) A
theorem RB.drop {w : World} {A : Option Addr} {b : List UInt8} (h : RB w A b) (c k : Nat) (hk : k ≤ b.length) (hc : b.length ≤ c) : RB w (dropA A c k) (b.drop k) := by
  refine ⟨by simp [bv], by have := h.2.1; simp; omega, fun hp => ?_⟩
  have hkl : k < b.length := by simp at hp; omega
  obtain ⟨ad, e, hcell⟩ := h.2.2 (by omega)
  unfold dropA
  rw [if_neg (by omega), e]
  refine ⟨ad.add k, rfl, fun j hj => ?_⟩
  rw [Go.Deep.add_add, hcell (k + j) (by simp at hj; omega)]
  simp [bv, List.getD_eq_getElem?_getD]
theorem rd_cells {w : World} {p : Nat} {v0 v1 v2 : Value} {t : TypeId} {fr : Nat × Nat} (h : w.heap[p]? = some (.cells #[v0, v1, v2] t fr)) : w.cell? ⟨p, 0, none⟩ = some v0 ∧ w.cell? ⟨p, 1, none⟩ = some v1 ∧ w.cell? ⟨p, 2, none⟩ = some v2 := by
  refine ⟨?_, ?_, ?_⟩
  · rw [cell_of_row w p 0 _ _ _ h]; rfl
  · rw [cell_of_row w p 1 _ _ _ h]; rfl
  · rw [cell_of_row w p 2 _ _ _ h]; rfl

set_option maxHeartbeats 1000000 in
set_option maxRecDepth 100000 in
/-- take, where function 83 reads k bytes -/
theorem take83_ok (k : Nat) (T : World → Prop) (p n c at_ : Nat) (A : Option Addr) (w : World) (hp : w.heap[p]? = some (.cells #[.slice A n c, .int .i64 at_, .int .i64 0] 108 (0, 0)))
    (hat : at_ ≤ n) (hnc : n ≤ c) (hk : at_ + k ≤ 1000000) (cap0 cap1 : Value)
    (KC : Calls Try.prog 83 #[.slice (dropA A c at_) (n - at_) (c - at_), cap0, cap1] w.drew fun e w' => e = .returned (.tuple #[.int .i64 k, .int .i64 0]) ∧ T w')
    (KT : ∀ w', T w' → w'.heap[p]? = some (.cells #[.slice A n c, .int .i64 at_, .int .i64 0] 108 (0, 0))) :
    Calls Try.prog 82 #[.pointer (some ⟨p, 0, none⟩), .func (.func 83) #[] #[cap0, cap1]] w fun e w' => e = .returned (.tuple #[]) ∧ ∃ w1, T w1 ∧ w' = w1.setCell ⟨p, 1, none⟩ (.int .i64 ((at_ + k : Nat) : Int)) := by
  obtain ⟨c1, c2, c3⟩ := rd_cells hp
  have i1 : (at_ : Int) ≤ (n : Int) := by omega
  have i2 : (n : Int) ≤ (c : Int) := by omega
  unfold dropA at KC
  have KT' := Lib.hid KT
  have e0 : (0 : Int) ≤ (at_ : Int) := by omega
  have e1 : (at_ : Int) + (k : Int) ≤ 1000000 := by omega
  clear KT hp
  by_cases hca : c = at_
  all_goals
    first
      | rw [if_pos hca, hca, Nat.sub_self] at KC
      | rw [if_neg hca] at KC
    have KC' := Lib.hid KC
    clear KC
    go_enter Try.func82, Try.ntmps82
    go_wp2_with fail
    go_region_held3 (fun w' => w'.cell? ⟨p, 0, none⟩ = some (.slice A n c) ∧ w'.cell? ⟨p, 1, none⟩ = some (.int .i64 at_))
      (first | exact And.intro c1 c2 | exact d3)
      ((go_at_call 83; with_reducible refine KC'.out.mono ?_; rintro e w1 ⟨rfl, hT⟩; have d1 := KT'.out _ hT; have d3 : w1.cell? ⟨p, 0, none⟩ = some (.slice A n c) ∧ w1.cell? ⟨p, 1, none⟩ = some (.int .i64 at_) := ⟨(rd_cells d1).1, (rd_cells d1).2.1⟩))
    have f1 := frozen_of_row w1 p 1 _ _ d1
    have d4 := d3.2
    have HT := Lib.hid hT
    clear hT d1
    go_wp2
    go_end0
    refine ⟨rfl, w1, HT.out, ?_⟩
    rw [show ((at_ + k : Nat) : Int) = (at_ : Int) + (k : Int) by omega]

set_option maxHeartbeats 1000000 in
set_option maxRecDepth 100000 in
/-- take, where function 83 tells an error -/
theorem take83_err (k er : Int) (T : World → Prop) (p n c at_ : Nat) (A : Option Addr) (w : World) (hp : w.heap[p]? = some (.cells #[.slice A n c, .int .i64 at_, .int .i64 0] 108 (0, 0)))
    (hat : at_ ≤ n) (hnc : n ≤ c) (hn : n ≤ 1000000) (her : (er == 0) = false) (cap0 cap1 : Value)
    (KC : Calls Try.prog 83 #[.slice (dropA A c at_) (n - at_) (c - at_), cap0, cap1] w.drew fun e w' => e = .returned (.tuple #[.int .i64 k, .int .i64 er]) ∧ T w')
    (KT : ∀ w', T w' → w'.heap[p]? = some (.cells #[.slice A n c, .int .i64 at_, .int .i64 0] 108 (0, 0))) :
    Calls Try.prog 82 #[.pointer (some ⟨p, 0, none⟩), .func (.func 83) #[] #[cap0, cap1]] w fun e w' => e = .returned (.tuple #[]) ∧ ∃ w1, T w1 ∧ w' = w1.setCell ⟨p, 2, none⟩ (.int .i64 er) := by
  obtain ⟨c1, c2, c3⟩ := rd_cells hp
  have i1 : (at_ : Int) ≤ (n : Int) := by omega
  have i2 : (n : Int) ≤ (c : Int) := by omega
  unfold dropA at KC
  have KT' := Lib.hid KT
  have e0 : (0 : Int) ≤ (at_ : Int) := by omega
  have her' : ¬ er = 0 := by simpa using her
  clear KT hp
  by_cases hca : c = at_
  all_goals
    first
      | rw [if_pos hca, hca, Nat.sub_self] at KC
      | rw [if_neg hca] at KC
    have KC' := Lib.hid KC
    clear KC
    go_enter Try.func82, Try.ntmps82
    go_wp2_with fail
    go_region_held3 (fun w' => w'.cell? ⟨p, 0, none⟩ = some (.slice A n c) ∧ w'.cell? ⟨p, 1, none⟩ = some (.int .i64 at_))
      (first | exact And.intro c1 c2 | exact d3)
      ((go_at_call 83; with_reducible refine KC'.out.mono ?_; rintro e w1 ⟨rfl, hT⟩; have d1 := KT'.out _ hT; have d3 : w1.cell? ⟨p, 0, none⟩ = some (.slice A n c) ∧ w1.cell? ⟨p, 1, none⟩ = some (.int .i64 at_) := ⟨(rd_cells d1).1, (rd_cells d1).2.1⟩))
    have f1 := frozen_of_row w1 p 2 _ _ d1
    have d5 := (rd_cells d1).2.2
    have HT := Lib.hid hT
    clear hT d1
    go_wp2
    ((try simp only [Exit.inBlock, Exit.then]); refine bodyPost_ret (results_none rfl _ _ _) rfl ?_)
    exact ⟨rfl, w1, HT.out, rfl⟩

end
end Go.Proofs.Ytnkbkhlbogcfaaa
