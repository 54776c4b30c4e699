/- The document's reads: what is left, an error, bytes. -/
import Derived.Test.YtnkbkhlbogcfaaaV
import Derived.Test.YtnkbkhlbogcfaaaRp
import Derived.BigRegion
set_option linter.unusedVariables false
set_option linter.unusedSimpArgs false
namespace Go.Proofs.Ytnkbkhlbogcfaaa
open Go.RowKit Go.Proofs.YtnkbkhlbogcfaaaW.PrintWords
noncomputable section

theorem RB.nil (w : World) : RB w none [] := ⟨by simp [bv], by simp, fun h => absurd h (by simp)⟩
/-- a struct in memory: its cells, and that they may be written -/
structure Row3 (w : World) (g : Nat) (x y z : Value) (t : TypeId) : Prop where
  blk : w.heap[g]? = some (.cells #[x, y, z] t (0, 0))
theorem row3_cells {w : World} {g : Nat} {x y z : Value} {t : TypeId} (h : w.heap[g]? = some (.cells #[x, y, z] t (0, 0))) :
    (w.cell? ⟨g, 0, none⟩ = some x ∧ w.cell? ⟨g, 1, none⟩ = some y ∧ w.cell? ⟨g, 2, none⟩ = some z) ∧ (w.frozen? ⟨g, 0, none⟩ = false ∧ w.frozen? ⟨g, 1, none⟩ = false ∧ w.frozen? ⟨g, 2, none⟩ = false) :=
  ⟨rd_cells h, frozen_of_row w g 0 _ _ h, frozen_of_row w g 1 _ _ h, frozen_of_row w g 2 _ _ h⟩
theorem row3_store {w : World} {g : Nat} {x y z x' y' z' : Value} {t : TypeId} (h : w.heap[g]? = some (.cells #[x, y, z] t (0, 0))) :
    (((w.setCell ⟨g, 0, none⟩ x').setCell ⟨g, 1, none⟩ y').setCell ⟨g, 2, none⟩ z').heap[g]? = some (.cells #[x', y', z'] t (0, 0)) := by
  have h0 : (w.setCell ⟨g, 0, none⟩ x').heap[g]? = some (.cells #[x', y, z] t (0, 0)) := by rw [heap_setCell_same _ _ _ _ _ _ h]; rfl
  have h1 : ((w.setCell ⟨g, 0, none⟩ x').setCell ⟨g, 1, none⟩ y').heap[g]? = some (.cells #[x', y', z] t (0, 0)) := by rw [heap_setCell_same _ _ _ _ _ _ h0]; rfl
  rw [heap_setCell_same _ _ _ _ _ _ h1]
  rfl
theorem below_store3 {B : Nat} {w w1 : World} (h : Below B w w1) (g : Nat) (hg : B ≤ g) (x y z : Value) : Below B w (((w1.setCell ⟨g, 0, none⟩ x).setCell ⟨g, 1, none⟩ y).setCell ⟨g, 2, none⟩ z) :=
  ((h.setCell (p := ⟨g, 0, none⟩) hg x).setCell (p := ⟨g, 1, none⟩) hg y).setCell (p := ⟨g, 2, none⟩) hg z
theorem below_alloc2 (w : World) (A B : Obj) : Below w.heap.size w ((w.alloc A).alloc B) := (below_alloc (Below.refl _ _) _).alloc (by simp) _
/-- a function's end, where a struct lies in memory, and another value beside it -/
theorem post_ct {fn : Func} {p u : Tmp} {R : Ending → World → Prop} {a : Act} {w : World} (h : fn.results = #[.cell p 83, .tmp u]) (g : Nat) (x y z : Value) (hp : a.tmps.getD p undef = .pointer (some ⟨g, 0, none⟩))
    (hg : w.heap[g]? = some (.cells #[x, y, z] 83 (0, 0))) (hd : a.defers = []) (hR : R (.returned (.tuple #[.agg #[x, y, z], a.tmps.getD u undef])) w) : bodyPost Try.prog fn R .ret a w :=
  bodyPost_ret (results_ct h _ _ g 83 _ _ _ hp hg Try.underlying83 rfl (by kernel_rfl)) hd hR
theorem post_c {fn : Func} {p : Tmp} {R : Ending → World → Prop} {a : Act} {w : World} (h : fn.results = #[.cell p 83]) (g : Nat) (x y z : Value) (hp : a.tmps.getD p undef = .pointer (some ⟨g, 0, none⟩))
    (hg : w.heap[g]? = some (.cells #[x, y, z] 83 (0, 0))) (hd : a.defers = []) (hR : R (.returned (.agg #[x, y, z])) w) : bodyPost Try.prog fn R .ret a w :=
  bodyPost_ret (results_cell_row h _ _ g 83 _ _ _ hp hg Try.underlying83 rfl (by kernel_rfl)) hd hR

set_option maxHeartbeats 1000000 in
set_option maxRecDepth 100000 in
theorem left_any (n c at_ : Nat) (e : Int) (A : Option Addr) (w : World) (hat : at_ ≤ n) (hnc : n ≤ c) :
    Calls Try.prog 106 #[.agg #[.slice A n c, .int .i64 at_, .int .i64 e]] w fun ex w' => ex = .returned (.slice (dropA A c at_) (n - at_) (c - at_)) ∧ Below w.heap.size w w' := by
  have i1 : (at_ : Int) ≤ (n : Int) := by omega
  have i2 : (n : Int) ≤ (c : Int) := by omega
  have e0 : (0 : Int) ≤ (at_ : Int) := by omega
  unfold dropA
  by_cases hca : c = at_
  · go_enter Try.func106, Try.ntmps106
    go_wp2
    go_ret
    exact ⟨rfl, below_alloc (Below.refl _ _) _⟩
  · go_enter Try.func106, Try.ntmps106
    go_wp2
    go_ret
    exact ⟨rfl, below_alloc (Below.refl _ _) _⟩

set_option maxHeartbeats 1000000 in
set_option maxRecDepth 100000 in
theorem dfail_any (er : Int) (A : Option Addr) (n c at_ : Nat) (e : Int) (w : World) :
    Calls Try.prog 107 #[.agg #[.slice A n c, .int .i64 at_, .int .i64 e], .int .i64 er] w fun ex w' => ex = .returned (.agg #[.slice A n c, .int .i64 at_, .int .i64 er]) ∧ Below w.heap.size w w' := by
  go_enter Try.func107, Try.ntmps107
  go_wp2
  refine post_c rfl (w.heap.size + 1) _ _ _ rfl (heap_alloc2_new w _ _) rfl ?_
  exact ⟨rfl, (below_alloc (Below.refl _ _) _).alloc (by simp) _⟩

set_option maxHeartbeats 1000000 in
set_option maxRecDepth 100000 in
theorem draw_any (m : Int) (n c at_ : Nat) (e : Int) (A : Option Addr) (b : List UInt8) (w : World) (hR : RB w A b) (hl : b.length = n) (hat : at_ ≤ n) (hnc : n ≤ c) (hn : n ≤ 1000000) :
    Calls Try.prog 97 #[.agg #[.slice A n c, .int .i64 at_, .int .i64 e], .int .i64 m] w fun ex w' => ∃ A' c', ex = .returned (.tuple #[.agg #[.slice A n c, .int .i64 ((rRaw b m at_ e).2.1 : Nat), .int .i64 (rRaw b m at_ e).2.2], .slice A' (rRaw b m at_ e).1.length c']) ∧
      (rRaw b m at_ e).1.length ≤ c' ∧ (∀ wy, RB wy A b → RB wy A' (rRaw b m at_ e).1) ∧ Below w.heap.size w w' := by
  have H := Lib.hid (And.intro hR hl)
  have i1 : (at_ : Int) ≤ (n : Int) := by omega
  have i2 : (n : Int) ≤ (c : Int) := by omega
  have e0 : (0 : Int) ≤ (at_ : Int) := by omega
  clear hR hl
  by_cases h0 : e = 0
  · subst h0
    by_cases hneg : m < 0
    · have e1 : rRaw b m at_ 0 = ([], at_, 0) := by unfold rRaw; rw [if_neg (by omega), if_neg (by omega), show m.toNat = 0 by omega]; simp
      rw [e1]
      clear e1
      go_enter Try.func97, Try.ntmps97
      go_wp2
      refine post_ct rfl (w.heap.size + 1) _ _ _ rfl (heap_alloc2_new w _ _) rfl ?_
      exact ⟨none, 0, rfl, by simp, fun wy _ => RB.nil wy, (below_alloc (Below.refl _ _) _).alloc (by simp) _⟩
    · have e1 : 0 ≤ m := by omega
      obtain ⟨k, rfl⟩ : ∃ k : Nat, m = k := ⟨m.toNat, by omega⟩
      by_cases hbig : n - at_ < k
      · have e2 : rRaw b k at_ 0 = ([], at_, 2) := by unfold rRaw; rw [if_neg (by omega), if_pos (by have := H.out.2; omega)]
        rw [e2]
        have g1 : ((n - at_ : Nat) : Int) < (k : Int) := by omega
        clear e2 hneg hbig
        go_enter Try.func97, Try.ntmps97
        go_wp2_with fail
        refine (left_any n c at_ 0 A _ hat hnc).mono ?_
        rintro ex w1 ⟨rfl, hb1⟩
        obtain ⟨d, hd⟩ : ∃ d, d = n - at_ := ⟨_, rfl⟩
        rw [← hd] at g1 ⊢
        have hx := (hb1.block w.heap.size (by simp; omega)).trans (heap_alloc2_old w _ _)
        have hy := (hb1.block (w.heap.size + 1) (by simp)).trans (heap_alloc2_new w _ _)
        obtain ⟨⟨x0, x1, x2⟩, _⟩ := row3_cells hx
        obtain ⟨⟨y0, y1, y2⟩, ⟨z0, z1, z2⟩⟩ := row3_cells hy
        have HB := Lib.hid (And.intro hb1 (And.intro hx hy))
        clear hx hy hb1
        go_wp2_with fail
        refine (dfail_any 2 A n c at_ 0 _).mono ?_
        rintro ex w2 ⟨rfl, hb2⟩
        have hy := (hb2.block (w.heap.size + 1) (blk_lt HB.out.2.2)).trans HB.out.2.2
        obtain ⟨⟨y0, y1, y2⟩, ⟨z0, z1, z2⟩⟩ := row3_cells hy
        have HB2 := Lib.hid (And.intro hb2 hy)
        clear hy hb2
        go_wp2
        refine post_ct rfl (w.heap.size + 1) _ _ _ rfl (row3_store HB2.out.2) rfl ?_
        have hb := ((below_alloc2 w _ _).trans (HB.out.1.mono (by simp; omega))).trans (HB2.out.1.mono (Nat.le_trans (by simp; omega) HB.out.1.size))
        exact ⟨none, 0, rfl, by simp, fun wy _ => RB.nil wy, below_store3 hb _ (by omega) _ _ _⟩
      · have e2 : rRaw b k at_ 0 = ((b.drop at_).take k, at_ + k, 0) := by unfold rRaw; rw [if_neg (by omega), if_neg (by have := H.out.2; omega)]; rfl
        rw [e2]
        have g1 : (k : Int) ≤ ((n - at_ : Nat) : Int) := by omega
        have hlk : ((b.drop at_).take k).length = k := by have := H.out.2; simp; omega
        dsimp only
        rw [hlk]
        clear e2 hneg hbig hlk
        go_enter Try.func97, Try.ntmps97
        go_wp2_with fail
        refine (left_any n c at_ 0 A _ hat hnc).mono ?_
        rintro ex w1 ⟨rfl, hb1⟩
        obtain ⟨d, hd⟩ : ∃ d, d = n - at_ := ⟨_, rfl⟩
        rw [← hd] at g1 ⊢
        have hx := (hb1.block w.heap.size (by simp; omega)).trans (heap_alloc2_old w _ _)
        have hy := (hb1.block (w.heap.size + 1) (by simp)).trans (heap_alloc2_new w _ _)
        obtain ⟨⟨x0, x1, x2⟩, ⟨v0, v1, v2⟩⟩ := row3_cells hx
        obtain ⟨⟨y0, y1, y2⟩, ⟨z0, z1, z2⟩⟩ := row3_cells hy
        have HB := Lib.hid (And.intro hb1 (And.intro hx hy))
        clear hx hy hb1
        go_wp2
        obtain ⟨W3, hW3⟩ : ∃ W3, W3 = w1.setCell ⟨w.heap.size, 1, none⟩ (.int .i64 ((at_ : Int) + (k : Int))) := ⟨_, rfl⟩
        rw [← hW3]
        have hx3 : W3.heap[w.heap.size]? = some (.cells #[.slice A n c, .int .i64 ((at_ : Int) + (k : Int)), .int .i64 0] 83 (0, 0)) := by
          rw [hW3, heap_setCell_same _ _ _ _ _ _ HB.out.2.1]; rfl
        have hy3 : W3.heap[w.heap.size + 1]? = some (.cells #[.slice none 0 0, .int .i64 0, .int .i64 0] 83 (0, 0)) := by
          rw [hW3, Below.heap_setCell _ _ _ _ (by dsimp only; omega)]; exact HB.out.2.2
        have hb3 : Below w.heap.size w W3 := by
          rw [hW3]; exact ((below_alloc2 w _ _).trans (HB.out.1.mono (by simp; omega))).setCell (by dsimp only; omega) _
        clear hW3 x0 x1 x2 v0 v1 v2 y0 y1 y2 z0 z1 z2
        obtain ⟨⟨x0, x1, x2⟩, ⟨v0, v1, v2⟩⟩ := row3_cells hx3
        obtain ⟨⟨y0, y1, y2⟩, ⟨z0, z1, z2⟩⟩ := row3_cells hy3
        have HC := Lib.hid (And.intro hb3 hy3)
        have g2 : (k : Int) ≤ ((c - at_ : Nat) : Int) := by omega
        clear hx3 hy3 hb3
        go_region
        go_wp2
        refine post_ct rfl (w.heap.size + 1) _ _ _ rfl (by rw [heap_drew]; exact row3_store HC.out.2) rfl ?_
        have hb := (below_store3 HC.out.1 (w.heap.size + 1) (by omega) (.slice A n c) (.int .i64 ((at_ : Int) + (k : Int))) (.int .i64 0)).drew
        have e3 : ((at_ + k : Nat) : Int) = (at_ : Int) + (k : Int) := by omega
        rw [e3]
        exact ⟨dropA A c at_, c - at_, rfl, by omega, fun wy hy => (hy.drop c at_ (by have := H.out.2; omega) (by have := H.out.2; omega)).take k (by have := H.out.2; simp; omega), hb⟩
  · have e1 : rRaw b m at_ e = ([], at_, e) := by unfold rRaw; rw [if_pos h0]
    rw [e1]
    clear e1
    have g1 : (e == 0) = false := by simp [h0]
    go_enter Try.func97, Try.ntmps97
    go_wp2
    refine post_ct rfl (w.heap.size + 1) _ _ _ rfl (heap_alloc2_new w _ _) rfl ?_
    exact ⟨none, 0, rfl, by simp, fun wy _ => RB.nil wy, (below_alloc (Below.refl _ _) _).alloc (by simp) _⟩
end
end Go.Proofs.Ytnkbkhlbogcfaaa
