/- The document's reads: what is left, an error, bytes · The document's reads: numbers · The document's read of a short number. -/
import Derived.Test.YtnkbkhlbogcfaaaV
import Derived.Test.YtnkbkhlbogcfaaaRp
import Derived.BigRegion
import Derived.Test.YtnkbkhlbogcfaaaO
set_option linter.unusedVariables false
set_option linter.unusedSimpArgs false
namespace Go.Proofs.Ytnkbkhlbogcfaaa
open Go.RowKit Go.Proofs.YtnkbkhlbogcfaaaW.PrintWords
noncomputable section

theorem RB.nil (w : World) : RB w none [] := ⟨by simp [bv], by simp, fun h => absurd h (by simp)⟩
/-- a struct in memory: its cells, and that they may be written -/
structure Row3 (w : World) (g : Nat) (x y z : Value) (t : TypeId) : Prop where
  blk : w.heap[g]? = some (.cells #[x, y, z] t (0, 0))
theorem row3_cells {w : World} {g : Nat} {x y z : Value} {t : TypeId} (h : w.heap[g]? = some (.cells #[x, y, z] t (0, 0))) :
    (w.cell? ⟨g, 0, none⟩ = some x ∧ w.cell? ⟨g, 1, none⟩ = some y ∧ w.cell? ⟨g, 2, none⟩ = some z) ∧ (w.frozen? ⟨g, 0, none⟩ = false ∧ w.frozen? ⟨g, 1, none⟩ = false ∧ w.frozen? ⟨g, 2, none⟩ = false) :=
  ⟨rd_cells h, frozen_of_row w g 0 _ _ h, frozen_of_row w g 1 _ _ h, frozen_of_row w g 2 _ _ h⟩
theorem row3_store {w : World} {g : Nat} {x y z x' y' z' : Value} {t : TypeId} (h : w.heap[g]? = some (.cells #[x, y, z] t (0, 0))) :
    (((w.setCell ⟨g, 0, none⟩ x').setCell ⟨g, 1, none⟩ y').setCell ⟨g, 2, none⟩ z').heap[g]? = some (.cells #[x', y', z'] t (0, 0)) := by
  have h0 : (w.setCell ⟨g, 0, none⟩ x').heap[g]? = some (.cells #[x', y, z] t (0, 0)) := by rw [heap_setCell_same _ _ _ _ _ _ h]; rfl
  have h1 : ((w.setCell ⟨g, 0, none⟩ x').setCell ⟨g, 1, none⟩ y').heap[g]? = some (.cells #[x', y', z] t (0, 0)) := by rw [heap_setCell_same _ _ _ _ _ _ h0]; rfl
  rw [heap_setCell_same _ _ _ _ _ _ h1]
  rfl
theorem below_store3 {B : Nat} {w w1 : World} (h : Below B w w1) (g : Nat) (hg : B ≤ g) (x y z : Value) : Below B w (((w1.setCell ⟨g, 0, none⟩ x).setCell ⟨g, 1, none⟩ y).setCell ⟨g, 2, none⟩ z) :=
  ((h.setCell (p := ⟨g, 0, none⟩) hg x).setCell (p := ⟨g, 1, none⟩) hg y).setCell (p := ⟨g, 2, none⟩) hg z
theorem below_alloc2 (w : World) (A B : Obj) : Below w.heap.size w ((w.alloc A).alloc B) := (below_alloc (Below.refl _ _) _).alloc (by simp) _
/-- a function's end, where a struct lies in memory, and another value beside it -/
theorem post_ct {fn : Func} {p u : Tmp} {R : Ending → World → Prop} {a : Act} {w : World} (h : fn.results = #[.cell p 83, .tmp u]) (g : Nat) (x y z : Value) (hp : a.tmps.getD p undef = .pointer (some ⟨g, 0, none⟩))
    (hg : w.heap[g]? = some (.cells #[x, y, z] 83 (0, 0))) (hd : a.defers = []) (hR : R (.returned (.tuple #[.agg #[x, y, z], a.tmps.getD u undef])) w) : bodyPost Try.prog fn R .ret a w :=
  bodyPost_ret (results_ct h _ _ g 83 _ _ _ hp hg Try.underlying83 rfl (by kernel_rfl)) hd hR
theorem post_c {fn : Func} {p : Tmp} {R : Ending → World → Prop} {a : Act} {w : World} (h : fn.results = #[.cell p 83]) (g : Nat) (x y z : Value) (hp : a.tmps.getD p undef = .pointer (some ⟨g, 0, none⟩))
    (hg : w.heap[g]? = some (.cells #[x, y, z] 83 (0, 0))) (hd : a.defers = []) (hR : R (.returned (.agg #[x, y, z])) w) : bodyPost Try.prog fn R .ret a w :=
  bodyPost_ret (results_cell_row h _ _ g 83 _ _ _ hp hg Try.underlying83 rfl (by kernel_rfl)) hd hR

set_option maxHeartbeats 1000000 in
set_option maxRecDepth 100000 in
theorem left_any (n c at_ : Nat) (e : Int) (A : Option Addr) (w : World) (hat : at_ ≤ n) (hnc : n ≤ c) :
    Calls Try.prog 106 #[.agg #[.slice A n c, .int .i64 at_, .int .i64 e]] w fun ex w' => ex = .returned (.slice (dropA A c at_) (n - at_) (c - at_)) ∧ Below w.heap.size w w' := by
  have i1 : (at_ : Int) ≤ (n : Int) := by omega
  have i2 : (n : Int) ≤ (c : Int) := by omega
  have e0 : (0 : Int) ≤ (at_ : Int) := by omega
  unfold dropA
  by_cases hca : c = at_
  · go_enter Try.func106, Try.ntmps106
    go_wp2
    go_ret
    exact ⟨rfl, below_alloc (Below.refl _ _) _⟩
  · go_enter Try.func106, Try.ntmps106
    go_wp2
    go_ret
    exact ⟨rfl, below_alloc (Below.refl _ _) _⟩

set_option maxHeartbeats 1000000 in
set_option maxRecDepth 100000 in
theorem dfail_any (er : Int) (A : Option Addr) (n c at_ : Nat) (e : Int) (w : World) :
    Calls Try.prog 107 #[.agg #[.slice A n c, .int .i64 at_, .int .i64 e], .int .i64 er] w fun ex w' => ex = .returned (.agg #[.slice A n c, .int .i64 at_, .int .i64 er]) ∧ Below w.heap.size w w' := by
  go_enter Try.func107, Try.ntmps107
  go_wp2
  refine post_c rfl (w.heap.size + 1) _ _ _ rfl (heap_alloc2_new w _ _) rfl ?_
  exact ⟨rfl, (below_alloc (Below.refl _ _) _).alloc (by simp) _⟩

set_option maxHeartbeats 1000000 in
set_option maxRecDepth 100000 in
theorem draw_any (m : Int) (n c at_ : Nat) (e : Int) (A : Option Addr) (b : List UInt8) (w : World) (hR : RB w A b) (hl : b.length = n) (hat : at_ ≤ n) (hnc : n ≤ c) (hn : n ≤ 1000000) :
    Calls Try.prog 97 #[.agg #[.slice A n c, .int .i64 at_, .int .i64 e], .int .i64 m] w fun ex w' => ∃ A' c', ex = .returned (.tuple #[.agg #[.slice A n c, .int .i64 ((rRaw b m at_ e).2.1 : Nat), .int .i64 (rRaw b m at_ e).2.2], .slice A' (rRaw b m at_ e).1.length c']) ∧
      (rRaw b m at_ e).1.length ≤ c' ∧ (∀ wy, RB wy A b → RB wy A' (rRaw b m at_ e).1) ∧ Below w.heap.size w w' := by
  have H := Lib.hid (And.intro hR hl)
  have i1 : (at_ : Int) ≤ (n : Int) := by omega
  have i2 : (n : Int) ≤ (c : Int) := by omega
  have e0 : (0 : Int) ≤ (at_ : Int) := by omega
  clear hR hl
  by_cases h0 : e = 0
  · subst h0
    by_cases hneg : m < 0
    · have e1 : rRaw b m at_ 0 = ([], at_, 0) := by unfold rRaw; rw [if_neg (by omega), if_neg (by omega), show m.toNat = 0 by omega]; simp
      rw [e1]
      clear e1
      go_enter Try.func97, Try.ntmps97
      go_wp2
      refine post_ct rfl (w.heap.size + 1) _ _ _ rfl (heap_alloc2_new w _ _) rfl ?_
      exact ⟨none, 0, rfl, by simp, fun wy _ => RB.nil wy, (below_alloc (Below.refl _ _) _).alloc (by simp) _⟩
    · have e1 : 0 ≤ m := by omega
      obtain ⟨k, rfl⟩ : ∃ k : Nat, m = k := ⟨m.toNat, by omega⟩
      by_cases hbig : n - at_ < k
      · have e2 : rRaw b k at_ 0 = ([], at_, 2) := by unfold rRaw; rw [if_neg (by omega), if_pos (by have := H.out.2; omega)]
        rw [e2]
        have g1 : ((n - at_ : Nat) : Int) < (k : Int) := by omega
        clear e2 hneg hbig
        go_enter Try.func97, Try.ntmps97
        go_wp2_with fail
        refine (left_any n c at_ 0 A _ hat hnc).mono ?_
        rintro ex w1 ⟨rfl, hb1⟩
        obtain ⟨d, hd⟩ : ∃ d, d = n - at_ := ⟨_, rfl⟩
        rw [← hd] at g1 ⊢
        have hx := (hb1.block w.heap.size (by simp; omega)).trans (heap_alloc2_old w _ _)
        have hy := (hb1.block (w.heap.size + 1) (by simp)).trans (heap_alloc2_new w _ _)
        obtain ⟨⟨x0, x1, x2⟩, _⟩ := row3_cells hx
        obtain ⟨⟨y0, y1, y2⟩, ⟨z0, z1, z2⟩⟩ := row3_cells hy
        have HB := Lib.hid (And.intro hb1 (And.intro hx hy))
        clear hx hy hb1
        go_wp2_with fail
        refine (dfail_any 2 A n c at_ 0 _).mono ?_
        rintro ex w2 ⟨rfl, hb2⟩
        have hy := (hb2.block (w.heap.size + 1) (blk_lt HB.out.2.2)).trans HB.out.2.2
        obtain ⟨⟨y0, y1, y2⟩, ⟨z0, z1, z2⟩⟩ := row3_cells hy
        have HB2 := Lib.hid (And.intro hb2 hy)
        clear hy hb2
        go_wp2
        refine post_ct rfl (w.heap.size + 1) _ _ _ rfl (row3_store HB2.out.2) rfl ?_
        have hb := ((below_alloc2 w _ _).trans (HB.out.1.mono (by simp; omega))).trans (HB2.out.1.mono (Nat.le_trans (by simp; omega) HB.out.1.size))
        exact ⟨none, 0, rfl, by simp, fun wy _ => RB.nil wy, below_store3 hb _ (by omega) _ _ _⟩
      · have e2 : rRaw b k at_ 0 = ((b.drop at_).take k, at_ + k, 0) := by unfold rRaw; rw [if_neg (by omega), if_neg (by have := H.out.2; omega)]; rfl
        rw [e2]
        have g1 : (k : Int) ≤ ((n - at_ : Nat) : Int) := by omega
        have hlk : ((b.drop at_).take k).length = k := by have := H.out.2; simp; omega
        dsimp only
        rw [hlk]
        clear e2 hneg hbig hlk
        go_enter Try.func97, Try.ntmps97
        go_wp2_with fail
        refine (left_any n c at_ 0 A _ hat hnc).mono ?_
        rintro ex w1 ⟨rfl, hb1⟩
        obtain ⟨d, hd⟩ : ∃ d, d = n - at_ := ⟨_, rfl⟩
        rw [← hd] at g1 ⊢
        have hx := (hb1.block w.heap.size (by simp; omega)).trans (heap_alloc2_old w _ _)
        have hy := (hb1.block (w.heap.size + 1) (by simp)).trans (heap_alloc2_new w _ _)
        obtain ⟨⟨x0, x1, x2⟩, ⟨v0, v1, v2⟩⟩ := row3_cells hx
        obtain ⟨⟨y0, y1, y2⟩, ⟨z0, z1, z2⟩⟩ := row3_cells hy
        have HB := Lib.hid (And.intro hb1 (And.intro hx hy))
        clear hx hy hb1
        go_wp2
        obtain ⟨W3, hW3⟩ : ∃ W3, W3 = w1.setCell ⟨w.heap.size, 1, none⟩ (.int .i64 ((at_ : Int) + (k : Int))) := ⟨_, rfl⟩
        rw [← hW3]
        have hx3 : W3.heap[w.heap.size]? = some (.cells #[.slice A n c, .int .i64 ((at_ : Int) + (k : Int)), .int .i64 0] 83 (0, 0)) := by
          rw [hW3, heap_setCell_same _ _ _ _ _ _ HB.out.2.1]; rfl
        have hy3 : W3.heap[w.heap.size + 1]? = some (.cells #[.slice none 0 0, .int .i64 0, .int .i64 0] 83 (0, 0)) := by
          rw [hW3, Below.heap_setCell _ _ _ _ (by dsimp only; omega)]; exact HB.out.2.2
        have hb3 : Below w.heap.size w W3 := by
          rw [hW3]; exact ((below_alloc2 w _ _).trans (HB.out.1.mono (by simp; omega))).setCell (by dsimp only; omega) _
        clear hW3 x0 x1 x2 v0 v1 v2 y0 y1 y2 z0 z1 z2
        obtain ⟨⟨x0, x1, x2⟩, ⟨v0, v1, v2⟩⟩ := row3_cells hx3
        obtain ⟨⟨y0, y1, y2⟩, ⟨z0, z1, z2⟩⟩ := row3_cells hy3
        have HC := Lib.hid (And.intro hb3 hy3)
        have g2 : (k : Int) ≤ ((c - at_ : Nat) : Int) := by omega
        clear hx3 hy3 hb3
        go_region
        go_wp2
        refine post_ct rfl (w.heap.size + 1) _ _ _ rfl (by rw [heap_drew]; exact row3_store HC.out.2) rfl ?_
        have hb := (below_store3 HC.out.1 (w.heap.size + 1) (by omega) (.slice A n c) (.int .i64 ((at_ : Int) + (k : Int))) (.int .i64 0)).drew
        have e3 : ((at_ + k : Nat) : Int) = (at_ : Int) + (k : Int) := by omega
        rw [e3]
        exact ⟨dropA A c at_, c - at_, rfl, by omega, fun wy hy => (hy.drop c at_ (by have := H.out.2; omega) (by have := H.out.2; omega)).take k (by have := H.out.2; simp; omega), hb⟩
  · have e1 : rRaw b m at_ e = ([], at_, e) := by unfold rRaw; rw [if_pos h0]
    rw [e1]
    clear e1
    have g1 : (e == 0) = false := by simp [h0]
    go_enter Try.func97, Try.ntmps97
    go_wp2
    refine post_ct rfl (w.heap.size + 1) _ _ _ rfl (heap_alloc2_new w _ _) rfl ?_
    exact ⟨none, 0, rfl, by simp, fun wy _ => RB.nil wy, (below_alloc (Below.refl _ _) _).alloc (by simp) _⟩
end
end Go.Proofs.Ytnkbkhlbogcfaaa

set_option linter.unusedVariables false
set_option linter.unusedSimpArgs false
namespace Go.Proofs.Ytnkbkhlbogcfaaa
open Go.RowKit Go.Proofs.YtnkbkhlbogcfaaaW.PrintWords
noncomputable section

theorem numB_drop (r : List UInt8) (j : Nat) (y : UInt8) (h : r[j]? = some y) : numB (r.drop j) = y.toNat + 256 * numB (r.drop (j + 1)) := by
  have hj : j < r.length := (List.getElem?_eq_some_iff.1 h).1
  have he := (List.getElem?_eq_some_iff.1 h).2
  rw [List.drop_eq_getElem_cons hj, he]
  rfl

set_option maxHeartbeats 1000000 in
set_option maxRecDepth 100000 in
theorem dfixed_any (k n c at_ : Nat) (e : Int) (A : Option Addr) (b : List UInt8) (w : World) (hk : k ≤ 8) (hR : RB w A b) (hl : b.length = n) (hat : at_ ≤ n) (hnc : n ≤ c) (hn : n ≤ 900000) :
    Calls Try.prog 92 #[.agg #[.slice A n c, .int .i64 at_, .int .i64 e], .int .i64 k] w fun ex w' => ex = .returned (.tuple #[.agg #[.slice A n c, .int .i64 ((rFixed b k at_ e).2.1 : Nat), .int .i64 (rFixed b k at_ e).2.2], .int .u64 ((rFixed b k at_ e).1 : Nat)]) ∧ Below w.heap.size w w' := by
  have hl8 : (rRaw b k at_ e).1.length ≤ 8 := by
    unfold rRaw
    split
    · simp
    · split
      · simp
      · simp; omega
  unfold rFixed
  dsimp only
  have hRaw := fun (wx : World) (hb : Below w.heap.size w wx) => draw_any k n c at_ e A b wx (hR.below hb) hl hat hnc (by omega)
  obtain ⟨r, at', e', hr⟩ : ∃ r at' e', rRaw b k at_ e = (r, at', e') := ⟨_, _, _, rfl⟩
  rw [hr] at hRaw hl8 ⊢
  dsimp only at hRaw hl8 ⊢
  obtain ⟨l, hll⟩ : ∃ l, l = r.length := ⟨_, rfl⟩
  rw [← hll] at hRaw hl8
  have HR := Lib.hid hRaw
  have HRR := Lib.hid hR
  have HL := Lib.hid hll
  have l8 : (l : Int) ≤ 8 := by omega
  clear hRaw hr hll hl hR
  go_enter Try.func92, Try.ntmps92
  go_wp2_with fail
  refine (HR.out _ (below_alloc2 w _ _)).mono ?_
  rintro ex w1 ⟨A1, c1, rfl, hc1, hrb', hb1⟩
  have hx := (hb1.block w.heap.size (by simp; omega)).trans (heap_alloc2_old w _ _)
  have hy := (hb1.block (w.heap.size + 1) (by simp)).trans (heap_alloc2_new w _ _)
  have hb := (below_alloc2 w _ _).trans (hb1.mono (by simp; omega))
  have hrb := hrb' w1 (HRR.out.below hb)
  clear hrb'
  obtain ⟨⟨y0, y1, y2⟩, ⟨z0, z1, z2⟩⟩ := row3_cells hy
  have H1 := Lib.hid (And.intro hrb (And.intro hb hy))
  clear hx hy hb1 hb hrb
  go_wp2_with fail
  obtain ⟨W, hW⟩ : ∃ W, W = w1.alloc (.cells #[.slice A n c, .int .i64 at', .int .i64 e'] 83) := ⟨_, rfl⟩
  rw [← hW]
  obtain ⟨g, hg⟩ : ∃ g, g = w1.heap.size := ⟨_, rfl⟩
  rw [← hg]
  have hbW : Below w1.heap.size w1 W := by rw [hW]; exact below_alloc (Below.refl _ _) _
  have hgW : W.heap[g]? = some (.cells #[.slice A n c, .int .i64 at', .int .i64 e'] 83 (0, 0)) := by rw [hW, hg]; exact heap_alloc_new _ _
  have hyW := (hbW.block (w.heap.size + 1) (blk_lt H1.out.2.2)).trans H1.out.2.2
  have HW := Lib.hid (And.intro (H1.out.1.below hbW) (And.intro (H1.out.2.1.trans (hbW.mono H1.out.2.1.size)) (And.intro hgW hyW)))
  obtain ⟨⟨x0, x1, x2⟩, _⟩ := row3_cells hgW
  clear y0 y1 y2 z0 z1 z2
  obtain ⟨⟨y0, y1, y2⟩, ⟨z0, z1, z2⟩⟩ := row3_cells hyW
  clear hW hg hbW hgW hyW
  go_loopw [8, 9] (fun v i wr => ∃ j : Nat, j ≤ l ∧ i = .int .i64 ((j : Int) - 1) ∧ v = .int .u64 (numB (r.drop j) : Nat) ∧ wr = W) (fun _ i _ => (intOf i + 1).toNat)
  case atStart => exact ⟨l, by omega, rfl, by rw [List.drop_of_length_le (by have := HL.out; omega)]; rfl, rfl⟩
  case round =>
    obtain ⟨j, hj, rfl, rfl, rfl⟩ := hrel
    by_cases h0 : j = 0
    · subst h0
      obtain ⟨x, hx⟩ : ∃ x, x = numB (r.drop 0) := ⟨_, rfl⟩
      have HX := Lib.hid (show x = numB r by rw [hx, List.drop_zero])
      rw [← hx]
      have e1 : ((0 : Nat) : Int) - 1 = -1 := rfl
      rw [e1]
      clear hx e1
      go_wp2
      refine post_ct rfl (w.heap.size + 1) _ _ _ rfl (row3_store HW.out.2.2.2) rfl ?_
      rw [← HX.out]
      exact ⟨rfl, below_store3 HW.out.2.1 _ (by omega) _ _ _⟩
    · obtain ⟨m, rfl⟩ : ∃ m, j = m + 1 := ⟨j - 1, by omega⟩
      have e1 : ((m + 1 : Nat) : Int) - 1 = (m : Int) := by omega
      rw [e1]
      obtain ⟨y, hy⟩ : ∃ y, r[m]? = some y := ⟨_, List.getElem?_eq_getElem (by have := HL.out; omega)⟩
      obtain ⟨ad, had, e1⟩ := HW.out.1.at_ hy
      subst had
      have hx7 := numB_lt (r.drop (m + 1))
      have h7 : numB (r.drop (m + 1)) < 256 ^ 7 := by
        refine Nat.lt_of_lt_of_le hx7 (Nat.pow_le_pow_right (by omega) ?_)
        have := HL.out
        simp
        omega
      have e7 : ((256 ^ 7 : Nat) : Int) = 72057594037927936 := by kernel_rfl
      have h7I := Int.ofNat_lt.2 h7
      rw [e7] at h7I
      have hD := numB_drop r m y hy
      obtain ⟨x, hx⟩ : ∃ x, x = numB (r.drop (m + 1)) := ⟨_, rfl⟩
      rw [← hx] at hD h7I ⊢
      have HD := Lib.hid hD
      have x0 : (0 : Int) ≤ (x : Int) := by omega
      have y0 : (0 : Int) ≤ (y.toNat : Int) := by omega
      have y1 : (y.toNat : Int) < 256 := by have := y.toNat_lt; omega
      have m0 : (0 : Int) ≤ (m : Int) := by omega
      have ml : (m : Int) < (l : Int) := by omega
      clear hD hx hx7 h7 e7 hy
      go_wp2
      go_roundw
      case rel => exact ⟨m, by omega, rfl, by rw [HD.out, Int.natCast_add, Int.natCast_mul, Int.add_comm]; rfl, trivial⟩
      case measure => simp [intOf]
end
end Go.Proofs.Ytnkbkhlbogcfaaa

set_option linter.unusedVariables false
set_option linter.unusedSimpArgs false
namespace Go.Proofs.Ytnkbkhlbogcfaaa
open Go.RowKit Go.Proofs.YtnkbkhlbogcfaaaW.PrintWords
noncomputable section

theorem digB_drop (r : List UInt8) (j : Nat) (y : UInt8) (h : r[j]? = some y) : digB (r.drop j) = y.toNat % 128 + 128 * digB (r.drop (j + 1)) := by
  have hj : j < r.length := (List.getElem?_eq_some_iff.1 h).1
  have he := (List.getElem?_eq_some_iff.1 h).2
  rw [List.drop_eq_getElem_cons hj, he]
  rfl
theorem rShort_9 {b : List UInt8} {at_ : Nat} (h : cntB 9 (b.drop at_) = 9) : rShort b at_ 0 = (0, at_, 3) := by
  unfold rShort
  rw [if_neg (by omega), rdS_doc, if_pos h]
  rfl
theorem rShort_end {b : List UInt8} {at_ : Nat} (h9 : cntB 9 (b.drop at_) ≠ 9) (h : cntB 9 (b.drop at_) = (b.drop at_).length) : rShort b at_ 0 = (0, at_, 2) := by
  unfold rShort
  rw [if_neg (by omega), rdS_doc, if_neg h9, if_pos h]
  rfl
theorem rShort_odd {b : List UInt8} {at_ j : Nat} (hj : cntB 9 (b.drop at_) = j) (h9 : j ≠ 9) (h : j ≠ (b.drop at_).length) (hs : (shortB (digB ((b.drop at_).take (j + 1)))).length ≠ j + 1) : rShort b at_ 0 = (0, at_, 3) := by
  subst hj
  unfold rShort
  rw [if_neg (by omega), rdS_doc, if_neg h9, if_neg h, if_pos hs]
  rfl
theorem rShort_is {b : List UInt8} {at_ j : Nat} (hj : cntB 9 (b.drop at_) = j) (h9 : j ≠ 9) (h : j ≠ (b.drop at_).length) (hs : (shortB (digB ((b.drop at_).take (j + 1)))).length = j + 1) : rShort b at_ 0 = (digB ((b.drop at_).take (j + 1)), at_ + (j + 1), 0) := by
  subst hj
  have e : rdS 0 0 (b.drop at_) = (digB ((b.drop at_).take (cntB 9 (b.drop at_) + 1)), cntB 9 (b.drop at_) + 1, 0) := by
    rw [rdS_doc, if_neg h9, if_neg h, if_neg (fun e => e hs)]
  unfold rShort
  rw [if_neg (by omega), e]
  rfl

set_option maxHeartbeats 4000000 in
set_option maxRecDepth 100000 in
theorem dshort_any (n c at_ : Nat) (e : Int) (A : Option Addr) (b : List UInt8) (w : World) (hR : RB w A b) (hl : b.length = n) (hat : at_ ≤ n) (hnc : n ≤ c) (hn : n ≤ 900000) :
    Calls Try.prog 93 #[.agg #[.slice A n c, .int .i64 at_, .int .i64 e]] w fun ex w' => ex = .returned (.tuple #[.agg #[.slice A n c, .int .i64 ((rShort b at_ e).2.1 : Nat), .int .i64 (rShort b at_ e).2.2], .int .i64 ((rShort b at_ e).1 : Nat)]) ∧ Below w.heap.size w w' := by
  by_cases h0 : e = 0
  · subst h0
    obtain ⟨d, hd⟩ : ∃ d, d = n - at_ := ⟨_, rfl⟩
    obtain ⟨bb, hbb⟩ : ∃ bb, bb = b.drop at_ := ⟨_, rfl⟩
    have HBl : bb.length = d := by rw [hbb, hd, ← hl]; simp
    have HR := Lib.hid (And.intro (show RB w (dropA A c at_) bb by rw [hbb]; exact hR.drop c at_ (by omega) (by omega)) HBl)
    have HBB := Lib.hid hbb
    have hdc : d ≤ c - at_ := by omega
    have dcI : (d : Int) ≤ ((c - at_ : Nat) : Int) := by omega
    have atI : (at_ : Int) ≤ 900000 := by omega
    have at0 : (0 : Int) ≤ (at_ : Int) := by omega
    have HD := Lib.hid hd
    obtain ⟨tgt, htg⟩ : ∃ t, t = rShort b at_ 0 := ⟨_, rfl⟩
    rw [← htg]
    have HT := Lib.hid htg
    clear hbb HBl hR hl htg
    go_enter Try.func93, Try.ntmps93
    go_wp2_with fail
    refine (left_any n c at_ 0 A _ hat hnc).mono ?_
    rintro ex w1 ⟨rfl, hb1⟩
    rw [← hd]
    clear hd
    obtain ⟨D, hDA⟩ : ∃ D, D = dropA A c at_ := ⟨_, rfl⟩
    have HR1 := Lib.hid (show RB w1 D bb by rw [hDA]; exact (HR.out.1.below (below_alloc2 w _ _)).below hb1)
    rw [← hDA]
    obtain ⟨cc, hcc⟩ : ∃ cc, cc = c - at_ := ⟨_, rfl⟩
    rw [← hcc] at dcI hdc ⊢
    have hx := (hb1.block w.heap.size (by simp; omega)).trans (heap_alloc2_old w _ _)
    have hy := (hb1.block (w.heap.size + 1) (by simp)).trans (heap_alloc2_new w _ _)
    have hb := (below_alloc2 w _ _).trans (hb1.mono (by simp; omega))
    obtain ⟨⟨x0, x1, x2⟩, ⟨v0, v1, v2⟩⟩ := row3_cells hx
    obtain ⟨⟨y0, y1, y2⟩, ⟨z0, z1, z2⟩⟩ := row3_cells hy
    have H1 := Lib.hid (And.intro hb (And.intro hx hy))
    clear hx hy hb1 hb hDA hcc
    go_wp2_with fail
    go_loopw [5] (fun i wr => ∃ j : Nat, j ≤ d ∧ j ≤ 9 ∧ i = .int .i64 j ∧ (∀ i u, i < j → bb[i]? = some u → 128 ≤ u.toNat) ∧ wr = w1) (fun i _ => d - (intOf i).toNat)
    case atStart => exact ⟨0, by omega, by omega, rfl, fun _ _ h => by omega, rfl⟩
    case round =>
      obtain ⟨j, hj, hj9, rfl, hbig, rfl⟩ := hrel
      have HB := Lib.hid hbig
      have j0 : (0 : Int) ≤ (j : Int) := by omega
      clear hbig
      by_cases h9 : j = 9
      · have jI : (j : Int) = 9 := by omega
        have HE := Lib.hid (show tgt = (0, at_, 3) by
          rw [HT.out]
          refine rShort_9 ?_
          rw [← HBB.out]
          exact cntB_is 9 bb 9 (by omega) (by have := HR.out.2; omega) (by rw [← h9]; exact HB.out) (.inl rfl))
        subst h9
        rcases Nat.lt_or_ge 9 d with hdd | hdd
        · have dI : (9 : Int) < (d : Int) := by omega
          go_wp2_with fail
          refine (dfail_any 3 A n c at_ 0 _).mono ?_
          rintro ex w2 ⟨rfl, hb2⟩
          have hyz := (hb2.block (w.heap.size + 1) (blk_lt H1.out.2.2)).trans H1.out.2.2
          have hbz := H1.out.1.trans (hb2.mono H1.out.1.size)
          obtain ⟨⟨y0, y1, y2⟩, ⟨z0, z1, z2⟩⟩ := row3_cells hyz
          have HZ := Lib.hid (And.intro hbz hyz)
          clear hyz hbz hb2
          go_wp2
          refine post_ct rfl (w.heap.size + 1) _ _ _ rfl (row3_store HZ.out.2) rfl ?_
          rw [HE.out]
          exact ⟨rfl, below_store3 HZ.out.1 _ (by omega) _ _ _⟩
        · have dI : (d : Int) = 9 := by omega
          go_wp2_with fail
          refine (dfail_any 3 A n c at_ 0 _).mono ?_
          rintro ex w2 ⟨rfl, hb2⟩
          have hyz := (hb2.block (w.heap.size + 1) (blk_lt H1.out.2.2)).trans H1.out.2.2
          have hbz := H1.out.1.trans (hb2.mono H1.out.1.size)
          obtain ⟨⟨y0, y1, y2⟩, ⟨z0, z1, z2⟩⟩ := row3_cells hyz
          have HZ := Lib.hid (And.intro hbz hyz)
          clear hyz hbz hb2
          go_wp2
          refine post_ct rfl (w.heap.size + 1) _ _ _ rfl (row3_store HZ.out.2) rfl ?_
          rw [HE.out]
          exact ⟨rfl, below_store3 HZ.out.1 _ (by omega) _ _ _⟩
      · have j9 : (j : Int) < 9 := by omega
        have jn : ((j : Int) == 9) = false := by simp; omega
        by_cases hjd : j = d
        · have jI : (j : Int) = (d : Int) := by omega
          have HE := Lib.hid (show tgt = (0, at_, 2) by
            rw [HT.out]
            have hc := cntB_is 9 bb j (by omega) (by have := HR.out.2; omega) HB.out (.inr (.inl (by have := HR.out.2; omega)))
            rw [HBB.out] at hc
            refine rShort_end (by omega) ?_
            rw [hc, ← HBB.out]
            have := HR.out.2
            omega)
          go_wp2_with fail
          refine (dfail_any 2 A n c at_ 0 _).mono ?_
          rintro ex w2 ⟨rfl, hb2⟩
          have hyz := (hb2.block (w.heap.size + 1) (blk_lt H1.out.2.2)).trans H1.out.2.2
          have hbz := H1.out.1.trans (hb2.mono H1.out.1.size)
          obtain ⟨⟨y0, y1, y2⟩, ⟨z0, z1, z2⟩⟩ := row3_cells hyz
          have HZ := Lib.hid (And.intro hbz hyz)
          clear hyz hbz hb2
          go_wp2
          refine post_ct rfl (w.heap.size + 1) _ _ _ rfl (row3_store HZ.out.2) rfl ?_
          rw [HE.out]
          exact ⟨rfl, below_store3 HZ.out.1 _ (by omega) _ _ _⟩
        · have jd : (j : Int) < (d : Int) := by omega
          have jdn : ((j : Int) == (d : Int)) = false := by simp; omega
          obtain ⟨y, hy⟩ : ∃ y, bb[j]? = some y := ⟨_, List.getElem?_eq_getElem (by have := HR.out.2; omega)⟩
          obtain ⟨ad, had, e1⟩ := HR1.out.at_ hy
          subst had
          have HY := Lib.hid hy
          clear hy
          by_cases hyb : 128 ≤ y.toNat
          · have yI : (128 : Int) ≤ (y.toNat : Int) := by omega
            go_wp2
            go_roundw
            case rel =>
              refine ⟨j + 1, by omega, by omega, by go_num, ?_, trivial⟩
              intro i u hi hu
              by_cases hij : i = j
              · subst hij
                rw [HY.out] at hu
                injection hu with hu
                rw [← hu]
                exact hyb
              · exact HB.out i u (by omega) hu
            case measure => simp [intOf]; omega
          · have yI : (y.toNat : Int) < 128 := by omega
            have HC := Lib.hid (show cntB 9 (b.drop at_) = j by
              rw [← HBB.out]
              exact cntB_is 9 bb j (by omega) (by have := HR.out.2; omega) HB.out (.inr (.inr ⟨y, HY.out, by omega⟩)))
            obtain ⟨t, ht⟩ : ∃ t, t = bb.take (j + 1) := ⟨_, rfl⟩
            have HTk := Lib.hid (And.intro ht (show t.length = j + 1 by rw [ht, List.length_take]; have := HR.out.2; omega))
            clear ht
            obtain ⟨wa, rfl⟩ : ∃ wa, wa = wr := ⟨_, rfl⟩
            go_wp2_with fail
            go_loopw [6, 7] (fun v i wr => ∃ m : Nat, m ≤ j + 1 ∧ i = .int .i64 ((m : Int) - 1) ∧ v = .int .i64 (digB (t.drop m) : Nat) ∧ wr = wa) (fun _ i _ => (intOf i + 1).toNat)
            case atStart => exact ⟨j + 1, by omega, by go_num, by rw [List.drop_of_length_le (by have := HTk.out.2; omega)]; rfl, rfl⟩
            case round =>
              obtain ⟨m, hm, rfl, rfl, rfl⟩ := hrel
              by_cases hm0 : m = 0
              · subst hm0
                obtain ⟨x, hxx⟩ : ∃ x, x = digB (t.drop 0) := ⟨_, rfl⟩
                have HX := Lib.hid (show x = digB t by rw [hxx, List.drop_zero])
                have h9x := digB_lt t
                have e9 : ((128 ^ 9 : Nat) : Int) = 9223372036854775808 := by kernel_rfl
                have hxI : (x : Int) ≤ 9223372036854775807 := by
                  have : x < 128 ^ 9 := by
                    rw [HX.out]
                    exact Nat.lt_of_lt_of_le h9x (Nat.pow_le_pow_right (by omega) (by have := HTk.out.2; omega))
                  have := Int.ofNat_lt.2 this
                  rw [e9] at this
                  omega
                rw [← hxx]
                have em : ((0 : Nat) : Int) - 1 = -1 := rfl
                rw [em]
                have x0' : (0 : Int) ≤ (x : Int) := by omega
                have HS9 := Lib.hid (shortB_le9 (m := x) hxI)
                have KS := Lib.hid (rshort_any (x : Int) x (by omega) hxI wr)
                clear hxx em h9x e9 hxI
                go_wp2_with fail
                refine KS.out.mono ?_
                rintro ex w3 ⟨A3, c3, rfl, ho3, hb3⟩
                obtain ⟨sl, hsl⟩ : ∃ sl, sl = (shortB x).length := ⟨_, rfl⟩
                rw [← hsl]
                have hx3 := (hb3.block w.heap.size (blk_lt H1.out.2.1)).trans H1.out.2.1
                have hy3 := (hb3.block (w.heap.size + 1) (blk_lt H1.out.2.2)).trans H1.out.2.2
                have hbw := H1.out.1.trans (hb3.mono H1.out.1.size)
                clear x0 x1 x2 v0 v1 v2 y0 y1 y2 z0 z1 z2
                obtain ⟨⟨x0, x1, x2⟩, ⟨v0, v1, v2⟩⟩ := row3_cells hx3
                obtain ⟨⟨y0, y1, y2⟩, ⟨z0, z1, z2⟩⟩ := row3_cells hy3
                have HS := Lib.hid (And.intro hsl (And.intro hbw (And.intro hx3 hy3)))
                clear hsl hx3 hy3 hbw hb3 ho3
                by_cases hsj : sl = j + 1
                · have sI : (sl : Int) = (j : Int) + 1 := by omega
                  have HE := Lib.hid (show tgt = (x, at_ + (j + 1), 0) by
                    rw [HT.out]
                    have := rShort_is HC.out h9 (by rw [← HBB.out]; have := HR.out.2; omega) (by rw [← HBB.out, ← HTk.out.1, ← HX.out, ← HS.out.1]; exact hsj)
                    rw [this, ← HBB.out, ← HTk.out.1, ← HX.out])
                  clear hsj
                  go_wp2
                  have hy4 : (w3.setCell ⟨w.heap.size, 1, none⟩ (.int .i64 ((at_ : Int) + (j : Int) + 1))).heap[w.heap.size + 1]? = some (.cells #[.slice none 0 0, .int .i64 0, .int .i64 0] 83 (0, 0)) := by
                    rw [Below.heap_setCell _ _ _ _ (by dsimp only; omega)]; exact HS.out.2.2.2
                  refine post_ct rfl (w.heap.size + 1) _ _ _ rfl (row3_store hy4) rfl ?_
                  rw [HE.out]
                  have ea : ((at_ + (j + 1) : Nat) : Int) = (at_ : Int) + (j : Int) + 1 := by omega
                  dsimp only
                  rw [ea]
                  exact ⟨rfl, below_store3 (HS.out.2.1.setCell (by dsimp only; omega) _) _ (by omega) _ _ _⟩
                · have sI : ((sl : Int) == (j : Int) + 1) = false := by simp; omega
                  have sJ : ((sl : Int) != (j : Int) + 1) = true := by simp; omega
                  have HE := Lib.hid (show tgt = (0, at_, 3) by
                    rw [HT.out]
                    exact rShort_odd HC.out h9 (by rw [← HBB.out]; have := HR.out.2; omega) (by rw [← HBB.out, ← HTk.out.1, ← HX.out, ← HS.out.1]; exact hsj))
                  clear hsj
                  go_wp2_with fail
                  refine (dfail_any 3 A n c at_ 0 _).mono ?_
                  rintro ex w2 ⟨rfl, hb2⟩
                  have hyz := (hb2.block (w.heap.size + 1) (blk_lt HS.out.2.2.2)).trans HS.out.2.2.2
                  have hbz := HS.out.2.1.trans (hb2.mono HS.out.2.1.size)
                  obtain ⟨⟨y0, y1, y2⟩, ⟨z0, z1, z2⟩⟩ := row3_cells hyz
                  have HZ := Lib.hid (And.intro hbz hyz)
                  clear hyz hbz hb2
                  go_wp2
                  refine post_ct rfl (w.heap.size + 1) _ _ _ rfl (row3_store HZ.out.2) rfl ?_
                  rw [HE.out]
                  exact ⟨rfl, below_store3 HZ.out.1 _ (by omega) _ _ _⟩
              · obtain ⟨q, rfl⟩ : ∃ q, m = q + 1 := ⟨m - 1, by omega⟩
                have em : ((q + 1 : Nat) : Int) - 1 = (q : Int) := by omega
                rw [em]
                obtain ⟨u, hu⟩ : ∃ u, t[q]? = some u := ⟨_, List.getElem?_eq_getElem (by have := HTk.out.2; omega)⟩
                have hub : bb[q]? = some u := by rw [HTk.out.1, List.getElem?_take_of_lt (by omega)] at hu; exact hu
                obtain ⟨ad', had', e2⟩ := HR1.out.at_ hub
                injection had' with had'
                subst had'
                have h8 : digB (t.drop (q + 1)) < 128 ^ 8 := by
                  refine Nat.lt_of_lt_of_le (digB_lt _) (Nat.pow_le_pow_right (by omega) ?_)
                  have := HTk.out.2
                  rw [List.length_drop]
                  omega
                have e8 : ((128 ^ 8 : Nat) : Int) = 72057594037927936 := by kernel_rfl
                have h8I := Int.ofNat_lt.2 h8
                rw [e8] at h8I
                have hDD := digB_drop t q u hu
                obtain ⟨x, hxx⟩ : ∃ x, x = digB (t.drop (q + 1)) := ⟨_, rfl⟩
                rw [← hxx] at hDD h8I ⊢
                have HDD := Lib.hid hDD
                have x0' : (0 : Int) ≤ (x : Int) := by omega
                have u0 : (0 : Int) ≤ (u.toNat : Int) := by omega
                have u1 : (u.toNat : Int) < 256 := by have := u.toNat_lt; omega
                have q0 : (0 : Int) ≤ (q : Int) := by omega
                have qd : (q : Int) < (d : Int) := by omega
                clear hDD hxx h8 e8 hu hub e1
                go_wp2
                go_roundw
                case rel => exact ⟨q, by omega, rfl, by rw [HDD.out, Int.natCast_add, Int.natCast_mul, Int.add_comm]; rfl, trivial⟩
                case measure => simp [intOf]
  · have e1 : rShort b at_ e = (0, at_, e) := by unfold rShort; rw [if_pos h0]
    rw [e1]
    have g1 : (e == 0) = false := by simp [h0]
    clear e1
    go_enter Try.func93, Try.ntmps93
    go_wp2
    refine post_ct rfl (w.heap.size + 1) _ _ _ rfl (heap_alloc2_new w _ _) rfl ?_
    exact ⟨rfl, below_alloc2 w _ _⟩
end
end Go.Proofs.Ytnkbkhlbogcfaaa
