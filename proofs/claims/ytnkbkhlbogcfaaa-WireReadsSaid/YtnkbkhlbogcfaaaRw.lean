/- The document's reads: numbers. -/
import Derived.Test.YtnkbkhlbogcfaaaRr
import Derived.Test.YtnkbkhlbogcfaaaO
set_option linter.unusedVariables false
set_option linter.unusedSimpArgs false
namespace Go.Proofs.Ytnkbkhlbogcfaaa
open Go.RowKit Go.Proofs.YtnkbkhlbogcfaaaW.PrintWords
noncomputable section

theorem numB_drop (r : List UInt8) (j : Nat) (y : UInt8) (h : r[j]? = some y) : numB (r.drop j) = y.toNat + 256 * numB (r.drop (j + 1)) := by
  have hj : j < r.length := (List.getElem?_eq_some_iff.1 h).1
  have he := (List.getElem?_eq_some_iff.1 h).2
  rw [List.drop_eq_getElem_cons hj, he]
  rfl

set_option maxHeartbeats 1000000 in
set_option maxRecDepth 100000 in
theorem dfixed_any (k n c at_ : Nat) (e : Int) (A : Option Addr) (b : List UInt8) (w : World) (hk : k ≤ 8) (hR : RB w A b) (hl : b.length = n) (hat : at_ ≤ n) (hnc : n ≤ c) (hn : n ≤ 900000) :
    Calls Try.prog 92 #[.agg #[.slice A n c, .int .i64 at_, .int .i64 e], .int .i64 k] w fun ex w' => ex = .returned (.tuple #[.agg #[.slice A n c, .int .i64 ((rFixed b k at_ e).2.1 : Nat), .int .i64 (rFixed b k at_ e).2.2], .int .u64 ((rFixed b k at_ e).1 : Nat)]) ∧ Below w.heap.size w w' := by
  have hl8 : (rRaw b k at_ e).1.length ≤ 8 := by
    unfold rRaw
    split
    · simp
    · split
      · simp
      · simp; omega
  unfold rFixed
  dsimp only
  have hRaw := fun (wx : World) (hb : Below w.heap.size w wx) => draw_any k n c at_ e A b wx (hR.below hb) hl hat hnc (by omega)
  obtain ⟨r, at', e', hr⟩ : ∃ r at' e', rRaw b k at_ e = (r, at', e') := ⟨_, _, _, rfl⟩
  rw [hr] at hRaw hl8 ⊢
  dsimp only at hRaw hl8 ⊢
  obtain ⟨l, hll⟩ : ∃ l, l = r.length := ⟨_, rfl⟩
  rw [← hll] at hRaw hl8
  have HR := Lib.hid hRaw
  have HRR := Lib.hid hR
  have HL := Lib.hid hll
  have l8 : (l : Int) ≤ 8 := by omega
  clear hRaw hr hll hl hR
  go_enter Try.func92, Try.ntmps92
  go_wp2_with fail
  refine (HR.out _ (below_alloc2 w _ _)).mono ?_
  rintro ex w1 ⟨A1, c1, rfl, hc1, hrb', hb1⟩
  have hx := (hb1.block w.heap.size (by simp; omega)).trans (heap_alloc2_old w _ _)
  have hy := (hb1.block (w.heap.size + 1) (by simp)).trans (heap_alloc2_new w _ _)
  have hb := (below_alloc2 w _ _).trans (hb1.mono (by simp; omega))
  have hrb := hrb' w1 (HRR.out.below hb)
  clear hrb'
  obtain ⟨⟨y0, y1, y2⟩, ⟨z0, z1, z2⟩⟩ := row3_cells hy
  have H1 := Lib.hid (And.intro hrb (And.intro hb hy))
  clear hx hy hb1 hb hrb
  go_wp2_with fail
  obtain ⟨W, hW⟩ : ∃ W, W = w1.alloc (.cells #[.slice A n c, .int .i64 at', .int .i64 e'] 83) := ⟨_, rfl⟩
  rw [← hW]
  obtain ⟨g, hg⟩ : ∃ g, g = w1.heap.size := ⟨_, rfl⟩
  rw [← hg]
  have hbW : Below w1.heap.size w1 W := by rw [hW]; exact below_alloc (Below.refl _ _) _
  have hgW : W.heap[g]? = some (.cells #[.slice A n c, .int .i64 at', .int .i64 e'] 83 (0, 0)) := by rw [hW, hg]; exact heap_alloc_new _ _
  have hyW := (hbW.block (w.heap.size + 1) (blk_lt H1.out.2.2)).trans H1.out.2.2
  have HW := Lib.hid (And.intro (H1.out.1.below hbW) (And.intro (H1.out.2.1.trans (hbW.mono H1.out.2.1.size)) (And.intro hgW hyW)))
  obtain ⟨⟨x0, x1, x2⟩, _⟩ := row3_cells hgW
  clear y0 y1 y2 z0 z1 z2
  obtain ⟨⟨y0, y1, y2⟩, ⟨z0, z1, z2⟩⟩ := row3_cells hyW
  clear hW hg hbW hgW hyW
  go_loopw [8, 9] (fun v i wr => ∃ j : Nat, j ≤ l ∧ i = .int .i64 ((j : Int) - 1) ∧ v = .int .u64 (numB (r.drop j) : Nat) ∧ wr = W) (fun _ i _ => (intOf i + 1).toNat)
  case atStart => exact ⟨l, by omega, rfl, by rw [List.drop_of_length_le (by have := HL.out; omega)]; rfl, rfl⟩
  case round =>
    obtain ⟨j, hj, rfl, rfl, rfl⟩ := hrel
    by_cases h0 : j = 0
    · subst h0
      obtain ⟨x, hx⟩ : ∃ x, x = numB (r.drop 0) := ⟨_, rfl⟩
      have HX := Lib.hid (show x = numB r by rw [hx, List.drop_zero])
      rw [← hx]
      have e1 : ((0 : Nat) : Int) - 1 = -1 := rfl
      rw [e1]
      clear hx e1
      go_wp2
      refine post_ct rfl (w.heap.size + 1) _ _ _ rfl (row3_store HW.out.2.2.2) rfl ?_
      rw [← HX.out]
      exact ⟨rfl, below_store3 HW.out.2.1 _ (by omega) _ _ _⟩
    · obtain ⟨m, rfl⟩ : ∃ m, j = m + 1 := ⟨j - 1, by omega⟩
      have e1 : ((m + 1 : Nat) : Int) - 1 = (m : Int) := by omega
      rw [e1]
      obtain ⟨y, hy⟩ : ∃ y, r[m]? = some y := ⟨_, List.getElem?_eq_getElem (by have := HL.out; omega)⟩
      obtain ⟨ad, had, e1⟩ := HW.out.1.at_ hy
      subst had
      have hx7 := numB_lt (r.drop (m + 1))
      have h7 : numB (r.drop (m + 1)) < 256 ^ 7 := by
        refine Nat.lt_of_lt_of_le hx7 (Nat.pow_le_pow_right (by omega) ?_)
        have := HL.out
        simp
        omega
      have e7 : ((256 ^ 7 : Nat) : Int) = 72057594037927936 := by kernel_rfl
      have h7I := Int.ofNat_lt.2 h7
      rw [e7] at h7I
      have hD := numB_drop r m y hy
      obtain ⟨x, hx⟩ : ∃ x, x = numB (r.drop (m + 1)) := ⟨_, rfl⟩
      rw [← hx] at hD h7I ⊢
      have HD := Lib.hid hD
      have x0 : (0 : Int) ≤ (x : Int) := by omega
      have y0 : (0 : Int) ≤ (y.toNat : Int) := by omega
      have y1 : (y.toNat : Int) < 256 := by have := y.toNat_lt; omega
      have m0 : (0 : Int) ≤ (m : Int) := by omega
      have ml : (m : Int) < (l : Int) := by omega
      clear hD hx hx7 h7 e7 hy
      go_wp2
      go_roundw
      case rel => exact ⟨m, by omega, rfl, by rw [HD.out, Int.natCast_add, Int.natCast_mul, Int.add_comm]; rfl, trivial⟩
      case measure => simp [intOf]
end
end Go.Proofs.Ytnkbkhlbogcfaaa
