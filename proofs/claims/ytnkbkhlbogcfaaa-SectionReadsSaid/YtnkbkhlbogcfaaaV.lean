/- Bytes that a reader reads. -/
import Derived.Test.YtnkbkhlbogcfaaaU
set_option linter.unusedVariables false
set_option linter.unusedSimpArgs false
namespace Go.Proofs.Ytnkbkhlbogcfaaa
open Go.RowKit Go.Proofs.YtnkbkhlbogcfaaaW.PrintWords
noncomputable section

set_option maxHeartbeats 1000000 in
set_option maxRecDepth 100000 in
theorem clos83_ok (m : Int) (k g q n c : Nat) (A : Option Addr) (b : List UInt8) (w : World) (hg : w.heap[g]? = some (.cells #[.int .i64 m] 3 (0, 0))) (hq : w.heap[q]? = some (.cells #[.slice none 0 0] 22 (0, 0)))
    (hk : max m 0 = (k : Int)) (hm : m ≤ (n : Int)) (hl : b.length = n) (hR : RB w A b) (hn : n ≤ 1000000) (hnc : n ≤ c) :
    Calls Try.prog 83 #[.slice A n c, .pointer (some ⟨g, 0, none⟩), .pointer (some ⟨q, 0, none⟩)] w fun e w' => e = .returned (.tuple #[.int .i64 k, .int .i64 0]) ∧
      ∃ A' c' w1, w' = w1.setCell ⟨q, 0, none⟩ (.slice A' k c') ∧ Below w.heap.size w w1 ∧ OB w1 w.heap.size A' k c' (b.take k) := by
  have c1 := cell_of_one hg
  have hH := Lib.hid (And.intro hR (And.intro hl hq))
  have hmax := Lib.hid (show ([(0 : Int)].foldl max m) = (k : Int) from hk)
  have hkn : k ≤ n := by omega
  have i1 : (k : Int) ≤ (c : Int) := by omega
  have hlt : g < w.heap.size := (Array.getElem?_eq_some_iff.1 hg).1
  have hqlt : q < w.heap.size := (Array.getElem?_eq_some_iff.1 hq).1
  clear hR hq hg hk hl
  go_enter Try.func83, Try.ntmps83
  go_wp2_with (refine wpList_max (o := ⟨some 12, _, _, _, _, _⟩) .i64 m [0] k _ _ rfl rfl ?_ hmax.out ?_; simp [go_sem])
  refine (clone_any (b.take k) A k c _ (by rw [List.length_take]; have := hH.out.2.1; omega) (hH.out.1.take k (by have := hH.out.2.1; omega)) (by omega)).mono ?_
  rintro e w1 ⟨A1, c2, rfl, ho1, hb1⟩
  have hq1 : w1.heap[q]? = some (.cells #[.slice none 0 0] 22 (0, 0)) := (hb1.block q hqlt).trans hH.out.2.2
  have d1 := cell_of_one hq1
  have f1 := free_of_one hq1
  have d2 : (w1.setCell ⟨q, 0, none⟩ (.slice A1 k c2)).cell? ⟨q, 0, none⟩ = some (.slice A1 k c2) := cell_of_one (one_setCell hq1)
  have H1 := Lib.hid (And.intro ho1 hb1)
  clear ho1 hb1 hq1
  go_wp2
  go_ret2
  exact ⟨rfl, A1, c2, w1, rfl, H1.out.2, H1.out.1⟩

set_option maxHeartbeats 1000000 in
set_option maxRecDepth 100000 in
theorem rawR_ok (m : Int) (k p base n c at_ : Nat) (A : Option Addr) (b : List UInt8) (w : World) (h : RdB w base p A n c b at_ 0) (hk : max m 0 = (k : Int)) (hat : at_ ≤ n) (hm : m ≤ (n : Int) - (at_ : Int)) (hn : n ≤ 900000) :
    Calls Try.prog 42 #[.pointer (some ⟨p, 0, none⟩), .int .i64 m] w fun e w' => ∃ A' c', e = .returned (.slice A' k c') ∧ OB w' w.heap.size A' k c' ((b.drop at_).take k) ∧ RdB w' base p A n c b (at_ + k) 0 ∧ Mod w w' p none := by
  have hH := Lib.hid h
  have hcap := h.own.cap
  have hlen := h.own.len
  have hlt := h.lt
  clear h
  go_enter Try.func42, Try.ntmps42
  go_wp2_with fail
  obtain ⟨W1, hW1⟩ : ∃ W1, W1 = w.alloc (.cells #[.int .i64 m] 3) := ⟨_, rfl⟩
  rw [← hW1]
  obtain ⟨W2, hW2⟩ : ∃ W2, W2 = W1.alloc (.cells #[.slice none 0 0] 22) := ⟨_, rfl⟩
  rw [← hW2]
  have s1 : W1.heap.size = w.heap.size + 1 := by rw [hW1]; simp
  have s2 : W2.heap.size = w.heap.size + 2 := by rw [hW2]; simp [s1]
  have hb2 : Below w.heap.size w W2 := by rw [hW2, hW1]; exact (below_alloc (Below.refl _ _) _).alloc (by simp) _
  have hg : W2.heap[w.heap.size]? = some (.cells #[.int .i64 m] 3 (0, 0)) := by
    rw [hW2, (below_alloc (Below.refl W1.heap.size W1) _).block w.heap.size (by omega), hW1]
    exact heap_alloc_new w _
  have hq : W2.heap[w.heap.size + 1]? = some (.cells #[.slice none 0 0] 22 (0, 0)) := by
    rw [hW2, ← s1]
    exact heap_alloc_new W1 _
  have hRd := hH.out.below hb2
  have hbd : Below W2.heap.size W2 W2.drew := (Below.refl _ _).drew
  have hD : RB W2.drew (dropA A c at_) (b.drop at_) := (hRd.own.rb.below hbd).drop c at_ (by omega) (by omega)
  refine (take83_ok k (fun w' => ∃ A' c' w1, w' = w1.setCell ⟨w.heap.size + 1, 0, none⟩ (.slice A' k c') ∧ Below W2.heap.size W2.drew w1 ∧ OB w1 W2.heap.size A' k c' ((b.drop at_).take k)) p n c at_ A W2 hRd.blk hat hcap (by omega) _ _ ?_ ?_).mono ?_
  · exact clos83_ok m k w.heap.size (w.heap.size + 1) (n - at_) (c - at_) (dropA A c at_) (b.drop at_) W2.drew (by rw [heap_drew]; exact hg) (by rw [heap_drew]; exact hq) hk (by omega) (by simp; omega) hD (by omega) (by omega)
  · rintro w' ⟨A', c', w1, rfl, hb, ho⟩
    rw [Below.heap_setCell _ _ _ _ (by simp; omega), hb.block p (by omega)]
    exact hRd.blk
  · rintro e w3 ⟨rfl, w1', ⟨A', c', w1, rfl, hb, ho⟩, rfl⟩
    have hbw : Below w.heap.size w w1 := (hb2.drew).trans (hb.mono (by omega))
    have hbq := Below.setCell hbw (p := ⟨w.heap.size + 1, 0, none⟩) (by simp) (.slice A' k c')
    have hR1 := hH.out.below hbq
    have ho1 : OB (w1.setCell ⟨w.heap.size + 1, 0, none⟩ (.slice A' k c')) W2.heap.size A' k c' ((b.drop at_).take k) := ownsRow_setCell_other ho (by intro e; have := ho.base _ e; dsimp only at this; omega) _
    have ho2 : OB ((w1.setCell ⟨w.heap.size + 1, 0, none⟩ (.slice A' k c')).setCell ⟨p, 1, none⟩ (.int .i64 ((at_ + k : Nat) : Int))) W2.heap.size A' k c' ((b.drop at_).take k) := ownsRow_setCell_other ho1 (by intro e; have := ho.base _ e; dsimp only at this; omega) _
    have hq1 : w1.heap[w.heap.size + 1]? = some (.cells #[.slice none 0 0] 22 (0, 0)) := (hb.block _ (by omega)).trans hq
    have hq2 : ((w1.setCell ⟨w.heap.size + 1, 0, none⟩ (.slice A' k c')).setCell ⟨p, 1, none⟩ (.int .i64 ((at_ + k : Nat) : Int))).cell? ⟨w.heap.size + 1, 0, none⟩ = some (.slice A' k c') := by
      refine (World.cell?_of_block (w := w1.setCell ⟨w.heap.size + 1, 0, none⟩ (.slice A' k c')) ?_).trans (cell_of_one (one_setCell hq1))
      exact Below.heap_setCell _ _ _ _ (by simp; omega)
    have hne := hR1.ne
    have hfin : OB ((w1.setCell ⟨w.heap.size + 1, 0, none⟩ (.slice A' k c')).setCell ⟨p, 1, none⟩ (.int .i64 ((at_ + k : Nat) : Int))) w.heap.size A' k c' ((b.drop at_).take k) ∧
        RdB ((w1.setCell ⟨w.heap.size + 1, 0, none⟩ (.slice A' k c')).setCell ⟨p, 1, none⟩ (.int .i64 ((at_ + k : Nat) : Int))) base p A n c b (at_ + k) 0 ∧
        Mod w ((w1.setCell ⟨w.heap.size + 1, 0, none⟩ (.slice A' k c')).setCell ⟨p, 1, none⟩ (.int .i64 ((at_ + k : Nat) : Int))) p none := by
      refine ⟨ho2.lower (by omega), ⟨?_, ?_, hH.out.base_p⟩, ?_⟩
      · rw [heap_setCell_same _ _ _ _ _ _ hR1.blk]
        rfl
      · exact ownsRow_setCell_other hR1.own (by rw [own_blk]; exact hne) _
      · exact Mod.setCell ⟨hbq.os, hbq.tape, hbq.output, hbq.size, fun q hq _ _ => hbq.block q hq⟩ _ _
    have HF := Lib.hid hfin
    clear hfin ho1 ho2 hR1 hbq hbw hb ho hD hRd hg hq hb2 hbd hq1 hW1 hW2
    generalize (w1.setCell ⟨w.heap.size + 1, 0, none⟩ (.slice A' k c')).setCell ⟨p, 1, none⟩ (.int .i64 ((at_ + k : Nat) : Int)) = W3 at *
    go_wp2
    go_ret
    exact ⟨A', c', rfl, HF.out⟩
end
end Go.Proofs.Ytnkbkhlbogcfaaa
