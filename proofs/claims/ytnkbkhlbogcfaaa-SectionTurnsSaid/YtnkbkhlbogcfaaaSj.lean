/- Slices that are made; sections' kinds stored. -/
import Derived.Test.YtnkbkhlbogcfaaaOi
import Derived.Test.YtnkbkhlbogcfaaaSh
import Derived.Test.YtnkbkhlbogcfaaaU
set_option linter.unusedVariables false
set_option linter.unusedSimpArgs false
namespace Go.Proofs.Ytnkbkhlbogcfaaa
open Go.RowKit Go.Proofs.YtnkbkhlbogcfaaaW.PrintWords
noncomputable section

/-- a section that is all zeros -/
def sec0 : SecV := ⟨0, none, 0, []⟩
theorem secCells_rep (n : Nat) : secCells (List.replicate n sec0) = (madeCells #[.int .i64 0, .slice none 0 0] (n * 2)).toList := by
  apply List.ext_getElem?
  intro j
  by_cases hj : j < n * 2
  · have hr : (List.replicate n sec0)[j / 2]? = some sec0 := by rw [List.getElem?_replicate, if_pos (by omega)]
    obtain ⟨h0, h1⟩ := secCells_at hr
    have hm : (madeCells #[Value.int .i64 0, .slice none 0 0] (n * 2)).toList[j]? = some ((#[Value.int .i64 0, .slice none 0 0] : Array Value)[j % 2]!) := by
      simp [madeCells, hj]
    rw [hm]
    rcases Nat.mod_two_eq_zero_or_one j with e | e
    · rw [e, show j = j / 2 * 2 by omega, h0]; rfl
    · rw [e, show j = j / 2 * 2 + 1 by omega, h1]; rfl
  · rw [List.getElem?_eq_none (by rw [secCells_length]; simp; omega), List.getElem?_eq_none (by simp [size_madeCells]; omega)]
theorem osec_made (w : World) (n : Nat) (hn : n ≤ 1000) : OSec (w.alloc (.cells (madeCells #[.int .i64 0, .slice none 0 0] (n * 2)) 68)) w.heap.size (some ⟨w.heap.size, 0, none⟩) n n (List.replicate n sec0) := by
  refine ⟨by rw [secCells_length]; simp, .inr ⟨w.heap.size, n, _, rfl, Nat.le_refl _, heap_alloc_new _ _, Nat.le_refl _, by unfold maxLen; omega, size_madeCells _ _, ?_⟩⟩
  rw [← secCells_rep, List.take_of_length_le (by rw [secCells_length]; simp)]
theorem oi_made (w : World) (n : Nat) (hn : n ≤ 1000) : OI (w.alloc (.cells (madeCells #[.int .i64 0] n) 3)) w.heap.size (some ⟨w.heap.size, 0, none⟩) n n (List.replicate n 0) := by
  have e : (madeCells #[Value.int .i64 0] n).toList = nums .i64 (List.replicate n 0) := by
    apply List.ext_getElem?
    intro j
    by_cases hj : j < n
    · simp [madeCells, nums, hj, Nat.mod_one]
    · rw [List.getElem?_eq_none (by simp [size_madeCells]; omega), List.getElem?_eq_none (by simp [nums]; omega)]
  refine ⟨by simp [nums], .inr ⟨w.heap.size, n, _, rfl, Nat.le_refl _, heap_alloc_new _ _, Nat.le_refl _, by unfold maxLen; omega, by simp [size_madeCells], ?_⟩⟩
  rw [e, List.take_of_length_le (by simp [nums])]
section
variable {ops : Array Oper} {rest : List Oper} {o : Oper} {a : Act} {Q : Exit → Act → World → Prop} {W : World} {s x : Operand}
/-- make([]Section, n) -/
theorem wpMakeS (n : Nat) (hgd : o.guard = none) (ho : o.op = .makeSlice 63 s x) (hs : a.eval s = .int .i64 n) (hx : a.eval x = .int .i64 n) (hn : n ≤ 1000)
    (h : ∀ w1, OSec w1 W.heap.size (some ⟨W.heap.size, 0, none⟩) n n (List.replicate n sec0) → Below W.heap.size W w1 → w1.heap.size = W.heap.size + 1 → wpList Try.prog ops Q rest (a.put o.dst (.slice (some ⟨W.heap.size, 0, none⟩) n n)) w1) : wpList Try.prog ops Q (o :: rest) a W := by
  obtain ⟨i0, hi, hz0, hz1, hz2⟩ := info_parts Try.info68
  have hr := run_make (P := Try.prog) W 63 68 i0 _ Try.underlying63 hi hz0 .i64 .i64 (n : Int) (n : Int) (by omega) (by omega) (by rw [hz2]; omega) (by omega)
  rw [Int.toNat_natCast, hz1] at hr
  refine wpList_plain hgd fun K hK => ?_
  unfold Oper.wp execOp
  simp only [ho, Sem.run_bind, Sem.run_pure, Result.andThen_ok, hs, hx, hr]
  exact hK _ _ (h _ (osec_made W n hn) (below_alloc (Below.refl _ _) _) (by simp))
/-- make([]int, n) -/
theorem wpMakeI (n : Nat) (hgd : o.guard = none) (ho : o.op = .makeSlice 75 s x) (hs : a.eval s = .int .i64 n) (hx : a.eval x = .int .i64 n) (hn : n ≤ 1000)
    (h : ∀ w1, OI w1 W.heap.size (some ⟨W.heap.size, 0, none⟩) n n (List.replicate n 0) → Below W.heap.size W w1 → w1.heap.size = W.heap.size + 1 → wpList Try.prog ops Q rest (a.put o.dst (.slice (some ⟨W.heap.size, 0, none⟩) n n)) w1) : wpList Try.prog ops Q (o :: rest) a W := by
  obtain ⟨i0, hi, hz0, hz1, hz2⟩ := info_parts Try.info3'
  have hr := run_make (P := Try.prog) W 75 3 i0 _ Try.underlying75 hi hz0 .i64 .i64 (n : Int) (n : Int) (by omega) (by omega) (by rw [hz2]; omega) (by omega)
  rw [Int.toNat_natCast, hz1, Nat.mul_one] at hr
  refine wpList_plain hgd fun K hK => ?_
  unfold Oper.wp execOp
  simp only [ho, Sem.run_bind, Sem.run_pure, Result.andThen_ok, hs, hx, hr]
  exact hK _ _ (h _ (oi_made W n hn) (below_alloc (Below.refl _ _) _) (by simp))
end
theorem secCells_setK {l : List SecV} {i : Nat} {x y : SecV} (h : l[i]? = some x) (hA : y.A = x.A) (hb : y.b = x.b) (hc : y.c = x.c) : secCells (l.set i y) = (secCells l).set (i * 2) (.int .i64 y.k) := by
  induction l generalizing i with
  | nil => simp at h
  | cons z r ih =>
    cases i with
    | zero => simp at h; subst h; simp [secCells, hA, hb, hc]
    | succ i =>
      have h' : r[i]? = some x := by simpa using h
      have e : ∀ q s, secCells (q :: s) = .int .i64 q.k :: .slice q.A q.b.length q.c :: secCells s := fun _ _ => rfl
      rw [List.set_cons_succ, e, e, ih h', show (i + 1) * 2 = i * 2 + 1 + 1 by omega]
      rfl
/-- a Kind is stored -/
theorem OSec.storeK {w : World} {base n c g i : Nat} {l : List SecV} {x y : SecV} (h : OSec w base (some ⟨g, 0, none⟩) n c l) (hx : l[i]? = some x) (hA : y.A = x.A) (hb : y.b = x.b) (hc' : y.c = x.c) :
    w.cell? ⟨g, i * 2, none⟩ = some (.int .i64 x.k) ∧ w.frozen? ⟨g, i * 2, none⟩ = false ∧ OSec (w.setCell ⟨g, i * 2, none⟩ (.int .i64 y.k)) base (some ⟨g, 0, none⟩) n c (l.set i y) := by
  have hc := h.cells (g := g) rfl _ _ (secCells_at hx).1
  rw [add_plain] at hc
  rcases h.2 with ⟨e, h0⟩ | ⟨g', cap, cur, e, hbg, hh, hnc, hcm, hcs, htk⟩
  · injection e with e1; cases e1
  · injection e with e1 e2 e3
    injection e1 with e1
    injection e1 with e1
    subst e1 e3
    refine ⟨hc, by simp [World.frozen?, hh], ?_, .inr ⟨g, c, cur.setIfInBounds (i * 2) (.int .i64 y.k), rfl, hbg, heap_setCell_same _ _ _ _ _ _ hh, hnc, hcm, by simpa using hcs, ?_⟩⟩
    · rw [secCells_length, List.length_set, h.len]
    · rw [secCells_setK hx hA hb hc', ← htk, Array.toList_setIfInBounds, List.take_set]
theorem OSec.mod {w w' : World} {base n c p : Nat} {A : Option Addr} {l : List SecV} (h : OSec w base A n c l) (hm : Mod w w' p none) (hp : p < base) : OSec w' base A n c l :=
  own_move h fun k hk => hm.block k (own_lt h k hk) (by have := own_base h k hk; omega) (by simp)
theorem OI.mod {w w' : World} {base n c p : Nat} {A : Option Addr} {l : List Int} (h : OI w base A n c l) (hm : Mod w w' p none) (hp : p < base) : OI w' base A n c l :=
  own_move h fun k hk => hm.block k (own_lt h k hk) (by have := own_base h k hk; omega) (by simp)
theorem OSec.other {w : World} {base n c g : Nat} {A : Option Addr} {l : List SecV} (h : OSec w base A n c l) (hg : ∀ ad, A = some ad → ad.block ≠ g) (j : Nat) (v : Value) : OSec (w.setCell ⟨g, j, none⟩ v) base A n c l :=
  ownsRow_setCell_other h (by
    intro e
    cases A with
    | none => cases e
    | some ad =>
      simp [Value.ownBlock] at e
      exact hg ad rfl e) _
theorem OI.other {w : World} {base n c g : Nat} {A : Option Addr} {l : List Int} (h : OI w base A n c l) (hg : ∀ ad, A = some ad → ad.block ≠ g) (j : Nat) (v : Value) : OI (w.setCell ⟨g, j, none⟩ v) base A n c l :=
  ownsRow_setCell_other h (by
    intro e
    cases A with
    | none => cases e
    | some ad =>
      simp [Value.ownBlock] at e
      exact hg ad rfl e) _
theorem RdB.store1 {w : World} {base p n c at_ g : Nat} {e : Int} {A : Option Addr} {b : List UInt8} (h : RdB w base p A n c b at_ e) (hp : p ≠ g) (hA : Ytnkbkhlbogcfaaa.blk A ≠ some g) (j : Nat) (x : Value) : RdB (w.setCell ⟨g, j, none⟩ x) base p A n c b at_ e := by
  have hA' : (Value.slice A n c).ownBlock ≠ some g := by rw [own_blk]; exact hA
  refine ⟨?_, ownsRow_setCell_other h.own hA' _, h.base_p⟩
  rw [Below.heap_setCell _ _ _ _ (by dsimp only; omega)]
  exact h.blk
theorem mod_store1 {w w1 : World} {p g : Nat} (h : Mod w w1 p none) (hg : w.heap.size ≤ g) (j : Nat) (x : Value) : Mod w (w1.setCell ⟨g, j, none⟩ x) p none := by
  refine ⟨h.os, h.tape, h.output, by simpa using h.size, fun k hk hp hr => ?_⟩
  rw [Below.heap_setCell _ _ _ _ (by dsimp only; omega)]
  exact h.block k hk hp hr
end
end Go.Proofs.Ytnkbkhlbogcfaaa
