/- Where sections stand, in memory. -/
import Derived.Test.YtnkbkhlbogcfaaaSj
set_option linter.unusedVariables false
set_option linter.unusedSimpArgs false
namespace Go.Proofs.Ytnkbkhlbogcfaaa
open Go.RowKit Go.Proofs.YtnkbkhlbogcfaaaW.PrintWords
noncomputable section

theorem Try.info93 : (Try.prog.info? 93).map (fun i => (i.zero, i.size, i.bytes)) = some (some (.agg #[.int .i64 0, .int .i64 0]), 2, 16) := by kernel_rfl
def spCells (l : List (Int × Int)) : List Value := l.flatMap fun x => [.int .i64 x.1, .int .i64 x.2]
theorem spCells_length (l : List (Int × Int)) : (spCells l).length = l.length * 2 := by
  unfold spCells
  induction l with
  | nil => rfl
  | cons x r ih => simp only [List.flatMap_cons, List.length_append, List.length_cons, List.length_nil, ih]; omega
theorem spCells_at {l : List (Int × Int)} {i : Nat} {x : Int × Int} (h : l[i]? = some x) : (spCells l)[i * 2]? = some (.int .i64 x.1) ∧ (spCells l)[i * 2 + 1]? = some (.int .i64 x.2) := by
  induction l generalizing i with
  | nil => simp at h
  | cons y r ih =>
    cases i with
    | zero => simp at h; subst h; exact ⟨rfl, rfl⟩
    | succ i =>
      have h' : r[i]? = some x := by simpa using h
      obtain ⟨h1, h2⟩ := ih h'
      have e : spCells (y :: r) = .int .i64 y.1 :: .int .i64 y.2 :: spCells r := rfl
      rw [e, show (i + 1) * 2 = i * 2 + 1 + 1 by omega]
      exact ⟨by simpa using h1, by simpa using h2⟩
theorem spCells_set {l : List (Int × Int)} {i : Nat} (h : i < l.length) (y : Int × Int) : spCells (l.set i y) = ((spCells l).set (i * 2) (.int .i64 y.1)).set (i * 2 + 1) (.int .i64 y.2) := by
  induction l generalizing i with
  | nil => simp at h
  | cons z r ih =>
    cases i with
    | zero => simp [spCells]
    | succ i =>
      have e : ∀ q s, spCells (q :: s) = .int .i64 q.1 :: .int .i64 q.2 :: spCells s := fun _ _ => rfl
      rw [List.set_cons_succ, e, e, ih (by simpa using h), show (i + 1) * 2 = i * 2 + 1 + 1 by omega]
      rfl
/-- places of one's own -/
def OSP (w : World) (base : Nat) (A : Option Addr) (n c : Nat) (l : List (Int × Int)) : Prop := w.ownsRow base 93 2 (.slice A n c) n (spCells l)
theorem OSP.len {w : World} {base n c : Nat} {A : Option Addr} {l : List (Int × Int)} (h : OSP w base A n c l) : l.length = n := by
  have := h.1; rw [spCells_length] at this; omega
theorem OSP.below {w w1 : World} {base n c : Nat} {A : Option Addr} {l : List (Int × Int)} (h : OSP w base A n c l) (hb : Below w.heap.size w w1) : OSP w1 base A n c l := pw_own_below h hb
theorem OSP.mod {w w' : World} {base n c p : Nat} {A : Option Addr} {l : List (Int × Int)} (h : OSP w base A n c l) (hm : Mod w w' p none) (hp : p < base) : OSP w' base A n c l :=
  own_move h fun k hk => hm.block k (own_lt h k hk) (by have := own_base h k hk; omega) (by simp)
theorem OSP.other {w : World} {base n c g : Nat} {A : Option Addr} {l : List (Int × Int)} (h : OSP w base A n c l) (hg : ∀ ad, A = some ad → ad.block ≠ g) (j : Nat) (v : Value) : OSP (w.setCell ⟨g, j, none⟩ v) base A n c l :=
  ownsRow_setCell_other h (by
    intro e
    cases A with
    | none => cases e
    | some ad =>
      simp [Value.ownBlock] at e
      exact hg ad rfl e) _
theorem spCells_rep (n : Nat) : spCells (List.replicate n (0, 0)) = (madeCells #[.int .i64 0, .int .i64 0] (n * 2)).toList := by
  apply List.ext_getElem?
  intro j
  by_cases hj : j < n * 2
  · have hr : (List.replicate n ((0, 0) : Int × Int))[j / 2]? = some (0, 0) := by rw [List.getElem?_replicate, if_pos (by omega)]
    obtain ⟨h0, h1⟩ := spCells_at hr
    have hm : (madeCells #[Value.int .i64 0, .int .i64 0] (n * 2)).toList[j]? = some ((#[Value.int .i64 0, .int .i64 0] : Array Value)[j % 2]!) := by
      simp [madeCells, hj]
    rw [hm]
    rcases Nat.mod_two_eq_zero_or_one j with e | e
    · rw [e, show j = j / 2 * 2 by omega, h0]; rfl
    · rw [e, show j = j / 2 * 2 + 1 by omega, h1]; rfl
  · rw [List.getElem?_eq_none (by rw [spCells_length]; simp; omega), List.getElem?_eq_none (by simp [size_madeCells]; omega)]
theorem osp_made (w : World) (n : Nat) (hn : n ≤ 1000) : OSP (w.alloc (.cells (madeCells #[.int .i64 0, .int .i64 0] (n * 2)) 93)) w.heap.size (some ⟨w.heap.size, 0, none⟩) n n (List.replicate n (0, 0)) := by
  refine ⟨by rw [spCells_length]; simp, .inr ⟨w.heap.size, n, _, rfl, Nat.le_refl _, heap_alloc_new _ _, Nat.le_refl _, by unfold maxLen; omega, size_madeCells _ _, ?_⟩⟩
  rw [← spCells_rep, List.take_of_length_le (by rw [spCells_length]; simp)]
section
variable {ops : Array Oper} {rest : List Oper} {o : Oper} {a : Act} {Q : Exit → Act → World → Prop} {W : World} {s x : Operand}
/-- make([][2]int, n) -/
theorem wpMakeP (n : Nat) (hgd : o.guard = none) (ho : o.op = .makeSlice 94 s x) (hs : a.eval s = .int .i64 n) (hx : a.eval x = .int .i64 n) (hn : n ≤ 1000)
    (h : ∀ w1, OSP w1 W.heap.size (some ⟨W.heap.size, 0, none⟩) n n (List.replicate n (0, 0)) → Below W.heap.size W w1 → w1.heap.size = W.heap.size + 1 → wpList Try.prog ops Q rest (a.put o.dst (.slice (some ⟨W.heap.size, 0, none⟩) n n)) w1) : wpList Try.prog ops Q (o :: rest) a W := by
  obtain ⟨i0, hi, hz0, hz1, hz2⟩ := info_parts Try.info93
  have hr := run_make (P := Try.prog) W 94 93 i0 _ Try.underlying94 hi hz0 .i64 .i64 (n : Int) (n : Int) (by omega) (by omega) (by rw [hz2]; omega) (by omega)
  rw [Int.toNat_natCast, hz1] at hr
  refine wpList_plain hgd fun K hK => ?_
  unfold Oper.wp execOp
  simp only [ho, Sem.run_bind, Sem.run_pure, Result.andThen_ok, hs, hx, hr]
  exact hK _ _ (h _ (osp_made W n hn) (below_alloc (Below.refl _ _) _) (by simp))
end
/-- a place is stored: both its cells -/
theorem OSP.store {w : World} {base n c g i : Nat} {l : List (Int × Int)} (h : OSP w base (some ⟨g, 0, none⟩) n c l) (hi : i < n) (y : Int × Int) :
    ((∃ v, w.cell? ⟨g, i * 2, none⟩ = some (.int .i64 v)) ∧ (∃ v, w.cell? ⟨g, i * 2 + 1, none⟩ = some (.int .i64 v))) ∧ (w.frozen? ⟨g, i * 2, none⟩ = false ∧ w.frozen? ⟨g, i * 2 + 1, none⟩ = false) ∧
      OSP ((w.setCell ⟨g, i * 2, none⟩ (.int .i64 y.1)).setCell ⟨g, i * 2 + 1, none⟩ (.int .i64 y.2)) base (some ⟨g, 0, none⟩) n c (l.set i y) := by
  obtain ⟨lx, hx⟩ : ∃ lx, l[i]? = some lx := ⟨_, List.getElem?_eq_getElem (by rw [h.len]; exact hi)⟩
  have hc0 := h.cells (g := g) rfl _ _ (spCells_at hx).1
  have hc1 := h.cells (g := g) rfl _ _ (spCells_at hx).2
  rw [add_plain] at hc0 hc1
  have hlen := h.len
  rcases h.2 with ⟨e, h0⟩ | ⟨g', cap, cur, e, hbg, hh, hnc, hcm, hcs, htk⟩
  · injection e with e1; cases e1
  · injection e with e1 e2 e3
    injection e1 with e1
    injection e1 with e1
    subst e1 e3
    have h1 : (w.setCell ⟨g, i * 2, none⟩ (.int .i64 y.1)).heap[g]? = some (.cells (cur.setIfInBounds (i * 2) (.int .i64 y.1)) 93 (0, 0)) := heap_setCell_same _ _ _ _ _ _ hh
    refine ⟨⟨⟨_, hc0⟩, ⟨_, hc1⟩⟩, ⟨by simp [World.frozen?, hh], by simp [World.frozen?, hh]⟩, ?_, .inr ⟨g, c, (cur.setIfInBounds (i * 2) (.int .i64 y.1)).setIfInBounds (i * 2 + 1) (.int .i64 y.2), rfl, hbg, heap_setCell_same _ _ _ _ _ _ h1, hnc, hcm, by simpa using hcs, ?_⟩⟩
    · rw [spCells_length, List.length_set, hlen]
    · rw [spCells_set (by omega), ← htk, Array.toList_setIfInBounds, Array.toList_setIfInBounds, List.take_set, List.take_set]
end
end Go.Proofs.Ytnkbkhlbogcfaaa
