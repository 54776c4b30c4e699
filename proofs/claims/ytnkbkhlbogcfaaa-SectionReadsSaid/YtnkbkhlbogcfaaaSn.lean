/- Slices that are made; sections' kinds stored · Where sections stand, in memory · The head of a file: the walk · A file is read: the walk · A file read, written by the document: the walks. -/
import Derived.Test.YtnkbkhlbogcfaaaOi
import Derived.Test.YtnkbkhlbogcfaaaSh
import Derived.Test.YtnkbkhlbogcfaaaU
import Derived.Test.YtnkbkhlbogcfaaaRd
import Derived.Test.YtnkbkhlbogcfaaaRv
import Derived.Test.YtnkbkhlbogcfaaaSc
import Derived.Test.YtnkbkhlbogcfaaaO
set_option linter.unusedVariables false
set_option linter.unusedSimpArgs false
namespace Go.Proofs.Ytnkbkhlbogcfaaa
open Go.RowKit Go.Proofs.YtnkbkhlbogcfaaaW.PrintWords
noncomputable section

/-- a section that is all zeros -/
def sec0 : SecV := ⟨0, none, 0, []⟩
theorem secCells_rep (n : Nat) : secCells (List.replicate n sec0) = (madeCells #[.int .i64 0, .slice none 0 0] (n * 2)).toList := by
  apply List.ext_getElem?
  intro j
  by_cases hj : j < n * 2
  · have hr : (List.replicate n sec0)[j / 2]? = some sec0 := by rw [List.getElem?_replicate, if_pos (by omega)]
    obtain ⟨h0, h1⟩ := secCells_at hr
    have hm : (madeCells #[Value.int .i64 0, .slice none 0 0] (n * 2)).toList[j]? = some ((#[Value.int .i64 0, .slice none 0 0] : Array Value)[j % 2]!) := by
      simp [madeCells, hj]
    rw [hm]
    rcases Nat.mod_two_eq_zero_or_one j with e | e
    · rw [e, show j = j / 2 * 2 by omega, h0]; rfl
    · rw [e, show j = j / 2 * 2 + 1 by omega, h1]; rfl
  · rw [List.getElem?_eq_none (by rw [secCells_length]; simp; omega), List.getElem?_eq_none (by simp [size_madeCells]; omega)]
theorem osec_made (w : World) (n : Nat) (hn : n ≤ 1000) : OSec (w.alloc (.cells (madeCells #[.int .i64 0, .slice none 0 0] (n * 2)) 68)) w.heap.size (some ⟨w.heap.size, 0, none⟩) n n (List.replicate n sec0) := by
  refine ⟨by rw [secCells_length]; simp, .inr ⟨w.heap.size, n, _, rfl, Nat.le_refl _, heap_alloc_new _ _, Nat.le_refl _, by unfold maxLen; omega, size_madeCells _ _, ?_⟩⟩
  rw [← secCells_rep, List.take_of_length_le (by rw [secCells_length]; simp)]
theorem oi_made (w : World) (n : Nat) (hn : n ≤ 1000) : OI (w.alloc (.cells (madeCells #[.int .i64 0] n) 3)) w.heap.size (some ⟨w.heap.size, 0, none⟩) n n (List.replicate n 0) := by
  have e : (madeCells #[Value.int .i64 0] n).toList = nums .i64 (List.replicate n 0) := by
    apply List.ext_getElem?
    intro j
    by_cases hj : j < n
    · simp [madeCells, nums, hj, Nat.mod_one]
    · rw [List.getElem?_eq_none (by simp [size_madeCells]; omega), List.getElem?_eq_none (by simp [nums]; omega)]
  refine ⟨by simp [nums], .inr ⟨w.heap.size, n, _, rfl, Nat.le_refl _, heap_alloc_new _ _, Nat.le_refl _, by unfold maxLen; omega, by simp [size_madeCells], ?_⟩⟩
  rw [e, List.take_of_length_le (by simp [nums])]
section
variable {ops : Array Oper} {rest : List Oper} {o : Oper} {a : Act} {Q : Exit → Act → World → Prop} {W : World} {s x : Operand}
/-- make([]Section, n) -/
theorem wpMakeS (n : Nat) (hgd : o.guard = none) (ho : o.op = .makeSlice 63 s x) (hs : a.eval s = .int .i64 n) (hx : a.eval x = .int .i64 n) (hn : n ≤ 1000)
    (h : ∀ w1, OSec w1 W.heap.size (some ⟨W.heap.size, 0, none⟩) n n (List.replicate n sec0) → Below W.heap.size W w1 → w1.heap.size = W.heap.size + 1 → wpList Try.prog ops Q rest (a.put o.dst (.slice (some ⟨W.heap.size, 0, none⟩) n n)) w1) : wpList Try.prog ops Q (o :: rest) a W := by
  obtain ⟨i0, hi, hz0, hz1, hz2⟩ := info_parts Try.info68
  have hr := run_make (P := Try.prog) W 63 68 i0 _ Try.underlying63 hi hz0 .i64 .i64 (n : Int) (n : Int) (by omega) (by omega) (by rw [hz2]; omega) (by omega)
  rw [Int.toNat_natCast, hz1] at hr
  refine wpList_plain hgd fun K hK => ?_
  unfold Oper.wp execOp
  simp only [ho, Sem.run_bind, Sem.run_pure, Result.andThen_ok, hs, hx, hr]
  exact hK _ _ (h _ (osec_made W n hn) (below_alloc (Below.refl _ _) _) (by simp))
/-- make([]int, n) -/
theorem wpMakeI (n : Nat) (hgd : o.guard = none) (ho : o.op = .makeSlice 75 s x) (hs : a.eval s = .int .i64 n) (hx : a.eval x = .int .i64 n) (hn : n ≤ 1000)
    (h : ∀ w1, OI w1 W.heap.size (some ⟨W.heap.size, 0, none⟩) n n (List.replicate n 0) → Below W.heap.size W w1 → w1.heap.size = W.heap.size + 1 → wpList Try.prog ops Q rest (a.put o.dst (.slice (some ⟨W.heap.size, 0, none⟩) n n)) w1) : wpList Try.prog ops Q (o :: rest) a W := by
  obtain ⟨i0, hi, hz0, hz1, hz2⟩ := info_parts Try.info3'
  have hr := run_make (P := Try.prog) W 75 3 i0 _ Try.underlying75 hi hz0 .i64 .i64 (n : Int) (n : Int) (by omega) (by omega) (by rw [hz2]; omega) (by omega)
  rw [Int.toNat_natCast, hz1, Nat.mul_one] at hr
  refine wpList_plain hgd fun K hK => ?_
  unfold Oper.wp execOp
  simp only [ho, Sem.run_bind, Sem.run_pure, Result.andThen_ok, hs, hx, hr]
  exact hK _ _ (h _ (oi_made W n hn) (below_alloc (Below.refl _ _) _) (by simp))
end
theorem secCells_setK {l : List SecV} {i : Nat} {x y : SecV} (h : l[i]? = some x) (hA : y.A = x.A) (hb : y.b = x.b) (hc : y.c = x.c) : secCells (l.set i y) = (secCells l).set (i * 2) (.int .i64 y.k) := by
  induction l generalizing i with
  | nil => simp at h
  | cons z r ih =>
    cases i with
    | zero => simp at h; subst h; simp [secCells, hA, hb, hc]
    | succ i =>
      have h' : r[i]? = some x := by simpa using h
      have e : ∀ q s, secCells (q :: s) = .int .i64 q.k :: .slice q.A q.b.length q.c :: secCells s := fun _ _ => rfl
      rw [List.set_cons_succ, e, e, ih h', show (i + 1) * 2 = i * 2 + 1 + 1 by omega]
      rfl
/-- a Kind is stored -/
theorem OSec.storeK {w : World} {base n c g i : Nat} {l : List SecV} {x y : SecV} (h : OSec w base (some ⟨g, 0, none⟩) n c l) (hx : l[i]? = some x) (hA : y.A = x.A) (hb : y.b = x.b) (hc' : y.c = x.c) :
    w.cell? ⟨g, i * 2, none⟩ = some (.int .i64 x.k) ∧ w.frozen? ⟨g, i * 2, none⟩ = false ∧ OSec (w.setCell ⟨g, i * 2, none⟩ (.int .i64 y.k)) base (some ⟨g, 0, none⟩) n c (l.set i y) := by
  have hc := h.cells (g := g) rfl _ _ (secCells_at hx).1
  rw [add_plain] at hc
  rcases h.2 with ⟨e, h0⟩ | ⟨g', cap, cur, e, hbg, hh, hnc, hcm, hcs, htk⟩
  · injection e with e1; cases e1
  · injection e with e1 e2 e3
    injection e1 with e1
    injection e1 with e1
    subst e1 e3
    refine ⟨hc, by simp [World.frozen?, hh], ?_, .inr ⟨g, c, cur.setIfInBounds (i * 2) (.int .i64 y.k), rfl, hbg, heap_setCell_same _ _ _ _ _ _ hh, hnc, hcm, by simpa using hcs, ?_⟩⟩
    · rw [secCells_length, List.length_set, h.len]
    · rw [secCells_setK hx hA hb hc', ← htk, Array.toList_setIfInBounds, List.take_set]
theorem OSec.mod {w w' : World} {base n c p : Nat} {A : Option Addr} {l : List SecV} (h : OSec w base A n c l) (hm : Mod w w' p none) (hp : p < base) : OSec w' base A n c l :=
  own_move h fun k hk => hm.block k (own_lt h k hk) (by have := own_base h k hk; omega) (by simp)
theorem OI.mod {w w' : World} {base n c p : Nat} {A : Option Addr} {l : List Int} (h : OI w base A n c l) (hm : Mod w w' p none) (hp : p < base) : OI w' base A n c l :=
  own_move h fun k hk => hm.block k (own_lt h k hk) (by have := own_base h k hk; omega) (by simp)
theorem OSec.other {w : World} {base n c g : Nat} {A : Option Addr} {l : List SecV} (h : OSec w base A n c l) (hg : ∀ ad, A = some ad → ad.block ≠ g) (j : Nat) (v : Value) : OSec (w.setCell ⟨g, j, none⟩ v) base A n c l :=
  ownsRow_setCell_other h (by
    intro e
    cases A with
    | none => cases e
    | some ad =>
      simp [Value.ownBlock] at e
      exact hg ad rfl e) _
theorem OI.other {w : World} {base n c g : Nat} {A : Option Addr} {l : List Int} (h : OI w base A n c l) (hg : ∀ ad, A = some ad → ad.block ≠ g) (j : Nat) (v : Value) : OI (w.setCell ⟨g, j, none⟩ v) base A n c l :=
  ownsRow_setCell_other h (by
    intro e
    cases A with
    | none => cases e
    | some ad =>
      simp [Value.ownBlock] at e
      exact hg ad rfl e) _
theorem RdB.store1 {w : World} {base p n c at_ g : Nat} {e : Int} {A : Option Addr} {b : List UInt8} (h : RdB w base p A n c b at_ e) (hp : p ≠ g) (hA : Ytnkbkhlbogcfaaa.blk A ≠ some g) (j : Nat) (x : Value) : RdB (w.setCell ⟨g, j, none⟩ x) base p A n c b at_ e := by
  have hA' : (Value.slice A n c).ownBlock ≠ some g := by rw [own_blk]; exact hA
  refine ⟨?_, ownsRow_setCell_other h.own hA' _, h.base_p⟩
  rw [Below.heap_setCell _ _ _ _ (by dsimp only; omega)]
  exact h.blk
theorem mod_store1 {w w1 : World} {p g : Nat} (h : Mod w w1 p none) (hg : w.heap.size ≤ g) (j : Nat) (x : Value) : Mod w (w1.setCell ⟨g, j, none⟩ x) p none := by
  refine ⟨h.os, h.tape, h.output, by simpa using h.size, fun k hk hp hr => ?_⟩
  rw [Below.heap_setCell _ _ _ _ (by dsimp only; omega)]
  exact h.block k hk hp hr
end
end Go.Proofs.Ytnkbkhlbogcfaaa

set_option linter.unusedVariables false
set_option linter.unusedSimpArgs false
namespace Go.Proofs.Ytnkbkhlbogcfaaa
open Go.RowKit Go.Proofs.YtnkbkhlbogcfaaaW.PrintWords
noncomputable section

theorem Try.info93 : (Try.prog.info? 93).map (fun i => (i.zero, i.size, i.bytes)) = some (some (.agg #[.int .i64 0, .int .i64 0]), 2, 16) := by kernel_rfl
def spCells (l : List (Int × Int)) : List Value := l.flatMap fun x => [.int .i64 x.1, .int .i64 x.2]
theorem spCells_length (l : List (Int × Int)) : (spCells l).length = l.length * 2 := by
  unfold spCells
  induction l with
  | nil => rfl
  | cons x r ih => simp only [List.flatMap_cons, List.length_append, List.length_cons, List.length_nil, ih]; omega
theorem spCells_at {l : List (Int × Int)} {i : Nat} {x : Int × Int} (h : l[i]? = some x) : (spCells l)[i * 2]? = some (.int .i64 x.1) ∧ (spCells l)[i * 2 + 1]? = some (.int .i64 x.2) := by
  induction l generalizing i with
  | nil => simp at h
  | cons y r ih =>
    cases i with
    | zero => simp at h; subst h; exact ⟨rfl, rfl⟩
    | succ i =>
      have h' : r[i]? = some x := by simpa using h
      obtain ⟨h1, h2⟩ := ih h'
      have e : spCells (y :: r) = .int .i64 y.1 :: .int .i64 y.2 :: spCells r := rfl
      rw [e, show (i + 1) * 2 = i * 2 + 1 + 1 by omega]
      exact ⟨by simpa using h1, by simpa using h2⟩
theorem spCells_set {l : List (Int × Int)} {i : Nat} (h : i < l.length) (y : Int × Int) : spCells (l.set i y) = ((spCells l).set (i * 2) (.int .i64 y.1)).set (i * 2 + 1) (.int .i64 y.2) := by
  induction l generalizing i with
  | nil => simp at h
  | cons z r ih =>
    cases i with
    | zero => simp [spCells]
    | succ i =>
      have e : ∀ q s, spCells (q :: s) = .int .i64 q.1 :: .int .i64 q.2 :: spCells s := fun _ _ => rfl
      rw [List.set_cons_succ, e, e, ih (by simpa using h), show (i + 1) * 2 = i * 2 + 1 + 1 by omega]
      rfl
/-- places of one's own -/
def OSP (w : World) (base : Nat) (A : Option Addr) (n c : Nat) (l : List (Int × Int)) : Prop := w.ownsRow base 93 2 (.slice A n c) n (spCells l)
theorem OSP.len {w : World} {base n c : Nat} {A : Option Addr} {l : List (Int × Int)} (h : OSP w base A n c l) : l.length = n := by
  have := h.1; rw [spCells_length] at this; omega
theorem OSP.below {w w1 : World} {base n c : Nat} {A : Option Addr} {l : List (Int × Int)} (h : OSP w base A n c l) (hb : Below w.heap.size w w1) : OSP w1 base A n c l := pw_own_below h hb
theorem OSP.mod {w w' : World} {base n c p : Nat} {A : Option Addr} {l : List (Int × Int)} (h : OSP w base A n c l) (hm : Mod w w' p none) (hp : p < base) : OSP w' base A n c l :=
  own_move h fun k hk => hm.block k (own_lt h k hk) (by have := own_base h k hk; omega) (by simp)
theorem OSP.other {w : World} {base n c g : Nat} {A : Option Addr} {l : List (Int × Int)} (h : OSP w base A n c l) (hg : ∀ ad, A = some ad → ad.block ≠ g) (j : Nat) (v : Value) : OSP (w.setCell ⟨g, j, none⟩ v) base A n c l :=
  ownsRow_setCell_other h (by
    intro e
    cases A with
    | none => cases e
    | some ad =>
      simp [Value.ownBlock] at e
      exact hg ad rfl e) _
theorem spCells_rep (n : Nat) : spCells (List.replicate n (0, 0)) = (madeCells #[.int .i64 0, .int .i64 0] (n * 2)).toList := by
  apply List.ext_getElem?
  intro j
  by_cases hj : j < n * 2
  · have hr : (List.replicate n ((0, 0) : Int × Int))[j / 2]? = some (0, 0) := by rw [List.getElem?_replicate, if_pos (by omega)]
    obtain ⟨h0, h1⟩ := spCells_at hr
    have hm : (madeCells #[Value.int .i64 0, .int .i64 0] (n * 2)).toList[j]? = some ((#[Value.int .i64 0, .int .i64 0] : Array Value)[j % 2]!) := by
      simp [madeCells, hj]
    rw [hm]
    rcases Nat.mod_two_eq_zero_or_one j with e | e
    · rw [e, show j = j / 2 * 2 by omega, h0]; rfl
    · rw [e, show j = j / 2 * 2 + 1 by omega, h1]; rfl
  · rw [List.getElem?_eq_none (by rw [spCells_length]; simp; omega), List.getElem?_eq_none (by simp [size_madeCells]; omega)]
theorem osp_made (w : World) (n : Nat) (hn : n ≤ 1000) : OSP (w.alloc (.cells (madeCells #[.int .i64 0, .int .i64 0] (n * 2)) 93)) w.heap.size (some ⟨w.heap.size, 0, none⟩) n n (List.replicate n (0, 0)) := by
  refine ⟨by rw [spCells_length]; simp, .inr ⟨w.heap.size, n, _, rfl, Nat.le_refl _, heap_alloc_new _ _, Nat.le_refl _, by unfold maxLen; omega, size_madeCells _ _, ?_⟩⟩
  rw [← spCells_rep, List.take_of_length_le (by rw [spCells_length]; simp)]
section
variable {ops : Array Oper} {rest : List Oper} {o : Oper} {a : Act} {Q : Exit → Act → World → Prop} {W : World} {s x : Operand}
/-- make([][2]int, n) -/
theorem wpMakeP (n : Nat) (hgd : o.guard = none) (ho : o.op = .makeSlice 94 s x) (hs : a.eval s = .int .i64 n) (hx : a.eval x = .int .i64 n) (hn : n ≤ 1000)
    (h : ∀ w1, OSP w1 W.heap.size (some ⟨W.heap.size, 0, none⟩) n n (List.replicate n (0, 0)) → Below W.heap.size W w1 → w1.heap.size = W.heap.size + 1 → wpList Try.prog ops Q rest (a.put o.dst (.slice (some ⟨W.heap.size, 0, none⟩) n n)) w1) : wpList Try.prog ops Q (o :: rest) a W := by
  obtain ⟨i0, hi, hz0, hz1, hz2⟩ := info_parts Try.info93
  have hr := run_make (P := Try.prog) W 94 93 i0 _ Try.underlying94 hi hz0 .i64 .i64 (n : Int) (n : Int) (by omega) (by omega) (by rw [hz2]; omega) (by omega)
  rw [Int.toNat_natCast, hz1] at hr
  refine wpList_plain hgd fun K hK => ?_
  unfold Oper.wp execOp
  simp only [ho, Sem.run_bind, Sem.run_pure, Result.andThen_ok, hs, hx, hr]
  exact hK _ _ (h _ (osp_made W n hn) (below_alloc (Below.refl _ _) _) (by simp))
end
/-- a place is stored: both its cells -/
theorem OSP.store {w : World} {base n c g i : Nat} {l : List (Int × Int)} (h : OSP w base (some ⟨g, 0, none⟩) n c l) (hi : i < n) (y : Int × Int) :
    ((∃ v, w.cell? ⟨g, i * 2, none⟩ = some (.int .i64 v)) ∧ (∃ v, w.cell? ⟨g, i * 2 + 1, none⟩ = some (.int .i64 v))) ∧ (w.frozen? ⟨g, i * 2, none⟩ = false ∧ w.frozen? ⟨g, i * 2 + 1, none⟩ = false) ∧
      OSP ((w.setCell ⟨g, i * 2, none⟩ (.int .i64 y.1)).setCell ⟨g, i * 2 + 1, none⟩ (.int .i64 y.2)) base (some ⟨g, 0, none⟩) n c (l.set i y) := by
  obtain ⟨lx, hx⟩ : ∃ lx, l[i]? = some lx := ⟨_, List.getElem?_eq_getElem (by rw [h.len]; exact hi)⟩
  have hc0 := h.cells (g := g) rfl _ _ (spCells_at hx).1
  have hc1 := h.cells (g := g) rfl _ _ (spCells_at hx).2
  rw [add_plain] at hc0 hc1
  have hlen := h.len
  rcases h.2 with ⟨e, h0⟩ | ⟨g', cap, cur, e, hbg, hh, hnc, hcm, hcs, htk⟩
  · injection e with e1; cases e1
  · injection e with e1 e2 e3
    injection e1 with e1
    injection e1 with e1
    subst e1 e3
    have h1 : (w.setCell ⟨g, i * 2, none⟩ (.int .i64 y.1)).heap[g]? = some (.cells (cur.setIfInBounds (i * 2) (.int .i64 y.1)) 93 (0, 0)) := heap_setCell_same _ _ _ _ _ _ hh
    refine ⟨⟨⟨_, hc0⟩, ⟨_, hc1⟩⟩, ⟨by simp [World.frozen?, hh], by simp [World.frozen?, hh]⟩, ?_, .inr ⟨g, c, (cur.setIfInBounds (i * 2) (.int .i64 y.1)).setIfInBounds (i * 2 + 1) (.int .i64 y.2), rfl, hbg, heap_setCell_same _ _ _ _ _ _ h1, hnc, hcm, by simpa using hcs, ?_⟩⟩
    · rw [spCells_length, List.length_set, hlen]
    · rw [spCells_set (by omega), ← htk, Array.toList_setIfInBounds, Array.toList_setIfInBounds, List.take_set, List.take_set]
end
end Go.Proofs.Ytnkbkhlbogcfaaa

set_option linter.unusedVariables false
set_option linter.unusedSimpArgs false
namespace Go.Proofs.Ytnkbkhlbogcfaaa
open Go.RowKit Go.Proofs.YtnkbkhlbogcfaaaW.PrintWords
noncomputable section

/-- sections of which k Kinds are stored -/
def hL (b : List UInt8) (n : Nat) : Nat → List SecV
  | 0 => List.replicate n sec0
  | k + 1 => (hL b n k).set k ⟨hKind b k, none, 0, []⟩
def hZ (b : List UInt8) (n : Nat) : Nat → List Int
  | 0 => List.replicate n 0
  | k + 1 => (hZ b n k).set k (hSize b k)
theorem hL_length (b : List UInt8) (n : Nat) : ∀ k, (hL b n k).length = n := by intro k; induction k with | zero => simp [hL] | succ k ih => simp [hL, ih]
theorem hZ_length (b : List UInt8) (n : Nat) : ∀ k, (hZ b n k).length = n := by intro k; induction k with | zero => simp [hZ] | succ k ih => simp [hZ, ih]
theorem hL_at (b : List UInt8) (n : Nat) : ∀ k i, i < n → (hL b n k)[i]? = some (if i < k then ⟨hKind b i, none, 0, []⟩ else sec0) := by
  intro k
  induction k with
  | zero => intro i hi; simp [hL, hi]
  | succ k ih =>
    intro i hi
    simp only [hL]
    rw [List.getElem?_set, hL_length]
    by_cases h : k = i
    · subst h; rw [if_pos rfl, if_pos hi, if_pos (by omega)]
    · rw [if_neg h, ih i hi]
      by_cases h2 : i < k
      · rw [if_pos h2, if_pos (by omega)]
      · rw [if_neg h2, if_neg (by omega)]
theorem hZ_at (b : List UInt8) (n : Nat) : ∀ k i, i < n → (hZ b n k)[i]? = some (if i < k then (hSize b i : Int) else 0) := by
  intro k
  induction k with
  | zero => intro i hi; simp [hZ, hi]
  | succ k ih =>
    intro i hi
    simp only [hZ]
    rw [List.getElem?_set, hZ_length]
    by_cases h : k = i
    · subst h; rw [if_pos rfl, if_pos hi, if_pos (by omega)]
    · rw [if_neg h, ih i hi]
      by_cases h2 : i < k
      · rw [if_pos h2, if_pos (by omega)]
      · rw [if_neg h2, if_neg (by omega)]

theorem bs_eq (a b : List UInt8) : (bs a = bs b) ↔ a = b := ⟨fun h => by have := congrArg sb h; rwa [sb_bs, sb_bs] at this, fun h => by rw [h]⟩
theorem bs_toL (a : List UInt8) : (bs a).toList = a := by
  show ByteArray.toList _ = _
  simp [bs]
theorem hibr : (⟨#[72, 73, 66, 82]⟩ : ByteArray) = bs [72, 73, 66, 82] := rfl

set_option maxHeartbeats 4000000 in
set_option maxRecDepth 100000 in
theorem head_any (p base n c : Nat) (A : Option Addr) (b : List UInt8) (w : World) (h : RdB w base p A n c b 0 0) (hn : n ≤ 900000) :
    Calls Try.prog 108 #[.pointer (some ⟨p, 0, none⟩)] w fun e w' => ∃ gl gz, e = .returned (.tuple #[.int .i64 ((hVer b).1 : Nat), .slice (some ⟨gl, 0, none⟩) (hCnt b).1 (hCnt b).1, .slice (some ⟨gz, 0, none⟩) (hCnt b).1 (hCnt b).1]) ∧
      OSec w' w.heap.size (some ⟨gl, 0, none⟩) (hCnt b).1 (hCnt b).1 (hL b (hCnt b).1 (hCnt b).1) ∧ OI w' w.heap.size (some ⟨gz, 0, none⟩) (hCnt b).1 (hCnt b).1 (hZ b (hCnt b).1 (hCnt b).1) ∧
      RdB w' base p A n c b (hSt b (hCnt b).1).1 (hSt b (hCnt b).1).2 ∧ Mod w w' p none ∧ gl < gz := by
  have hl := h.own.len
  subst hl
  have HR := Lib.hid h
  have HP := Lib.hid h.lt
  have HA := Lib.hid (show ∀ k, Ytnkbkhlbogcfaaa.blk A = some k → k < w.heap.size from h.own.blk_lt)
  have hcnt := hCnt_le b
  have hv256 := hVer_lt b
  obtain ⟨vv, hvv⟩ : ∃ vv, vv = (hVer b).1 := ⟨_, rfl⟩
  rw [← hvv] at hv256 ⊢
  have HV := Lib.hid hvv
  obtain ⟨n, hnc⟩ : ∃ n, n = (hCnt b).1 := ⟨_, rfl⟩
  rw [← hnc] at hcnt ⊢
  have HNC := Lib.hid hnc
  clear h hvv hnc
  have K42 := Lib.hid (rawR_any 4 p base b.length c 0 0 A b w HR.out (by omega) hn)
  obtain ⟨r0, at0, e0, hr0⟩ : ∃ r0 at0 e0, rRaw b 4 0 0 = (r0, at0, e0) := ⟨_, _, _, rfl⟩
  have ha0 : at0 ≤ b.length := by have := (rRaw_at (b := b) (at_ := 0) (e := 0) 4 (by omega)).2.1; rw [hr0] at this; exact this
  rw [hr0] at K42
  dsimp only at K42
  have hh0 : hd0 b = (at0, if r0 = [72, 73, 66, 82] then e0 else noteE e0 3) := by unfold hd0; rw [hr0]
  have HH0 := Lib.hid hh0
  clear hr0 hh0
  go_enter Try.func108, Try.ntmps108
  go_wp2_with fail
  refine K42.out.mono ?_
  rintro e w1 ⟨A1, c1, rfl, ho1, hr1, hm1⟩
  have H1 := Lib.hid (And.intro ho1 (And.intro hr1 hm1))
  clear ho1 hr1 hm1
  -- behind the four bytes
  obtain ⟨e1, he1⟩ : ∃ e1, e1 = if r0 = [72, 73, 66, 82] then e0 else noteE e0 3 := ⟨_, rfl⟩
  have HH1 := Lib.hid (show hd0 b = (at0, e1) by rw [HH0.out, he1])
  by_cases hmg : r0 = [72, 73, 66, 82]
  all_goals
    first
      | (rw [if_pos hmg] at he1
         subst he1
         have hcmp : ((bs r0).toList == [72, 73, 66, 82]) = true := by rw [bs_toL, hmg]; rfl
         have H2 := Lib.hid (show RdB w1 base p A b.length c b at0 e1 ∧ Mod w w1 p none from ⟨H1.out.2.1, H1.out.2.2⟩)
         clear hmg
         go_wp2_with (refine convB A1 r0.length c1 r0 rfl rfl rfl H1.out.1.rb rfl ?_)
         obtain ⟨w2, hw2⟩ : ∃ w2, w2 = w1 := ⟨_, rfl⟩
         rw [← hw2]
         have H2 := Lib.hid (show RdB w2 base p A b.length c b at0 e1 ∧ Mod w w2 p none by rw [hw2]; exact H2.out)
         clear hw2)
      | (rw [if_neg hmg] at he1
         have hcmp : ((bs r0).toList == [72, 73, 66, 82]) = false := by
           rw [beq_eq_false_iff_ne]
           intro q
           rw [bs_toL] at q
           exact hmg q
         go_wp2_with (refine convB A1 r0.length c1 r0 rfl rfl rfl H1.out.1.rb rfl ?_)
         refine (rfail_any 3 p base b.length c at0 e0 A b _ H1.out.2.1).mono ?_
         rintro e w2 ⟨rfl, hr2, hm2⟩
         have H2 := Lib.hid (show RdB w2 base p A b.length c b at0 e1 ∧ Mod w w2 p none from ⟨by rw [he1]; exact hr2, Mod.trans H1.out.2.2 (Succ.refl _ _) hm2⟩)
         clear hr2 hm2 he1 hmg
         go_wp2_with fail)
    have KV := Lib.hid (fixedR_any 1 p base b.length c at0 e1 A b w2 (by omega) H2.out.1 ha0 hn)
    have hve : hVer b = rFixed b 1 at0 e1 := by unfold hVer; rw [HH1.out]
    rw [← hve, ← HV.out] at KV
    refine KV.out.mono ?_
    rintro e w3 ⟨rfl, hr3, hm3⟩
    have H3 := Lib.hid (And.intro hr3 (Mod.trans H2.out.2 (Succ.refl _ _) hm3))
    have KL := Lib.hid (listR_any 16 p base b.length c (hVer b).2.1 (hVer b).2.2 A b w3 H3.out.1 (hVer_at b) hn)
    have hce : hCnt b = rList b 16 (hVer b).2.1 (hVer b).2.2 := rfl
    rw [← hce] at KL
    have v0 : (0 : Int) ≤ (vv : Int) := by omega
    have v1 : (vv : Int) < 256 := by omega
    rw [← HNC.out] at KL
    clear hr3 hm3 hve hce
    go_wp2_with fail
    refine KL.out.mono ?_
    rintro e w4 ⟨rfl, hr4, hm4⟩
    have H4 := Lib.hid (show RdB w4 base p A b.length c b (hSt b 0).1 (hSt b 0).2 ∧ Mod w w4 p none from ⟨hr4, Mod.trans H3.out.2 (Succ.refl _ _) hm4⟩)
    clear hr4 hm4
    go_wp2_with (first
      | (refine wpMakeS n rfl rfl rfl rfl (by omega) ?_; intro w5 hs5 hb5 hz5)
      | (refine wpMakeI n rfl rfl rfl rfl (by omega) ?_; intro w6 hi6 hb6 hz6))
    obtain ⟨gl, hgl⟩ : ∃ gl, gl = w4.heap.size := ⟨_, rfl⟩
    obtain ⟨gz, hgz⟩ : ∃ gz, gz = w4.heap.size + 1 := ⟨_, rfl⟩
    have hzz : w5.heap.size = gz := by rw [hgz]; exact hz5
    rw [hzz] at hi6 hz6
    have hlz : gl < gz := by omega
    have hsz4 := H4.out.2.size
    have hglw : w.heap.size ≤ gl := by omega
    have hgzw : w.heap.size ≤ gz := by omega
    have H6 := Lib.hid (show OSec w6 w.heap.size (some ⟨gl, 0, none⟩) n n (hL b n 0) ∧ OI w6 w.heap.size (some ⟨gz, 0, none⟩) n n (hZ b n 0) ∧ RdB w6 base p A b.length c b (hSt b 0).1 (hSt b 0).2 ∧ Mod w w6 p none by
      have hb46 := hb5.trans (hb6.mono hb5.size)
      refine ⟨?_, ?_, H4.out.1.below hb46, Mod.trans H4.out.2 (Succ.refl _ _) (mod_of_below hb46 p none)⟩
      · rw [hgl]
        exact ⟨(hs5.below hb6).1, by
          rcases (hs5.below hb6).2 with ⟨e, _⟩ | ⟨g, cap, cur, e, hg, r⟩
          · injection e with e1; cases e1
          · exact .inr ⟨g, cap, cur, e, by omega, r⟩⟩
      · exact ⟨hi6.1, by
          rcases hi6.2 with ⟨e, _⟩ | ⟨g, cap, cur, e, hg, r⟩
          · injection e with e1; cases e1
          · exact .inr ⟨g, cap, cur, e, by omega, r⟩⟩)
    rw [← hgz, ← hgl]
    clear hzz hs5 hb5 hz5 hi6 hb6 hz6 hgl hgz hsz4
    have nI : (n : Int) ≤ 16 := by omega
    have hpl : p < w.heap.size := HP.out
    have hAl : Ytnkbkhlbogcfaaa.blk A ≠ some gl := by intro q; have := HA.out gl q; omega
    have hAz : Ytnkbkhlbogcfaaa.blk A ≠ some gz := by intro q; have := HA.out gz q; omega
    have HA2 := Lib.hid (And.intro hAl hAz)
    clear hAl hAz
    go_wp2_with fail
    go_loopw [26] (fun i wr => ∃ k : Nat, k ≤ n ∧ i = .int .i64 k ∧ OSec wr w.heap.size (some ⟨gl, 0, none⟩) n n (hL b n k) ∧ OI wr w.heap.size (some ⟨gz, 0, none⟩) n n (hZ b n k) ∧ RdB wr base p A b.length c b (hSt b k).1 (hSt b k).2 ∧ Mod w wr p none) (fun i _ => n - (intOf i).toNat)
    case atStart => exact ⟨0, by omega, rfl, H6.out⟩
    case round =>
      obtain ⟨k, hk, rfl, hos, hoi, hrd, hmd⟩ := hrel
      have HI := Lib.hid (And.intro hos (And.intro hoi (And.intro hrd hmd)))
      have k0 : (0 : Int) ≤ (k : Int) := by omega
      by_cases hlt : k < n
      · have j1 : (k : Int) < (n : Int) := by omega
        have KF := Lib.hid (fixedR_any 1 p base b.length c (hSt b k).1 (hSt b k).2 A b wr (by omega) hrd (hSt_at b k) hn)
        have kk256 := hKind_lt b k
        have hfe : rFixed b 1 (hSt b k).1 (hSt b k).2 = hF b (hSt b k) := rfl
        rw [hfe] at KF
        have hke : (hF b (hSt b k)).1 = hKind b k := rfl
        rw [hke] at KF
        obtain ⟨kk, hkk⟩ : ∃ kk, kk = hKind b k := ⟨_, rfl⟩
        rw [← hkk] at KF kk256
        have HKK := Lib.hid hkk
        have kk0 : (0 : Int) ≤ (kk : Int) := by omega
        have kk1 : (kk : Int) < 256 := by omega
        clear hos hoi hrd hmd hfe hke hkk
        go_wp2_with fail
        refine KF.out.mono ?_
        rintro e w7 ⟨rfl, hr7, hm7⟩
        have KS := Lib.hid (shortR_any p base b.length c (hF b (hSt b k)).2.1 (hF b (hSt b k)).2.2 A b w7 hr7 (hF_at (hSt_at b k)) hn)
        have hse : rShort b (hF b (hSt b k)).2.1 (hF b (hSt b k)).2.2 = hS b (hSt b k) := rfl
        rw [hse] at KS
        have hze : (hS b (hSt b k)).1 = hSize b k := rfl
        rw [hze] at KS
        have hsz := (hS_at (hSt_at b k)).2
        rw [hze] at hsz
        have H7 := Lib.hid (And.intro (HI.out.1.mod hm7 hpl) (And.intro (HI.out.2.1.mod hm7 hpl) (Mod.trans HI.out.2.2.2 (Succ.refl _ _) hm7)))
        obtain ⟨sz, hsze⟩ : ∃ sz, sz = hSize b k := ⟨_, rfl⟩
        rw [← hsze] at KS hsz
        have HSZ := Lib.hid hsze
        have sz0 : (0 : Int) ≤ (sz : Int) := by omega
        clear hr7 hm7 hse hze hsze
        go_wp2_with fail
        refine KS.out.mono ?_
        rintro e w8 ⟨rfl, hr8, hm8⟩
        have hos8 := H7.out.1.mod hm8 hpl
        have hoi8 := H7.out.2.1.mod hm8 hpl
        have hx : (hL b n k)[k]? = some sec0 := by rw [hL_at b n k k hlt, if_neg (by omega)]
        obtain ⟨c0, f0, hos9⟩ := hos8.storeK (y := ⟨kk, none, 0, []⟩) hx rfl rfl rfl
        obtain ⟨⟨z0, cz⟩, fz, hoi9⟩ := (hoi8.other (g := gl) (by rintro ad h; injection h with h; subst h; dsimp only; omega) (k * 2) (.int .i64 (kk : Int))).store k sz hlt
        have hos10 := hos9.other (g := gz) (by rintro ad h; injection h with h; subst h; dsimp only; omega) k (.int .i64 (sz : Int))
        have hr10 := (hr8.store1 (g := gl) (by omega) HA2.out.1 (k * 2) (.int .i64 (kk : Int))).store1 (g := gz) (by omega) HA2.out.2 k (.int .i64 (sz : Int))
        have hm10 := mod_store1 (mod_store1 (Mod.trans H7.out.2.2 (Succ.refl _ _) hm8) hglw (k * 2) (.int .i64 (kk : Int))) hgzw k (.int .i64 (sz : Int))
        have cz10 : ((w8.setCell ⟨gl, k * 2, none⟩ (.int .i64 (kk : Int))).setCell ⟨gz, k, none⟩ (.int .i64 (sz : Int))).cell? ⟨gz, k, none⟩ = some (.int .i64 (sz : Int)) := by
          obtain ⟨g', hg', hc'⟩ := hoi9.form (by omega)
          injection hg' with hg'
          injection hg' with hg'
          subst hg'
          exact hc' k _ (by rw [List.getElem?_set_self (by rw [hZ_length]; exact hlt)])
        have H10 := Lib.hid (And.intro hos10 (And.intro hoi9 (And.intro hr10 hm10)))
        clear hos8 hoi8 hx hos9 hoi9 hos10 hr10 hm10 hr8 hm8
        obtain ⟨w10, hw10⟩ : ∃ w10, w10 = (w8.setCell ⟨gl, k * 2, none⟩ (.int .i64 (kk : Int))).setCell ⟨gz, k, none⟩ (.int .i64 (sz : Int)) := ⟨_, rfl⟩
        rw [← hw10] at H10 cz10
        have hLs := Lib.hid (show hL b n (k + 1) = (hL b n k).set k ⟨kk, none, 0, []⟩ by rw [HKK.out]; rfl)
        have hZs := Lib.hid (show hZ b n (k + 1) = (hZ b n k).set k (sz : Int) by rw [HSZ.out]; rfl)
        by_cases hbig : 1048576 < sz
        · have hbI : (1048576 : Int) < (sz : Int) := by omega
          have hst := Lib.hid (show hSt b (k + 1) = ((hS b (hSt b k)).2.1, noteE (hS b (hSt b k)).2.2 3) by
            show hNext b (hSt b k) = _
            unfold hNext
            rw [if_pos (by rw [HSZ.out] at hbig; exact hbig)])
          rw [hw10] at cz10
          go_wp2_with fail
          rw [← hw10]
          clear hw10 cz10
          refine (rfail_any 3 p base b.length c (hS b (hSt b k)).2.1 (hS b (hSt b k)).2.2 A b _ H10.out.2.2.1).mono ?_
          rintro e w11 ⟨rfl, hr11, hm11⟩
          have H11 := Lib.hid (And.intro (H10.out.1.mod hm11 hpl) (And.intro (H10.out.2.1.mod hm11 hpl) (And.intro hr11 (Mod.trans H10.out.2.2.2 (Succ.refl _ _) hm11))))
          clear hr11 hm11
          go_wp2
          go_roundw
          case rel =>
            refine ⟨k + 1, by omega, by go_num, ?_⟩
            rw [hLs.out, hZs.out, hst.out]
            exact H11.out
          case measure => simp [intOf]; omega
        · have hbI : (sz : Int) ≤ 1048576 := by omega
          have hst := Lib.hid (show hSt b (k + 1) = ((hS b (hSt b k)).2.1, (hS b (hSt b k)).2.2) by
            show hNext b (hSt b k) = _
            unfold hNext
            rw [if_neg (by rw [HSZ.out] at hbig; exact hbig)])
          rw [hw10] at cz10 H10
          clear hw10
          go_wp2
          go_roundw
          case rel =>
            refine ⟨k + 1, by omega, by go_num, ?_⟩
            rw [hLs.out, hZs.out, hst.out]
            exact H10.out
          case measure => simp [intOf]; omega
      · obtain rfl : k = n := by omega
        clear hos hoi hrd hmd
        go_wp2
        go_ret3
        exact ⟨gl, gz, rfl, HI.out.1, HI.out.2.1, HI.out.2.2.1, HI.out.2.2.2, hlz⟩
end
end Go.Proofs.Ytnkbkhlbogcfaaa

set_option linter.unusedVariables false
set_option linter.unusedSimpArgs false
namespace Go.Proofs.Ytnkbkhlbogcfaaa
open Go.RowKit Go.Proofs.YtnkbkhlbogcfaaaW.PrintWords
noncomputable section

/-- sections of which k bodies were read: their bytes lie in blocks from G on -/
structure Got (wr : World) (G : Nat) (b : List UInt8) (n k : Nat) (l : List SecV) : Prop where
  len : l.length = n
  all : ∀ (i : Nat) (x : SecV), l[i]? = some x → x.k = hKind b i ∧ x.b = (if i < k then bBody b i else []) ∧ x.b.length ≤ x.c ∧ RB wr x.A x.b ∧ ∀ ad, x.A = some ad → 0 < x.b.length → G ≤ ad.block
/-- where sections stand: k are stored -/
def spL (b : List UInt8) (n : Nat) : Nat → List (Int × Int)
  | 0 => List.replicate n (0, 0)
  | k + 1 => (spL b n k).set k (((bSt b k).1 : Int), RowKit.wrap64 (((bSt b k).1 : Int) + (hSize b k : Int)))
theorem Got.keep {w w' : World} {G : Nat} {b : List UInt8} {n k : Nat} {l : List SecV} (h : Got w G b n k l) (hk : ∀ q, G ≤ q → q < w.heap.size → w'.heap[q]? = w.heap[q]?) : Got w' G b n k l :=
  ⟨h.len, fun i x hx => by
    obtain ⟨h1, h2, h3, h4, h5⟩ := h.all i x hx
    exact ⟨h1, h2, h3, h4.keep fun ad e hn => hk _ (h5 ad e hn) (h4.lt e hn), h5⟩⟩
theorem Got.mod {w w' : World} {G p : Nat} {b : List UInt8} {n k : Nat} {l : List SecV} (h : Got w G b n k l) (hm : Mod w w' p none) (hp : p < G) : Got w' G b n k l :=
  h.keep fun q hq hl => hm.block q hl (by omega) (by simp)
theorem Got.below {w w' : World} {G : Nat} {b : List UInt8} {n k : Nat} {l : List SecV} (h : Got w G b n k l) (hb : Below w.heap.size w w') : Got w' G b n k l :=
  h.keep fun q hq hl => hb.block q hl
theorem Got.store {w : World} {G g : Nat} {b : List UInt8} {n k : Nat} {l : List SecV} (h : Got w G b n k l) (hg : g < G) (j : Nat) (v : Value) : Got (w.setCell ⟨g, j, none⟩ v) G b n k l :=
  h.keep fun q hq hl => Below.heap_setCell _ _ _ _ (by dsimp only; omega)
theorem Got.next {w : World} {G : Nat} {b : List UInt8} {n k : Nat} {l : List SecV} {y : SecV} (h : Got w G b n k l) (hk : k < n) (h1 : y.k = hKind b k) (h2 : y.b = bBody b k) (h3 : y.b.length ≤ y.c) (h4 : RB w y.A y.b) (h5 : ∀ ad, y.A = some ad → 0 < y.b.length → G ≤ ad.block) : Got w G b n (k + 1) (l.set k y) := by
  refine ⟨by rw [List.length_set, h.len], fun i x hx => ?_⟩
  rw [List.getElem?_set, h.len] at hx
  by_cases hki : k = i
  · subst hki
    rw [if_pos rfl, if_pos hk] at hx
    injection hx with hx
    subst hx
    exact ⟨h1, by rw [if_pos (by omega)]; exact h2, h3, h4, h5⟩
  · rw [if_neg hki] at hx
    obtain ⟨q1, q2, q3, q4, q5⟩ := h.all i x hx
    refine ⟨q1, ?_, q3, q4, q5⟩
    rw [q2]
    by_cases h : i < k
    · rw [if_pos h, if_pos (by omega)]
    · rw [if_neg h, if_neg (by omega)]
theorem own_lower {w : World} {base base' n : Nat} {e : TypeId} {size : Nat} {v : Value} {xs : List Value} (h : w.ownsRow base e size v n xs) (hb : base' ≤ base) : w.ownsRow base' e size v n xs := by
  refine ⟨h.1, ?_⟩
  rcases h.2 with h2 | ⟨g, cap, cur, hv, hg, r⟩
  · exact .inl h2
  · exact .inr ⟨g, cap, cur, hv, by omega, r⟩
theorem Got.lower {w : World} {G G' : Nat} {b : List UInt8} {n k : Nat} {l : List SecV} (h : Got w G b n k l) (hG : G' ≤ G) : Got w G' b n k l :=
  ⟨h.len, fun i x hx => by
    obtain ⟨h1, h2, h3, h4, h5⟩ := h.all i x hx
    exact ⟨h1, h2, h3, h4, fun ad e hn => Nat.le_trans hG (h5 ad e hn)⟩⟩
theorem results_tmp4 {fn : Func} {t u v x : Tmp} (h : fn.results = #[.tmp t, .tmp u, .tmp v, .tmp x]) (tmps : Array Value) (P : Program) (w : World) :
    (results fn tmps).run P w = .ok (.tuple #[tmps.getD t undef, tmps.getD u undef, tmps.getD v undef, tmps.getD x undef]) w := by
  simp [results, h]
theorem post4 {fn : Func} {t u v x : Tmp} {R : Ending → World → Prop} {a : Act} {w : World} (h : fn.results = #[.tmp t, .tmp u, .tmp v, .tmp x]) (hd : a.defers = [])
    (hR : R (.returned (.tuple #[a.tmps.getD t undef, a.tmps.getD u undef, a.tmps.getD v undef, a.tmps.getD x undef])) w) : bodyPost Try.prog fn R .ret a w := bodyPost_ret (results_tmp4 h _ _ _) hd hR
theorem ob_ge {w : World} {base n c : Nat} {A : Option Addr} {b : List UInt8} (h : OB w base A n c b) : ∀ ad, A = some ad → base ≤ ad.block := fun ad e => h.base ad.block (by rw [e]; rfl)

set_option maxHeartbeats 8000000 in
set_option maxRecDepth 100000 in
theorem read_any (b : List UInt8) (A : Option Addr) (n c : Nat) (w : World) (hl : b.length = n) (hR : RB w A b) (hnc : n ≤ c) (hn : n ≤ 800000) :
    Calls Try.prog 99 #[.slice A n c] w fun e w' => ((fileE b ≠ 0 ∧ e = .returned (.tuple #[.int .i64 0, .slice none 0 0, .slice none 0 0, .int .i64 (fileE b)])) ∨
      (fileE b = 0 ∧ ∃ gl gs l, e = .returned (.tuple #[.int .i64 ((hVer (openB b)).1 : Nat), .slice (some ⟨gl, 0, none⟩) (hCnt (openB b)).1 (hCnt (openB b)).1, .slice (some ⟨gs, 0, none⟩) (hCnt (openB b)).1 (hCnt (openB b)).1, .int .i64 0]) ∧
        OSec w' w.heap.size (some ⟨gl, 0, none⟩) (hCnt (openB b)).1 (hCnt (openB b)).1 l ∧ Got w' w.heap.size (openB b) (hCnt (openB b)).1 (hCnt (openB b)).1 l ∧ OSP w' w.heap.size (some ⟨gs, 0, none⟩) (hCnt (openB b)).1 (hCnt (openB b)).1 (spL (openB b) (hCnt (openB b)).1 (hCnt (openB b)).1))) ∧ Below w.heap.size w w' := by
  have KO := Lib.hid (open_any b A n c w hl hR (by omega) hnc)
  have hol : (openB b).length ≤ n := by unfold openB; split <;> simp <;> omega
  clear hl hR
  by_cases ho : openE b = 0
  · have hfe : fileE b = bEnd (openB b) := by unfold fileE; rw [if_neg (by simp [ho])]
    rw [hfe]
    rw [ho] at KO
    obtain ⟨o, hoe⟩ : ∃ o, o = openB b := ⟨_, rfl⟩
    rw [← hoe] at KO hol ⊢
    have hcnt := hCnt_le o
    obtain ⟨cnt, hct⟩ : ∃ cnt, cnt = (hCnt o).1 := ⟨_, rfl⟩
    rw [← hct] at hcnt ⊢
    have HCT := Lib.hid hct
    obtain ⟨vv, hvv⟩ : ∃ vv, vv = (hVer o).1 := ⟨_, rfl⟩
    rw [← hvv] at ⊢
    have HVV := Lib.hid hvv
    clear hfe hoe ho hct hvv
    go_enter Try.func99, Try.ntmps99
    go_wp2_with fail
    refine KO.out.mono ?_
    rintro e w1 ⟨A1, n1, c1, rfl, ho1, hb1⟩
    have hn1 := ho1.len
    subst hn1
    have H1 := Lib.hid (And.intro ho1 hb1)
    clear ho1 hb1
    go_wp2_with fail
    refine (newReader_any o A1 o.length c1 _ rfl H1.out.1.rb (by omega)).mono ?_
    rintro e w2 ⟨A2, c2, p, rfl, hr2, hb2⟩
    have H2 := Lib.hid (And.intro hr2 (H1.out.2.trans (hb2.mono H1.out.2.size)))
    clear hr2 hb2
    have KH := head_any p w1.heap.size o.length c2 A2 o w2 H2.out.1 (by omega)
    rw [← HCT.out, ← HVV.out] at KH
    have KH := Lib.hid KH
    go_wp2_with fail
    refine KH.out.mono ?_
    rintro e w3 ⟨gl, gz, rfl, hos3, hoi3, hr3, hm3, hglz⟩
    have H3 := Lib.hid (And.intro hos3 (And.intro hoi3 (And.intro hr3 (H2.out.2.trans ((hm3.below H2.out.1.base_le H2.out.1.base_p (fun k hk => by cases hk)).mono H1.out.2.size)))))
    have HPG := Lib.hid hglz
    have HPP := Lib.hid (And.intro H2.out.1.lt (And.intro (own_lt hos3 gl rfl) (show w2.heap.size ≤ gl ∧ w2.heap.size ≤ gz ∧ gz < w3.heap.size by
      refine ⟨own_base hos3 gl rfl, own_base hoi3 gz rfl, own_lt hoi3 gz rfl⟩)))
    have HAb := Lib.hid (show ∀ k, Ytnkbkhlbogcfaaa.blk A2 = some k → k < w2.heap.size from H2.out.1.own.blk_lt)
    clear hos3 hoi3 hr3 hm3
    go_wp2_with (refine wpMakeP cnt rfl rfl rfl rfl (by omega) ?_; intro w4 hp4 hb4 hz4)
    obtain ⟨gs, hgs⟩ : ∃ gs, gs = w3.heap.size := ⟨_, rfl⟩
    rw [← hgs] at hp4 hz4 ⊢
    have H4 := Lib.hid (And.intro (H3.out.1.below hb4) (And.intro (H3.out.2.1.below hb4) (And.intro (H3.out.2.2.1.below hb4) (And.intro (H3.out.2.2.2.trans (hb4.mono H3.out.2.2.2.size)) hp4))))
    have hpg : p < w2.heap.size := HPP.out.1
    have hgl1 : w2.heap.size ≤ gl := HPP.out.2.2.1
    have hgz1 : w2.heap.size ≤ gz := HPP.out.2.2.2.1
    have hgl2 : gl < gs := by have := HPP.out.2.1; omega
    have hgz2 : gz < gs := by have := HPP.out.2.2.2.2; omega
    obtain ⟨G, hG⟩ : ∃ G, G = gs + 1 := ⟨_, rfl⟩
    have hpG : p < G := by omega
    have hpgs : p < gs := by omega
    have glG : gl < G := by omega
    have gsG : gs < G := by omega
    have HG4 := Lib.hid (show w4.heap.size = G by omega)
    have HW2 := Lib.hid (show w.heap.size ≤ w2.heap.size from H2.out.2.size)
    have hws : w.heap.size ≤ gs := by have := HW2.out; omega
    have hzl : gl ≠ gz := by have := HPG.out; omega
    have hgot : Got w4 G o cnt 0 (hL o cnt cnt) := by
      refine ⟨hL_length o cnt cnt, fun i x hx => ?_⟩
      have hi : i < cnt := by have := (List.getElem?_eq_some_iff.1 hx).1; rw [hL_length] at this; exact this
      rw [hL_at o cnt cnt i hi, if_pos hi] at hx
      injection hx with hx
      subst hx
      exact ⟨rfl, rfl, by simp, ⟨by simp [bv], by simp, fun h => absurd h (by simp)⟩, fun ad e => by cases e⟩
    have HGOT := Lib.hid hgot
    clear hp4 hb4 hz4 hgs hgot hG
    have cI : (cnt : Int) ≤ 16 := by omega
    go_wp2_with fail
    go_loopw [39] (fun i wr => ∃ (k : Nat) (l : List SecV), k ≤ cnt ∧ i = .int .i64 k ∧ OSec wr w2.heap.size (some ⟨gl, 0, none⟩) cnt cnt l ∧ Got wr G o cnt k l ∧ OI wr w2.heap.size (some ⟨gz, 0, none⟩) cnt cnt (hZ o cnt cnt) ∧
      OSP wr gs (some ⟨gs, 0, none⟩) cnt cnt (spL o cnt k) ∧ RdB wr w1.heap.size p A2 o.length c2 o (bSt o k).1 (bSt o k).2 ∧ Below w.heap.size w wr ∧ G ≤ wr.heap.size) (fun i _ => cnt - (intOf i).toNat)
    case atStart => exact ⟨0, hL o cnt cnt, by omega, rfl, H4.out.1, HGOT.out, H4.out.2.1, H4.out.2.2.2.2, by show RdB _ _ _ _ _ _ _ (hSt o (hCnt o).1).1 (hSt o (hCnt o).1).2; rw [← HCT.out]; exact H4.out.2.2.1, H4.out.2.2.2.1, by rw [HG4.out]; exact Nat.le_refl _⟩
    case round =>
      obtain ⟨k, l, hk, rfl, hos, hgo, hoi, hsp, hrd, hbl, hGw⟩ := hrel
      have HI := Lib.hid (And.intro hos (And.intro hgo (And.intro hoi (And.intro hsp (And.intro hrd (And.intro hbl hGw))))))
      clear hos hgo hoi hsp hrd hbl hGw
      have k0 : (0 : Int) ≤ (k : Int) := by omega
      by_cases hlt : k < cnt
      · have j1 : (k : Int) < (cnt : Int) := by omega
        obtain ⟨sz, hsz⟩ : ∃ sz, sz = hSize o k := ⟨_, rfl⟩
        have HSZ := Lib.hid hsz
        have zc : wr.cell? ⟨gz, k, none⟩ = some (.int .i64 sz) := by
          obtain ⟨g', hg', hc'⟩ := HI.out.2.2.1.form (by omega)
          injection hg' with hg'
          injection hg' with hg'
          subst hg'
          exact hc' k _ (by rw [hZ_at o cnt cnt k hlt, if_pos hlt, hsz])
        have sz0 : (0 : Int) ≤ (sz : Int) := by omega
        clear hsz
        go_wp2_with fail
        refine (rat_any p w1.heap.size o.length c2 (bSt o k).1 (bSt o k).2 A2 o _ HI.out.2.2.2.2.1).mono ?_
        rintro e w5 ⟨rfl, rfl⟩
        have hlx : ∃ x, l[k]? = some x := ⟨_, List.getElem?_eq_getElem (by rw [HI.out.2.1.len]; exact hlt)⟩
        obtain ⟨x, hx⟩ := hlx
        have hxk := (HI.out.2.1.all k x hx).1
        have KR := rawR_any (RowKit.wrap64 ((hSize o k : Int) + 4)) p w1.heap.size o.length c2 (bSt o k).1 (bSt o k).2 A2 o _ HI.out.2.2.2.2.1 (bSt_at o k) (by omega)
        have hrl := (rRaw_at (e := (bSt o k).2) (RowKit.wrap64 ((hSize o k : Int) + 4)) (bSt_at o k)).2.2
        have hrb : rRaw o (RowKit.wrap64 ((hSize o k : Int) + 4)) (bSt o k).1 (bSt o k).2 = bRaw o (bSt o k) (hSize o k) := rfl
        rw [hrb] at KR hrl
        obtain ⟨r, at', e', hq⟩ : ∃ r at' e', bRaw o (bSt o k) (hSize o k) = (r, at', e') := ⟨_, _, _, rfl⟩
        have HN := Lib.hid (show bSt o (k + 1) = (at', if openE r = 0 then e' else noteE e' (openE r)) ∧ bBody o k = openB r by
          refine ⟨?_, by unfold bBody; rw [hq]⟩
          show bNext o (bSt o k) (hSize o k) = _
          unfold bNext
          rw [hq])
        rw [hq] at KR hrl
        dsimp only at KR hrl
        rw [← HSZ.out] at KR
        have KR := Lib.hid KR
        have HX := Lib.hid (And.intro hx hxk)
        obtain ⟨at_, hat_⟩ : ∃ a, a = (bSt o k).1 := ⟨_, rfl⟩
        have HAT := Lib.hid hat_
        rw [← hat_]
        have at0 : (0 : Int) ≤ (at_ : Int) := by omega
        clear hx hxk hrb hq hat_
        go_wp2_with fail
        refine KR.out.mono ?_
        rintro e w6 ⟨A6, c6, rfl, ho6, hr6, hm6⟩
        have hp2 : p < w2.heap.size := hpg
        have H6 := Lib.hid (And.intro ho6 (And.intro hr6 (And.intro (HI.out.1.mod hm6 hp2) (And.intro (HI.out.2.1.mod hm6 (by omega)) (And.intro (HI.out.2.2.1.mod hm6 hp2) (And.intro (HI.out.2.2.2.1.mod hm6 (by omega)) (And.intro (HI.out.2.2.2.2.2.1.trans ((hm6.below HI.out.2.2.2.2.1.base_le HI.out.2.2.2.2.1.base_p (fun q hq => by cases hq)).mono H1.out.2.size)) (Nat.le_trans HI.out.2.2.2.2.2.2 hm6.size))))))))
        clear ho6 hr6 hm6
        go_wp2_with fail
        refine (open_any r A6 r.length c6 _ rfl H6.out.1.rb (by omega) H6.out.1.cap).mono ?_
        rintro e w7 ⟨A7, n7, c7, rfl, ho7, hb7⟩
        have HN7 := Lib.hid (And.intro ho7.len ho7.cap)
        have H7 := Lib.hid (And.intro (ho7.lower H6.out.2.2.2.2.2.2.2) (And.intro (H6.out.2.1.below hb7) (And.intro (H6.out.2.2.1.below hb7) (And.intro (H6.out.2.2.2.1.below hb7) (And.intro (H6.out.2.2.2.2.1.below hb7) (And.intro (H6.out.2.2.2.2.2.1.below hb7) (And.intro (H6.out.2.2.2.2.2.2.1.trans (hb7.mono H6.out.2.2.2.2.2.2.1.size)) (Nat.le_trans H6.out.2.2.2.2.2.2.2 hb7.size))))))))
        clear ho7 hb7 zc
        obtain ⟨er, her⟩ : ∃ er, er = openE r := ⟨_, rfl⟩
        rw [← her] at HN ⊢
        clear her
        by_cases hf : er = 0
        all_goals
          first
            | (have b1 : (er == 0) = true := by simp [hf]
               have HN := Lib.hid (show bSt o (k + 1) = (at', e') ∧ bBody o k = openB r by have := HN.out; rw [if_pos hf] at this; exact this)
               subst hf
               obtain ⟨w8, hw8⟩ : ∃ w8, w8 = w7 := ⟨_, rfl⟩
               rw [← hw8]
               have H8 := Lib.hid (show OB w8 G A7 n7 c7 (openB r) ∧ RdB w8 w1.heap.size p A2 o.length c2 o (bSt o (k + 1)).1 (bSt o (k + 1)).2 ∧ OSec w8 w2.heap.size (some ⟨gl, 0, none⟩) cnt cnt l ∧ Got w8 G o cnt k l ∧ OI w8 w2.heap.size (some ⟨gz, 0, none⟩) cnt cnt (hZ o cnt cnt) ∧ OSP w8 gs (some ⟨gs, 0, none⟩) cnt cnt (spL o cnt k) ∧ Below w.heap.size w w8 ∧ G ≤ w8.heap.size by
                 rw [hw8, HN.out.1]; exact H7.out)
               clear hw8)
            | (have b1 : (er == 0) = false := by simp [hf]
               have HN := Lib.hid (show bSt o (k + 1) = (at', noteE e' er) ∧ bBody o k = openB r by have := HN.out; rw [if_neg hf] at this; exact this)
               go_wp2_with fail
               refine (rfail_any er p w1.heap.size o.length c2 at' e' A2 o _ H7.out.2.1).mono ?_
               rintro e w8 ⟨rfl, hr8, hm8⟩
               have H8 := Lib.hid (show OB w8 G A7 n7 c7 (openB r) ∧ RdB w8 w1.heap.size p A2 o.length c2 o (bSt o (k + 1)).1 (bSt o (k + 1)).2 ∧ OSec w8 w2.heap.size (some ⟨gl, 0, none⟩) cnt cnt l ∧ Got w8 G o cnt k l ∧ OI w8 w2.heap.size (some ⟨gz, 0, none⟩) cnt cnt (hZ o cnt cnt) ∧ OSP w8 gs (some ⟨gs, 0, none⟩) cnt cnt (spL o cnt k) ∧ Below w.heap.size w w8 ∧ G ≤ w8.heap.size by
                 rw [HN.out.1]
                 exact ⟨own_move H7.out.1 fun q hq => hm8.block q (own_lt H7.out.1 q hq) (by have := own_base H7.out.1 q hq; omega) (by simp), hr8, H7.out.2.2.1.mod hm8 hp2, H7.out.2.2.2.1.mod hm8 (by omega), H7.out.2.2.2.2.1.mod hm8 hp2, H7.out.2.2.2.2.2.1.mod hm8 (by omega),
                   H7.out.2.2.2.2.2.2.1.trans ((hm8.below H7.out.2.1.base_le H7.out.2.1.base_p (fun q hq => by cases hq)).mono H1.out.2.size), Nat.le_trans H7.out.2.2.2.2.2.2.2 hm8.size⟩)
               clear hr8 hm8)
          obtain ⟨y, hy⟩ : ∃ y : SecV, y = ⟨hKind o k, A7, c7, openB r⟩ := ⟨_, rfl⟩
          have HY := Lib.hid (show y.k = hKind o k ∧ y.A = A7 ∧ y.c = c7 ∧ y.b = openB r by rw [hy]; exact ⟨rfl, rfl, rfl, rfl⟩)
          have hyl : y.b.length = n7 := by rw [HY.out.2.2.2]; exact HN7.out.1
          obtain ⟨s0, f0, hst⟩ := H8.out.2.2.1.store (y := y) HX.out.1 (by rw [HY.out.1, HX.out.2])
          rw [hyl, HY.out.2.1, HY.out.2.2.1] at hst
          have hsp1 := H8.out.2.2.2.2.2.1.other (g := gl) (by rintro ad h; injection h with h; subst h; dsimp only; omega) (k * 2 + 1) (.slice A7 n7 c7)
          obtain ⟨⟨⟨v0, p0⟩, ⟨v1, p1⟩⟩, ⟨fp0, fp1⟩, hsp2⟩ := hsp1.store hlt ((at_ : Int), RowKit.wrap64 ((at_ : Int) + (sz : Int)))
          have zc8 : w8.cell? ⟨gz, k, none⟩ = some (.int .i64 sz) := by
            obtain ⟨g', hg', hc'⟩ := H8.out.2.2.2.2.1.form (by omega)
            injection hg' with hg'
            injection hg' with hg'
            subst hg'
            exact hc' k _ (by rw [hZ_at o cnt cnt k hlt, if_pos hlt, HSZ.out])
          have HST := Lib.hid (And.intro hst hsp2)
          have hlen := HN7.out.2
          clear hst hsp1 hsp2 hy
          go_wp2
          go_roundw
          case rel =>
            have hne1 : ∀ ad : Addr, some (⟨gl, 0, none⟩ : Addr) = some ad → ad.block ≠ gs := by rintro ad h; injection h with h; subst h; dsimp only; omega
            have hob : OB (((w8.setCell ⟨gl, k * 2 + 1, none⟩ (.slice A7 n7 c7)).setCell ⟨gs, k * 2, none⟩ (.int .i64 (at_ : Int))).setCell ⟨gs, k * 2 + 1, none⟩ (.int .i64 (RowKit.wrap64 ((at_ : Int) + (sz : Int))))) G A7 n7 c7 (openB r) := by
              have hne : ∀ g, g < G → (Value.slice A7 n7 c7).ownBlock ≠ some g := fun g hg q => by have := own_base H8.out.1 g q; omega
              exact ownsRow_setCell_other (ownsRow_setCell_other (ownsRow_setCell_other H8.out.1 (hne gl glG) _) (hne gs gsG) _) (hne gs gsG) _
            refine ⟨k + 1, l.set k y, by omega, by go_num, (HST.out.1.other hne1 _ _).other hne1 _ _, ?_, ?_, ?_, ?_, ?_, ?_⟩
            · refine (((H8.out.2.2.2.1.store glG (k * 2 + 1) (.slice A7 n7 c7)).store gsG (k * 2) (.int .i64 (at_ : Int))).store gsG (k * 2 + 1) _).next hlt HY.out.1 (by rw [HY.out.2.2.2, HN.out.2]) (by rw [hyl, HY.out.2.2.1]; exact hlen) ?_ ?_
              · rw [HY.out.2.1, HY.out.2.2.2]; exact hob.rb
              · rw [HY.out.2.1]; intro ad e _; exact ob_ge hob ad e
            · have hz1 : ∀ ad : Addr, some (⟨gz, 0, none⟩ : Addr) = some ad → ad.block ≠ gl := by rintro ad h; injection h with h; subst h; exact hzl.symm
              have hz2 : ∀ ad : Addr, some (⟨gz, 0, none⟩ : Addr) = some ad → ad.block ≠ gs := by rintro ad h; injection h with h; subst h; dsimp only; omega
              exact ((H8.out.2.2.2.2.1.other hz1 _ _).other hz2 _ _).other hz2 _ _
            · show OSP _ gs (some ⟨gs, 0, none⟩) cnt cnt ((spL o cnt k).set k (((bSt o k).1 : Int), RowKit.wrap64 (((bSt o k).1 : Int) + (hSize o k : Int))))
              rw [← HAT.out, ← HSZ.out]
              exact HST.out.2
            · have hb1 : Ytnkbkhlbogcfaaa.blk A2 ≠ some gl := by intro q; have := HAb.out gl q; omega
              have hb2 : Ytnkbkhlbogcfaaa.blk A2 ≠ some gs := by intro q; have := HAb.out gs q; omega
              exact ((H8.out.2.1.store1 (by omega) hb1 _ _).store1 (by omega) hb2 _ _).store1 (by omega) hb2 _ _
            · have hwl : w.heap.size ≤ gl := by have := HW2.out; omega
              exact ((H8.out.2.2.2.2.2.2.1.setCell hwl _).setCell hws _).setCell hws _
            · simpa using H8.out.2.2.2.2.2.2.2
          case measure => simp [intOf]; omega
      · obtain rfl : k = cnt := by omega
        have KE := rend_any p w1.heap.size o.length c2 (bSt o k).1 (bSt o k).2 A2 o _ HI.out.2.2.2.2.1 (bSt_at o k) (by omega)
        have hbe : (if (bSt o k).2 = 0 ∧ (bSt o k).1 < o.length then 3 else (bSt o k).2) = bEnd o := by unfold bEnd; rw [← HCT.out]
        rw [hbe] at KE
        obtain ⟨er, her⟩ : ∃ er, er = bEnd o := ⟨_, rfl⟩
        rw [← her] at KE
        have HER := Lib.hid her
        have KE := Lib.hid KE
        clear hbe her
        by_cases hz : er = 0
        · subst hz
          go_wp2_with fail
          refine KE.out.mono ?_
          rintro e w5 ⟨rfl, hr5, hm5⟩
          have H5 := Lib.hid (And.intro (HI.out.1.mod hm5 hpg) (And.intro (HI.out.2.1.mod hm5 hpG) (And.intro (HI.out.2.2.2.1.mod hm5 hpgs) (HI.out.2.2.2.2.2.1.trans ((hm5.below HI.out.2.2.2.2.1.base_le HI.out.2.2.2.2.1.base_p (fun q hq => by cases hq)).mono H1.out.2.size)))))
          clear hr5 hm5
          go_wp2
          refine post4 rfl rfl ?_
          rw [← HER.out]
          exact ⟨.inr ⟨rfl, gl, gs, l, rfl, own_lower H5.out.1 HW2.out, H5.out.2.1.lower (by omega), own_lower H5.out.2.2.1 hws⟩, H5.out.2.2.2⟩
        · have b1 : (er == 0) = false := by simp [hz]
          go_wp2_with fail
          refine KE.out.mono ?_
          rintro e w5 ⟨rfl, hr5, hm5⟩
          have H5 := Lib.hid (HI.out.2.2.2.2.2.1.trans ((hm5.below HI.out.2.2.2.2.1.base_le HI.out.2.2.2.2.1.base_p (fun q hq => by cases hq)).mono H1.out.2.size))
          clear hr5 hm5
          go_wp2
          refine post4 rfl rfl ?_
          rw [← HER.out]
          exact ⟨.inl ⟨hz, rfl⟩, H5.out⟩
  · have hfe : fileE b = openE b := by unfold fileE; rw [if_pos ho]
    rw [hfe]
    obtain ⟨er, her⟩ : ∃ er, er = openE b := ⟨_, rfl⟩
    rw [← her] at KO ho ⊢
    have g1 : (er == 0) = false := by simp [ho]
    clear hfe her
    go_enter Try.func99, Try.ntmps99
    go_wp2_with fail
    refine KO.out.mono ?_
    rintro e w1 ⟨A1, n1, c1, rfl, ho1, hb1⟩
    have H1 := Lib.hid hb1
    clear ho1 hb1
    go_wp2
    refine post4 rfl rfl ?_
    exact ⟨.inl ⟨ho, rfl⟩, H1.out⟩
end
end Go.Proofs.Ytnkbkhlbogcfaaa

set_option linter.unusedVariables false
set_option linter.unusedSimpArgs false
namespace Go.Proofs.Ytnkbkhlbogcfaaa
open Go.RowKit Go.Proofs.YtnkbkhlbogcfaaaW.PrintWords
noncomputable section

set_option maxHeartbeats 2000000 in
set_option maxRecDepth 100000 in
theorem readF_any (b : List UInt8) (A : Option Addr) (n c : Nat) (w : World) (hl : b.length = n) (hR : RB w A b) (hnc : n ≤ c) (hn : n ≤ 800000) :
    Calls Try.prog 69 #[.slice A n c] w fun e w' => ((fileE b ≠ 0 ∧ e = .returned (.tuple #[.int .i64 0, .slice none 0 0, .int .i64 (fileE b)])) ∨
      (fileE b = 0 ∧ ∃ gl l, e = .returned (.tuple #[.int .i64 ((hVer (openB b)).1 : Nat), .slice (some ⟨gl, 0, none⟩) (hCnt (openB b)).1 (hCnt (openB b)).1, .int .i64 0]) ∧
        OSec w' w.heap.size (some ⟨gl, 0, none⟩) (hCnt (openB b)).1 (hCnt (openB b)).1 l ∧ Got w' w.heap.size (openB b) (hCnt (openB b)).1 (hCnt (openB b)).1 l)) ∧ Below w.heap.size w w' := by
  have K := Lib.hid (read_any b A n c w hl hR hnc hn)
  clear hl hR
  obtain ⟨cnt, hct⟩ : ∃ cnt, cnt = (hCnt (openB b)).1 := ⟨_, rfl⟩
  obtain ⟨vv, hvv⟩ : ∃ vv, vv = (hVer (openB b)).1 := ⟨_, rfl⟩
  obtain ⟨er, her⟩ : ∃ er, er = fileE b := ⟨_, rfl⟩
  rw [← hct, ← hvv, ← her] at K ⊢
  clear hct hvv her
  go_enter Try.func69, Try.ntmps69
  go_wp2_with fail
  refine K.out.mono ?_
  rintro e w1 ⟨(⟨h0, rfl⟩ | ⟨h0, gl, gs, l, rfl, ho, hg, hs⟩), hb⟩
  · have H := Lib.hid (And.intro h0 hb)
    clear h0 hb
    go_wp2
    go_ret3
    exact ⟨.inl ⟨H.out.1, rfl⟩, H.out.2⟩
  · have H := Lib.hid (And.intro h0 (And.intro ho (And.intro hg hb)))
    clear h0 ho hg hs hb
    go_wp2
    go_ret3
    exact ⟨.inr ⟨H.out.1, gl, l, rfl, H.out.2.1, H.out.2.2.1⟩, H.out.2.2.2⟩

theorem rb_new5 (w : World) (v0 v1 v2 v3 v4 : Int) (ys : List UInt8) (h : bv ys = [v0, v1, v2, v3, v4]) : OB (w.alloc (.cells #[.int .u8 v0, .int .u8 v1, .int .u8 v2, .int .u8 v3, .int .u8 v4] 5)) w.heap.size (some ⟨w.heap.size, 0, none⟩) 5 5 ys := by
  have hl : ys.length = 5 := by rw [← bv_length, h]; rfl
  refine ⟨by simp [nums, bv, hl], .inr ⟨w.heap.size, 5, _, rfl, Nat.le_refl _, heap_alloc_new _ _, Nat.le_refl _, by unfold maxLen; omega, rfl, ?_⟩⟩
  rw [h]
  rfl

set_option maxHeartbeats 4000000 in
set_option maxRecDepth 100000 in
theorem rwrite_any (v : Int) (l : List SecV) (A : Option Addr) (L c : Nat) (w : World) (hL : l.length = L) (hS : SE w A l) (hM : May v l) (h100 : ∀ x ∈ l, x.b.length ≤ 100) :
    Calls Try.prog 68 #[.int .i64 v, .slice A L c] w fun e w' => ∃ A' n c', e = .returned (.slice A' n c') ∧ n ≤ 2000 ∧ OB w' w.heap.size A' n c' (fileB v l) ∧ Below w.heap.size w w' := by
  have HS := Lib.hid hS
  have hLh := Lib.hid hL
  obtain ⟨v0, v1, hL16, hodd⟩ := hM
  have HOdd := Lib.hid (show ∀ x ∈ l, 0 ≤ x.k ∧ x.k ≤ 255 from fun x hx => by
    have : ¬ odd x := fun h => hodd ⟨x, hx, h⟩
    unfold odd at this
    omega)
  have HC := Lib.hid h100
  have L16 : (L : Int) ≤ 16 := by omega
  obtain ⟨vb, hvb⟩ : ∃ vb : UInt8, vb = UInt8.ofNat v.toNat := ⟨_, rfl⟩
  have hvv : v = (vb.toNat : Int) := by rw [hvb, UInt8.toNat_ofNat']; omega
  have HVB := Lib.hid hvb
  subst hvv
  clear hvb hS hL hodd h100
  have hvl := vb.toNat_lt
  have HO0 := Lib.hid (rb_new5 w 72 73 66 82 (vb.toNat : Int) [72, 73, 66, 82, vb] rfl)
  have HB0 := Lib.hid (show Below w.heap.size w (w.alloc (.cells #[.int .u8 72, .int .u8 73, .int .u8 66, .int .u8 82, .int .u8 (vb.toNat : Int)] 5)) from below_alloc (Below.refl _ _) _)
  go_enter Try.func68, Try.ntmps68
  go_wp2_with fail
  refine (rshort_any (L : Int) L (by omega) (by omega) _).mono ?_
  rintro e w1 ⟨A1, c1, rfl, ho1, hb1⟩
  have H1 := Lib.hid (And.intro (HO0.out.below hb1) (And.intro ho1.rb (HB0.out.trans (hb1.mono HB0.out.size))))
  clear ho1 hb1
  have hlh := Lib.hid (show (shortB L).length = 1 by rw [shortB_one (by omega)]; rfl)
  go_wp2_with (at_builtin; refine appB w.heap.size _ 5 5 [72, 73, 66, 82, vb] A1 (shortB L).length c1 (shortB L) rfl rfl rfl rfl H1.out.1 H1.out.2.1 rfl H1.out.2.2.size (by rw [hlh.out]; omega) ?_; intro A2 c2 w2 ho2 hg2 hs2)
  have hl1 := hlh.out
  have hst : [72, 73, 66, 82, vb] ++ shortB L = startB (vb.toNat : Int) l := by unfold startB; rw [← HVB.out, hLh.out]; rfl
  rw [hst, hl1] at ho2
  have H2 := Lib.hid (And.intro ho2 (H1.out.2.2.grown hg2 H1.out.2.2.size (by intro q hq; exact own_base H1.out.1 q hq)))
  rw [hl1]
  have e6 : (5 + 1 : Nat) = 6 := rfl
  rw [e6]
  clear ho2 hg2 hs2 hst hl1 e6
  go_loopw [5, 6] (fun s i wr => ∃ (k : Nat) (A5 : Option Addr) (c5 : Nat), k ≤ L ∧ i = .int .i64 k ∧ s = .slice A5 (6 + 2 * k) c5 ∧ OB wr w.heap.size A5 (6 + 2 * k) c5 (startB (vb.toNat : Int) l ++ headB (l.take k)) ∧ Below w.heap.size w wr) (fun _ i _ => L - (intOf i).toNat)
  case atStart => exact ⟨0, A2, c2, by omega, rfl, rfl, by simpa [headB] using H2.out.1, H2.out.2⟩
  case round =>
    obtain ⟨k, A5, c5, hk, rfl, rfl, hw, hb⟩ := hrel
    have HW := Lib.hid (And.intro hw hb)
    clear hw hb
    have k0 : (0 : Int) ≤ (k : Int) := by omega
    by_cases hlt : k < L
    · have j1 : (k : Int) < (L : Int) := by omega
      obtain ⟨x, hx⟩ : ∃ x, l[k]? = some x := ⟨_, List.getElem?_eq_getElem (by have := hLh.out; omega)⟩
      have KC := Lib.hid (show ∃ ad, A = some ad ∧ ∀ wx, Below w.heap.size w wx → wx.cell? (ad.add (k * 2)) = some (.int .i64 x.k) ∧ wx.cell? ⟨(ad.add (k * 2)).block, (ad.add (k * 2)).off + 1, none⟩ = some (.slice x.A x.b.length x.c) by
        obtain ⟨ad, had, _, _⟩ := HS.out.2.2 k _ hx
        refine ⟨ad, had, fun wx h => ?_⟩
        obtain ⟨ad', had', h0, h1⟩ := (HS.out.below h).2.2 k _ hx
        rw [had] at had'
        injection had' with had'
        subst had'
        exact ⟨h0, h1⟩)
      obtain ⟨ad, rfl, hc⟩ := KC.out
      have KC := Lib.hid hc
      have hxk := HOdd.out x (List.mem_of_getElem? hx)
      have hxl := HC.out x (List.mem_of_getElem? hx)
      have HX := Lib.hid (headB_succ hx)
      obtain ⟨xb, hxb⟩ : ∃ xb : UInt8, xb = UInt8.ofNat x.k.toNat := ⟨_, rfl⟩
      have hxv : x.k = (xb.toNat : Int) := by rw [hxb, UInt8.toNat_ofNat']; omega
      have hXX := Lib.hid (show headX x = [xb] ++ shortB x.b.length by unfold headX; rw [← hxb]; rfl)
      have hxbl := xb.toNat_lt
      obtain ⟨m, hm⟩ : ∃ m, m = x.b.length := ⟨_, rfl⟩
      rw [hxv, ← hm] at KC
      rw [← hm] at hXX hxl
      obtain ⟨q0, q1⟩ := KC.out _ HW.out.2
      clear hx hxb hxv hxk hm hc
      go_wp2_with (at_builtin; refine app8 xb w.heap.size A5 _ c5 _ rfl rfl rfl rfl rfl HW.out.1 HW.out.2.size (by omega) ?_; intro A6 c6 w6 ho6 hg6 hs6; have hb6 := HW.out.2.grown hg6 HW.out.2.size (by intro q hq; exact HW.out.1.blk_base q hq); have q6 := KC.out _ hb6; obtain ⟨q60, q61⟩ := q6)
      have H6 := Lib.hid (And.intro ho6 hb6)
      clear ho6 hg6 hs6 hb6
      refine (rshort_any (m : Int) m (by omega) (by omega) _).mono ?_
      rintro e w7 ⟨A7, c7, rfl, ho7, hb7⟩
      have H7 := Lib.hid (And.intro (H6.out.1.below hb7) (And.intro ho7.rb (H6.out.2.trans (hb7.mono H6.out.2.size))))
      have hlh := Lib.hid (show (shortB m).length = 1 by rw [shortB_one (by omega)]; rfl)
      clear ho7 hb7
      go_wp2_with (at_builtin; refine appB w.heap.size A6 _ c6 _ A7 (shortB m).length c7 (shortB m) rfl rfl rfl rfl H7.out.1 H7.out.2.1 rfl H7.out.2.2.size (by rw [hlh.out]; omega) ?_; intro A8 c8 w8 ho8 hg8 hs8)
      have hl7 := hlh.out
      have hb8 := H7.out.2.2.grown hg8 H7.out.2.2.size (by intro q hq; exact own_base H7.out.1 q hq)
      rw [hl7, show startB (vb.toNat : Int) l ++ headB (l.take k) ++ [xb] ++ shortB m = startB (vb.toNat : Int) l ++ headB (l.take (k + 1)) by rw [HX.out, hXX.out]; simp [List.append_assoc]] at ho8
      rw [hl7]
      have H8 := Lib.hid (And.intro ho8 hb8)
      clear ho8 hg8 hs8 hb8 hl7
      go_roundw
      case rel => exact ⟨k + 1, A8, c8, by omega, by go_num, by rw [show 6 + 2 * (k + 1) = 6 + 2 * k + 1 + 1 by omega], by rw [show 6 + 2 * (k + 1) = 6 + 2 * k + 1 + 1 by omega]; exact H8.out.1, H8.out.2⟩
      case measure => simp [intOf]; omega
    · obtain rfl : k = L := by omega
      obtain ⟨L, rfl⟩ : ∃ L, L = k := ⟨_, rfl⟩
      have hwx := HW.out.1
      rw [List.take_of_length_le (by have := hLh.out; omega)] at hwx
      obtain ⟨N, hN⟩ : ∃ N, N = 6 + 2 * L := ⟨_, rfl⟩
      rw [← hN] at hwx ⊢
      have N40 : N ≤ 40 := by omega
      have HW1 := Lib.hid (And.intro hwx HW.out.2)
      clear hwx HW hN
      obtain ⟨wa, rfl⟩ : ∃ wa, wa = wr := ⟨_, rfl⟩
      go_wp2_with fail
      go_loopw [5, 7] (fun s i wr => ∃ (k n5 : Nat) (A5 : Option Addr) (c5 : Nat), k ≤ L ∧ i = .int .i64 k ∧ s = .slice A5 n5 c5 ∧ n5 ≤ 40 + 104 * k ∧ OB wr w.heap.size A5 n5 c5 (startB (vb.toNat : Int) l ++ headB l ++ bodyB (l.take k)) ∧ Below w.heap.size w wr) (fun _ i _ => L - (intOf i).toNat)
      case atStart => exact ⟨0, N, A5, c5, by omega, rfl, rfl, by omega, by simpa [bodyB] using HW1.out.1, HW1.out.2⟩
      case round =>
        obtain ⟨k, n5, A5, c5, hk, rfl, rfl, hn5, hw, hb⟩ := hrel
        have HW := Lib.hid (And.intro hw hb)
        clear hw hb
        have k0 : (0 : Int) ≤ (k : Int) := by omega
        by_cases hlt : k < L
        · have j1 : (k : Int) < (L : Int) := by omega
          obtain ⟨x, hx⟩ : ∃ x, l[k]? = some x := ⟨_, List.getElem?_eq_getElem (by have := hLh.out; omega)⟩
          obtain ⟨ad, had, q0, q1⟩ := (HS.out.below HW.out.2).2.2 k _ hx
          subst had
          have hxl := HC.out x (List.mem_of_getElem? hx)
          have HRB := Lib.hid ((HS.out.below HW.out.2).2.1 x (List.mem_of_getElem? hx)).2
          have HX := Lib.hid (bodyB_succ hx)
          obtain ⟨m, hm⟩ : ∃ m, m = x.b.length := ⟨_, rfl⟩
          rw [← hm] at q1 hxl
          have HM := Lib.hid hm
          clear hx hm
          go_wp2_with fail
          refine (rseal_any x.b x.A m x.c _ HM.out.symm HRB.out (by omega)).mono ?_
          rintro e w6 ⟨A6, c6, rfl, ho6, hb6⟩
          have H6 := Lib.hid (And.intro ho6 (And.intro (HW.out.1.below hb6) (HW.out.2.trans (hb6.mono HW.out.2.size))))
          clear ho6 hb6
          go_wp2_with (at_builtin; refine appB w.heap.size A5 n5 c5 _ A6 (m + 4) c6 (sealL x.b) rfl rfl rfl rfl H6.out.2.1 H6.out.1.rb H6.out.1.len H6.out.2.2.size (by omega) ?_; intro A8 c8 w8 ho8 hg8 hs8)
          have hb8 := H6.out.2.2.grown hg8 H6.out.2.2.size (by intro q hq; exact own_base H6.out.2.1 q hq)
          rw [List.append_assoc, ← HX.out] at ho8
          have H8 := Lib.hid (And.intro ho8 hb8)
          clear ho8 hg8 hs8 hb8
          go_roundw
          case rel => exact ⟨k + 1, n5 + (m + 4), A8, c8, by omega, by go_num, rfl, by omega, H8.out.1, H8.out.2⟩
          case measure => simp [intOf]; omega
        · obtain rfl : k = L := by omega
          have hwx := HW.out.1
          rw [List.take_of_length_le (by have := hLh.out; omega)] at hwx
          have HW2 := Lib.hid (And.intro hwx HW.out.2)
          clear hwx HW
          go_wp2_with fail
          refine (rseal_any _ A5 n5 c5 _ HW2.out.1.len HW2.out.1.rb (by omega)).mono ?_
          rintro e w6 ⟨A7, c7, rfl, ho6, hb6⟩
          have hsz := HW2.out.2.size
          have H6 := Lib.hid (And.intro (ho6.lower hsz) (HW2.out.2.trans (hb6.mono HW2.out.2.size)))
          clear ho6 hb6
          go_wp2
          go_ret
          exact ⟨A7, n5 + 4, c7, rfl, by omega, H6.out.1, H6.out.2⟩
end
end Go.Proofs.Ytnkbkhlbogcfaaa
