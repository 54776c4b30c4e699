/- Sections put. -/
import Derived.Test.YtnkbkhlbogcfaaaSg
import Derived.Laws.CopyRow
import Derived.Laws.MakeOwn
set_option linter.unusedVariables false
set_option linter.unusedSimpArgs false
namespace Go.Proofs.Ytnkbkhlbogcfaaa
open Go.RowKit Go.Proofs.YtnkbkhlbogcfaaaW.PrintWords
noncomputable section

theorem secCells_one (l : List SecV) : ∀ u ∈ secCells l, u.oneCell' = true := by
  intro u hu
  obtain ⟨x, _, hx⟩ := List.mem_flatMap.1 hu
  simp at hx
  rcases hx with rfl | rfl <;> rfl
theorem secCells_set {l : List SecV} {i : Nat} {x y : SecV} (h : l[i]? = some x) (hk : y.k = x.k) : secCells (l.set i y) = (secCells l).set (i * 2 + 1) (.slice y.A y.b.length y.c) := by
  induction l generalizing i with
  | nil => simp at h
  | cons z r ih =>
    cases i with
    | zero => simp at h; subst h; simp [secCells, hk]
    | succ i =>
      have h' : r[i]? = some x := by simpa using h
      have e : ∀ q s, secCells (q :: s) = .int .i64 q.k :: .slice q.A q.b.length q.c :: secCells s := fun _ _ => rfl
      rw [List.set_cons_succ, e, e, ih h', show (i + 1) * 2 + 1 = i * 2 + 1 + 1 + 1 by omega]
      rfl
set_option maxRecDepth 100000 in
theorem run_appAll {W : World} {base n c : Nat} {A : Option Addr} {l : List SecV} (ty : TypeId) (HO : OSec W base A n c l) (hn : n ≤ 1000) :
    ∃ A1 c1 w1, (Builtin.append_ #[63, 63] ty #[.slice none 0 0, .slice A n c]).run Try.prog W = .ok (.slice A1 n c1) w1 ∧ OSec w1 W.heap.size A1 n c1 l ∧ Below W.heap.size W w1 := by
  obtain ⟨i0, hi, hz0, hz1, hz2⟩ := info_parts Try.info68
  rcases A with _ | ad
  · have h0 : n = 0 := by
      rcases HO.2 with ⟨_, h⟩ | ⟨g, cap, cur, e, _⟩
      · exact h
      · injection e with e1; cases e1
    subst h0
    obtain rfl : l = [] := List.eq_nil_of_length_eq_zero HO.len
    refine ⟨none, 0, W, ?_, OSec.nil _ _, Below.refl _ _⟩
    simp [Builtin.append_, run_underlying Try.underlying63, sizeOf, typeInfo, hi, Builtin.lenOf, Builtin.firstCells]
  · rcases HO.2 with ⟨e, h⟩ | ⟨g, cap, cur, e, _, hh, _⟩
    · injection e with e1; cases e1
    · injection e with e1 e2 e3
      injection e1 with e1
      subst e1 e3
      obtain ⟨v1, w1, hr, h2, h3, _, h5⟩ := run_append_own_at (P := Try.prog) W W.heap.size 63 ty 68 i0 (.agg #[.int .i64 0, .slice none 0 0]) 2 32 Try.underlying63 hi hz0 hz1 hz2 rfl (by omega) (.slice none 0 0) 0 [] (World.ownsRow_nil _ _ _ _) ⟨g, 0, none⟩ n c (secCells l) (by rw [secCells_length, HO.len]) (HO.cells (g := g) rfl) (secCells_one l) (by simp only [maxLen]; omega) (by omega) (Nat.le_refl _)
      rw [Nat.zero_add, List.nil_append] at h2
      obtain ⟨A1, c1, rfl⟩ := own_slice h2
      exact ⟨A1, c1, w1, hr, h2, (Below.refl _ _).grown h3 (Nat.le_refl _) (fun k hk => by cases hk)⟩
set_option maxRecDepth 100000 in
theorem run_copySec {W : World} {base n c d g : Nat} {A : Option Addr} {l : List SecV} {cur : Array Value} (ty : TypeId) (HO : OSec W base A n c l) (hg : W.heap[g]? = some (.cells cur 68 (0, 0))) (hfit : n * 2 ≤ cur.size) :
    ∃ w1, (Builtin.copy_ #[63, 63] ty #[.slice (some ⟨g, 0, none⟩) n d, .slice A n c]).run Try.prog W = .ok (goInt n) w1 ∧ w1.heap[g]? = some (.cells (secCells l ++ cur.toList.drop (n * 2)).toArray 68 (0, 0)) ∧ Below g W w1 := by
  obtain ⟨i0, hi, hz0, hz1, hz2⟩ := info_parts Try.info68
  rcases A with _ | ad
  · have h0 : n = 0 := by
      rcases HO.2 with ⟨_, h⟩ | ⟨g, cap, cur, e, _⟩
      · exact h
      · injection e with e1; cases e1
    subst h0
    obtain rfl : l = [] := List.eq_nil_of_length_eq_zero HO.len
    refine ⟨W, ?_, ?_, Below.refl _ _⟩
    · simp [Builtin.copy_, run_underlying Try.underlying63, Builtin.lenOf, Builtin.firstCells, sizeOf, typeInfo, hi, storeCells]
    · rw [hg]; simp [secCells]
  · rcases HO.2 with ⟨e, h⟩ | ⟨g', cap, cur', e, _, hh, _⟩
    · injection e with e1; cases e1
    · injection e with e1 e2 e3
      injection e1 with e1
      subst e1 e3
      have hlen : (secCells l).length = n * 2 := by rw [secCells_length, HO.len]
      have hl := run_loadCells_list (P := Try.prog) W ⟨g', 0, none⟩ (secCells l) (HO.cells (g := g') rfl)
      have hst := run_storeCells_at Try.prog g 0 68 (secCells l) 0 cur W hg (by simp [hlen]; exact hfit) (secCells_one l)
      simp only [Nat.add_zero, Nat.zero_add, List.take_zero, List.nil_append, hlen] at hst
      rw [hlen] at hl
      refine ⟨W.setRow g (secCells l ++ cur.toList.drop (n * 2)).toArray, ?_, setRow_heap W g cur _ 68 _ hg, ⟨rfl, rfl, rfl, by simp [World.setRow], fun k hk => setRow_other W g k _ (by omega)⟩⟩
      simp [Builtin.copy_, run_underlying Try.underlying63, Builtin.lenOf, Builtin.firstCells, sizeOf, typeInfo, hi, hz1, hl, hst]
section
variable {ops : Array Oper} {rest : List Oper} {o : Oper} {a : Act} {Q : Exit → Act → World → Prop} {W : World} {s x : Operand}
/-- append(nil, l...) -/
theorem wpAppAll (base n c : Nat) (A : Option Addr) (l : List SecV) (hgd : o.guard = none) (ho : o.op = .call { callee := .builtin .append, args := #[s, x], argTypes := #[63, 63] })
    (hs : a.eval s = .slice none 0 0) (hx : a.eval x = .slice A n c) (HO : OSec W base A n c l) (hn : n ≤ 1000)
    (h : ∀ A1 c1 w1, OSec w1 W.heap.size A1 n c1 l → Below W.heap.size W w1 → wpList Try.prog ops Q rest (a.put o.dst (.slice A1 n c1)) w1) : wpList Try.prog ops Q (o :: rest) a W := by
  obtain ⟨A1, c1, w1, hr, h1, h2⟩ := run_appAll o.type HO hn
  refine wpList_plain hgd fun K hK => ?_
  unfold Oper.wp execOp
  simp only [ho, resolve, invoke, builtin, Sem.run_bind, Sem.run_pure, Result.andThen_ok, List.map_toArray, List.map_cons, List.map_nil, hs, hx, hr]
  exact hK _ _ (h A1 c1 w1 h1 h2)
/-- copy(out, l) -/
theorem wpCopySec (base n c d g : Nat) (A : Option Addr) (l : List SecV) (cur : Array Value) (hgd : o.guard = none) (ho : o.op = .call { callee := .builtin .copy, args := #[s, x], argTypes := #[63, 63] })
    (hs : a.eval s = .slice (some ⟨g, 0, none⟩) n d) (hx : a.eval x = .slice A n c) (HO : OSec W base A n c l) (hg : W.heap[g]? = some (.cells cur 68 (0, 0))) (hfit : n * 2 ≤ cur.size)
    (h : ∀ w1, w1.heap[g]? = some (.cells (secCells l ++ cur.toList.drop (n * 2)).toArray 68 (0, 0)) → Below g W w1 → wpList Try.prog ops Q rest (a.put o.dst (goInt n)) w1) : wpList Try.prog ops Q (o :: rest) a W := by
  obtain ⟨w1, hr, h1, h2⟩ := run_copySec (d := d) o.type HO hg hfit
  refine wpList_plain hgd fun K hK => ?_
  unfold Oper.wp execOp
  simp only [ho, resolve, invoke, builtin, Sem.run_bind, Sem.run_pure, Result.andThen_ok, List.map_toArray, List.map_cons, List.map_nil, hs, hx, hr]
  exact hK _ _ (h w1 h1 h2)
/-- make([]Section, n, n + 1) -/
theorem wpMakeSec (n : Nat) (hgd : o.guard = none) (ho : o.op = .makeSlice 63 s x) (hs : a.eval s = .int .i64 n) (hx : a.eval x = .int .i64 ((n : Int) + 1)) (hn : n ≤ 1000)
    (h : ∀ cur : Array Value, cur.size = (n + 1) * 2 → wpList Try.prog ops Q rest (a.put o.dst (.slice (some ⟨W.heap.size, 0, none⟩) n (n + 1))) (W.alloc (.cells cur 68))) : wpList Try.prog ops Q (o :: rest) a W := by
  obtain ⟨i0, hi, hz0, hz1, hz2⟩ := info_parts Try.info68
  have hr := run_make (P := Try.prog) W 63 68 i0 _ Try.underlying63 hi hz0 .i64 .i64 (n : Int) ((n : Int) + 1) (by omega) (by omega) (by rw [hz2]; omega) (by omega)
  have e1 : ((n : Int) + 1).toNat = n + 1 := by omega
  rw [Int.toNat_natCast, e1, hz1] at hr
  refine wpList_plain hgd fun K hK => ?_
  unfold Oper.wp execOp
  simp only [ho, Sem.run_bind, Sem.run_pure, Result.andThen_ok, hs, hx, hr]
  exact hK _ _ (h _ (size_madeCells _ _))
end
/-- a Body is stored -/
theorem OSec.store {w : World} {base n c g i : Nat} {l : List SecV} {x y : SecV} (h : OSec w base (some ⟨g, 0, none⟩) n c l) (hx : l[i]? = some x) (hk : y.k = x.k) :
    w.cell? ⟨g, i * 2 + 1, none⟩ = some (.slice x.A x.b.length x.c) ∧ w.frozen? ⟨g, i * 2 + 1, none⟩ = false ∧ OSec (w.setCell ⟨g, i * 2 + 1, none⟩ (.slice y.A y.b.length y.c)) base (some ⟨g, 0, none⟩) n c (l.set i y) := by
  have hc := h.cells (g := g) rfl _ _ (secCells_at hx).2
  rw [add_plain] at hc
  rcases h.2 with ⟨e, h0⟩ | ⟨g', cap, cur, e, hbg, hh, hnc, hcm, hcs, htk⟩
  · injection e with e1; cases e1
  · injection e with e1 e2 e3
    injection e1 with e1
    injection e1 with e1
    subst e1 e3
    refine ⟨hc, by simp [World.frozen?, hh], ?_, .inr ⟨g, c, cur.setIfInBounds (i * 2 + 1) (.slice y.A y.b.length y.c), rfl, hbg, heap_setCell_same _ _ _ _ _ _ hh, hnc, hcm, by simpa using hcs, ?_⟩⟩
    · rw [secCells_length, List.length_set, h.len]
    · rw [secCells_set hx hk, ← htk, Array.toList_setIfInBounds, List.take_set]
/-- sections, one put -/
def putL (l : List SecV) (K : Int) (y : SecV) : List SecV := if fnd K l < l.length then l.set (fnd K l) y else l ++ [y]
end
end Go.Proofs.Ytnkbkhlbogcfaaa
