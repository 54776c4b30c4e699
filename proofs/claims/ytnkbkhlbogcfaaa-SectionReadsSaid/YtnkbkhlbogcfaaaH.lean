/- A writer in memory: what each of its methods puts. -/
import Derived.Test.YtnkbkhlbogcfaaaF
set_option linter.unusedVariables false
set_option linter.unusedSimpArgs false
namespace Go.Proofs.Ytnkbkhlbogcfaaa
open Go.RowKit Go.Proofs.YtnkbkhlbogcfaaaW.PrintWords
noncomputable section

/-- the block of a slice -/
def blk (A : Option Addr) : Option Nat := A.map (·.block)
theorem own_blk (A : Option Addr) (n c : Nat) : (Value.slice A n c).ownBlock = blk A := by cases A <;> rfl
theorem OB.blk_base {w : World} {base n c : Nat} {A : Option Addr} {b : List UInt8} (h : OB w base A n c b) : ∀ k, blk A = some k → base ≤ k := by
  intro k hk; exact h.base k (by rw [own_blk]; exact hk)
theorem OB.blk_lt {w : World} {base n c : Nat} {A : Option Addr} {b : List UInt8} (h : OB w base A n c b) : ∀ k, blk A = some k → k < w.heap.size := by
  intro k hk; exact own_lt h k (by rw [own_blk]; exact hk)
theorem OB.mod {w w' : World} {base n c p : Nat} {row : Option Nat} {A : Option Addr} {b : List UInt8} (h : OB w base A n c b) (hm : Mod w w' p row) (h1 : blk A ≠ some p) (h2 : ∀ k, blk A = some k → row ≠ some k) : OB w' base A n c b := by
  refine own_move h fun k hk => hm.block k (own_lt h k hk) ?_ ?_
  · rintro rfl; rw [own_blk] at hk; exact h1 hk
  · rw [own_blk] at hk; intro e; exact h2 k hk e.symm
/-- a row of bytes lies in a block of bytes -/
theorem OB.blk_type {w : World} {base n c : Nat} {A : Option Addr} {b : List UInt8} (h : OB w base A n c b) : ∀ k, blk A = some k → ∃ cur, w.heap[k]? = some (.cells cur 5 (0, 0)) := by
  intro k hk
  rcases h.2 with ⟨e, _⟩ | ⟨g, cap, cur, e, _, hh, _⟩
  · injection e with e _ _; subst e; cases hk
  · injection e with e _ _; subst e; injection hk with hk; subst hk; exact ⟨cur, hh⟩

/-- a string's bytes -/
def sb (s : ByteArray) : List UInt8 := s.data.toList
theorem sb_length (s : ByteArray) : (sb s).length = s.size := by simp [sb]
theorem nums_sb (s : ByteArray) : nums .u8 (bv (sb s)) = Lib.strCells s := by simp [nums, bv, sb, Lib.strCells]

section
variable {P : Program} {ops : Array Oper} {rest : List Oper} {o : Oper} {a : Act} {Q : Exit → Act → World → Prop} {W : World} {s x : Operand}
theorem run_append_str (base : Nat) (A : Option Addr) (n c : Nat) (xs : List UInt8) (y : ByteArray) (ty : TypeId) (HO : OB W base A n c xs) (hbase : base ≤ W.heap.size) (hl : n + y.size ≤ 140737488355328) :
    ∃ A1 c1 w1, (Builtin.append_ #[22, 9] ty #[.slice A n c, .string y]).run Try.prog W = .ok (.slice A1 (n + y.size) c1) w1 ∧ OB w1 base A1 (n + y.size) c1 (xs ++ sb y) ∧ W.grownBy w1 (blk A) ∧ Succ W (blk A) (blk A1) := by
  obtain ⟨i0, hi, hz0, hz1, hz2⟩ := info_parts Try.info5
  obtain ⟨v', w', hr, h2, h3, h4⟩ := Lib.run_append_own_string (P := Try.prog) W base 22 9 ty 5 i0 Try.underlying22 Try.underlying9 hi hz0 hz1 hz2 (.slice A n c) n (nums .u8 (bv xs)) HO y (by simp only [maxLen]; omega) hl hbase
  obtain ⟨A1, c1, rfl⟩ := own_slice h2
  rw [own_blk] at h3
  refine ⟨A1, c1, w', hr, ?_, h3, ?_⟩
  · unfold OB
    rw [bv_append, nums_append, nums_sb]
    exact h2
  · have hxl : (nums .u8 (bv xs)).length = n := by simpa using HO.1
    rcases HO.2 with ⟨e, hn⟩ | ⟨g, cap, cur, e, hbg, hg, hnc, hcm, hcs, htake⟩
    · injection e with e1 e2 e3
      subst e1 e2 e3
      by_cases hm : y.size = 0
      · have := h4.2 ⟨rfl, hm⟩
        injection this with this
        subst this
        exact .inl rfl
      · have hr2 := Go.run_append_nil_string (P := Try.prog) W 22 9 ty 5 i0 (.int .u8 0) Try.underlying22 Try.underlying9 hi hz0 y (by omega) (by omega) (by rw [hz2]; omega)
        rw [hr2] at hr
        injection hr with hr _
        injection hr with hr _
        subst hr
        exact .inr ⟨_, rfl, Nat.le_refl _⟩
    · injection e with e1 e2 e3
      subst e1 e3
      by_cases hroom : n + y.size ≤ c
      · have hr2 := Lib.run_append_room_string (P := Try.prog) W 22 9 ty 5 i0 Try.underlying22 Try.underlying9 hi hz1 g n c cur hg y hroom (by simp at hcs; omega)
        rw [hr2] at hr
        injection hr with hr _
        injection hr with hr _
        subst hr
        exact .inl rfl
      · have holds : ∀ j u, (nums .u8 (bv xs))[j]? = some u → W.cell? ((⟨g, 0, none⟩ : Addr).add j) = some u := HO.cells (g := g) rfl
        have hr2 := Lib.run_append_grow_string (P := Try.prog) W 22 9 ty 5 i0 (.int .u8 0) Try.underlying22 Try.underlying9 hi hz0 ⟨g, 0, none⟩ n c (nums .u8 (bv xs)) (by rw [hz1]; simpa using hxl) holds y (by omega) (by omega) (by rw [hz2]; exact growslice_fits (by omega) (by omega))
        rw [hr2] at hr
        injection hr with hr _
        injection hr with hr _
        subst hr
        exact .inr ⟨_, rfl, Nat.le_refl _⟩
/-- append(v, s...), s a string -/
theorem appS (base : Nat) (A : Option Addr) (n c : Nat) (xs : List UInt8) (y : ByteArray) (hgd : o.guard = none) (ho : o.op = .call { callee := .builtin .append, args := #[s, x], argTypes := #[22, 9] })
    (hs : a.eval s = .slice A n c) (hx : a.eval x = .string y) (HO : OB W base A n c xs) (hbase : base ≤ W.heap.size) (hl : n + y.size ≤ 140737488355328)
    (h : ∀ A1 c1 w1, OB w1 base A1 (n + y.size) c1 (xs ++ sb y) → W.grownBy w1 (blk A) → Succ W (blk A) (blk A1) → wpList Try.prog ops Q rest (a.put o.dst (.slice A1 (n + y.size) c1)) w1) :
    wpList Try.prog ops Q (o :: rest) a W := by
  obtain ⟨A1, c1, w1, hr, h1, h2, h3⟩ := run_append_str base A n c xs y o.type HO hbase hl
  refine wpList_plain hgd fun K hK => ?_
  unfold Oper.wp execOp
  simp only [ho, resolve, invoke, builtin, Sem.run_bind, Sem.run_pure, Result.andThen_ok, List.map_toArray, List.map_cons, List.map_nil, hs, hx, hr]
  exact hK _ _ (h A1 c1 w1 h1 h2 h3)
end

/-- a writer at p, in blocks from base on -/
structure WrB (w : World) (base p : Nat) (A : Option Addr) (n c : Nat) (xs : List UInt8) : Prop where
  blk : w.heap[p]? = some (.cells #[.slice A n c] 38 (0, 0))
  own : OB w base A n c xs
  base_p : base ≤ p
theorem WrB.lt {w : World} {base p n c : Nat} {A : Option Addr} {xs : List UInt8} (h : WrB w base p A n c xs) : p < w.heap.size := (Array.getElem?_eq_some_iff.1 h.blk).1
theorem WrB.ne {w : World} {base p n c : Nat} {A : Option Addr} {xs : List UInt8} (h : WrB w base p A n c xs) : Ytnkbkhlbogcfaaa.blk A ≠ some p := by
  intro e
  obtain ⟨cur, hc⟩ := h.own.blk_type p e
  rw [h.blk] at hc
  injection hc with hc
  injection hc with _ ht
  exact absurd ht (by decide)
theorem WrB.below {w w1 : World} {base p n c : Nat} {A : Option Addr} {xs : List UInt8} (h : WrB w base p A n c xs) (hb : Below w.heap.size w w1) : WrB w1 base p A n c xs :=
  ⟨(hb.block p h.lt).trans h.blk, h.own.below hb, h.base_p⟩
/-- what one append and the store of its slice do to a writer -/
theorem WrB.push {w w1 : World} {base p n c n1 c1 : Nat} {A A1 : Option Addr} {xs ys : List UInt8} (h : WrB w base p A n c xs) (ho : OB w1 base A1 n1 c1 ys) (hg : w.grownBy w1 (Ytnkbkhlbogcfaaa.blk A))
    (hf : Succ w (Ytnkbkhlbogcfaaa.blk A) (Ytnkbkhlbogcfaaa.blk A1)) :
    w1.cell? ⟨p, 0, none⟩ = some (.slice A n c) ∧ w1.frozen? ⟨p, 0, none⟩ = false ∧ WrB (w1.setCell ⟨p, 0, none⟩ (.slice A1 n1 c1)) base p A1 n1 c1 ys ∧ Mod w (w1.setCell ⟨p, 0, none⟩ (.slice A1 n1 c1)) p (Ytnkbkhlbogcfaaa.blk A) := by
  have hpl := h.lt
  have hne := h.ne
  have hb : w1.heap[p]? = some (.cells #[.slice A n c] 38 (0, 0)) := (hg.block p hpl (fun e => hne e.symm)).trans h.blk
  have hne1 : Ytnkbkhlbogcfaaa.blk A1 ≠ some p := by
    rcases hf with e | ⟨b, e, hb⟩
    · rw [e]; exact hne
    · rw [e]; intro e; injection e with e; omega
  refine ⟨cell_of_one hb, free_of_one hb, ⟨one_setCell hb, ownsRow_setCell_other ho (by rw [own_blk]; exact hne1) _, h.base_p⟩, ⟨hg.os, hg.tape, hg.output, by simpa using hg.size, fun k hk hkp hkr => ?_⟩⟩
  rw [Below.heap_setCell _ _ _ _ (by simpa using hkp), hg.block k hk hkr]
/-- a new writer -/
theorem WrB.new (w : World) : WrB (w.alloc (.cells #[.slice none 0 0] 38)) w.heap.size w.heap.size none 0 0 [] := ⟨heap_alloc_new w _, OB.nil _ _, Nat.le_refl _⟩
theorem WrB.mod_below {w w' : World} {base p n c : Nat} {A : Option Addr} {xs : List UInt8} (h : WrB w base p A n c xs) (hb : base ≤ w.heap.size) (hm : Mod w w' p (Ytnkbkhlbogcfaaa.blk A)) : Below base w w' :=
  hm.below hb h.base_p h.own.blk_base
theorem WrB.base_le {w : World} {base p n c : Nat} {A : Option Addr} {xs : List UInt8} (h : WrB w base p A n c xs) : base ≤ w.heap.size := by have := h.lt; have := h.base_p; omega
end
end Go.Proofs.Ytnkbkhlbogcfaaa
