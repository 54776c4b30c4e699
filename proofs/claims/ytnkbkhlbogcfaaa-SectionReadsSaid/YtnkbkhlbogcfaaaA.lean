/- Words of this seat: a writer in memory, numbers as bytes. -/
import Derived.Test.YtnkbkhlbogcfaaaProg
import Derived.Test.YtnkbkhlbogcfaaaWWords
import Derived.Lib.Hide
import Derived.WalkSpells
import Derived.WalkLawsBesides
import Derived.Lib.SlBytesConst
import Derived.Lib.SmallJoins
set_option linter.unusedVariables false
set_option linter.unusedSimpArgs false
namespace Go.Proofs.Ytnkbkhlbogcfaaa
open Go.RowKit Go.Proofs.YtnkbkhlbogcfaaaW.PrintWords

theorem Try.info5 : (Try.prog.info? 5).map (fun i => (i.zero, i.size, i.bytes)) = some (some (.int .u8 0), 1, 1) := by kernel_rfl

/-- a writer: block p holds its slice, that owns xs -/
def Wr (w : World) (p : Nat) (v : Value) (xs : List Int) : Prop :=
  w.heap[p]? = some (.cells #[v] 38 (0, 0)) ∧ w.ownsRow 0 5 1 v xs.length (nums .u8 xs)

/-- only block p and row may have turned -/
structure Mod (w w' : World) (p : Nat) (row : Option Nat) : Prop where
  os : w'.os = w.os
  tape : w'.tape = w.tape
  output : w'.output = w.output
  size : w.heap.size ≤ w'.heap.size
  block : ∀ k, k < w.heap.size → k ≠ p → some k ≠ row → w'.heap[k]? = w.heap[k]?

theorem Mod.refl (w : World) (p : Nat) (row : Option Nat) : Mod w w p row := ⟨rfl, rfl, rfl, Nat.le_refl _, fun _ _ _ _ => rfl⟩

theorem Mod.setCell {w w1 : World} {p : Nat} {row : Option Nat} (h : Mod w w1 p row) (o : Nat) (v : Value) : Mod w (w1.setCell ⟨p, o, none⟩ v) p row :=
  ⟨h.os, h.tape, h.output, by simpa using h.size, fun k hk hp hr => by rw [Below.heap_setCell _ _ _ _ (by simpa using hp)]; exact h.block k hk hp hr⟩
theorem Mod.drew {w w1 : World} {p : Nat} {row : Option Nat} (h : Mod w w1 p row) : Mod w w1.drew p row := ⟨h.os, h.tape, h.output, h.size, h.block⟩

/-- a row is as it was, or new -/
def Succ (w : World) (a b : Option Nat) : Prop := b = a ∨ ∃ k, b = some k ∧ w.heap.size ≤ k
theorem Succ.refl (w : World) (a : Option Nat) : Succ w a a := .inl rfl

theorem Mod.trans {w w1 w2 : World} {p : Nat} {r1 r2 : Option Nat} (h : Mod w w1 p r1) (hs : Succ w r1 r2) (k : Mod w1 w2 p r2) : Mod w w2 p r1 := by
  refine ⟨k.os.trans h.os, k.tape.trans h.tape, k.output.trans h.output, Nat.le_trans h.size k.size, fun i hi hp hr => ?_⟩
  have hlt := Nat.lt_of_lt_of_le hi h.size
  rw [k.block i hlt hp ?_, h.block i hi hp hr]
  rcases hs with rfl | ⟨j, rfl, hj⟩
  · exact hr
  · intro e; injection e with e; omega
theorem Succ.trans {w w1 : World} {a b c : Option Nat} (hz : w.heap.size ≤ w1.heap.size) (h : Succ w a b) (k : Succ w1 b c) : Succ w a c := by
  rcases k with rfl | ⟨j, rfl, hj⟩
  · exact h
  · exact .inr ⟨j, rfl, by omega⟩

/-- what one append and the store of its slice do to a writer -/
theorem wr_push {w w1 : World} {p : Nat} {v v1 : Value} {xs ys : List Int} (h : Wr w p v xs) (ho : w1.ownsRow 0 5 1 v1 ys.length (nums .u8 ys)) (hg : w.grownBy w1 v.ownBlock)
    (hf : v1.ownBlock = v.ownBlock ∨ ∃ b, v1.ownBlock = some b ∧ w.heap.size ≤ b) :
    w1.cell? ⟨p, 0, none⟩ = some v ∧ w1.frozen? ⟨p, 0, none⟩ = false ∧ Wr (w1.setCell ⟨p, 0, none⟩ v1) p v1 ys ∧ Mod w (w1.setCell ⟨p, 0, none⟩ v1) p v.ownBlock ∧ Succ w v.ownBlock v1.ownBlock := by
  have hpl : p < w.heap.size := (Array.getElem?_eq_some_iff.1 h.1).1
  have hne : v.ownBlock ≠ some p := by
    rcases h.2.2 with ⟨rfl, _⟩ | ⟨g, cap, cur, rfl, _, hh, _⟩
    · simp [Value.ownBlock]
    · simp only [Value.ownBlock]
      intro e
      injection e with e
      subst e
      rw [h.1] at hh
      injection hh with hh
      injection hh with _ ht
      exact absurd ht (by decide)
  have hb : w1.heap[p]? = some (.cells #[v] 38 (0, 0)) := (hg.block p hpl (fun e => hne e.symm)).trans h.1
  have hne1 : v1.ownBlock ≠ some p := by
    rcases hf with e | ⟨b, e, hb⟩
    · rw [e]; exact hne
    · rw [e]; intro e; injection e with e; omega
  refine ⟨cell_of_one hb, free_of_one hb, ⟨one_setCell hb, ownsRow_setCell_other ho hne1 _⟩, ⟨hg.os, hg.tape, hg.output, by simpa using hg.size, fun k hk hkp hkr => ?_⟩, hf⟩
  rw [Below.heap_setCell _ _ _ _ (by simpa using hkp), hg.block k hk hkr]

section
variable {ops : Array Oper} {rest : List Oper} {o : Oper} {a : Act} {Q : Exit → Act → World → Prop} {W : World} {s x : Operand}
theorem wpList_build {P : Program} (t : TypeId) (parts : List (Nat × Operand)) (hgd : o.guard = none) (ho : o.op = .build t parts.toArray) (vals : List (Nat × Value)) (hv : (parts.map fun p => (p.1, a.eval p.2)) = vals) {v : Value} {W' : World}
    (hr : (Instr.build t vals.toArray).run P W = .ok v W') (h : wpList P ops Q rest (a.put o.dst v) W') : wpList P ops Q (o :: rest) a W := by
  refine wpList_plain hgd fun K hK => ?_
  subst hv
  unfold Oper.wp execOp
  simp only [ho, List.map_toArray]
  have e : (List.map (fun x => match x with | (i, x) => (i, a.eval x)) parts) = parts.map fun p => (p.1, a.eval p.2) := rfl
  rw [e]
  simp only [Sem.run_bind, Sem.run_pure, hr, Result.andThen_ok]
  exact hK _ _ h

theorem run_mins (k : IntKind) (ys : List Int) : ∀ x : Int, (ys.map (Value.int k)).foldlM Builtin.min2 (.int k x) = (pure (.int k (ys.foldl min x)) : Sem Value) := by
  induction ys with
  | nil => intro x; rfl
  | cons y ys ih =>
    intro x
    simp only [List.map_cons, List.foldlM_cons, List.foldl_cons]
    have e : Builtin.min2 (.int k x) (.int k y) = (pure (.int k (min x y)) : Sem Value) := by
      simp only [Builtin.min2]
      congr 2
      rw [Int.min_def]
      split <;> split <;> omega
    rw [e]
    exact ih _
theorem run_maxs (k : IntKind) (ys : List Int) : ∀ x : Int, (ys.map (Value.int k)).foldlM Builtin.max2 (.int k x) = (pure (.int k (ys.foldl max x)) : Sem Value) := by
  induction ys with
  | nil => intro x; rfl
  | cons y ys ih =>
    intro x
    simp only [List.map_cons, List.foldlM_cons, List.foldl_cons]
    have e : Builtin.max2 (.int k x) (.int k y) = (pure (.int k (max x y)) : Sem Value) := by
      simp only [Builtin.max2]
      congr 2
      rw [Int.max_def]
      split <;> split <;> omega
    rw [e]
    exact ih _
/-- min of whole numbers, told under one name -/
theorem wpList_min {P : Program} (k : IntKind) (x : Int) (ys : List Int) (m : Int) (args : List Operand) (ts : Array TypeId) (hgd : o.guard = none) (ho : o.op = .call { callee := .builtin .min, args := args.toArray, argTypes := ts })
    (hv : args.map a.eval = (x :: ys).map (Value.int k)) (hm : ys.foldl min x = m) (h : wpList P ops Q rest (a.put o.dst (.int k m)) W) : wpList P ops Q (o :: rest) a W := by
  refine wpList_plain hgd fun K hK => ?_
  unfold Oper.wp execOp
  simp only [ho, resolve, invoke, builtin, Sem.run_bind, Sem.run_pure, Result.andThen_ok, List.map_toArray, hv, Builtin.min_, List.map_cons, run_mins, hm]
  exact hK _ _ h
theorem wpList_max {P : Program} (k : IntKind) (x : Int) (ys : List Int) (m : Int) (args : List Operand) (ts : Array TypeId) (hgd : o.guard = none) (ho : o.op = .call { callee := .builtin .max, args := args.toArray, argTypes := ts })
    (hv : args.map a.eval = (x :: ys).map (Value.int k)) (hm : ys.foldl max x = m) (h : wpList P ops Q rest (a.put o.dst (.int k m)) W) : wpList P ops Q (o :: rest) a W := by
  refine wpList_plain hgd fun K hK => ?_
  unfold Oper.wp execOp
  simp only [ho, resolve, invoke, builtin, Sem.run_bind, Sem.run_pure, Result.andThen_ok, List.map_toArray, hv, Builtin.max_, List.map_cons, run_maxs, hm]
  exact hK _ _ h

/-- append(v, y) of bytes, v owned -/
theorem app1 (base : Nat) (A : Option Addr) (n c : Nat) (xs : List Int) {y : Int} (hgd : o.guard = none) (ho : o.op = .call { callee := .builtin .append, args := #[s, x], argTypes := #[22, 22] })
    (hs : a.eval s = .slice A n c) (hx : a.eval x = .slice (some ⟨W.heap.size, 0, none⟩) 1 1) (HO : W.ownsRow base 5 1 (.slice A n c) n (nums .u8 xs)) (hbase : base ≤ W.heap.size) (hl : n + 1 ≤ 140737488355328)
    (h : ∀ A1 c1 w1, w1.ownsRow base 5 1 (.slice A1 (n + 1) c1) (n + 1) (nums .u8 (xs ++ [y])) → W.grownBy w1 (Value.slice A n c).ownBlock →
      Succ W (Value.slice A n c).ownBlock (Value.slice A1 (n + 1) c1).ownBlock → wpList Try.prog ops Q rest (a.put o.dst (.slice A1 (n + 1) c1)) w1) :
    wpList Try.prog ops Q (o :: rest) a (W.alloc (.cells #[.int .u8 y] 5)) := by
  have hn : xs.length = n := by have := HO.1; simpa [nums] using this
  subst hn
  refine print_append_num (w0 := W) base hgd s x 22 5 .u8 1 ho Try.underlying22 Try.info5 (by omega) _ xs y hs hx HO (Below.refl _ _) hbase (by omega) fun v1 w1 h1 _ h3 h4 => ?_
  obtain ⟨A1, c1, rfl⟩ := own_slice h1
  simp only [List.length_append, List.length_singleton] at h1 h3 h4 ⊢
  exact h A1 c1 w1 h1 h3 h4
/-- app1 at a step of a region that draws its order -/
theorem step_app1 {K : Act → World → Prop} {E : Prop} (base : Nat) (A : Option Addr) (n c : Nat) (xs : List Int) {y : Int} (hgd : o.guard = none) (ho : o.op = .call { callee := .builtin .append, args := #[s, x], argTypes := #[22, 22] })
    (hs : a.eval s = .slice A n c) (hx : a.eval x = .slice (some ⟨W.heap.size, 0, none⟩) 1 1) (HO : W.ownsRow base 5 1 (.slice A n c) n (nums .u8 xs)) (hbase : base ≤ W.heap.size) (hl : n + 1 ≤ 140737488355328)
    (h : ∀ A1 c1 w1, w1.ownsRow base 5 1 (.slice A1 (n + 1) c1) (n + 1) (nums .u8 (xs ++ [y])) → W.grownBy w1 (Value.slice A n c).ownBlock →
      Succ W (Value.slice A n c).ownBlock (Value.slice A1 (n + 1) c1).ownBlock → K (a.put o.dst (.slice A1 (n + 1) c1)) w1) :
    if Region.wanted o (yielded ops a.tmps) = true then Oper.wp Try.prog o a (W.alloc (.cells #[.int .u8 y] 5)) K Q else E := by
  have hn : xs.length = n := by have := HO.1; simpa [nums] using this
  subst hn
  obtain ⟨i0, hi, hz0, hz1, hz2⟩ := info_parts Try.info5
  have hw : Region.wanted o (yielded ops a.tmps) = true := by simp [Region.wanted, hgd]
  rw [if_pos hw]
  obtain ⟨v1, w1, hr, h2, h3, _, h5⟩ := run_append_own_at (P := Try.prog) (W.alloc (.cells #[.int .u8 y] 5)) base 22 o.type 5 i0 (.int .u8 0) 1 1 Try.underlying22 hi hz0 hz1 hz2 rfl (by omega) _ xs.length (nums .u8 xs) (HO.alloc _) ⟨W.heap.size, 0, none⟩ 1 1 [.int .u8 y] rfl
    (World.news_of_block (cs := #[.int .u8 y]) (t := 5) (fr := (0, 0)) (heap_alloc_new W _)) (by intro u hu; simp at hu; subst hu; rfl) (by simp only [maxLen]; omega) (by omega) (by simp; omega)
  have h2' : w1.ownsRow base 5 1 v1 (xs.length + 1) (nums .u8 (xs ++ [y])) := by simpa [nums] using h2
  obtain ⟨A1, c1, rfl⟩ := own_slice h2'
  unfold Oper.wp execOp
  simp only [ho, resolve, invoke, builtin, Sem.run_bind, Sem.run_pure, Result.andThen_ok, List.map_toArray, List.map_cons, List.map_nil, hs, hx, hr]
  refine h A1 c1 w1 h2' (World.grownBy.trans (World.grownBy_alloc W _ _) h3) ?_
  rcases h5 with h5 | h5
  · exact .inl h5
  · exact .inr ⟨_, h5, by simp⟩
end

def shortL (n : Nat) : List Int := if h : n < 128 then [(n : Int)] else ((128 + n % 128 : Nat) : Int) :: shortL (n / 128)
termination_by n
decreasing_by omega
theorem shortL_one {n : Nat} (h : n < 128) : shortL n = [(n : Int)] := by rw [shortL, dif_pos h]
theorem shortL_more {n : Nat} (h : ¬ n < 128) : shortL n = ((128 + n % 128 : Nat) : Int) :: shortL (n / 128) := by rw [shortL, dif_neg h]
theorem shortL_len (k : Nat) : ∀ n, n < 128 ^ (k + 1) → (shortL n).length ≤ k + 1 := by
  induction k with
  | zero => intro n h; rw [shortL_one (by omega)]; simp
  | succ k ih =>
    intro n h
    by_cases hn : n < 128
    · rw [shortL_one hn]; simp
    · rw [shortL_more hn]
      have : n / 128 < 128 ^ (k + 1) := by
        apply Nat.div_lt_of_lt_mul
        rw [Nat.pow_succ] at h
        omega
      have := ih _ this
      simp only [List.length_cons]; omega

/-- bytes as the cells' numbers -/
def bv (b : List UInt8) : List Int := b.map fun x => (x.toNat : Int)
theorem bv_length (b : List UInt8) : (bv b).length = b.length := by simp [bv]
theorem bv_append (a b : List UInt8) : bv (a ++ b) = bv a ++ bv b := by simp [bv]
/-- a slice reads as bytes -/
def RB (w : World) (A : Option Addr) (b : List UInt8) : Prop := ReadsInt w .u8 A b.length (bv b)
theorem RB.at_ {w : World} {A : Option Addr} {b : List UInt8} (h : RB w A b) {k : Nat} {x : UInt8} (hk : b[k]? = some x) : ∃ ad, A = some ad ∧ w.cell? (ad.add k) = some (.int .u8 (x.toNat : Int)) := by
  have hl : k < b.length := (List.getElem?_eq_some_iff.1 hk).1
  obtain ⟨ad, e, hc⟩ := h.2.2 (by omega)
  refine ⟨ad, e, ?_⟩
  rw [hc k hl]
  simp [bv, List.getD_eq_getElem?_getD, hk]
theorem RB.below {w w1 : World} {A : Option Addr} {b : List UInt8} (h : RB w A b) (hb : Below w.heap.size w w1) : RB w1 A b := ReadsInt.below h hb
/-- the block of a slice is not one of these -/
def Apart (A : Option Addr) (S : Nat → Prop) : Prop := ∀ ad, A = some ad → ¬ S ad.block
theorem u8x (x y : UInt8) : bits BinOp.xor .u8 (x.toNat : Int) (y.toNat : Int) = ((x ^^^ y).toNat : Int) := by
  rw [u8_xor_nat _ _ (by have := x.toNat_lt; omega) (by have := y.toNat_lt; omega), UInt8.toNat_xor]
theorem bv_snoc (a : List UInt8) (x : UInt8) : bv (a ++ [x]) = bv a ++ [(x.toNat : Int)] := by simp [bv]
theorem add_block (ad : Addr) (k : Nat) : (ad.add k).block = ad.block := by unfold Addr.add; split <;> rfl
theorem RB.keep {w w1 : World} {A : Option Addr} {b : List UInt8} (h : RB w A b) (hk : ∀ ad, A = some ad → 0 < b.length → w1.heap[ad.block]? = w.heap[ad.block]?) : RB w1 A b :=
  ⟨h.1, h.2.1, fun hn => by
    obtain ⟨ad, e, hc⟩ := h.2.2 hn
    refine ⟨ad, e, fun j hj => ?_⟩
    rw [World.cell?_of_block (w := w) (w' := w1) (by rw [add_block]; exact hk ad e hn)]
    exact hc j hj⟩
theorem RB.lt {w : World} {A : Option Addr} {b : List UInt8} (h : RB w A b) {ad : Addr} (e : A = some ad) (hn : 0 < b.length) : ad.block < w.heap.size := by
  obtain ⟨ad', e', hc⟩ := h.2.2 hn
  rw [e] at e'
  injection e' with e'
  subst e'
  have := World.block_lt_of_cell? w _ (hc 0 hn)
  rwa [add_block] at this
theorem rb_block {w : World} {g : Nat} {cs : Array Value} {ty : TypeId} {fr : Nat × Nat} {b : List UInt8} (h : w.heap[g]? = some (.cells cs ty fr)) (hl : b.length ≤ 9223372036854775807)
    (hc : ∀ (j : Nat) (x : UInt8), b[j]? = some x → cs[j]? = some (Value.int .u8 (x.toNat : Int))) : RB w (some ⟨g, 0, none⟩) b := by
  refine ⟨bv_length b, hl, fun hn => ⟨_, rfl, fun j hj => ?_⟩⟩
  rw [add_plain, cell_of_row w g j cs ty fr h]
  obtain ⟨x, hx⟩ : ∃ x, b[j]? = some x := ⟨_, List.getElem?_eq_getElem hj⟩
  rw [hc j x hx]
  simp [bv, List.getD_eq_getElem?_getD, hx]
theorem RB.take {w : World} {A : Option Addr} {b : List UInt8} (h : RB w A b) (n : Nat) (hn : n ≤ b.length) : RB w A (b.take n) := by
  have h1 := ReadsInt.take_ h n (by exact hn)
  unfold RB
  rw [List.length_take, Nat.min_eq_left hn]
  have e : bv (b.take n) = (bv b).take n := by simp [bv, List.map_take]
  rw [e]
  exact h1
theorem own_rb {w : World} {base n c : Nat} {A : Option Addr} {b : List UInt8} (h : w.ownsRow base 5 1 (.slice A n c) n (nums .u8 (bv b))) : b.length = n ∧ RB w A b ∧ n ≤ c := by
  have hl : b.length = n := by have := h.1; simpa [nums, bv] using this
  obtain ⟨A', c', e, hr⟩ := own_reads h
  injection e with e1 e2 e3
  subst e1 e3
  subst hl
  refine ⟨rfl, hr, ?_⟩
  rcases h.2 with ⟨e, _⟩ | ⟨g, cap, cur, e, _, _, h1, _⟩
  · injection e with _ e2 e3; omega
  · injection e with _ _ e3; omega
theorem Mod.below {w w' : World} {p : Nat} {row : Option Nat} {B : Nat} (h : Mod w w' p row) (hB : B ≤ w.heap.size) (hp : B ≤ p) (hr : ∀ k, row = some k → B ≤ k) : Below B w w' :=
  ⟨h.os, h.tape, h.output, h.size, fun k hk => h.block k (by omega) (by omega) (fun e => by have := hr k e.symm; omega)⟩

end Go.Proofs.Ytnkbkhlbogcfaaa
