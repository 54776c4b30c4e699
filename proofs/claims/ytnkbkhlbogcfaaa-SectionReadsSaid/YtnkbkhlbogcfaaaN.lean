/- Things that are written: their bytes; a writer beside bytes of one's own. -/
import Derived.Test.YtnkbkhlbogcfaaaP
set_option linter.unusedVariables false
set_option linter.unusedSimpArgs false
namespace Go.Proofs.Ytnkbkhlbogcfaaa
open Go.RowKit Go.Proofs.YtnkbkhlbogcfaaaW.PrintWords
noncomputable section

theorem u64_nat (v : Int) : ∃ V : Nat, IntKind.u64.wrap v = (V : Int) ∧ (V : Int) < 18446744073709551616 := by
  refine ⟨(v % 18446744073709551616).toNat, ?_, by omega⟩
  rw [Int.toNat_of_nonneg (by omega)]
  rfl
/-- something that is written -/
structure PutV where
  k : Int
  n : Int
  v : Int
  s : ByteArray
def PutV.ok (x : PutV) : Prop := (-9223372036854775808 ≤ x.k ∧ x.k ≤ 9223372036854775807) ∧ (-9223372036854775808 ≤ x.n ∧ x.n ≤ 9223372036854775807) ∧ (-9223372036854775808 ≤ x.v ∧ x.v ≤ 9223372036854775807) ∧ (x.s.size : Int) ≤ 9223372036854775807
/-- a slice of them, as its cells read -/
def PU (w : World) (A : Option Addr) (l : List PutV) : Prop :=
  (l.length : Int) ≤ 9223372036854775807 ∧ (∀ x ∈ l, x.ok) ∧ ∀ i x, l[i]? = some x → ∃ ad, A = some ad ∧ w.cell? (ad.add (i * 4)) = some (.int .i64 x.k) ∧ w.cell? ⟨(ad.add (i * 4)).block, (ad.add (i * 4)).off + 1, none⟩ = some (.int .i64 x.n) ∧
    w.cell? ⟨(ad.add (i * 4)).block, (ad.add (i * 4)).off + 2, none⟩ = some (.int .i64 x.v) ∧ w.cell? ⟨(ad.add (i * 4)).block, (ad.add (i * 4)).off + 3, none⟩ = some (.string x.s)
theorem cell_below {w w1 : World} {a : Addr} {v : Value} (h : w.cell? a = some v) (hb : Below w.heap.size w w1) : w1.cell? a = some v := by
  rw [← h]
  exact World.cell?_of_block (hb.block _ (World.block_lt_of_cell? w a h))
theorem PU.below {w w1 : World} {A : Option Addr} {l : List PutV} (h : PU w A l) (hb : Below w.heap.size w w1) : PU w1 A l := by
  refine ⟨h.1, h.2.1, fun i x hx => ?_⟩
  obtain ⟨ad, e, h0, h1, h2, h3⟩ := h.2.2 i x hx
  exact ⟨ad, e, cell_below h0 hb, cell_below h1 hb, cell_below h2 hb, cell_below h3 hb⟩
/-- the first so many bytes of a text -/
def cutS (s : ByteArray) (m : Nat) : ByteArray := s.extract 0 (min s.size m)
theorem cutS_size (s : ByteArray) (m : Nat) : (cutS s m).size = min s.size m := by rw [cutS, ByteArray.size_extract]; omega
def u64N (v : Int) : Nat := (IntKind.u64.wrap v).toNat
theorem u64N_eq (v : Int) : IntKind.u64.wrap v = (u64N v : Int) ∧ (u64N v : Int) < 18446744073709551616 := by
  obtain ⟨V, h1, h2⟩ := u64_nat v
  unfold u64N
  rw [h1]
  exact ⟨rfl, h2⟩
def putB (x : PutV) : List UInt8 :=
  if x.k = 0 then fixedB (u64N x.v) (wideN x.n) else if x.k = 1 then shortB (max x.v 0).toNat else if x.k = 2 then shortB (signN x.v)
  else if x.k = 3 then shortB (cutS x.s 200).size ++ sb (cutS x.s 200) else sb (cutS x.s 200)
def putsB (l : List PutV) : List UInt8 := l.flatMap putB
theorem putsB_succ {l : List PutV} {k : Nat} {x : PutV} (h : l[k]? = some x) : putsB (l.take (k + 1)) = putsB (l.take k) ++ putB x := by
  unfold putsB
  rw [List.take_add_one, h, List.flatMap_append]
  simp
theorem signN_le (v : Int) : (signN v : Int) ≤ 4611686018427387904 := by
  unfold signN clampI
  split <;> omega
theorem putB_len {x : PutV} (h : x.ok) : (putB x).length ≤ 209 := by
  unfold putB
  have h1 := wideN_le x.n
  have h2 := cutS_size x.s 200
  have h3 := shortB_le9 (m := (max x.v 0).toNat) (by have := h.2.2.1; omega)
  have h4 := shortB_le9 (m := signN x.v) (by have := signN_le x.v; omega)
  have h5 := shortB_le9 (m := (cutS x.s 200).size) (by omega)
  split
  · rw [fixedB_length]; omega
  · split
    · omega
    · split
      · omega
      · split
        · rw [List.length_append, sb_length]; omega
        · rw [sb_length]; omega

/-- a writer, and bytes of one's own beside it -/
structure Two (w : World) (base p : Nat) (A : Option Addr) (n c : Nat) (xs : List UInt8) (B : Option Addr) (m d : Nat) (ys : List UInt8) : Prop where
  wr : WrB w base p A n c xs
  own : OB w base B m d ys
  np : blk B ≠ some p
  na : ∀ k, blk A = some k → blk B ≠ some k
theorem Two.below {w w1 : World} {base p n c m d : Nat} {A B : Option Addr} {xs ys : List UInt8} (h : Two w base p A n c xs B m d ys) (hb : Below w.heap.size w w1) : Two w1 base p A n c xs B m d ys :=
  ⟨h.wr.below hb, h.own.below hb, h.np, h.na⟩
theorem Two.write {w w1 : World} {base p n c m d n1 c1 : Nat} {A B A1 : Option Addr} {xs ys zs : List UInt8} (h : Two w base p A n c xs B m d ys) (hw : WrB w1 base p A1 n1 c1 zs) (hm : Mod w w1 p (blk A)) (hs : Succ w (blk A) (blk A1)) :
    Two w1 base p A1 n1 c1 zs B m d ys ∧ Below base w w1 := by
  refine ⟨⟨hw, h.own.mod hm h.np (fun k hk e => h.na k e hk), h.np, fun k hk e => ?_⟩, h.wr.mod_below h.wr.base_le hm⟩
  rcases hs with e1 | ⟨j, e1, hj⟩
  · exact h.na k (e1 ▸ hk) e
  · rw [e1] at hk
    injection hk with hk
    have := h.own.blk_lt k e
    omega
theorem Two.grow {w w1 : World} {base p n c m d m1 d1 : Nat} {A B B1 : Option Addr} {xs ys zs : List UInt8} (h : Two w base p A n c xs B m d ys) (ho : OB w1 base B1 m1 d1 zs) (hg : w.grownBy w1 (blk B)) (hs : Succ w (blk B) (blk B1)) :
    Two w1 base p A n c xs B1 m1 d1 zs ∧ Below base w w1 := by
  have hlt : ∀ k, blk A = some k → k < w.heap.size := h.wr.own.blk_lt
  refine ⟨⟨⟨(hg.block p h.wr.lt (fun e => h.np e.symm)).trans h.wr.blk, ?_, h.wr.base_p⟩, ho, fun e => ?_, fun k hk e => ?_⟩, (Below.refl base w).grown hg h.wr.base_le h.own.blk_base⟩
  · refine own_move h.wr.own fun k hk => hg.block k (hlt k (by rw [own_blk] at hk; exact hk)) fun e => ?_
    rw [own_blk] at hk
    exact h.na k hk e.symm
  · rcases hs with e1 | ⟨j, e1, hj⟩
    · exact h.np (e1 ▸ e)
    · rw [e1] at e
      injection e with e
      have := h.wr.lt
      omega
  · rcases hs with e1 | ⟨j, e1, hj⟩
    · exact h.na k hk (e1 ▸ e)
    · rw [e1] at e
      injection e with e
      have := hlt k hk
      omega

section
variable {ops : Array Oper} {rest : List Oper} {o : Oper} {a : Act} {Q : Exit → Act → World → Prop} {W : World} {s x : Operand}
set_option maxRecDepth 100000 in
theorem run_appB (base : Nat) (A : Option Addr) (n c : Nat) (xs : List UInt8) (A2 : Option Addr) (m c2 : Nat) (ys : List UInt8) (ty : TypeId) (HO : OB W base A n c xs) (HR : RB W A2 ys) (hm : ys.length = m) (hbase : base ≤ W.heap.size) (hl : n + m ≤ 140737488355328) :
    ∃ A1 c1 w1, (Builtin.append_ #[22, 22] ty #[.slice A n c, .slice A2 m c2]).run Try.prog W = .ok (.slice A1 (n + m) c1) w1 ∧ OB w1 base A1 (n + m) c1 (xs ++ ys) ∧ W.grownBy w1 (blk A) ∧ Succ W (blk A) (blk A1) := by
  obtain ⟨i0, hi, hz0, hz1, hz2⟩ := info_parts Try.info5
  rcases A2 with _ | ad
  · have h0 : m = 0 := by
      rcases Nat.eq_zero_or_pos m with h0 | h0
      · exact h0
      · obtain ⟨ad, h, _⟩ := HR.2.2 (by omega)
        cases h
    subst h0
    obtain rfl : ys = [] := List.eq_nil_of_length_eq_zero hm
    refine ⟨A, c, W, ?_, by simpa using HO, World.grownBy.refl W _, .inl rfl⟩
    rcases HO.2 with ⟨e, hn⟩ | ⟨g, cap, cur, e, _, _, hnc, _⟩
    · injection e with e1 e2 e3
      subst hn e1 e3
      simp [Builtin.append_, run_underlying Try.underlying22, sizeOf, typeInfo, hi, Builtin.lenOf, Builtin.firstCells]
    · injection e with e1 e2 e3
      subst e1 e3
      simp [Builtin.append_, run_underlying Try.underlying22, sizeOf, typeInfo, hi, Builtin.lenOf, Builtin.firstCells, hnc, storeCells]
  · subst hm
    have hcells : ∀ j u, (nums .u8 (bv ys))[j]? = some u → W.cell? (ad.add j) = some u := by
      intro j u hu
      have hj : j < ys.length := by
        rcases Nat.lt_or_ge j ys.length with h | h
        · exact h
        · simp [nums, bv, List.getElem?_eq_none h] at hu
      obtain ⟨y, hy⟩ : ∃ y, ys[j]? = some y := ⟨_, List.getElem?_eq_getElem hj⟩
      obtain ⟨ad', h', hc⟩ := HR.at_ hy
      injection h' with h'
      subst h'
      rw [hc]
      simp [nums, bv, hy] at hu
      rw [← hu]
    obtain ⟨v1, w1, hr, h2, h3, _, h5⟩ := run_append_own_at (P := Try.prog) W base 22 ty 5 i0 (.int .u8 0) 1 1 Try.underlying22 hi hz0 hz1 hz2 rfl (by omega) _ n (nums .u8 (bv xs)) HO ad ys.length c2 (nums .u8 (bv ys)) (by simp [nums, bv]) hcells (by intro u hu; simp [nums] at hu; obtain ⟨q, _, rfl⟩ := hu; rfl) (by simp only [maxLen]; omega) (by omega) hbase
    rw [own_blk] at h3 h5
    rw [← nums_append, ← bv_append] at h2
    obtain ⟨A1, c1, rfl⟩ := own_slice h2
    rw [own_blk] at h5
    refine ⟨A1, c1, w1, hr, h2, h3, ?_⟩
    rcases h5 with h5 | h5
    · exact .inl h5
    · exact .inr ⟨_, h5, Nat.le_refl _⟩
/-- append of two rows at a step of a region that draws its order -/
theorem step_appB {K : Act → World → Prop} {E : Prop} (base : Nat) (A : Option Addr) (n c : Nat) (xs : List UInt8) (A2 : Option Addr) (m c2 : Nat) (ys : List UInt8) (hgd : o.guard = none) (ho : o.op = .call { callee := .builtin .append, args := #[s, x], argTypes := #[22, 22] })
    (hs : a.eval s = .slice A n c) (hx : a.eval x = .slice A2 m c2) (HO : OB W base A n c xs) (HR : RB W A2 ys) (hm : ys.length = m) (hbase : base ≤ W.heap.size) (hl : n + m ≤ 140737488355328)
    (h : ∀ A1 c1 w1, OB w1 base A1 (n + m) c1 (xs ++ ys) → W.grownBy w1 (blk A) → Succ W (blk A) (blk A1) → K (a.put o.dst (.slice A1 (n + m) c1)) w1) :
    if Region.wanted o (yielded ops a.tmps) = true then Oper.wp Try.prog o a W K Q else E := by
  obtain ⟨A1, c1, w1, hr, h1, h2, h3⟩ := run_appB base A n c xs A2 m c2 ys o.type HO HR hm hbase hl
  have hw : Region.wanted o (yielded ops a.tmps) = true := by simp [Region.wanted, hgd]
  rw [if_pos hw]
  unfold Oper.wp execOp
  simp only [ho, resolve, invoke, builtin, Sem.run_bind, Sem.run_pure, Result.andThen_ok, List.map_toArray, List.map_cons, List.map_nil, hs, hx, hr]
  exact h A1 c1 w1 h1 h2 h3
end
end
end Go.Proofs.Ytnkbkhlbogcfaaa
