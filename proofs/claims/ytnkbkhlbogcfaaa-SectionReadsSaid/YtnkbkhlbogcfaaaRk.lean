/- A file, read by the document: the walk. -/
import Derived.Test.YtnkbkhlbogcfaaaRj
import Derived.Test.YtnkbkhlbogcfaaaRy
import Derived.OpenShut
import Derived.BigRegion
import Derived.BigQuiet
import Derived.Deep.RegionHeld3
set_option linter.unusedVariables false
set_option linter.unusedSimpArgs false
namespace Go.Proofs.Ytnkbkhlbogcfaaa
open Go.RowKit Go.Proofs.YtnkbkhlbogcfaaaW.PrintWords
noncomputable section

/-- the sections' kinds, their bodies not yet read -/
def secK (o : List UInt8) (k : Nat) : List SecV := (List.range k).map fun i => ⟨(hKind o i : Int), none, 0, []⟩
def szK (o : List UInt8) (k : Nat) : List Int := (List.range k).map fun i => (hSize o i : Int)
theorem secK_succ (o : List UInt8) (k : Nat) : secK o (k + 1) = secK o k ++ [⟨(hKind o k : Int), none, 0, []⟩] := by simp [secK, List.range_succ]
theorem szK_succ (o : List UInt8) (k : Nat) : szK o (k + 1) = szK o k ++ [(hSize o k : Int)] := by simp [szK, List.range_succ]
theorem szK_at (o : List UInt8) {n i : Nat} (h : i < n) : (szK o n)[i]? = some (hSize o i : Int) := by simp [szK, h]
theorem secK_got (w : World) (G : Nat) (o : List UInt8) (n : Nat) : Got w G o n 0 (secK o n) := by
  refine ⟨by simp [secK], fun i x hx => ?_⟩
  unfold secK at hx
  rw [List.getElem?_map] at hx
  have hi : i < n := by
    by_cases h : i < n
    · exact h
    · rw [List.getElem?_eq_none (by simp; omega)] at hx; simp at hx
  rw [List.getElem?_range hi] at hx
  simp only [Option.map_some, Option.some.injEq] at hx
  subst hx
  exact ⟨rfl, by rw [if_neg (by omega)], by simp, RB.nil w, fun ad h => by cases h⟩
/-- sections, and numbers, of one's own, apart from each other -/
structure Pair (w : World) (base : Nat) (A : Option Addr) (n c : Nat) (l : List SecV) (B : Option Addr) (m d : Nat) (xs : List Int) : Prop where
  sec : OSec w base A n c l
  ints : OI w base B m d xs
  ne : ∀ q, (Value.slice A n c).ownBlock = some q → (Value.slice B m d).ownBlock ≠ some q
theorem Pair.below {w w1 : World} {base n c m d : Nat} {A B : Option Addr} {l : List SecV} {xs : List Int} (h : Pair w base A n c l B m d xs) (hb : Below w.heap.size w w1) : Pair w1 base A n c l B m d xs := ⟨h.sec.below hb, h.ints.below hb, h.ne⟩
theorem Pair.other {w : World} {base n c m d g : Nat} {A B : Option Addr} {l : List SecV} {xs : List Int} (h : Pair w base A n c l B m d xs) (hg : g < base) (j : Nat) (v : Value) : Pair (w.setCell ⟨g, j, none⟩ v) base A n c l B m d xs :=
  ⟨ownsRow_setCell_other h.sec (fun q => by have := own_base h.sec _ q; dsimp only at this; omega) v, ownsRow_setCell_other h.ints (fun q => by have := own_base h.ints _ q; dsimp only at this; omega) v, h.ne⟩
theorem Pair.grow {w w1 : World} {base n c m d n1 c1 : Nat} {A B A1 : Option Addr} {l l1 : List SecV} {xs : List Int} (h : Pair w base A n c l B m d xs) (ho : OSec w1 base A1 n1 c1 l1) (hg : w.grownBy w1 (Value.slice A n c).ownBlock) (hs : Succ w (Value.slice A n c).ownBlock (Value.slice A1 n1 c1).ownBlock) :
    Pair w1 base A1 n1 c1 l1 B m d xs := by
  refine ⟨ho, own_move h.ints fun q hq => hg.block q (own_lt h.ints q hq) (fun e => h.ne q (by rw [← e]) hq), fun q hq hq2 => ?_⟩
  rcases hs with e | ⟨k, e, hk⟩
  · rw [e] at hq; exact h.ne q hq hq2
  · rw [e] at hq; injection hq with hq; have := own_lt h.ints q hq2; omega
theorem Pair.grow2 {w w1 : World} {base n c m d m1 d1 : Nat} {A B B1 : Option Addr} {l : List SecV} {xs xs1 : List Int} (h : Pair w base A n c l B m d xs) (ho : OI w1 base B1 m1 d1 xs1) (hg : w.grownBy w1 (Value.slice B m d).ownBlock) (hs : Succ w (Value.slice B m d).ownBlock (Value.slice B1 m1 d1).ownBlock) :
    Pair w1 base A n c l B1 m1 d1 xs1 := by
  refine ⟨own_move h.sec fun q hq => hg.block q (own_lt h.sec q hq) (fun e => h.ne q hq (by rw [← e])), ho, fun q hq hq2 => ?_⟩
  rcases hs with e | ⟨k, e, hk⟩
  · rw [e] at hq2; exact h.ne q hq hq2
  · rw [e] at hq2; injection hq2 with hq2; have := own_lt h.sec q hq; omega
section
variable {ops : Array Oper} {rest : List Oper} {o : Oper} {a : Act} {Q : Exit → Act → World → Prop} {W : World} {s x : Operand}
/-- append(l, section), told of both -/
theorem appSec2 (K : Int) (base : Nat) (A : Option Addr) (n c : Nat) (l : List SecV) (hgd : o.guard = none) (ho : o.op = .call { callee := .builtin .append, args := #[s, x], argTypes := #[63, 63] })
    (hs : a.eval s = .slice A n c) (g : Nat) (hg : g = W.heap.size) (hx : a.eval x = .slice (some ⟨g, 0, none⟩) 1 1) (HO : OSec W base A n c l) (hbase : base ≤ W.heap.size) (hl : n ≤ 1000000)
    (h : ∀ A1 c1 w1, OSec w1 base A1 (n + 1) c1 (l ++ [⟨K, none, 0, []⟩]) → Below base W w1 → W.grownBy w1 (Value.slice A n c).ownBlock → Succ W (Value.slice A n c).ownBlock (Value.slice A1 (n + 1) c1).ownBlock → wpList Try.prog ops Q rest (a.put o.dst (.slice A1 (n + 1) c1)) w1) :
    wpList Try.prog ops Q (o :: rest) a (W.alloc (.cells #[.int .i64 K, .slice none 0 0] 68)) := by
  subst hg
  refine print_append_cells (w0 := W) base hgd s x 63 68 (.agg #[.int .i64 0, .slice none 0 0]) 2 32 ho Try.underlying63 Try.info68 rfl (by omega) (by omega) (.slice A n c) n (secCells l) [.int .i64 K, .slice none 0 0] hs hx rfl (by simp [Value.oneCell']) HO (Below.refl _ _) hbase (by omega) fun v1 w1 h1 h2 h3 h4 => ?_
  obtain ⟨A1, c1, rfl⟩ := own_slice h1
  have e := secCells_snoc l ⟨K, none, 0, []⟩
  dsimp only at e
  rw [show (([] : List UInt8).length) = 0 from rfl] at e
  rw [← e] at h1
  exact h A1 c1 w1 h1 h2 h3 h4
/-- append(sizes, z), told of both -/
theorem appI2 (z : Int) (base : Nat) (A : Option Addr) (n c : Nat) (xs : List Int) (hgd : o.guard = none) (ho : o.op = .call { callee := .builtin .append, args := #[s, x], argTypes := #[75, 75] })
    (hs : a.eval s = .slice A n c) (g : Nat) (hg : g = W.heap.size) (hx : a.eval x = .slice (some ⟨g, 0, none⟩) 1 1) (HO : OI W base A n c xs) (hbase : base ≤ W.heap.size) (hl : n ≤ 1000)
    (h : ∀ A1 c1 w1, OI w1 base A1 (n + 1) c1 (xs ++ [z]) → Below base W w1 → W.grownBy w1 (Value.slice A n c).ownBlock → Succ W (Value.slice A n c).ownBlock (Value.slice A1 (n + 1) c1).ownBlock → wpList Try.prog ops Q rest (a.put o.dst (.slice A1 (n + 1) c1)) w1) :
    wpList Try.prog ops Q (o :: rest) a (W.alloc (.cells #[.int .i64 z] 3)) := by
  have hn := HO.len
  subst hn
  subst hg
  refine print_append_num (w0 := W) base hgd s x 75 3 .i64 8 ho Try.underlying75 Try.info3' (by omega) _ xs z hs hx HO (Below.refl _ _) hbase (by omega) fun v1 w1 h1 h2 h3 h4 => ?_
  obtain ⟨A1, c1, rfl⟩ := own_slice h1
  simp only [List.length_append, List.length_singleton] at h1 h4 ⊢
  exact h A1 c1 w1 h1 h2 h3 h4
end
end
end Go.Proofs.Ytnkbkhlbogcfaaa
