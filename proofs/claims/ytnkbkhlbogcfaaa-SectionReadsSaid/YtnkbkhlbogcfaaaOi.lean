/- Numbers of one's own. -/
import Derived.Test.YtnkbkhlbogcfaaaSe
set_option linter.unusedVariables false
set_option linter.unusedSimpArgs false
namespace Go.Proofs.Ytnkbkhlbogcfaaa
open Go.RowKit Go.Proofs.YtnkbkhlbogcfaaaW.PrintWords
noncomputable section

/-- numbers of one's own -/
def OI (w : World) (base : Nat) (A : Option Addr) (n c : Nat) (xs : List Int) : Prop := w.ownsRow base 3 1 (.slice A n c) n (nums .i64 xs)
theorem OI.below {w w1 : World} {base n c : Nat} {A : Option Addr} {xs : List Int} (h : OI w base A n c xs) (hb : Below w.heap.size w w1) : OI w1 base A n c xs := pw_own_below h hb
theorem OI.len {w : World} {base n c : Nat} {A : Option Addr} {xs : List Int} (h : OI w base A n c xs) : xs.length = n := by have := h.1; simpa [nums] using this
theorem OI.new (w : World) (z : Int) : OI (w.alloc (.cells #[.int .i64 z] 3)) w.heap.size (some ⟨w.heap.size, 0, none⟩) 1 1 [z] :=
  ⟨rfl, .inr ⟨w.heap.size, 1, _, rfl, Nat.le_refl _, heap_alloc_new _ _, Nat.le_refl _, by unfold maxLen; omega, rfl, rfl⟩⟩
theorem OI.form {w : World} {base n c : Nat} {A : Option Addr} {xs : List Int} (h : OI w base A n c xs) (hn : 0 < n) : ∃ g, A = some ⟨g, 0, none⟩ ∧ ∀ j x, xs[j]? = some x → w.cell? ⟨g, j, none⟩ = some (.int .i64 x) := by
  rcases h.2 with ⟨e, h0⟩ | ⟨g, cap, cur, e, _⟩
  · omega
  · injection e with e1
    subst e1
    refine ⟨g, rfl, fun j x hx => ?_⟩
    have := h.cells (g := g) rfl j (.int .i64 x) (by simp [nums, hx])
    rwa [add_plain] at this
theorem Try.info3' : (Try.prog.info? 3).map (fun i => (i.zero, i.size, i.bytes)) = some (some (.int .i64 0), 1, 8) := by kernel_rfl
section
variable {ops : Array Oper} {rest : List Oper} {o : Oper} {a : Act} {Q : Exit → Act → World → Prop} {W : World} {s x : Operand}
/-- append(kinds, z) -/
theorem appI (base : Nat) (A : Option Addr) (n c : Nat) (xs : List Int) {z : Int} (hgd : o.guard = none) (ho : o.op = .call { callee := .builtin .append, args := #[s, x], argTypes := #[75, 75] })
    (hs : a.eval s = .slice A n c) (hx : a.eval x = .slice (some ⟨W.heap.size, 0, none⟩) 1 1) (HO : OI W base A n c xs) (hbase : base ≤ W.heap.size) (hl : n ≤ 1000)
    (h : ∀ A1 c1 w1, OI w1 base A1 (n + 1) c1 (xs ++ [z]) → Below base W w1 → wpList Try.prog ops Q rest (a.put o.dst (.slice A1 (n + 1) c1)) w1) :
    wpList Try.prog ops Q (o :: rest) a (W.alloc (.cells #[.int .i64 z] 3)) := by
  have hn := HO.len
  subst hn
  refine print_append_num (w0 := W) base hgd s x 75 3 .i64 8 ho Try.underlying75 Try.info3' (by omega) _ xs z hs hx HO (Below.refl _ _) hbase (by omega) fun v1 w1 h1 h2 h3 h4 => ?_
  obtain ⟨A1, c1, rfl⟩ := own_slice h1
  simp only [List.length_append, List.length_singleton] at h1 ⊢
  exact h A1 c1 w1 h1 h2
end
theorem OI.store {w : World} {base n c g : Nat} {xs : List Int} (h : OI w base (some ⟨g, 0, none⟩) n c xs) (j : Nat) (z : Int) (hj : j < n) :
    (∃ v, w.cell? ⟨g, j, none⟩ = some (.int .i64 v)) ∧ w.frozen? ⟨g, j, none⟩ = false ∧ OI (w.setCell ⟨g, j, none⟩ (.int .i64 z)) base (some ⟨g, 0, none⟩) n c (xs.set j z) := by
  have hs := own_store h (j : Int) z
  rw [Int.toNat_natCast] at hs
  obtain ⟨g', hg', hc⟩ := h.form (by omega)
  injection hg' with hg'
  injection hg' with hg'
  subst hg'
  refine ⟨⟨_, hc j _ (List.getElem?_eq_getElem (by rw [h.len]; exact hj))⟩, ?_, hs.1⟩
  rcases h.2 with ⟨h', _⟩ | ⟨g', cap', cur, h', _, hh, _⟩
  · cases h'
  · have : g = g' := by injection h' with h'; injection h' with h'; injection h' with h'
    subst this
    simp [World.frozen?, hh]
end
end Go.Proofs.Ytnkbkhlbogcfaaa
