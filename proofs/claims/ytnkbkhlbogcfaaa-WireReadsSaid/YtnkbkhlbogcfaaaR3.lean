/- The rows' common part: an argument of things that are written is opened. -/
import Derived.Test.YtnkbkhlbogcfaaaR
import Derived.Test.YtnkbkhlbogcfaaaN
import Derived.Lib.SmallJoins
import Derived.Deep.Slices
set_option linter.unusedVariables false
set_option linter.unusedSimpArgs false
namespace Go.Proofs.Ytnkbkhlbogcfaaa
open Go.ChangeShapes Go.WideShapes Go.ChangeAt Go.RowKit Go.Proofs.YtnkbkhlbogcfaaaW.PrintWords

set_option maxRecDepth 100000 in
theorem open_puts {H : Type} {enc : TypeId × Value → H} {W : World} {base : Nat} {v : Value} {d : DataW H} {p : List MemPlace}
    (hv : Value.okWide Try.prog W .any base 45 v) (h : DataW.Trod enc Try.prog W 0 (fun _ => true) true 45 v d p) :
    ∃ (a : Option Addr) (l : List PutV) (cap : Nat), v = .slice a l.length cap ∧ PU W a l ∧ l.length ≤ cap := by
  obtain ⟨a0, len0, cap0, rfl⟩ := okWide_slice Try.underlying45 hv
  obtain ⟨fuel, hf⟩ := h
  rcases Deep.open_slice Try.underlying45 hf with ⟨hcs, _⟩ | ⟨a, len, cap, m, n, D, Pl, hcs, _, hl, hm, hmm, _, hi⟩
  · simp [Value.cells] at hcs
    obtain ⟨rfl, rfl, rfl⟩ := hcs
    exact ⟨none, [], 0, rfl, ⟨by simp, by simp, by simp⟩, by simp⟩
  · simp [Value.cells] at hcs
    obtain ⟨rfl, rfl, rfl⟩ := hcs
    have hmm : m = cap0 := by simpa using hmm
    subst hmm
    have hC : Try.prog.cellsOf 71 = 4 := by kernel_rfl
    have hC3 : Try.prog.cellsOf 3 = 1 := by kernel_rfl
    have hC9 : Try.prog.cellsOf 9 = 1 := by kernel_rfl
    rw [hC] at hi
    have hx : ∀ i, i < len0 → ∃ x : PutV, x.ok ∧ W.cell? (a.add (i * 4)) = some (.int .i64 x.k) ∧ W.cell? ⟨(a.add (i * 4)).block, (a.add (i * 4)).off + 1, none⟩ = some (.int .i64 x.n) ∧
        W.cell? ⟨(a.add (i * 4)).block, (a.add (i * 4)).off + 2, none⟩ = some (.int .i64 x.v) ∧ W.cell? ⟨(a.add (i * 4)).block, (a.add (i * 4)).off + 3, none⟩ = some (.string x.s) := by
      intro i hil
      obtain ⟨cs', hc, ht⟩ := hi i (by omega)
      obtain ⟨_, hcl, hat⟩ := World.cells?_some hc
      obtain ⟨y0, y1, y2, y3, n', _, _, t0, t1, t2, t3⟩ := Joins.trod_struct4 Try.underlying71 ht
      match cs', hcl with
      | [c0, c1, c2, c3], _ =>
        rw [hC3] at t0 t1 t2
        rw [hC9] at t3
        simp only [List.drop, List.take] at t0 t1 t2 t3
        obtain ⟨z0, e0, _, w0⟩ := DataW.trod_int Try.underlying3 t0
        obtain ⟨z1, e1, _, w1⟩ := DataW.trod_int Try.underlying3 t1
        obtain ⟨z2, e2, _, w2⟩ := DataW.trod_int Try.underlying3 t2
        obtain ⟨s3, e3, _, w3⟩ := DataW.trod_string Try.underlying9 t3
        simp at e0 e1 e2 e3
        subst e0 e1 e2 e3
        have b0 := bounds_i64 w0
        have b1 := bounds_i64 w1
        have b2 := bounds_i64 w2
        have a0 := hat 0 (by omega)
        have a1 := hat 1 (by omega)
        have a2 := hat 2 (by omega)
        have a3 := hat 3 (by omega)
        refine ⟨⟨z0, z1, z2, s3⟩, ⟨⟨?_, ?_⟩, ⟨?_, ?_⟩, ⟨?_, ?_⟩, ?_⟩, a0, a1, a2, a3⟩
        · dsimp only; omega
        · dsimp only; omega
        · dsimp only; omega
        · dsimp only; omega
        · dsimp only; omega
        · dsimp only; omega
        · dsimp only; unfold maxLen at w3; omega
    have : Inhabited PutV := ⟨⟨0, 0, 0, ByteArray.empty⟩⟩
    obtain ⟨f, hff⟩ := Deep.choose_lt hx
    refine ⟨some a, (List.range len0).map f, _, by simp; rfl, ⟨by simp; unfold maxLen at hm; omega, ?_, ?_⟩, by simpa using hl⟩
    · intro x hx
      obtain ⟨i, hi, rfl⟩ := List.mem_map.1 hx
      exact (hff i (List.mem_range.1 hi)).1
    · intro i x hx
      have hil : i < len0 := by have := (List.getElem?_eq_some_iff.1 hx).1; simpa using this
      have e : f i = x := by simpa [hil] using hx
      subst e
      exact ⟨a, rfl, (hff i hil).2⟩
end Go.Proofs.Ytnkbkhlbogcfaaa
