/- The rows' common part: an argument of sections is opened. -/
import Derived.Test.YtnkbkhlbogcfaaaR
import Derived.Test.YtnkbkhlbogcfaaaSe
import Derived.Lib.SmallJoins
import Derived.ChangeSame
import Derived.Deep.Slices
set_option linter.unusedVariables false
set_option linter.unusedSimpArgs false
namespace Go.Proofs.Ytnkbkhlbogcfaaa
open Go.ChangeShapes Go.WideShapes Go.ChangeAt Go.RowKit Go.Proofs.YtnkbkhlbogcfaaaW.PrintWords

set_option maxRecDepth 100000 in
theorem open_cell_bytes {H : Type} {enc : TypeId × Value → H} {W : World} {n : Nat} {u : Value} {x : DataW H × List MemPlace} (hf : DataW.trod enc Try.prog W 0 (fun _ => true) true n 22 [u] = some x) :
    ∃ (a : Option Addr) (b : List UInt8) (cap : Nat), u = .slice a b.length cap ∧ RB W a b ∧ b.length ≤ cap ∧ cap ≤ maxLen := by
  rcases open_ints Try.underlying22 Try.underlying5 (by kernel_rfl) hf with ⟨hcs, _⟩ | ⟨x, l, c, zs, hcs, _, hl, hm, hz, _, hcell, hwz⟩
  · injection hcs with hcs _
    subst hcs
    exact ⟨none, [], 0, rfl, ⟨rfl, by simp, fun h => absurd h (by simp)⟩, by simp, by simp⟩
  · injection hcs with hcs _
    subst hcs
    have hz' : zs.length = c := by simpa using hz
    have hb : bv ((zs.take l).map fun z => UInt8.ofNat z.toNat) = zs.take l := by
      unfold bv
      rw [List.map_map]
      conv => rhs; rw [← List.map_id (zs.take l)]
      apply List.map_congr_left
      intro z hz
      have := bounds_u8 (hwz z (List.mem_of_mem_take hz))
      simp only [Function.comp, UInt8.toNat_ofNat', id]
      omega
    have hlen : ((zs.take l).map fun z => UInt8.ofNat z.toNat).length = l := by simp; omega
    refine ⟨_, (zs.take l).map fun z => UInt8.ofNat z.toNat, c, by rw [hlen], ?_, by rw [hlen]; exact hl, hm⟩
    unfold RB
    rw [hlen, hb]
    refine ⟨by simp; omega, by unfold maxLen at hm; omega, fun hp => ⟨x, rfl, fun j hj => ?_⟩⟩
    rw [hcell j (by omega)]
    simp [List.getD_eq_getElem?_getD, hj]

set_option maxRecDepth 100000 in
theorem open_sections {H : Type} {enc : TypeId × Value → H} {W : World} {base : Nat} {v : Value} {d : DataW H} {p : List MemPlace}
    (hv : Value.okWide Try.prog W .any base 63 v) (h : DataW.Trod enc Try.prog W 0 (fun _ => true) true 63 v d p) :
    ∃ (a : Option Addr) (l : List SecV) (cap : Nat), v = .slice a l.length cap ∧ SE W a l ∧ l.length ≤ cap := by
  obtain ⟨a0, len0, cap0, rfl⟩ := okWide_slice Try.underlying63 hv
  obtain ⟨fuel, hf⟩ := h
  rcases Deep.open_slice Try.underlying63 hf with ⟨hcs, _⟩ | ⟨a, len, cap, m, n, D, Pl, hcs, _, hl, hm, hmm, _, hi⟩
  · simp [Value.cells] at hcs
    obtain ⟨rfl, rfl, rfl⟩ := hcs
    exact ⟨none, [], 0, rfl, SE.nil _ _, by simp⟩
  · simp [Value.cells] at hcs
    obtain ⟨rfl, rfl, rfl⟩ := hcs
    have hmm : m = cap0 := by simpa using hmm
    subst hmm
    have hC : Try.prog.cellsOf 68 = 2 := by kernel_rfl
    have hC3 : Try.prog.cellsOf 3 = 1 := by kernel_rfl
    have hC22 : Try.prog.cellsOf 22 = 1 := by kernel_rfl
    rw [hC] at hi
    have hx : ∀ i, i < len0 → ∃ x : SecV, (x.ok ∧ RB W x.A x.b) ∧ W.cell? (a.add (i * 2)) = some (.int .i64 x.k) ∧ W.cell? ⟨(a.add (i * 2)).block, (a.add (i * 2)).off + 1, none⟩ = some (.slice x.A x.b.length x.c) := by
      intro i hil
      obtain ⟨cs', hc, ht⟩ := hi i (by omega)
      obtain ⟨_, hcl, hat⟩ := World.cells?_some hc
      obtain ⟨y0, y1, n', _, _, t0, t1⟩ := trod_struct2 Try.underlying68 ht
      match cs', hcl with
      | [c0, c1], _ =>
        rw [hC3] at t0
        rw [hC22] at t1
        simp only [List.drop, List.take] at t0 t1
        obtain ⟨z0, e0, _, w0⟩ := DataW.trod_int Try.underlying3 t0
        obtain ⟨ab, b, cb, e1, hrb, hbl, hcm⟩ := open_cell_bytes t1
        simp at e0
        subst e0 e1
        have b0 := bounds_i64 w0
        have a0 := hat 0 (by omega)
        have a1 := hat 1 (by omega)
        refine ⟨⟨z0, ab, cb, b⟩, ⟨⟨⟨?_, ?_⟩, hbl, ?_⟩, hrb⟩, a0, a1⟩
        · dsimp only; omega
        · dsimp only; omega
        · trivial
    have : Inhabited SecV := ⟨⟨0, none, 0, []⟩⟩
    obtain ⟨f, hff⟩ := Deep.choose_lt hx
    refine ⟨some a, (List.range len0).map f, _, by simp; rfl, ⟨by simp; unfold maxLen at hm; omega, ?_, ?_⟩, by simpa using hl⟩
    · intro x hx
      obtain ⟨i, hi, rfl⟩ := List.mem_map.1 hx
      exact (hff i (List.mem_range.1 hi)).1
    · intro i x hx
      have hil : i < len0 := by have := (List.getElem?_eq_some_iff.1 hx).1; simpa using this
      have e : f i = x := by simpa [hil] using hx
      subst e
      exact ⟨a, rfl, (hff i hil).2⟩
end Go.Proofs.Ytnkbkhlbogcfaaa
