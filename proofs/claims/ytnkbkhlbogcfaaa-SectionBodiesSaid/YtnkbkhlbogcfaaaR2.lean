/- The rows' common part: an argument of four bytes is opened. -/
import Derived.Test.YtnkbkhlbogcfaaaR
import Derived.Lib.SmallJoins
import Derived.Laws.IdiomArrays
set_option linter.unusedVariables false
set_option linter.unusedSimpArgs false
namespace Go.Proofs.Ytnkbkhlbogcfaaa
open Go.ChangeShapes Go.WideShapes Go.ChangeAt Go.RowKit Go.Proofs.YtnkbkhlbogcfaaaW.PrintWords

theorem byte_of {c : Value} {z : Int} (h : c = .int .u8 z) (hw : (Lit.int .u8 z).wf = true) : ∃ x : UInt8, c = .int .u8 (x.toNat : Int) := by
  have := bounds_u8 hw
  refine ⟨UInt8.ofNat z.toNat, ?_⟩
  rw [h]
  congr 1
  simp only [UInt8.toNat_ofNat']
  omega

set_option maxRecDepth 100000 in
theorem open_arr4 {H : Type} {enc : TypeId × Value → H} {W : World} {base : Nat} {v : Value} {d : DataW H} {p : List MemPlace}
    (hv : Value.okWide Try.prog W .any base 23 v) (h : DataW.Trod enc Try.prog W 0 (fun _ => true) true 23 v d p) :
    ∃ x0 x1 x2 x3 : UInt8, v = .agg #[.int .u8 (x0.toNat : Int), .int .u8 (x1.toNat : Int), .int .u8 (x2.toNat : Int), .int .u8 (x3.toNat : Int)] := by
  unfold Value.okWide at hv
  simp only [Try.underlying23] at hv
  obtain ⟨cs, rfl, hsz, _⟩ := hv
  have hC : Try.prog.cellsOf 23 = 4 := by kernel_rfl
  obtain ⟨c0, c1, c2, c3, rfl⟩ := Joins.array4 (hsz.trans hC)
  obtain ⟨fuel, hf⟩ := h
  obtain ⟨y0, y1, y2, y3, n, _, h0, h1, h2, h3⟩ := trod_array4 Try.underlying23 (by kernel_rfl) hf
  obtain ⟨z0, e0, _, w0⟩ := DataW.trod_int Try.underlying5 h0
  obtain ⟨z1, e1, _, w1⟩ := DataW.trod_int Try.underlying5 h1
  obtain ⟨z2, e2, _, w2⟩ := DataW.trod_int Try.underlying5 h2
  obtain ⟨z3, e3, _, w3⟩ := DataW.trod_int Try.underlying5 h3
  simp at e0 e1 e2 e3
  obtain ⟨x0, q0⟩ := byte_of e0 w0
  obtain ⟨x1, q1⟩ := byte_of e1 w1
  obtain ⟨x2, q2⟩ := byte_of e2 w2
  obtain ⟨x3, q3⟩ := byte_of e3 w3
  exact ⟨x0, x1, x2, x3, by rw [q0, q1, q2, q3]⟩
end Go.Proofs.Ytnkbkhlbogcfaaa
