/- The rows' common part: an argument of bytes is opened. -/
import Derived.Test.YtnkbkhlbogcfaaaRows
import Derived.Test.YtnkbkhlbogcfaaaA
import Derived.WalkKit
import Derived.ProofKit
import Derived.OpenShut
import Derived.ShutString
import Derived.ChangeOld
import Derived.Below
import Derived.SizedLaws
set_option linter.unusedVariables false
set_option linter.unusedSimpArgs false
namespace Go.Proofs.Ytnkbkhlbogcfaaa
open Go.ChangeShapes Go.WideShapes Go.ChangeAt Go.RowKit Go.Proofs.YtnkbkhlbogcfaaaW.PrintWords

theorem own : ownKnob Try.prog.godebug = none := by kernel_rfl
theorem laidOut : laidOutB Try.prog = true := by kernel_rfl

theorem and_both {a b : Bool} (ha : a = true) (hb : b = true) : (a && b) = true := by rw [ha, hb]; rfl

set_option maxRecDepth 100000 in
theorem open_bytes {H : Type} {enc : TypeId × Value → H} {W : World} {base : Nat} {v : Value} {d : DataW H} {p : List MemPlace}
    (hv : Value.okWide Try.prog W .any base 22 v) (h : DataW.Trod enc Try.prog W 0 (fun _ => true) true 22 v d p) :
    ∃ (a : Option Addr) (b : List UInt8) (cap : Nat), v = .slice a b.length cap ∧ RB W a b ∧ b.length ≤ cap := by
  obtain ⟨a0, len0, cap0, rfl⟩ := okWide_slice Try.underlying22 hv
  obtain ⟨fuel, hf⟩ := h
  rcases open_ints Try.underlying22 Try.underlying5 (by kernel_rfl) hf with ⟨hcs, _⟩ | ⟨x, l, c, zs, hcs, _, hl, hm, hz, _, hcell, hwz⟩
  · simp [Value.cells] at hcs
    obtain ⟨rfl, rfl, rfl⟩ := hcs
    exact ⟨none, [], 0, rfl, ⟨rfl, by simp, fun h => absurd h (by simp)⟩, by simp⟩
  · simp [Value.cells] at hcs
    obtain ⟨rfl, rfl, rfl⟩ := hcs
    have hz' : zs.length = cap0 := by simpa using hz
    have hb : bv ((zs.take len0).map fun z => UInt8.ofNat z.toNat) = zs.take len0 := by
      unfold bv
      rw [List.map_map]
      conv => rhs; rw [← List.map_id (zs.take len0)]
      apply List.map_congr_left
      intro z hz
      have := bounds_u8 (hwz z (List.mem_of_mem_take hz))
      simp only [Function.comp, UInt8.toNat_ofNat', id]
      omega
    have hlen : ((zs.take len0).map fun z => UInt8.ofNat z.toNat).length = len0 := by simp; omega
    refine ⟨_, (zs.take len0).map fun z => UInt8.ofNat z.toNat, cap0, by rw [hlen], ?_, by rw [hlen]; exact hl⟩
    unfold RB
    rw [hlen, hb]
    refine ⟨by simp; omega, by unfold maxLen at hm; omega, fun hp => ⟨x, rfl, fun j hj => ?_⟩⟩
    rw [hcell j (by omega)]
    simp [List.getD_eq_getElem?_getD, hj]
end Go.Proofs.Ytnkbkhlbogcfaaa
