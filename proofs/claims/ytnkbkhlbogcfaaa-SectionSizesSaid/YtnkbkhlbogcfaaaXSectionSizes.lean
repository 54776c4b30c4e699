/- For any version, any sections (made such as may be, the first 16, of 100 bytes each): a file has its four bytes, its version, how many sections there are, of each its Kind, how many bytes it has, its bytes and its sum, and the last sum: the law SectionSizes returns true at every input, and its arguments read afterwards as before. No condition. -/
import Derived.Test.YtnkbkhlbogcfaaaR
import Derived.Test.YtnkbkhlbogcfaaaM
import Derived.Test.YtnkbkhlbogcfaaaW13
import Derived.Test.YtnkbkhlbogcfaaaR4
namespace Go.Proofs.Ytnkbkhlbogcfaaa.sectionSizes
open Go.ChangeShapes Go.WideShapes Go.ChangeAt Go.RowKit
open Go.ChangeMaps (open_string shut_string)
set_option linter.unusedVariables false
set_option linter.unusedSimpArgs false

set_option maxRecDepth 100000 in
theorem lifted (os : Os) (started : os.Started) (H : Type) (enc : TypeId × Value → H) :
    ReturnsInHanded {} Try.checked os 13 .any (Rows.sectionSizesSpec.pre6 enc Try.prog Try.f13 Rows.sectionSizesRow.domain false) (Rows.sectionSizesSpec.post enc Try.prog Try.f13 false true false false) := by
  refine returnsInHanded_of_change (C := Try.checked) own started (by kernel_rfl) Try.func13
    (ChangeSpec.witness6 (enc := enc) (C := Try.checked) false ⟨#[], #[.int .i64 0, .slice none 0 0], []⟩ 8 (by kernel_rfl) (by kernel_rfl) (by kernel_rfl) (by kernel_rfl)) ?_
  intro W base args ds gs before hval0 hW hcnd _
  have hval : ∀ (j : Nat) t v, Try.f13.params[j]? = some t → args[j]? = some v → Value.okWide Try.prog W .any base t v := hval0
  have hW' := hW
  obtain ⟨p, q, hA0, hV, rfl, hfz, hnd⟩ := hW
  have hA : DataW.TrodAll enc Try.prog W 0 (fun _ => true) true Try.f13.params.toList args.toList ds p := hA0
  rw [Try.params13] at hA hval
  obtain ⟨v0, vs0, d0, ds0, p0, q0, hargs, rfl, rfl, h0, r0⟩ := trodAll_cons hA
  obtain ⟨v1, vs1, d1, ds1, p1, q1, rfl, rfl, rfl, h1, r1⟩ := trodAll_cons r0
  obtain ⟨rfl, rfl, rfl⟩ := trodAll_nil r1
  obtain rfl : args = #[v0, v1] := by cases args; simp_all
  obtain ⟨rfl, rfl⟩ := trodVars_none hV
  obtain ⟨a0, rfl, rfl, rfl, w0⟩ := open_int Try.underlying3 (hval 0 3 v0 rfl rfl) h0
  have k1 := h1
  have lt1 : ∀ x ∈ p1, x.block < W.heap.size := by obtain ⟨m, hm⟩ := k1; exact DataW.trod_lt m _ _ _ hm
  obtain ⟨a1, b1, cap1, rfl, w1, y1⟩ := open_sections (hval 1 63 v1 rfl rfl) h1
  clear hA0 hval0
  refine (sectionSizes_row a0 w0 a1 b1 cap1 w1 y1).mono fun e W' ⟨he, bel⟩ => ?_
  subst he
  exact ⟨_, rfl, _, _, _, [], _, [], hW', trodAll_mk1 (shut_bool Try.underlying4 _), (trodAll_cons_mk (shut_int Try.underlying3 w0) (trodAll_cons_mk (Below.trod laidOut (by kernel_rfl) (of_decide_eq_true (by kernel_rfl)) k1 bel lt1) trodAll_mk0)), rfl, bel.frame _, fun h => by cases h⟩

set_option maxHeartbeats 20000000 in
theorem closed : joinedFacts Try.prog 13 Try.f13 Rows.sectionSizesSpec Rows.sectionSizesRow = true := by
  unfold joinedFacts
  repeat' (with_reducible refine and_both ?_ ?_)
  all_goals first
    | (with_reducible exact mayEnter_ok)
    | (rw [liftsFinal_ok]; as_aux_lemma => kernel_rfl)
    | (rw [make_ok]; as_aux_lemma => kernel_rfl)
    | (as_aux_lemma => kernel_rfl)

theorem over : Rows.sectionSizesRow.holds Try.pinned (OpenSpec.ofChange Rows.sectionSizesSpec) :=
  OpenClaim.holds_of_wide 13 Try.f13 rfl rfl rfl rfl rfl rfl rfl ⟨rfl, rfl, rfl, rfl, rfl⟩ rfl rfl rfl rfl rfl (by kernel_rfl) Try.func13 closed
    (of_decide_eq_true (by kernel_rfl)) (by unfold Func.isWrapper; first | (rw [if_pos (by decide +kernel)]; kernel_rfl) | (rw [if_neg (by decide +kernel)]; exact ⟨rfl, rfl⟩))
    (fun os started H enc _ => lifted os started H enc)
end Go.Proofs.Ytnkbkhlbogcfaaa.sectionSizes

namespace Go.Proofs.Ytnkbkhlbogcfaaa
/-- For any version, any sections (made such as may be, the first 16, of 100 bytes each): a file has its four bytes, its version, how many sections there are, of each its Kind, how many bytes it has, its bytes and its sum, and the last sum: the law SectionSizes returns true at every input, and its arguments read afterwards as before. No condition. -/
theorem sectionSizes_holds : Rows.SectionSizesSaid := sectionSizes.over
#print axioms sectionSizes_holds
end Go.Proofs.Ytnkbkhlbogcfaaa

