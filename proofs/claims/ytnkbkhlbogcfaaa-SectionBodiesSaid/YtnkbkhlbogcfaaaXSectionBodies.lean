/- For any sections, any of them, any place, any four bytes: a file of which a Body is turned within four bytes side by side is refused for its own sum, whatever the last sum is: the law SectionBodies returns true at every input, and its arguments read afterwards as before. No condition. -/
import Derived.Test.YtnkbkhlbogcfaaaR
import Derived.Test.YtnkbkhlbogcfaaaM
import Derived.Test.YtnkbkhlbogcfaaaW19
import Derived.Test.YtnkbkhlbogcfaaaR2
import Derived.Test.YtnkbkhlbogcfaaaR4
namespace Go.Proofs.Ytnkbkhlbogcfaaa.sectionBodies
open Go.ChangeShapes Go.WideShapes Go.ChangeAt Go.RowKit
open Go.ChangeMaps (open_string shut_string)
set_option linter.unusedVariables false
set_option linter.unusedSimpArgs false

set_option maxRecDepth 100000 in
theorem lifted (os : Os) (started : os.Started) (H : Type) (enc : TypeId × Value → H) :
    ReturnsInHanded {} Try.checked os 19 .any (Rows.sectionBodiesSpec.pre6 enc Try.prog Try.f19 Rows.sectionBodiesRow.domain false) (Rows.sectionBodiesSpec.post enc Try.prog Try.f19 false true false false) := by
  refine returnsInHanded_of_change (C := Try.checked) own started (by kernel_rfl) Try.func19
    (ChangeSpec.witness6 (enc := enc) (C := Try.checked) false ⟨#[], #[.slice none 0 0, .int .i64 0, .int .i64 0, .agg #[.int .u8 0, .int .u8 0, .int .u8 0, .int .u8 0]], []⟩ 8 (by kernel_rfl) (by kernel_rfl) (by kernel_rfl) (by kernel_rfl)) ?_
  intro W base args ds gs before hval0 hW hcnd _
  have hval : ∀ (j : Nat) t v, Try.f19.params[j]? = some t → args[j]? = some v → Value.okWide Try.prog W .any base t v := hval0
  have hW' := hW
  obtain ⟨p, q, hA0, hV, rfl, hfz, hnd⟩ := hW
  have hA : DataW.TrodAll enc Try.prog W 0 (fun _ => true) true Try.f19.params.toList args.toList ds p := hA0
  rw [Try.params19] at hA hval
  obtain ⟨v0, vs0, d0, ds0, p0, q0, hargs, rfl, rfl, h0, r0⟩ := trodAll_cons hA
  obtain ⟨v1, vs1, d1, ds1, p1, q1, rfl, rfl, rfl, h1, r1⟩ := trodAll_cons r0
  obtain ⟨v2, vs2, d2, ds2, p2, q2, rfl, rfl, rfl, h2, r2⟩ := trodAll_cons r1
  obtain ⟨v3, vs3, d3, ds3, p3, q3, rfl, rfl, rfl, h3, r3⟩ := trodAll_cons r2
  obtain ⟨rfl, rfl, rfl⟩ := trodAll_nil r3
  obtain rfl : args = #[v0, v1, v2, v3] := by cases args; simp_all
  obtain ⟨rfl, rfl⟩ := trodVars_none hV
  have k0 := h0
  have lt0 : ∀ x ∈ p0, x.block < W.heap.size := by obtain ⟨m, hm⟩ := k0; exact DataW.trod_lt m _ _ _ hm
  obtain ⟨a0, b0, cap0, rfl, w0, y0⟩ := open_sections (hval 0 63 v0 rfl rfl) h0
  obtain ⟨a1, rfl, rfl, rfl, w1⟩ := open_int Try.underlying3 (hval 1 3 v1 rfl rfl) h1
  obtain ⟨a2, rfl, rfl, rfl, w2⟩ := open_int Try.underlying3 (hval 2 3 v2 rfl rfl) h2
  have k3 := h3
  have lt3 : ∀ x ∈ p3, x.block < W.heap.size := by obtain ⟨m, hm⟩ := k3; exact DataW.trod_lt m _ _ _ hm
  obtain ⟨x3a, x3b, x3c, x3d, rfl⟩ := open_arr4 (hval 3 23 v3 rfl rfl) h3
  clear hA0 hval0
  refine (sectionBodies_row a0 b0 cap0 w0 y0 a1 w1 a2 w2 x3a x3b x3c x3d).mono fun e W' ⟨he, bel⟩ => ?_
  subst he
  exact ⟨_, rfl, _, _, _, [], _, [], hW', trodAll_mk1 (shut_bool Try.underlying4 _), (trodAll_cons_mk (Below.trod laidOut (by kernel_rfl) (of_decide_eq_true (by kernel_rfl)) k0 bel lt0) (trodAll_cons_mk (shut_int Try.underlying3 w1) (trodAll_cons_mk (shut_int Try.underlying3 w2) (trodAll_cons_mk (Below.trod laidOut (by kernel_rfl) (of_decide_eq_true (by kernel_rfl)) k3 bel lt3) trodAll_mk0)))), rfl, bel.frame _, fun h => by cases h⟩

set_option maxHeartbeats 20000000 in
theorem closed : joinedFacts Try.prog 19 Try.f19 Rows.sectionBodiesSpec Rows.sectionBodiesRow = true := by
  unfold joinedFacts
  repeat' (with_reducible refine and_both ?_ ?_)
  all_goals first
    | (with_reducible exact mayEnter_ok)
    | (rw [liftsFinal_ok]; as_aux_lemma => kernel_rfl)
    | (rw [make_ok]; as_aux_lemma => kernel_rfl)
    | (as_aux_lemma => kernel_rfl)

theorem over : Rows.sectionBodiesRow.holds Try.pinned (OpenSpec.ofChange Rows.sectionBodiesSpec) :=
  OpenClaim.holds_of_wide 19 Try.f19 rfl rfl rfl rfl rfl rfl rfl ⟨rfl, rfl, rfl, rfl, rfl⟩ rfl rfl rfl rfl rfl (by kernel_rfl) Try.func19 closed
    (of_decide_eq_true (by kernel_rfl)) (by unfold Func.isWrapper; first | (rw [if_pos (by decide +kernel)]; kernel_rfl) | (rw [if_neg (by decide +kernel)]; exact ⟨rfl, rfl⟩))
    (fun os started H enc _ => lifted os started H enc)
end Go.Proofs.Ytnkbkhlbogcfaaa.sectionBodies

namespace Go.Proofs.Ytnkbkhlbogcfaaa
/-- For any sections, any of them, any place, any four bytes: a file of which a Body is turned within four bytes side by side is refused for its own sum, whatever the last sum is: the law SectionBodies returns true at every input, and its arguments read afterwards as before. No condition. -/
theorem sectionBodies_holds : Rows.SectionBodiesSaid := sectionBodies.over
#print axioms sectionBodies_holds
end Go.Proofs.Ytnkbkhlbogcfaaa

