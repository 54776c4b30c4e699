/- For any bytes (the first 12): a short number has one form alone: what is read as one is written so again: the law WireOne returns true at every input, and its argument reads afterwards as before. No condition. -/
import Derived.Test.YtnkbkhlbogcfaaaR
import Derived.Test.YtnkbkhlbogcfaaaM
import Derived.Test.YtnkbkhlbogcfaaaW12
namespace Go.Proofs.Ytnkbkhlbogcfaaa.wireOne
open Go.ChangeShapes Go.WideShapes Go.ChangeAt Go.RowKit
open Go.ChangeMaps (open_string shut_string)
set_option linter.unusedVariables false
set_option linter.unusedSimpArgs false

set_option maxRecDepth 100000 in
theorem lifted (os : Os) (started : os.Started) (H : Type) (enc : TypeId × Value → H) :
    ReturnsInHanded {} Try.checked os 12 .any (Rows.wireOneSpec.pre6 enc Try.prog Try.f12 Rows.wireOneRow.domain false) (Rows.wireOneSpec.post enc Try.prog Try.f12 false true false false) := by
  refine returnsInHanded_of_change (C := Try.checked) own started (by kernel_rfl) Try.func12
    (ChangeSpec.witness6 (enc := enc) (C := Try.checked) false ⟨#[], #[.slice none 0 0], []⟩ 8 (by kernel_rfl) (by kernel_rfl) (by kernel_rfl) (by kernel_rfl)) ?_
  intro W base args ds gs before hval0 hW hcnd _
  have hval : ∀ (j : Nat) t v, Try.f12.params[j]? = some t → args[j]? = some v → Value.okWide Try.prog W .any base t v := hval0
  have hW' := hW
  obtain ⟨p, q, hA0, hV, rfl, hfz, hnd⟩ := hW
  have hA : DataW.TrodAll enc Try.prog W 0 (fun _ => true) true Try.f12.params.toList args.toList ds p := hA0
  rw [Try.params12] at hA hval
  obtain ⟨v0, vs0, d0, ds0, p0, q0, hargs, rfl, rfl, h0, r0⟩ := trodAll_cons hA
  obtain ⟨rfl, rfl, rfl⟩ := trodAll_nil r0
  obtain rfl : args = #[v0] := by cases args; simp_all
  obtain ⟨rfl, rfl⟩ := trodVars_none hV
  have k0 := h0
  have lt0 : ∀ x ∈ p0, x.block < W.heap.size := by obtain ⟨m, hm⟩ := k0; exact DataW.trod_lt m _ _ _ hm
  obtain ⟨a0, b0, cap0, rfl, w0, y0⟩ := open_bytes (hval 0 22 v0 rfl rfl) h0
  clear hA0 hval0
  refine (wireOne_row a0 b0 cap0 w0 y0).mono fun e W' ⟨he, bel⟩ => ?_
  subst he
  exact ⟨_, rfl, _, _, _, [], _, [], hW', trodAll_mk1 (shut_bool Try.underlying4 _), (trodAll_cons_mk (Below.trod laidOut (by kernel_rfl) (of_decide_eq_true (by kernel_rfl)) k0 bel lt0) trodAll_mk0), rfl, bel.frame _, fun h => by cases h⟩

set_option maxHeartbeats 20000000 in
theorem closed : joinedFacts Try.prog 12 Try.f12 Rows.wireOneSpec Rows.wireOneRow = true := by
  unfold joinedFacts
  repeat' (with_reducible refine and_both ?_ ?_)
  all_goals first
    | (with_reducible exact mayEnter_ok)
    | (rw [liftsFinal_ok]; as_aux_lemma => kernel_rfl)
    | (rw [make_ok]; as_aux_lemma => kernel_rfl)
    | (as_aux_lemma => kernel_rfl)

theorem over : Rows.wireOneRow.holds Try.pinned (OpenSpec.ofChange Rows.wireOneSpec) :=
  OpenClaim.holds_of_wide 12 Try.f12 rfl rfl rfl rfl rfl rfl rfl ⟨rfl, rfl, rfl, rfl, rfl⟩ rfl rfl rfl rfl rfl (by kernel_rfl) Try.func12 closed
    (of_decide_eq_true (by kernel_rfl)) (by unfold Func.isWrapper; first | (rw [if_pos (by decide +kernel)]; kernel_rfl) | (rw [if_neg (by decide +kernel)]; exact ⟨rfl, rfl⟩))
    (fun os started H enc _ => lifted os started H enc)
end Go.Proofs.Ytnkbkhlbogcfaaa.wireOne

namespace Go.Proofs.Ytnkbkhlbogcfaaa
/-- For any bytes (the first 12): a short number has one form alone: what is read as one is written so again: the law WireOne returns true at every input, and its argument reads afterwards as before. No condition. -/
theorem wireOne_holds : Rows.WireOneSaid := wireOne.over
#print axioms wireOne_holds
end Go.Proofs.Ytnkbkhlbogcfaaa

