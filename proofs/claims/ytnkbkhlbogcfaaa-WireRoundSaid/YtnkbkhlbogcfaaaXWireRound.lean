/- For any things that are written (the first 20 numbers and texts, texts of 200 bytes): what is written is read, in its row, and nothing is left: the law WireRound returns true at every input, and its argument reads afterwards as before. No condition. -/
import Derived.Test.YtnkbkhlbogcfaaaR
import Derived.Test.YtnkbkhlbogcfaaaM
import Derived.Test.YtnkbkhlbogcfaaaW14
import Derived.Test.YtnkbkhlbogcfaaaR3
namespace Go.Proofs.Ytnkbkhlbogcfaaa.wireRound
open Go.ChangeShapes Go.WideShapes Go.ChangeAt Go.RowKit
open Go.ChangeMaps (open_string shut_string)
set_option linter.unusedVariables false
set_option linter.unusedSimpArgs false

set_option maxRecDepth 100000 in
theorem lifted (os : Os) (started : os.Started) (H : Type) (enc : TypeId × Value → H) :
    ReturnsInHanded {} Try.checked os 14 .any (Rows.wireRoundSpec.pre6 enc Try.prog Try.f14 Rows.wireRoundRow.domain false) (Rows.wireRoundSpec.post enc Try.prog Try.f14 false true false false) := by
  refine returnsInHanded_of_change (C := Try.checked) own started (by kernel_rfl) Try.func14
    (ChangeSpec.witness6 (enc := enc) (C := Try.checked) false ⟨#[], #[.slice none 0 0], []⟩ 8 (by kernel_rfl) (by kernel_rfl) (by kernel_rfl) (by kernel_rfl)) ?_
  intro W base args ds gs before hval0 hW hcnd _
  have hval : ∀ (j : Nat) t v, Try.f14.params[j]? = some t → args[j]? = some v → Value.okWide Try.prog W .any base t v := hval0
  have hW' := hW
  obtain ⟨p, q, hA0, hV, rfl, hfz, hnd⟩ := hW
  have hA : DataW.TrodAll enc Try.prog W 0 (fun _ => true) true Try.f14.params.toList args.toList ds p := hA0
  rw [Try.params14] at hA hval
  obtain ⟨v0, vs0, d0, ds0, p0, q0, hargs, rfl, rfl, h0, r0⟩ := trodAll_cons hA
  obtain ⟨rfl, rfl, rfl⟩ := trodAll_nil r0
  obtain rfl : args = #[v0] := by cases args; simp_all
  obtain ⟨rfl, rfl⟩ := trodVars_none hV
  have k0 := h0
  have lt0 : ∀ x ∈ p0, x.block < W.heap.size := by obtain ⟨m, hm⟩ := k0; exact DataW.trod_lt m _ _ _ hm
  obtain ⟨a0, b0, cap0, rfl, w0, y0⟩ := open_puts (hval 0 45 v0 rfl rfl) h0
  clear hA0 hval0
  refine (wireRound_row a0 b0 cap0 w0 y0).mono fun e W' ⟨he, bel⟩ => ?_
  subst he
  exact ⟨_, rfl, _, _, _, [], _, [], hW', trodAll_mk1 (shut_bool Try.underlying4 _), (trodAll_cons_mk (Below.trod laidOut (by kernel_rfl) (of_decide_eq_true (by kernel_rfl)) k0 bel lt0) trodAll_mk0), rfl, bel.frame _, fun h => by cases h⟩

set_option maxHeartbeats 20000000 in
theorem closed : joinedFacts Try.prog 14 Try.f14 Rows.wireRoundSpec Rows.wireRoundRow = true := by
  unfold joinedFacts
  repeat' (with_reducible refine and_both ?_ ?_)
  all_goals first
    | (with_reducible exact mayEnter_ok)
    | (rw [liftsFinal_ok]; as_aux_lemma => kernel_rfl)
    | (rw [make_ok]; as_aux_lemma => kernel_rfl)
    | (as_aux_lemma => kernel_rfl)

theorem over : Rows.wireRoundRow.holds Try.pinned (OpenSpec.ofChange Rows.wireRoundSpec) :=
  OpenClaim.holds_of_wide 14 Try.f14 rfl rfl rfl rfl rfl rfl rfl ⟨rfl, rfl, rfl, rfl, rfl⟩ rfl rfl rfl rfl rfl (by kernel_rfl) Try.func14 closed
    (of_decide_eq_true (by kernel_rfl)) (by unfold Func.isWrapper; first | (rw [if_pos (by decide +kernel)]; kernel_rfl) | (rw [if_neg (by decide +kernel)]; exact ⟨rfl, rfl⟩))
    (fun os started H enc _ => lifted os started H enc)
end Go.Proofs.Ytnkbkhlbogcfaaa.wireRound

namespace Go.Proofs.Ytnkbkhlbogcfaaa
/-- For any things that are written (the first 20 numbers and texts, texts of 200 bytes): what is written is read, in its row, and nothing is left: the law WireRound returns true at every input, and its argument reads afterwards as before. No condition. -/
theorem wireRound_holds : Rows.WireRoundSaid := wireRound.over
#print axioms wireRound_holds
end Go.Proofs.Ytnkbkhlbogcfaaa

