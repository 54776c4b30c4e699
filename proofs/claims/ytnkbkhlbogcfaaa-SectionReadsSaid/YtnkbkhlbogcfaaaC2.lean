/- A sum of bytes in memory: made, fed, told. -/
import Derived.Test.YtnkbkhlbogcfaaaC1
import Derived.BigRegion
set_option linter.unusedVariables false
set_option linter.unusedSimpArgs false
namespace Go.Proofs.Ytnkbkhlbogcfaaa
open Go.RowKit Go.Proofs.YtnkbkhlbogcfaaaW.PrintWords
noncomputable section

/-- a sum's cells: the table, the register, how many came -/
def sumA (r : Nat) (n : Nat) : Array Value := tabA 256 ++ #[.int .u32 r, .int .i64 n]
theorem sumA_size (r n : Nat) : (sumA r n).size = 258 := by simp [sumA, tabA_size]
theorem sumA_tab (r n j : Nat) (h : j < 256) : (sumA r n)[j]? = some (.int .u32 (Cm.step8 j : Nat)) := by
  unfold sumA
  rw [Array.getElem?_append_left (by rw [tabA_size]; exact h), tabA_get _ _ h, if_pos h]
theorem sumA_reg (r n : Nat) : (sumA r n)[256]? = some (.int .u32 r) := by
  unfold sumA
  rw [Array.getElem?_append_right (by rw [tabA_size]; omega), tabA_size]
  rfl
theorem sumA_num (r n : Nat) : (sumA r n)[257]? = some (.int .i64 n) := by
  unfold sumA
  rw [Array.getElem?_append_right (by rw [tabA_size]; omega), tabA_size]
  rfl

theorem sumA_set_reg (r n r' : Nat) : (sumA r n).setIfInBounds 256 (.int .u32 r') = sumA r' n := by
  unfold sumA
  rw [Array.setIfInBounds_append_right (by rw [tabA_size]; omega), tabA_size]
  rfl
theorem sumA_set_num (r n n' : Nat) : (sumA r n).setIfInBounds 257 (.int .i64 n') = sumA r n' := by
  unfold sumA
  rw [Array.setIfInBounds_append_right (by rw [tabA_size]; omega), tabA_size]
  rfl

theorem build_sum (w : World) : (Instr.build 103 #[(0, .agg (tabA 256)), (1, .int .u32 4294967295)]).run Try.prog w = .ok (.agg (sumA Cm.all 0)) w := by kernel_rfl
attribute [irreducible] sumA

set_option maxHeartbeats 400000 in
set_option maxRecDepth 100000 in
theorem new_any (w : World) :
    Calls Try.prog 25 #[] w fun e w' => ∃ p, e = .returned (.pointer (some ⟨p, 0, none⟩)) ∧ w.heap.size ≤ p ∧ w'.heap[p]? = some (.cells (sumA Cm.all 0) 103 (0, 0)) ∧ Below w.heap.size w w' := by
  go_enter Try.func25, Try.ntmps25
  go_wp2_with fail
  refine (table_any _).mono ?_
  rintro e w1 ⟨rfl, hb⟩
  go_wp2_with (refine wpList_build (o := ⟨some 2, _, _, _, _, _⟩) 103 _ rfl rfl [(0, .agg (tabA 256)), (1, .int .u32 4294967295)] ?_ (build_sum _) ?_; simp [go_sem])
  go_ret
  refine ⟨w1.heap.size, rfl, hb.size, heap_alloc_new _ _, hb.alloc hb.size _⟩
end
end Go.Proofs.Ytnkbkhlbogcfaaa
