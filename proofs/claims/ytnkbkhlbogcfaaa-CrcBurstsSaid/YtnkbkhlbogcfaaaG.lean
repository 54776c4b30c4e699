/- Two arrays of four bytes are held against each other. -/
import Derived.Test.YtnkbkhlbogcfaaaA
set_option linter.unusedVariables false
set_option linter.unusedSimpArgs false
namespace Go.Proofs.Ytnkbkhlbogcfaaa
open Go.RowKit
theorem part5 (cs : Array Value) (i : Nat) (v : Value) (h : cs[i]? = some v) (w : World) : (part 5 cs i).run Try.prog w = .ok v w := by
  have hag : (isAgg 5).run Try.prog w = .ok false w := by
    unfold isAgg
    simp [Sem.run_bind, run_underlying Try.underlying5]
  simp [part, Sem.run_bind, hag, h]
theorem part5_0 (a b c d : Value) (w : World) : (part 5 #[a, b, c, d] 0).run Try.prog w = .ok a w := part5 _ _ _ rfl w
theorem part5_1 (a b c d : Value) (w : World) : (part 5 #[a, b, c, d] 1).run Try.prog w = .ok b w := part5 _ _ _ rfl w
theorem part5_2 (a b c d : Value) (w : World) : (part 5 #[a, b, c, d] 2).run Try.prog w = .ok c w := part5 _ _ _ rfl w
theorem part5_3 (a b c d : Value) (w : World) : (part 5 #[a, b, c, d] 3).run Try.prog w = .ok d w := part5 _ _ _ rfl w
theorem run_eqarr4 (d : Nat) (a0 a1 a2 a3 b0 b1 b2 b3 : Int) (w : World) :
    (Op.equalIn (d + 2) 23 (.agg #[.int .u8 a0, .int .u8 a1, .int .u8 a2, .int .u8 a3]) (.agg #[.int .u8 b0, .int .u8 b1, .int .u8 b2, .int .u8 b3])).run Try.prog w = .ok (a0 == b0 && a1 == b1 && a2 == b2 && a3 == b3) w := by
  obtain ⟨i0, hi, hz0, hz1, hz2⟩ := info_parts Try.info5
  have he : ∀ (a b : Int) (w : World), (Op.equalIn (d + 1) 5 (.int .u8 a) (.int .u8 b)).run Try.prog w = .ok (a == b) w := fun a b w => run_equalIn_int w d 5 .u8 .u8 a b Try.underlying5
  rw [Op.equalIn]
  simp only [Sem.run_bind, run_underlying Try.underlying23, Result.andThen_ok]
  simp [sizeOf, typeInfo, hi, hz1, show List.range' 0 4 = [0, 1, 2, 3] from rfl, List.forIn_cons, Sem.run_bind, part5_0, part5_1, part5_2, part5_3, he]
  by_cases h0 : a0 = b0
  · by_cases h1 : a1 = b1
    · by_cases h2 : a2 = b2
      · by_cases h3 : a3 = b3
        · simp [h0, h1, h2, h3]
        · simp [h0, h1, h2, h3]
      · simp [h0, h1, h2]
    · simp [h0, h1]
  · simp [h0]
/-- '==' of two arrays of four bytes -/
theorem run_eql23 (a0 a1 a2 a3 b0 b1 b2 b3 : Int) (w : World) :
    (binOp .eql 23 (.agg #[.int .u8 a0, .int .u8 a1, .int .u8 a2, .int .u8 a3]) (.agg #[.int .u8 b0, .int .u8 b1, .int .u8 b2, .int .u8 b3])).run Try.prog w = .ok (.bool (a0 == b0 && a1 == b1 && a2 == b2 && a3 == b3)) w := by
  rw [run_eql_struct, run_eqarr4 9998]
  rfl
end Go.Proofs.Ytnkbkhlbogcfaaa
