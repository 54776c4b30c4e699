/- The function that Text hands to take. -/
import Derived.Test.YtnkbkhlbogcfaaaUt
import Derived.Lib.BufferRead
set_option linter.unusedVariables false
set_option linter.unusedSimpArgs false
namespace Go.Proofs.Ytnkbkhlbogcfaaa
open Go.RowKit Go.Proofs.YtnkbkhlbogcfaaaW.PrintWords
noncomputable section

/-- bytes as a string -/
def bs (b : List UInt8) : ByteArray := ⟨b.toArray⟩
theorem sb_bs (b : List UInt8) : sb (bs b) = b := by simp [sb, bs]
theorem bs_sb (s : ByteArray) : bs (sb s) = s := by simp [sb, bs]
theorem bs_size (b : List UInt8) : (bs b).size = b.length := by simp [bs, ByteArray.size]
theorem run_convB {W : World} {A : Option Addr} {n c : Nat} {b : List UInt8} (hR : RB W A b) (hl : b.length = n) : (convert 22 9 (.slice A n c)).run Try.prog W = .ok (.string (bs b)) W := by
  subst hl
  cases A with
  | none =>
    have h0 : b = [] := by
      rcases Nat.eq_zero_or_pos b.length with h | h
      · exact List.eq_nil_of_length_eq_zero h
      · obtain ⟨ad, e, _⟩ := hR.2.2 h
        cases e
    subst h0
    exact Lib.run_convert_nil_bytes W 22 9 5 c Try.underlying22 Try.underlying5 Try.underlying9
  | some ad =>
    refine run_convert_bytes_back (P := Try.prog) W 22 9 5 ad c b Try.underlying22 Try.underlying5 Try.underlying9 fun j hj => ?_
    obtain ⟨ad', e, h⟩ := hR.at_ (List.getElem?_eq_getElem hj)
    injection e with e
    rw [e]
    exact h
section
variable {ops : Array Oper} {rest : List Oper} {o : Oper} {a : Act} {Q : Exit → Act → World → Prop} {W : World} {s x : Operand}
/-- string(b) -/
theorem convB (A : Option Addr) (n c : Nat) (b : List UInt8) (hgd : o.guard = none) (ho : o.op = .convert 22 9 x) (hx : a.eval x = .slice A n c) (hR : RB W A b) (hl : b.length = n)
    (h : wpList Try.prog ops Q rest (a.put o.dst (.string (bs b))) W) : wpList Try.prog ops Q (o :: rest) a W := by
  refine wpList_plain hgd fun K hK => ?_
  have hr := run_convB (c := c) hR hl
  unfold Oper.wp execOp
  simp only [ho, hx, Sem.run_bind, Sem.run_pure, Result.andThen_ok, hr]
  exact hK _ _ h
end

/-- what Text makes of a short number -/
def txS (n : Nat) (b : List UInt8) (q : Nat × Nat × Nat) : List UInt8 × Nat × Nat := if q.2.2 ≠ 0 then ([], 0, q.2.2) else if n < q.2.1 + q.1 then ([], 0, 2) else ((b.drop q.2.1).take q.1, q.2.1 + q.1, 0)

set_option maxHeartbeats 1000000 in
set_option maxRecDepth 100000 in
theorem clos88 (g n c : Nat) (A : Option Addr) (b : List UInt8) (w : World) (hg : w.heap[g]? = some (.cells #[.string ⟨#[]⟩] 9 (0, 0))) (hl : b.length = n) (hR : RB w A b) (hn : n ≤ 1000000) (hnc : n ≤ c) :
    Calls Try.prog 88 #[.slice A n c, .pointer (some ⟨g, 0, none⟩)] w fun e w' => e = .returned (.tuple #[.int .i64 ((txS n b (rdS 0 0 b)).2.1 : Nat), .int .i64 ((txS n b (rdS 0 0 b)).2.2 : Nat)]) ∧
      Below g w w' ∧ w'.cell? ⟨g, 0, none⟩ = some (.string (bs (txS n b (rdS 0 0 b)).1)) := by
  have c1 := cell_of_one hg
  have f1 := free_of_one hg
  have hG := Lib.hid hg
  have hS := short_read b A n c w hl hR hn hnc
  have hx := rd_lt b
  have hk := (rdS_bounds b 0 0 (by omega) (by simp)).2.1
  have he := (rdS_bounds b 0 0 (by omega) (by simp)).2.2.2.2
  obtain ⟨x, k, er, hq⟩ : ∃ x k er, rdS 0 0 b = (x, k, er) := ⟨_, _, _, rfl⟩
  rw [hq] at hS hx hk he ⊢
  dsimp only at hS hx hk he ⊢
  have x0 : (0 : Int) ≤ (x : Int) := by omega
  have k0 : (0 : Int) ≤ (k : Int) := by omega
  have kn : (k : Int) ≤ (n : Int) := by omega
  have kc : (k : Int) ≤ (c : Int) := by omega
  have nc : (n : Int) ≤ (c : Int) := by omega
  have hS' := Lib.hid hS
  have hH := Lib.hid (And.intro hR hl)
  have hE := Lib.hid he
  clear hS hg hR hq hl he
  by_cases h0 : er = 0
  · subst h0
    by_cases hs : n < k + x
    · have e1 : txS n b (x, k, 0) = ([], 0, 2) := by unfold txS; rw [if_neg (by simp), if_pos hs]
      have g1 : (n : Int) - (k : Int) < (x : Int) := by omega
      rw [e1]
      clear e1 hs
      go_enter Try.func88, Try.ntmps88
      go_wp2_with fail
      refine hS'.out.mono ?_
      rintro e w1 ⟨rfl, rfl⟩
      go_wp2
      go_ret2
      exact ⟨rfl, Below.refl _ _, c1⟩
    · have e1 : txS n b (x, k, 0) = ((b.drop k).take x, k + x, 0) := by unfold txS; rw [if_neg (by simp), if_neg hs]
      have g1 : (x : Int) ≤ (n : Int) - (k : Int) := by omega
      have g2 : (k : Int) + (x : Int) ≤ (n : Int) := by omega
      rw [e1]
      have hD := hH.out.1.drop c k (by omega) (by have := hH.out.2; omega)
      unfold dropA at hD
      clear e1 hs
      by_cases hca : c = k
      all_goals
        first
          | (rw [if_pos hca] at hD; have hca' := hca.symm; subst hca')
          | rw [if_neg hca] at hD
        have HD := Lib.hid (hD.take x (by have := hH.out.2; simp; omega))
        have HL := Lib.hid (show ((b.drop k).take x).length = k + x - k by have := hH.out.2; simp; omega)
        clear hD
        go_enter Try.func88, Try.ntmps88
        go_wp2_with fail
        refine hS'.out.mono ?_
        rintro e w1 ⟨rfl, rfl⟩
        go_wp2_with (refine convB _ (k + x - k) _ ((b.drop k).take x) rfl rfl rfl HD.out HL.out ?_)
        go_ret2
        have e2 : ((k + x : Nat) : Int) = (k : Int) + (x : Int) := by omega
        dsimp only
        rw [e2]
        exact ⟨rfl, (Below.refl _ _).setCell (by simp) _, cell_of_one (one_setCell hG.out)⟩
  · obtain ⟨rfl, rfl⟩ := hE.out h0
    have e1 : txS n b (0, 0, er) = ([], 0, er) := by unfold txS; rw [if_pos h0]
    rw [e1]
    have g1 : ((er : Int) == 0) = false := by simp; omega
    have HN : ∀ A', RB w A' [] := fun A' => ⟨by simp [bv], by simp, fun h => absurd h (by simp)⟩
    have HN := Lib.hid HN
    clear e1 h0 hx x0 k0 kn kc hk
    go_enter Try.func88, Try.ntmps88
    go_wp2_with fail
    refine hS'.out.mono ?_
    rintro e w1 ⟨rfl, rfl⟩
    go_wp2_with (refine convB _ 0 _ [] rfl rfl rfl (HN.out _) rfl ?_)
    all_goals
      go_ret2
      exact ⟨rfl, (Below.refl _ _).setCell (by simp) _, cell_of_one (one_setCell hG.out)⟩
end
end Go.Proofs.Ytnkbkhlbogcfaaa
