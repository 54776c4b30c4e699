/- WireWrites: the walk. -/
import Derived.Test.YtnkbkhlbogcfaaaQ
set_option linter.unusedVariables false
set_option linter.unusedSimpArgs false
namespace Go.Proofs.Ytnkbkhlbogcfaaa
open Go.RowKit Go.Proofs.YtnkbkhlbogcfaaaW.PrintWords
noncomputable section

set_option maxHeartbeats 2000000 in
set_option maxRecDepth 100000 in
theorem wireWrites_row {w : World} (A : Option Addr) (l : List PutV) (c : Nat) (hP : PU w A l) (hc : l.length ≤ c) :
    Calls Try.prog 7 #[.slice A l.length c] w fun e w' => e = .returned (.bool true) ∧ Below w.heap.size w w' := by
  have hP' := Lib.hid hP
  clear hP
  go_enter Try.func7, Try.ntmps7
  go_wp2_with fail
  refine (puts_any l A l.length c _ rfl hP'.out).mono ?_
  rintro e w1 ⟨A1, n, c1, B, d, rfl, ho1, ho2, hn, hb1⟩
  have H1 := Lib.hid (And.intro ho1 (And.intro ho2 hb1))
  clear ho1 ho2 hb1
  go_wp2_with fail
  refine (same_any _ _ A1 B n n c1 d _ H1.out.1.len H1.out.2.1.len H1.out.1.rb H1.out.2.1.rb (by omega)).mono ?_
  rintro e w2 ⟨rfl, hb2⟩
  have H2 := Lib.hid hb2
  clear hb2
  simp only [decide_true]
  go_wp2_with fail
  refine (lives01_any _).mono ?_
  rintro e w3 ⟨rfl, hb3⟩
  have H3 := Lib.hid hb3
  clear hb3
  go_wp2
  go_ret
  have s1 := H1.out.2.2.size
  exact ⟨rfl, (H1.out.2.2.trans (H2.out.mono s1)).trans (H3.out.mono (Nat.le_trans s1 H2.out.size))⟩
end
end Go.Proofs.Ytnkbkhlbogcfaaa
