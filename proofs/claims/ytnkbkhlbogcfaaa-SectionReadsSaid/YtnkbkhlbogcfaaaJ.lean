/- A writer's other methods. -/
import Derived.Test.YtnkbkhlbogcfaaaI
set_option linter.unusedVariables false
set_option linter.unusedSimpArgs false
namespace Go.Proofs.Ytnkbkhlbogcfaaa
open Go.RowKit Go.Proofs.YtnkbkhlbogcfaaaW.PrintWords
noncomputable section

/-- a signed number as a short one -/
def clampI (v : Int) : Int := min (max v (-2305843009213693952)) 2305843009213693951
def signN (v : Int) : Nat := if clampI v < 0 then (2 * (-(clampI v + 1)) + 1).toNat else (2 * clampI v).toNat

set_option maxHeartbeats 1000000 in
set_option maxRecDepth 100000 in
theorem text_any (y : ByteArray) (p base n c : Nat) (A : Option Addr) (xs : List UInt8) (w : World) (h : WrB w base p A n c xs) (hy : y.size ≤ 100000) (hn : n ≤ 1000000) :
    Calls Try.prog 34 #[.pointer (some ⟨p, 0, none⟩), .string y] w fun e w' =>
      ∃ A' c', e = .returned (.tuple #[]) ∧ WrB w' base p A' (n + (shortB y.size).length + y.size) c' (xs ++ shortB y.size ++ sb y) ∧ Mod w w' p (blk A) ∧ Succ w (blk A) (blk A') := by
  have hH := Lib.hid h
  have hl9 := Lib.hid (shortB_le9 (m := y.size) (by omega))
  clear h
  go_enter Try.func34, Try.ntmps34
  go_wp2_with fail
  refine (short_any (y.size : Int) y.size p base n c A xs _ hH.out (by omega) (by omega) hn).mono ?_
  rintro e w1 ⟨A1, c1, rfl, hw1, hm1, hs1⟩
  have ce := cell_of_one hw1.blk
  have hW := Lib.hid (And.intro hw1 (And.intro hm1 hs1))
  clear hw1 hm1 hs1
  go_wp2_with (at_builtin; refine appS base A1 (n + (shortB y.size).length) c1 (xs ++ shortB y.size) y rfl rfl rfl rfl hW.out.1.own hW.out.1.base_le (by have := hl9.out; omega) ?_; intro A2 c2 w2 ho2 hg2 hs2; obtain ⟨q1, q2, q3, q4⟩ := hW.out.1.push ho2 hg2 hs2)
  go_end0
  exact ⟨A2, c2, rfl, q3, Mod.trans hW.out.2.1 hW.out.2.2 q4, Succ.trans hW.out.2.1.size hW.out.2.2 hs2⟩

set_option maxHeartbeats 1000000 in
set_option maxRecDepth 100000 in
theorem raw_any (ys : List UInt8) (A2 : Option Addr) (m c2 : Nat) (p base n c : Nat) (A : Option Addr) (xs : List UInt8) (w : World) (h : WrB w base p A n c xs) (hR : RB w A2 ys) (hm : ys.length = m) (hy : m ≤ 100000) (hn : n ≤ 1000000) :
    Calls Try.prog 39 #[.pointer (some ⟨p, 0, none⟩), .slice A2 m c2] w fun e w' =>
      ∃ A' c', e = .returned (.tuple #[]) ∧ WrB w' base p A' (n + m) c' (xs ++ ys) ∧ Mod w w' p (blk A) ∧ Succ w (blk A) (blk A') := by
  have ce := cell_of_one h.blk
  have hH := Lib.hid (And.intro h (And.intro hR hm))
  clear h hR hm
  go_enter Try.func39, Try.ntmps39
  go_wp2_with (at_builtin; refine appB base A n c xs A2 m c2 ys rfl rfl rfl rfl hH.out.1.own hH.out.2.1 hH.out.2.2 hH.out.1.base_le (by omega) ?_; intro A3 c3 w3 ho3 hg3 hs3; rw [own_blk] at hg3 hs3; rw [own_blk] at hs3; obtain ⟨q1, q2, q3, q4⟩ := hH.out.1.push ho3 hg3 hs3)
  go_end0
  exact ⟨A3, c3, rfl, q3, q4, hs3⟩

set_option maxHeartbeats 1000000 in
set_option maxRecDepth 100000 in
theorem wbytes_any (p base n c : Nat) (A : Option Addr) (xs : List UInt8) (w : World) (h : WrB w base p A n c xs) (hn : n ≤ 1000000) :
    Calls Try.prog 40 #[.pointer (some ⟨p, 0, none⟩)] w fun e w' => ∃ A' c', e = .returned (.slice A' n c') ∧ OB w' w.heap.size A' n c' xs ∧ Below w.heap.size w w' := by
  have ce := cell_of_one h.blk
  have hH := Lib.hid h
  clear h
  go_enter Try.func40, Try.ntmps40
  go_wp2_with fail
  refine (clone_any xs A n c _ hH.out.own.len hH.out.own.rb (by omega)).mono ?_
  rintro e w2 ⟨A2, c2, rfl, ho2, hb2⟩
  have hO := Lib.hid (And.intro ho2 hb2)
  clear ho2 hb2
  go_wp2
  go_ret
  exact ⟨A2, c2, rfl, hO.out.1, hO.out.2⟩

set_option maxHeartbeats 1000000 in
set_option maxRecDepth 100000 in
theorem wlen_any (p base n c : Nat) (A : Option Addr) (xs : List UInt8) (w : World) (h : WrB w base p A n c xs) :
    Calls Try.prog 35 #[.pointer (some ⟨p, 0, none⟩)] w fun e w' => e = .returned (.int .i64 n) ∧ w' = w := by
  have ce := cell_of_one h.blk
  clear h
  go_enter Try.func35, Try.ntmps35
  go_wp2
  go_ret
  exact ⟨rfl, rfl⟩

set_option maxHeartbeats 1000000 in
set_option maxRecDepth 100000 in
theorem signed_any (v : Int) (p base n c : Nat) (A : Option Addr) (xs : List UInt8) (w : World) (h : WrB w base p A n c xs) (hn : n ≤ 1000000) :
    Calls Try.prog 76 #[.pointer (some ⟨p, 0, none⟩), .int .i64 v] w fun e w' =>
      ∃ A' c', e = .returned (.tuple #[]) ∧ WrB w' base p A' (n + (shortB (signN v)).length) c' (xs ++ shortB (signN v)) ∧ Mod w w' p (blk A) ∧ Succ w (blk A) (blk A') := by
  have hH := Lib.hid h
  obtain ⟨u, hu⟩ : ∃ u, u = max v (-2305843009213693952) := ⟨_, rfl⟩
  obtain ⟨t, ht⟩ : ∃ t, t = min u 2305843009213693951 := ⟨_, rfl⟩
  have hcl : clampI v = t := by rw [ht, hu]; rfl
  have h1 : -2305843009213693952 ≤ t := by omega
  have h2 : t ≤ 2305843009213693951 := by omega
  have hU := Lib.hid (show ([(-2305843009213693952 : Int)].foldl max v) = u from hu.symm)
  have hT := Lib.hid (show ([(2305843009213693951 : Int)].foldl min u) = t from ht.symm)
  obtain ⟨m, hm⟩ : ∃ m, m = signN v := ⟨_, rfl⟩
  rw [← hm]
  unfold signN at hm
  rw [hcl] at hm
  clear h hu ht hcl
  by_cases hneg : t < 0
  · rw [if_pos hneg] at hm
    have hmi : 2 * (-(t + 1)) + 1 = (m : Int) := by omega
    have hM := Lib.hid hmi
    clear hm hmi
    go_enter Try.func76, Try.ntmps76
    go_wp2_with (first | (refine wpList_max (o := ⟨some 5, _, _, _, _, _⟩) .i64 v [-2305843009213693952] u _ _ rfl rfl ?_ hU.out ?_; simp [go_sem]) | (refine wpList_min (o := ⟨some 6, _, _, _, _, _⟩) .i64 u [2305843009213693951] t _ _ rfl rfl ?_ hT.out ?_; simp [go_sem]))
    rw [hM.out]
    refine (short_any (m : Int) m p base n c A xs _ hH.out (by omega) (by have := hM.out; omega) hn).mono ?_
    rintro e w1 ⟨A1, c1, rfl, hw1, hm1, hs1⟩
    have hW := Lib.hid (And.intro hw1 (And.intro hm1 hs1))
    clear hw1 hm1 hs1
    go_wp2
    ((try simp only [Exit.inBlock, Exit.then]); refine bodyPost_ret (results_none rfl _ _ _) rfl ?_)
    exact ⟨A1, c1, rfl, hW.out.1, hW.out.2.1, hW.out.2.2⟩
  · rw [if_neg hneg] at hm
    have hmi : 2 * t = (m : Int) := by omega
    have hM := Lib.hid hmi
    clear hm hmi
    go_enter Try.func76, Try.ntmps76
    go_wp2_with (first | (refine wpList_max (o := ⟨some 5, _, _, _, _, _⟩) .i64 v [-2305843009213693952] u _ _ rfl rfl ?_ hU.out ?_; simp [go_sem]) | (refine wpList_min (o := ⟨some 6, _, _, _, _, _⟩) .i64 u [2305843009213693951] t _ _ rfl rfl ?_ hT.out ?_; simp [go_sem]))
    rw [hM.out]
    refine (short_any (m : Int) m p base n c A xs _ hH.out (by omega) (by have := hM.out; omega) hn).mono ?_
    rintro e w1 ⟨A1, c1, rfl, hw1, hm1, hs1⟩
    have hW := Lib.hid (And.intro hw1 (And.intro hm1 hs1))
    clear hw1 hm1 hs1
    go_wp2
    go_end0
    exact ⟨A1, c1, rfl, hW.out.1, hW.out.2.1, hW.out.2.2⟩
end
end Go.Proofs.Ytnkbkhlbogcfaaa
