/- A writer's methods: what each puts. -/
import Derived.Test.YtnkbkhlbogcfaaaH
set_option linter.unusedVariables false
set_option linter.unusedSimpArgs false
namespace Go.Proofs.Ytnkbkhlbogcfaaa
open Go.RowKit Go.Proofs.YtnkbkhlbogcfaaaW.PrintWords
noncomputable section

/-- a number of k bytes -/
def fixedB (v k : Nat) : List UInt8 := (List.range k).map fun j => UInt8.ofNat (v / 256 ^ j)
theorem fixedB_length (v k : Nat) : (fixedB v k).length = k := by simp [fixedB]
theorem fixedB_succ (v k : Nat) : fixedB v (k + 1) = fixedB v k ++ [UInt8.ofNat (v / 256 ^ k)] := by simp [fixedB, List.range_succ]
/-- a short number -/
def shortB (n : Nat) : List UInt8 := if h : n < 128 then [UInt8.ofNat n] else UInt8.ofNat (128 + n % 128) :: shortB (n / 128)
termination_by n
decreasing_by omega
theorem shortB_one {n : Nat} (h : n < 128) : shortB n = [UInt8.ofNat n] := by rw [shortB, dif_pos h]
theorem shortB_more {n : Nat} (h : ¬ n < 128) : shortB n = UInt8.ofNat (128 + n % 128) :: shortB (n / 128) := by rw [shortB, dif_neg h]
theorem shortB_len (k : Nat) : ∀ n, n < 128 ^ (k + 1) → (shortB n).length ≤ k + 1 := by
  induction k with
  | zero => intro n h; rw [shortB_one (by omega)]; simp
  | succ k ih =>
    intro n h
    by_cases hn : n < 128
    · rw [shortB_one hn]; simp
    · rw [shortB_more hn]
      have : n / 128 < 128 ^ (k + 1) := by
        apply Nat.div_lt_of_lt_mul
        rw [Nat.pow_succ] at h
        omega
      have := ih _ this
      simp only [List.length_cons]; omega
theorem shortB_pos (n : Nat) : 0 < (shortB n).length := by
  by_cases h : n < 128
  · rw [shortB_one h]; simp
  · rw [shortB_more h]; simp
theorem shortB_up {n k : Nat} (h : (shortB (n / 128)).length ≤ k) : (shortB n).length ≤ k + 1 := by
  by_cases hn : n < 128
  · rw [shortB_one hn]; simp
  · rw [shortB_more hn]; simp only [List.length_cons]; omega
theorem shortB_le9 {m : Nat} (h : (m : Int) ≤ 9223372036854775807) : (shortB m).length ≤ 9 := by
  refine shortB_up (shortB_up (shortB_up (shortB_up (shortB_up (shortB_up (shortB_up (shortB_up ?_)))))))
  rw [shortB_one (by omega)]
  simp
set_option maxRecDepth 100000 in
theorem or128_all : ∀ a, a < 256 → a ||| 128 = 128 + a % 128 := by decide
theorem or128 (q : Nat) : bits BinOp.or .u8 ((q : Int) % 256) 128 = ((UInt8.ofNat (128 + q % 128)).toNat : Int) := by
  have h1 : ((q : Int) % 256) = ((q % 256 : Nat) : Int) := by omega
  have h2 : ∀ a, a < 256 → a ||| 128 = 128 + a % 128 := or128_all
  rw [h1, show (128 : Int) = ((128 : Nat) : Int) from rfl, u8_or_nat _ _ (Nat.mod_lt _ (by omega)) (by omega), h2 _ (Nat.mod_lt _ (by omega)), ofNat_cast]
  omega

section
variable {ops : Array Oper} {rest : List Oper} {o : Oper} {a : Act} {Q : Exit → Act → World → Prop} {W : World} {s x : Operand}
/-- append(v, y) of one byte -/
theorem app8 (b : UInt8) (base : Nat) (A : Option Addr) (n c : Nat) (xs : List UInt8) {y : Int} (hgd : o.guard = none) (ho : o.op = .call { callee := .builtin .append, args := #[s, x], argTypes := #[22, 22] })
    (hs : a.eval s = .slice A n c) (hx : a.eval x = .slice (some ⟨W.heap.size, 0, none⟩) 1 1) (hy : y = (b.toNat : Int)) (HO : OB W base A n c xs) (hbase : base ≤ W.heap.size) (hl : n + 1 ≤ 140737488355328)
    (h : ∀ A1 c1 w1, OB w1 base A1 (n + 1) c1 (xs ++ [b]) → W.grownBy w1 (blk A) → Succ W (blk A) (blk A1) → wpList Try.prog ops Q rest (a.put o.dst (.slice A1 (n + 1) c1)) w1) :
    wpList Try.prog ops Q (o :: rest) a (W.alloc (.cells #[.int .u8 y] 5)) := by
  subst hy
  refine app1 base A n c (bv xs) hgd ho hs hx HO hbase hl fun A1 c1 w1 h1 h2 h3 => ?_
  rw [own_blk] at h2 h3
  rw [own_blk] at h3
  refine h A1 c1 w1 ?_ h2 h3
  unfold OB
  rw [bv_snoc]
  exact h1
end

set_option maxHeartbeats 1000000 in
set_option maxRecDepth 100000 in
theorem fixed_any (v k p base n c : Nat) (A : Option Addr) (xs : List UInt8) (w : World) (h : WrB w base p A n c xs) (hk : k ≤ 8) (hn : n ≤ 1000000) :
    Calls Try.prog 31 #[.pointer (some ⟨p, 0, none⟩), .int .u64 v, .int .i64 k] w fun e w' =>
      ∃ A' c', e = .returned (.tuple #[]) ∧ WrB w' base p A' (n + k) c' (xs ++ fixedB v k) ∧ Mod w w' p (blk A) ∧ Succ w (blk A) (blk A') := by
  have hH := Lib.hid h
  have v0 : (0 : Int) ≤ (v : Int) := by omega
  clear h
  go_enter Try.func31, Try.ntmps31
  go_wp2
  go_loopw [1, 7] (fun q i wr => ∃ (j : Nat) (A1 : Option Addr) (c1 : Nat), j ≤ k ∧ i = .int .i64 j ∧ q = .int .u64 (v / 256 ^ j : Nat) ∧ WrB wr base p A1 (n + j) c1 (xs ++ fixedB v j) ∧ Mod w wr p (blk A) ∧ Succ w (blk A) (blk A1))
    (fun _ i _ => k - (intOf i).toNat)
  case atStart => exact ⟨0, A, c, by omega, rfl, by simp, by simpa [fixedB] using hH.out, Mod.refl _ _ _, Succ.refl _ _⟩
  case round =>
    obtain ⟨j, A1, c1, hj, rfl, rfl, hw, hm, hs⟩ := hrel
    obtain ⟨q, hq⟩ : ∃ q, q = v / 256 ^ j := ⟨_, rfl⟩
    rw [← hq]
    have q0 : (0 : Int) ≤ (q : Int) := by omega
    have ce := cell_of_one hw.blk
    have hW := Lib.hid (And.intro hw (And.intro hm hs))
    have hQ := Lib.hid hq
    clear hw hm hs hq
    by_cases hlt : j < k
    · go_wp2_with (at_builtin; refine app8 (UInt8.ofNat q) base A1 (n + j) c1 (xs ++ fixedB v j) rfl rfl rfl rfl (ofNat_cast _).symm hW.out.1.own hW.out.1.base_le (by omega) ?_; intro A2 c2 w2 ho2 hg2 hs2; obtain ⟨q1, q2, q3, q4⟩ := hW.out.1.push ho2 hg2 hs2)
      go_roundw
      case rel =>
        refine ⟨j + 1, A2, c2, by omega, by go_num, ?_, ?_, Mod.trans hW.out.2.1 hW.out.2.2 q4, Succ.trans hW.out.2.1.size hW.out.2.2 hs2⟩
        · congr 1
          rw [Nat.pow_succ, ← Nat.div_div_eq_div_mul, ← hQ.out]
          omega
        · rw [fixedB_succ, ← List.append_assoc, ← hQ.out]
          exact q3
      case measure => simp [intOf]; omega
    · obtain rfl : j = k := by omega
      go_wp2
      go_end0
      exact ⟨A1, c1, rfl, hW.out.1, hW.out.2.1, hW.out.2.2⟩

set_option maxHeartbeats 1000000 in
set_option maxRecDepth 100000 in
theorem short_any (v : Int) (m p base n c : Nat) (A : Option Addr) (xs : List UInt8) (w : World) (h : WrB w base p A n c xs) (hm : max v 0 = (m : Int)) (hv : v ≤ 9223372036854775807) (hn : n ≤ 1000000) :
    Calls Try.prog 33 #[.pointer (some ⟨p, 0, none⟩), .int .i64 v] w fun e w' =>
      ∃ A' c', e = .returned (.tuple #[]) ∧ WrB w' base p A' (n + (shortB m).length) c' (xs ++ shortB m) ∧ Mod w w' p (blk A) ∧ Succ w (blk A) (blk A') := by
  have hl9 := Lib.hid (shortB_le9 (m := m) (by omega))
  have hmI : (m : Int) ≤ 9223372036854775807 := by omega
  have hH := Lib.hid h
  have hM := Lib.hid (show ([(0 : Int)].foldl max v) = (m : Int) from hm)
  clear h hm
  go_enter Try.func33, Try.ntmps33
  go_wp2_with (refine wpList_max (o := ⟨some 5, _, _, _, _, _⟩) .i64 v [0] m _ _ rfl rfl ?_ hM.out ?_; simp [go_sem])
  go_loopw [1] (fun q wr => ∃ (j : Nat) (A1 : Option Addr) (n1 c1 : Nat) (ys : List UInt8), j ≤ m ∧ q = .int .i64 j ∧ WrB wr base p A1 n1 c1 ys ∧ ys ++ shortB j = xs ++ shortB m ∧ Mod w wr p (blk A) ∧ Succ w (blk A) (blk A1))
    (fun q _ => (intOf q).toNat)
  case atStart => exact ⟨m, A, n, c, xs, Nat.le_refl _, rfl, hH.out, rfl, Mod.refl _ _ _, Succ.refl _ _⟩
  case round =>
    obtain ⟨j, A1, n1, c1, ys, hj, rfl, hw, hx, hm, hs⟩ := hrel
    have j0 : (0 : Int) ≤ (j : Int) := by omega
    have hn1 : n1 ≤ 1000010 := by
      have h1 := congrArg List.length hx
      simp only [List.length_append] at h1
      have h2 := hw.own.len
      have h3 := hH.out.own.len
      have h4 := hl9.out
      omega
    have ce := cell_of_one hw.blk
    have hW := Lib.hid (And.intro hw (And.intro hm hs))
    have hX := Lib.hid hx
    clear hw hm hs hx
    by_cases hlt : j < 128
    · have hY := Lib.hid (show (j : Int) = ((UInt8.ofNat j).toNat : Int) by rw [ofNat_cast]; omega)
      go_wp2_with (at_builtin; refine app8 (UInt8.ofNat j) base A1 n1 c1 ys rfl rfl rfl rfl hY.out hW.out.1.own hW.out.1.base_le (by omega) ?_; intro A2 c2 w2 ho2 hg2 hs2; obtain ⟨q1, q2, q3, q4⟩ := hW.out.1.push ho2 hg2 hs2)
      go_end0
      have hX' := hX.out
      rw [shortB_one hlt] at hX'
      rw [hX'] at q3
      have e : n1 + 1 = n + (shortB m).length := by
        have h1 := q3.own.len
        have h3 := hH.out.own.len
        simp only [List.length_append] at h1
        omega
      rw [← e]
      exact ⟨A2, c2, rfl, q3, Mod.trans hW.out.2.1 hW.out.2.2 q4, Succ.trans hW.out.2.1.size hW.out.2.2 hs2⟩
    · go_wp2_with (at_builtin; refine app8 (UInt8.ofNat (128 + j % 128)) base A1 n1 c1 ys rfl rfl rfl rfl (or128 _) hW.out.1.own hW.out.1.base_le (by omega) ?_; intro A2 c2 w2 ho2 hg2 hs2; obtain ⟨q1, q2, q3, q4⟩ := hW.out.1.push ho2 hg2 hs2)
      go_roundw
      case rel =>
        refine ⟨j / 128, A2, n1 + 1, c2, ys ++ [UInt8.ofNat (128 + j % 128)], by omega, by go_num, q3, ?_, Mod.trans hW.out.2.1 hW.out.2.2 q4, Succ.trans hW.out.2.1.size hW.out.2.2 hs2⟩
        have hX' := hX.out
        rw [shortB_more hlt] at hX'
        simpa using hX'
      case measure => simp [intOf]; omega
end
end Go.Proofs.Ytnkbkhlbogcfaaa
