/- Seals: bytes with their sum, made and opened, by the program and by the document. -/
import Derived.Test.YtnkbkhlbogcfaaaD
set_option linter.unusedVariables false
set_option linter.unusedSimpArgs false
namespace Go.Proofs.Ytnkbkhlbogcfaaa
open Go.RowKit Go.Proofs.YtnkbkhlbogcfaaaW.PrintWords
noncomputable section

/-- four bytes of a sum, the lowest first -/
def sumL (s : Nat) : List UInt8 := [UInt8.ofNat s, UInt8.ofNat (s / 256), UInt8.ofNat (s / 65536), UInt8.ofNat (s / 16777216)]
/-- bytes with their sum -/
def sealL (b : List UInt8) : List UInt8 := b ++ sumL (Cm.crc b)
/-- why bytes are no seal -/
def openE (b : List UInt8) : Int := if b.length < 4 then 2 else if sealL (b.take (b.length - 4)) = b then 0 else 4
/-- the bytes of a seal -/
def openB (b : List UInt8) : List UInt8 := if openE b = 0 then b.take (b.length - 4) else []
theorem sumL_length (s : Nat) : (sumL s).length = 4 := rfl
theorem sealL_length (b : List UInt8) : (sealL b).length = b.length + 4 := by simp [sealL, sumL]
theorem bv_sumL (s : Nat) : bv (sumL s) = [(s : Int) % 256, (s : Int) / 256 % 256, (s : Int) / 65536 % 256, (s : Int) / 16777216 % 256] := by
  simp only [bv, sumL, List.map_cons, List.map_nil, UInt8.toNat_ofNat']
  simp only [List.cons.injEq, and_true]
  omega
theorem rb_new4 (w : World) (v0 v1 v2 v3 : Int) (ys : List UInt8) (h : bv ys = [v0, v1, v2, v3]) : RB (w.alloc (.cells #[.int .u8 v0, .int .u8 v1, .int .u8 v2, .int .u8 v3] 5)) (some ⟨w.heap.size, 0, none⟩) ys := by
  have hl : ys.length = 4 := by rw [← bv_length, h]; rfl
  refine rb_block (heap_alloc_new w _) (by omega) fun j x hx => ?_
  have hj : j < 4 := by have := (List.getElem?_eq_some_iff.1 hx).1; omega
  have e : (bv ys)[j]? = some (x.toNat : Int) := by simp [bv, hx]
  rw [h] at e
  match j, hj with
  | 0, _ => simp at e; subst e; rfl
  | 1, _ => simp at e; subst e; rfl
  | 2, _ => simp at e; subst e; rfl
  | 3, _ => simp at e; subst e; rfl

set_option maxHeartbeats 1000000 in
set_option maxRecDepth 100000 in
theorem seal_any (b : List UInt8) (A : Option Addr) (n c : Nat) (w : World) (hl : b.length = n) (hR : RB w A b) (hn : n < 1000000) :
    Calls Try.prog 43 #[.slice A n c] w fun e w' => ∃ A' c', e = .returned (.slice A' (n + 4) c') ∧ OB w' w.heap.size A' (n + 4) c' (sealL b) ∧ Below w.heap.size w w' := by
  have hR' := Lib.hid hR
  have hl' := Lib.hid hl
  obtain ⟨s, hs⟩ : ∃ s, s = Cm.crc b := ⟨_, rfl⟩
  have hS := Lib.hid hs
  have s0 : (0 : Int) ≤ (s : Int) := by omega
  clear hR hl hs
  go_enter Try.func43, Try.ntmps43
  go_wp2_with fail
  refine (of_len b A n c _ hl'.out hR'.out hn).mono ?_
  rintro e w1 ⟨rfl, hb1⟩
  rw [← hS.out]
  go_wp2_with fail
  refine (clone_any b A n c _ hl'.out (hR'.out.below hb1) (by omega)).mono ?_
  rintro e w2 ⟨A2, c2, rfl, ho2, hb2⟩
  go_wp2_with (at_builtin; refine appB w1.heap.size A2 n c2 b (some ⟨w2.heap.size, 0, none⟩) 4 4 (sumL s) rfl rfl rfl rfl (ho2.below (below_alloc (Below.refl _ _) _)) (rb_new4 w2 _ _ _ _ _ (bv_sumL s)) rfl (by have := hb2.size; simp; omega) (by omega) ?_; intro A3 c3 w3 ho3 hg3 hs3)
  go_ret
  refine ⟨A3, c3, rfl, ?_, ?_⟩
  · rw [sealL, ← hS.out]
    exact ho3.lower hb1.size
  · have h2 := hb1.trans (hb2.mono hb1.size)
    exact (h2.alloc h2.size _).grown hg3 (by have := h2.size; simp; omega) (fun k hk => Nat.le_trans hb1.size (ho2.base k hk))

theorem openE_short {b : List UInt8} (h : b.length < 4) : openE b = 2 ∧ openB b = [] := by
  have e : openE b = 2 := by unfold openE; rw [if_pos h]
  exact ⟨e, by unfold openB; rw [e]; rfl⟩
theorem openE_ok {b : List UInt8} (h : ¬ b.length < 4) (hs : sealL (b.take (b.length - 4)) = b) : openE b = 0 ∧ openB b = b.take (b.length - 4) := by
  have e : openE b = 0 := by unfold openE; rw [if_neg h, if_pos hs]
  exact ⟨e, by unfold openB; rw [e]; rfl⟩
theorem openE_bad {b : List UInt8} (h : ¬ b.length < 4) (hs : ¬ sealL (b.take (b.length - 4)) = b) : openE b = 4 ∧ openB b = [] := by
  have e : openE b = 4 := by unfold openE; rw [if_neg h, if_neg hs]
  exact ⟨e, by unfold openB; rw [e]; rfl⟩
theorem openE_seal (b : List UInt8) : openE (sealL b) = 0 ∧ openB (sealL b) = b := by
  have hl := sealL_length b
  have ht : (sealL b).take ((sealL b).length - 4) = b := by
    rw [hl, Nat.add_sub_cancel]
    unfold sealL
    exact List.take_left
  have h := openE_ok (b := sealL b) (by omega) (by rw [ht])
  exact ⟨h.1, by rw [h.2, ht]⟩

set_option maxHeartbeats 1000000 in
set_option maxRecDepth 100000 in
theorem open_any (b : List UInt8) (A : Option Addr) (n c : Nat) (w : World) (hl : b.length = n) (hR : RB w A b) (hn : n < 1000000) (hc : n ≤ c) :
    Calls Try.prog 44 #[.slice A n c] w fun e w' => ∃ A' n' c', e = .returned (.tuple #[.slice A' n' c', .int .i64 (openE b)]) ∧ OB w' w.heap.size A' n' c' (openB b) ∧ Below w.heap.size w w' := by
  have hR' := Lib.hid hR
  have hl' := Lib.hid hl
  clear hR
  by_cases hlt : n < 4
  · have hE := Lib.hid (openE_short (b := b) (by omega))
    have hI : (n : Int) < 4 := by omega
    clear hl
    go_enter Try.func44, Try.ntmps44
    go_wp2
    go_ret2
    rw [hE.out.1, hE.out.2]
    exact ⟨none, 0, 0, rfl, OB.nil _ _, Below.refl _ _⟩
  · obtain ⟨m, hm⟩ : ∃ m, m = n - 4 := ⟨_, rfl⟩
    have hnm : n = m + 4 := by omega
    subst hnm
    have hT : RB w A (b.take m) := hR'.out.take m (by omega)
    have hTl : (b.take m).length = m := by simp; omega
    have hX := Lib.hid (And.intro hT hTl)
    have hm0 : (0 : Int) ≤ (m : Int) := by omega
    have hmc : (m : Int) ≤ (c : Int) := by omega
    clear hm hT hTl hl
    go_enter Try.func44, Try.ntmps44
    go_wp2_with fail
    refine (seal_any (b.take m) A m c _ hX.out.2 hX.out.1 (by omega)).mono ?_
    rintro e w1 ⟨A1, c1, rfl, ho1, hb1⟩
    go_wp2_with fail
    refine (equal_any (sealL (b.take m)) b A1 A (m + 4) (m + 4) c1 c _ ho1.len hl'.out ho1.rb (hR'.out.below hb1) (by omega)).mono ?_
    rintro e w2 ⟨rfl, hb2⟩
    by_cases hq : sealL (b.take m) = b
    · rw [decide_eq_true hq]
      have hE := Lib.hid (openE_ok (b := b) (by have := hl'.out; omega) (by rw [hl'.out]; exact hq))
      clear hq
      go_wp2_with fail
      refine (clone_any (b.take m) A m c _ hX.out.2 ((hX.out.1.below hb1).below hb2) (by omega)).mono ?_
      rintro e w3 ⟨A3, c3, rfl, ho3, hb3⟩
      go_wp2_with fail
      go_ret2
      have e1 : b.take (b.length - 4) = b.take m := by rw [hl'.out]; rfl
      rw [hE.out.1, hE.out.2, e1]
      have h2 := hb1.trans (hb2.mono hb1.size)
      exact ⟨A3, m, c3, rfl, ho3.lower h2.size, h2.trans (hb3.mono h2.size)⟩
    · rw [decide_eq_false hq]
      have hE := Lib.hid (openE_bad (b := b) (by have := hl'.out; omega) (by rw [hl'.out]; exact hq))
      clear hq
      go_wp2_with fail
      go_ret2
      rw [hE.out.1, hE.out.2]
      exact ⟨none, 0, 0, rfl, OB.nil _ _, hb1.trans (hb2.mono hb1.size)⟩

/-- the first k bytes of a sum, and one more -/
theorem sumL_take (s k : Nat) (h : k < 4) : (sumL s).take (k + 1) = (sumL s).take k ++ [UInt8.ofNat (s / 256 ^ k)] := by
  match k, h with
  | 0, _ => simp [sumL]
  | 1, _ => simp [sumL]
  | 2, _ => simp [sumL]
  | 3, _ => simp [sumL]
theorem ofNat_cast (n : Nat) : ((UInt8.ofNat n).toNat : Int) = (n : Int) % 256 := by
  simp only [UInt8.toNat_ofNat']
  omega

set_option maxHeartbeats 1000000 in
set_option maxRecDepth 100000 in
theorem rseal_any (b : List UInt8) (A : Option Addr) (n c : Nat) (w : World) (hl : b.length = n) (hR : RB w A b) (hn : n < 1000000) :
    Calls Try.prog 46 #[.slice A n c] w fun e w' => ∃ A' c', e = .returned (.slice A' (n + 4) c') ∧ OB w' w.heap.size A' (n + 4) c' (sealL b) ∧ Below w.heap.size w w' := by
  have hR' := Lib.hid hR
  have hl' := Lib.hid hl
  obtain ⟨s, hs⟩ : ∃ s, s = Cm.crc b := ⟨_, rfl⟩
  have hS := Lib.hid hs
  clear hR hl hs
  go_enter Try.func46, Try.ntmps46
  go_wp2_with (at_builtin; refine appB w.heap.size none 0 0 [] A n c b rfl rfl rfl rfl (OB.nil _ _) hR'.out hl'.out (Nat.le_refl _) (by omega) ?_; intro A1 c1 w1 ho1 hg1 hs1)
  go_wp2_with fail
  have hb1 : Below w.heap.size w w1 := (Below.refl _ _).grown hg1 (Nat.le_refl _) (by intro k hk; cases hk)
  refine (rof_len b A n c _ hl'.out (hR'.out.below hb1) hn).mono ?_
  rintro e w2 ⟨rfl, rfl⟩
  rw [← hS.out]
  simp only [Nat.zero_add, List.nil_append] at ho1
  have hO1 := Lib.hid ho1
  have hB1 := Lib.hid hb1
  clear ho1 hb1 hg1 hs1
  go_wp2
  go_loopw [3, 4, 5] (fun v q i wr => ∃ (k : Nat) (A : Option Addr) (c : Nat), k ≤ 4 ∧ i = .int .i64 k ∧ v = .slice A (n + k) c ∧ q = .int .u32 (s / 256 ^ k : Nat) ∧ OB wr w.heap.size A (n + k) c (b ++ (sumL s).take k) ∧ Below w.heap.size w wr)
    (fun _ _ i _ => 4 - (intOf i).toNat)
  case atStart => exact ⟨0, A1, c1, by omega, rfl, rfl, by simp, by simpa using hO1.out, hB1.out⟩
  case round =>
    obtain ⟨k, A2, c2, hk, rfl, rfl, rfl, ho, hb⟩ := hrel
    obtain ⟨q, hq⟩ : ∃ q, q = s / 256 ^ k := ⟨_, rfl⟩
    rw [← hq]
    have hO := Lib.hid ho
    have hB := Lib.hid hb
    have hQ := Lib.hid hq
    have q0 : (0 : Int) ≤ (q : Int) := by omega
    have hs4 : s < 2 ^ 32 := by rw [hS.out]; exact Cm.crc_lt _
    have hq2 : q / 256 < 4294967296 := by
      have h1 : s / 256 ^ k ≤ s := Nat.div_le_self _ _
      have h2 := Nat.div_le_self q 256
      omega
    have hQ2 := Lib.hid hq2
    clear ho hb hq hs4 hq2
    by_cases hlt : k < 4
    · have hkI : (k : Int) < 4 := by omega
      go_wp2_with (at_builtin; refine app1 w.heap.size A2 (n + k) c2 _ rfl rfl rfl rfl hO.out hB.out.size (by omega) ?_; intro A3 c3 w3 ho3 hg3 hs3)
      go_roundw
      case rel =>
        refine ⟨k + 1, A3, c3, by omega, by go_num, rfl, ?_, ?_, hB.out.grown hg3 hB.out.size hO.out.base⟩
        · congr 1
          rw [Nat.pow_succ, ← Nat.div_div_eq_div_mul, ← hQ.out]
          have := hQ2.out
          omega
        · unfold OB
          rw [sumL_take _ _ hlt, ← List.append_assoc, bv_append, ← hQ.out]
          have e : bv [UInt8.ofNat q] = [(q : Int) % 256] := by simp only [bv, List.map_cons, List.map_nil, ofNat_cast]
          rw [e]
          exact ho3
      case measure => simp [intOf]; omega
    · obtain rfl : k = 4 := by omega
      go_wp2
      go_ret
      refine ⟨A2, c2, rfl, ?_, hB.out⟩
      have := hO.out
      rw [show (sumL s).take 4 = sumL s from rfl, hS.out] at this
      exact this

set_option maxHeartbeats 1000000 in
set_option maxRecDepth 100000 in
theorem why_any (b : List UInt8) (A : Option Addr) (n c : Nat) (w : World) (hl : b.length = n) (hR : RB w A b) (hn : n < 1000000) (hc : n ≤ c) :
    Calls Try.prog 45 #[.slice A n c] w fun e w' => e = .returned (.int .i64 (openE b)) ∧ Below w.heap.size w w' := by
  have hR' := Lib.hid hR
  have hl' := Lib.hid hl
  clear hR
  by_cases hlt : n < 4
  · have hE := Lib.hid (openE_short (b := b) (by omega))
    have hI : (n : Int) < 4 := by omega
    clear hl
    go_enter Try.func45, Try.ntmps45
    go_wp2
    go_ret
    rw [hE.out.1]
    exact ⟨rfl, Below.refl _ _⟩
  · obtain ⟨m, hm⟩ : ∃ m, m = n - 4 := ⟨_, rfl⟩
    have hnm : n = m + 4 := by omega
    subst hnm
    have hT : RB w A (b.take m) := hR'.out.take m (by omega)
    have hTl : (b.take m).length = m := by simp; omega
    have hX := Lib.hid (And.intro hT hTl)
    have hm0 : (0 : Int) ≤ (m : Int) := by omega
    have hmc : (m : Int) ≤ (c : Int) := by omega
    clear hm hT hTl hl
    go_enter Try.func45, Try.ntmps45
    go_wp2_with fail
    refine (rseal_any (b.take m) A m c _ hX.out.2 hX.out.1 (by omega)).mono ?_
    rintro e w1 ⟨A1, c1, rfl, ho1, hb1⟩
    have hO := Lib.hid ho1
    have hB1 := Lib.hid hb1
    clear ho1 hb1
    go_wp2_with fail
    go_loopw [4] (fun i wr => ∃ k : Nat, k ≤ m + 4 ∧ i = .int .i64 k ∧ (sealL (b.take m)).take k = b.take k ∧ Below w1.heap.size w1 wr) (fun i _ => m + 4 - (intOf i).toNat)
    case atStart => exact ⟨0, by omega, rfl, rfl, Below.refl _ _⟩
    case round =>
      obtain ⟨k, hk, rfl, hp, hb⟩ := hrel
      have hP := Lib.hid hp
      have hBl := Lib.hid hb
      clear hp hb
      by_cases hlt : k < m + 4
      · obtain ⟨x, hx⟩ : ∃ x, (sealL (b.take m))[k]? = some x := ⟨_, List.getElem?_eq_getElem (by have := hO.out.len; omega)⟩
        obtain ⟨y, hy⟩ : ∃ x, b[k]? = some x := ⟨_, List.getElem?_eq_getElem (by have := hl'.out; omega)⟩
        obtain ⟨a0, hA0, e0⟩ := (hO.out.rb.below hBl.out).at_ hx
        obtain ⟨a1, hA1, e1⟩ := ((hR'.out.below hB1.out).below hBl.out).at_ hy
        have hXY := Lib.hid (And.intro hx hy)
        clear hx hy
        subst hA0 hA1
        have i0 : (0 : Int) ≤ (k : Int) := by omega
        have i1 : (k : Int) < (m : Int) + 4 := by omega
        by_cases hxy : x = y
        · have hne : ((x.toNat : Int) != (y.toNat : Int)) = false := by rw [ne_byte]; simp [hxy]
          have hXe := Lib.hid hxy
          clear hxy
          go_wp2_with fail
          go_quiet (fail)
          go_wp2
          go_roundw
          case rel => exact ⟨k + 1, by omega, by go_num, take_eq_of hP.out hXY.out.1 (by rw [hXe.out]; exact hXY.out.2), pw_below_drewN hBl.out _⟩
          case measure => simp [intOf]; omega
        · have hne : ((x.toNat : Int) != (y.toNat : Int)) = true := by rw [ne_byte]; simp [hxy]
          have hXe := Lib.hid hxy
          clear hxy
          go_wp2_with fail
          go_quiet (fail)
          go_wp2
          go_ret
          have hq : ¬ sealL (b.take m) = b := ne_of_at hXY.out.1 hXY.out.2 hXe.out
          have hE := openE_bad (b := b) (by have := hl'.out; omega) (by rw [hl'.out]; exact hq)
          rw [hE.1]
          exact ⟨rfl, hB1.out.trans ((pw_below_drewN hBl.out _).mono hB1.out.size)⟩
      · obtain rfl : k = m + 4 := by omega
        go_wp2
        go_ret
        have hq : sealL (b.take m) = b := by
          have h1 := hP.out
          have h2 := hO.out.len
          have h3 := hl'.out
          have e1 : (sealL (b.take m)).take (m + 4) = sealL (b.take m) := List.take_of_length_le (by omega)
          have e2 : b.take (m + 4) = b := List.take_of_length_le (by omega)
          rw [e1, e2] at h1
          exact h1
        have hE := openE_ok (b := b) (by have := hl'.out; omega) (by rw [hl'.out]; exact hq)
        rw [hE.1]
        exact ⟨rfl, hB1.out.trans (hBl.out.mono hB1.out.size)⟩
end
end Go.Proofs.Ytnkbkhlbogcfaaa
