/- Bits that are turned within four bytes side by side. -/
import Derived.Test.YtnkbkhlbogcfaaaL9
set_option linter.unusedVariables false
set_option linter.unusedSimpArgs false
namespace Go.Proofs.Ytnkbkhlbogcfaaa
open Go.RowKit Go.Proofs.YtnkbkhlbogcfaaaW.PrintWords
noncomputable section

/-- zeros, the first k of x from p on, zeros: n bytes -/
def mask (n p k : Nat) (x : List UInt8) : List UInt8 := List.replicate p 0 ++ x.take k ++ List.replicate (n - p - k) 0
theorem mask_length {n p k : Nat} {x : List UInt8} (h : p + k ≤ n) (hk : k ≤ x.length) : (mask n p k x).length = n := by simp [mask]; omega
theorem mask_get {n p k : Nat} {x : List UInt8} (h : p + k ≤ n) (hk : k ≤ x.length) (j : Nat) (hj : j < n) :
    (mask n p k x)[j]? = some (if p ≤ j ∧ j < p + k then x.getD (j - p) 0 else 0) := by
  unfold mask
  by_cases h1 : j < p
  · rw [List.append_assoc, List.getElem?_append_left (by simpa using h1), if_neg (by omega)]
    simp [h1]
  · by_cases h2 : j < p + k
    · rw [List.append_assoc, List.getElem?_append_right (by simp; omega), List.getElem?_append_left (by simp; omega), if_pos (by omega)]
      simp only [List.length_replicate, List.getElem?_take]
      rw [if_pos (by omega), List.getElem?_eq_getElem (by omega), List.getD_eq_getElem?_getD, List.getElem?_eq_getElem (by omega)]
      rfl
    · rw [List.getElem?_append_right (by simp; omega), if_neg (by omega), List.getElem?_replicate]
      have e : j - (List.replicate p (0 : UInt8) ++ x.take k).length < n - p - k := by simp; omega
      rw [if_pos e]
/-- bytes of which the first k of x are turned from p on -/
def turn (b : List UInt8) (p k : Nat) (x : List UInt8) : List UInt8 := Cm.xorL b (mask b.length p k x)
theorem turn_length {b : List UInt8} {p k : Nat} {x : List UInt8} (h : p + k ≤ b.length) (hk : k ≤ x.length) : (turn b p k x).length = b.length := by
  simp [turn, Cm.xorL, mask_length h hk]
theorem turn_get {b : List UInt8} {p k : Nat} {x : List UInt8} (h : p + k ≤ b.length) (hk : k ≤ x.length) (j : Nat) :
    (turn b p k x)[j]? = (b[j]?).map fun c => c ^^^ (if p ≤ j ∧ j < p + k then x.getD (j - p) 0 else 0) := by
  unfold turn Cm.xorL
  rw [List.getElem?_zipWith]
  by_cases hj : j < b.length
  · rw [mask_get h hk j hj, List.getElem?_eq_getElem hj]
    rfl
  · rw [List.getElem?_eq_none (by omega)]
    rfl
theorem turn_zero (b : List UInt8) (p : Nat) (x : List UInt8) (h : p ≤ b.length) : turn b p 0 x = b := by
  apply List.ext_getElem?
  intro j
  rw [turn_get (by omega) (by omega)]
  cases b[j]? with
  | none => rfl
  | some c =>
    simp only [Option.map_some]
    rw [if_neg (by omega)]
    simp
theorem turn_succ {b : List UInt8} {p k : Nat} {x : List UInt8} (h : p + k < b.length) (hk : k < x.length) {c y : UInt8} (hc : b[p + k]? = some c) (hy : x[k]? = some y) :
    turn b p (k + 1) x = (turn b p k x).set (p + k) (c ^^^ y) := by
  apply List.ext_getElem?
  intro j
  rw [turn_get (by omega) (by omega), List.getElem?_set, turn_get (by omega) (by omega)]
  by_cases hj : p + k = j
  · subst hj
    have e1 : p + k < (turn b p k x).length := by rw [turn_length (by omega) (by omega)]; exact h
    have e2 : p ≤ p + k ∧ p + k < p + (k + 1) := by omega
    rw [if_pos e1, hc]
    simp only [Option.map_some, if_true]
    rw [if_pos e2, Nat.add_sub_cancel_left, List.getD_eq_getElem?_getD, hy]
    rfl
  · rw [if_neg hj]
    congr 1
    funext c
    by_cases h1 : p ≤ j ∧ j < p + k
    · rw [if_pos (by omega), if_pos h1]
    · rw [if_neg (by omega), if_neg h1]
theorem turn_at {b : List UInt8} {p k : Nat} {x : List UInt8} (h : p + k < b.length) (hk : k < x.length) {c : UInt8} (hc : b[p + k]? = some c) : (turn b p k x)[p + k]? = some c := by
  rw [turn_get (by omega) (by omega), hc]
  simp only [Option.map_some]
  rw [if_neg (by omega)]
  simp
theorem xor_cancel (b m : List UInt8) (h : m.length = b.length) : Cm.xorL (Cm.xorL b m) b = m := by
  apply List.ext_getElem?
  intro j
  unfold Cm.xorL
  rw [List.getElem?_zipWith, List.getElem?_zipWith]
  by_cases hj : j < b.length
  · rw [List.getElem?_eq_getElem hj, List.getElem?_eq_getElem (show j < m.length by omega)]
    simp only [Option.some.injEq]
    rw [UInt8.xor_comm, ← UInt8.xor_assoc, UInt8.xor_self, UInt8.zero_xor]
  · rw [List.getElem?_eq_none (show b.length ≤ j by omega), List.getElem?_eq_none (show m.length ≤ j by omega)]
/-- were some of them turned? -/
def some0 (x : List UInt8) (k : Nat) : Bool := (x.take k).any (· != 0)
theorem some0_zero (x : List UInt8) : some0 x 0 = false := by simp [some0]
theorem some0_succ {x : List UInt8} {k : Nat} {y : UInt8} (hy : x[k]? = some y) : some0 x (k + 1) = (some0 x k || y != 0) := by
  unfold some0
  rw [List.take_add_one, hy]
  simp
theorem turn_same {b : List UInt8} {p k : Nat} {x : List UInt8} (h : p + k ≤ b.length) (hk : k ≤ x.length) (hs : some0 x k = false) : turn b p k x = b := by
  apply List.ext_getElem?
  intro j
  rw [turn_get h hk]
  cases hb : b[j]? with
  | none => rfl
  | some c =>
    simp only [Option.map_some]
    by_cases h1 : p ≤ j ∧ j < p + k
    · rw [if_pos h1]
      have : x.getD (j - p) 0 = 0 := by
        unfold some0 at hs
        rw [List.any_eq_false] at hs
        have hm : x.getD (j - p) 0 ∈ x.take k := by
          rw [List.getD_eq_getElem?_getD, List.getElem?_eq_getElem (show j - p < x.length by omega)]
          rw [List.mem_take_iff_getElem]
          exact ⟨j - p, by omega, rfl⟩
        have := hs _ hm
        simpa using this
      rw [this]
      simp
    · rw [if_neg h1]
      simp
theorem turn_crc {b : List UInt8} {p k : Nat} {x : List UInt8} (h : p + k ≤ b.length) (hk : k ≤ x.length) (h4 : k ≤ 4) (hs : some0 x k = true) : Cm.crc (turn b p k x) ≠ Cm.crc b := by
  refine Cm.crc_burst _ _ p (b.length - p - k) (x.take k) (turn_length h hk) (xor_cancel _ _ (mask_length h hk)) (by simp; omega) ?_
  unfold some0 at hs
  rw [List.any_eq_true] at hs
  obtain ⟨c, hc, hn⟩ := hs
  exact ⟨c, hc, by simpa using hn⟩
theorem turn_append {b t : List UInt8} {p k : Nat} {x : List UInt8} (h : p + k ≤ b.length) (hk : k ≤ x.length) : turn (b ++ t) p k x = turn b p k x ++ t := by
  apply List.ext_getElem?
  intro j
  rw [turn_get (by simp; omega) hk]
  by_cases hj : j < b.length
  · rw [List.getElem?_append_left hj, List.getElem?_append_left (by rw [turn_length h hk]; exact hj), turn_get h hk]
  · rw [List.getElem?_append_right (by omega), List.getElem?_append_right (by rw [turn_length h hk]; omega), turn_length h hk]
    cases t[j - b.length]? with
    | none => rfl
    | some c =>
      simp only [Option.map_some]
      rw [if_neg (by omega)]
      simp
theorem turn_take {b t : List UInt8} {p k : Nat} {x : List UInt8} (h : p + k ≤ b.length + t.length) (hp : b.length ≤ p) (hk : k ≤ x.length) : (turn (b ++ t) p k x).take b.length = b := by
  apply List.ext_getElem?
  intro j
  rw [List.getElem?_take]
  by_cases hj : j < b.length
  · rw [if_pos hj, turn_get (by simp; omega) hk, List.getElem?_append_left hj]
    cases b[j]? with
    | none => rfl
    | some c =>
      simp only [Option.map_some]
      rw [if_neg (by omega)]
      simp
  · rw [if_neg hj, List.getElem?_eq_none (by omega)]
theorem sumL_inj {s s' : Nat} (h : s < 2 ^ 32) (h' : s' < 2 ^ 32) (e : sumL s = sumL s') : s = s' := by
  have e' := congrArg bv e
  rw [bv_sumL, bv_sumL] at e'
  simp only [List.cons.injEq, and_true] at e'
  omega
/-- a seal of which some bits are turned, all of them among the bytes, or all in the sum -/
theorem turn_open {b : List UInt8} {p k : Nat} {x : List UInt8} (hk : k ≤ x.length) (h4 : k ≤ 4) (h : p + k ≤ b.length ∨ (b.length ≤ p ∧ p + k ≤ b.length + 4)) (hs : some0 x k = true) :
    openE (turn (sealL b) p k x) = 4 ∧ openB (turn (sealL b) p k x) = [] := by
  have hl := sealL_length b
  have hL : (turn (sealL b) p k x).length = b.length + 4 := by rw [turn_length (b := sealL b) (by omega) hk, hl]
  refine openE_bad (by omega) fun e => ?_
  rw [hL, Nat.add_sub_cancel] at e
  rcases h with h | ⟨h, h'⟩
  · have e1 : turn (sealL b) p k x = turn b p k x ++ sumL (Cm.crc b) := turn_append h hk
    have e2 : (turn (sealL b) p k x).take b.length = turn b p k x := by
      rw [e1]
      have := turn_length h hk
      rw [← this]
      exact List.take_left
    rw [e2, e1] at e
    have e3 := List.append_cancel_left e
    exact turn_crc h hk h4 hs (sumL_inj (Cm.crc_lt _) (Cm.crc_lt _) e3)
  · have e2 : (turn (sealL b) p k x).take b.length = b := turn_take (by rw [sumL_length]; exact h') h hk
    rw [e2] at e
    have := turn_crc (b := sealL b) (p := p) (by omega) hk h4 hs
    rw [← e] at this
    exact this rfl

theorem OB.form {w : World} {base n c : Nat} {A : Option Addr} {b : List UInt8} (h : OB w base A n c b) (hn : 0 < n) : ∃ g, A = some ⟨g, 0, none⟩ ∧ base ≤ g ∧ g < w.heap.size := by
  obtain ⟨g, cap, e, h1, h2⟩ := World.ownsRow.form h hn
  injection e with e1
  exact ⟨g, e1, h1, h2⟩
theorem OB.store {w : World} {base n c g : Nat} {b : List UInt8} (h : OB w base (some ⟨g, 0, none⟩) n c b) (j : Nat) (y : UInt8) :
    w.frozen? ⟨g, j, none⟩ = false ∧ OB (w.setCell ⟨g, j, none⟩ (.int .u8 (y.toNat : Int))) base (some ⟨g, 0, none⟩) n c (b.set j y) ∧ w.grownBy (w.setCell ⟨g, j, none⟩ (.int .u8 (y.toNat : Int))) (some g) := by
  have hs := own_store h (j : Int) (y.toNat : Int)
  rw [Int.toNat_natCast] at hs
  have e : (bv b).set j (y.toNat : Int) = bv (b.set j y) := by simp [bv, List.map_set]
  rw [e] at hs
  refine ⟨?_, hs.1, hs.2⟩
  rcases h.2 with ⟨h', _⟩ | ⟨g', cap', cur, h', _, hh, _⟩
  · cases h'
  · have : g = g' := by injection h' with h'; injection h' with h'; injection h' with h'
    subst this
    simp [World.frozen?, hh]
/-- four bytes in a block -/
def arr4 (x : List UInt8) : Array Value := (x.map fun c => Value.int .u8 (c.toNat : Int)).toArray
theorem arr4_at {x : List UInt8} {k : Nat} {y : UInt8} (h : x[k]? = some y) : (arr4 x)[k]? = some (.int .u8 (y.toNat : Int)) := by
  simp [arr4, h]
/-- a place among m, made of any number: as the walk spells it -/
theorem place (z : Int) (m : Nat) (hm : 0 < m) : ∃ p : Nat, p < m ∧ (z < 0 → (z + 1).tmod (m : Int) = -(p : Int)) ∧ (0 ≤ z → z % (m : Int) = (p : Int)) := by
  by_cases hz : z < 0
  · refine ⟨((-(z + 1)) % (m : Int)).toNat, ?_, fun _ => ?_, fun h => by omega⟩
    · have h1 := Int.emod_lt_of_pos (-(z + 1)) (show (0 : Int) < (m : Int) by omega)
      have h2 := Int.emod_nonneg (-(z + 1)) (show (m : Int) ≠ 0 by omega)
      omega
    · have h2 := Int.emod_nonneg (-(z + 1)) (show (m : Int) ≠ 0 by omega)
      rw [Int.toNat_of_nonneg h2]
      have e : (-(z + 1)).tmod (m : Int) = (-(z + 1)) % (m : Int) := Int.tmod_eq_emod_of_nonneg (by omega)
      rw [← e, Int.neg_tmod, Int.neg_neg]
  · refine ⟨(z % (m : Int)).toNat, ?_, fun h => by omega, fun _ => ?_⟩
    · have h1 := Int.emod_lt_of_pos z (show (0 : Int) < (m : Int) by omega)
      have h2 := Int.emod_nonneg z (show (m : Int) ≠ 0 by omega)
      omega
    · rw [Int.toNat_of_nonneg (Int.emod_nonneg z (by omega))]
theorem byte_ne0 (y : UInt8) : ((y.toNat : Int) != 0) = (y != 0) := by
  have := ne_byte y 0
  simp only [UInt8.toNat_zero, Int.natCast_zero] at this
  rw [this]
  by_cases h : y = 0 <;> simp [h]
section
variable {ops : Array Oper} {rest : List Oper} {o : Oper} {a : Act} {Q : Exit → Act → World → Prop} {W : World} {s x : Operand}
/-- append(v, ys...) of bytes, v in blocks from base on: below base nothing turns -/
theorem appN {W0 : World} (base : Nat) (A : Option Addr) (n c : Nat) (xs : List UInt8) (A2 : Option Addr) (m c2 : Nat) (ys : List UInt8) (hgd : o.guard = none) (ho : o.op = .call { callee := .builtin .append, args := #[s, x], argTypes := #[22, 22] })
    (hs : a.eval s = .slice A n c) (hx : a.eval x = .slice A2 m c2) (HO : OB W base A n c xs) (HR : RB W A2 ys) (hm : ys.length = m) (HB : Below base W0 W) (hbase : base ≤ W.heap.size) (hl : n + m ≤ 140737488355328)
    (h : ∀ A1 c1 w1, OB w1 base A1 (n + m) c1 (xs ++ ys) → Below base W0 w1 → W.heap.size ≤ w1.heap.size → wpList Try.prog ops Q rest (a.put o.dst (.slice A1 (n + m) c1)) w1) :
    wpList Try.prog ops Q (o :: rest) a W :=
  appB base A n c xs A2 m c2 ys hgd ho hs hx HO HR hm hbase hl fun A1 c1 w1 h1 h2 _ => h A1 c1 w1 h1 (HB.grown h2 hbase HO.base) h2.size
end
end
end Go.Proofs.Ytnkbkhlbogcfaaa
