/- What a reader reads of bytes: plain laws. -/
import Derived.Test.YtnkbkhlbogcfaaaSm
set_option linter.unusedVariables false
set_option linter.unusedSimpArgs false
namespace Go.Proofs.Ytnkbkhlbogcfaaa
noncomputable section

/-- a number's bytes, the lowest first -/
def numB : List UInt8 → Nat
  | [] => 0
  | c :: r => c.toNat + 256 * numB r
theorem numB_lt : ∀ l : List UInt8, numB l < 256 ^ l.length := by
  intro l
  induction l with
  | nil => simp [numB]
  | cons c r ih => have := c.toNat_lt; simp only [numB, List.length_cons, Nat.pow_succ]; omega
theorem numB_append (a b : List UInt8) : numB (a ++ b) = numB a + numB b * 256 ^ a.length := by
  induction a with
  | nil => simp [numB]
  | cons c r ih => simp only [List.cons_append, numB, ih, List.length_cons, Nat.pow_succ, Nat.mul_add, Nat.add_assoc]; rw [← Nat.mul_assoc 256 (numB b), Nat.mul_comm 256 (numB b), Nat.mul_assoc, Nat.mul_comm 256 (256 ^ r.length)]
theorem numB_fixedB (v k : Nat) : numB (fixedB v k) = v % 256 ^ k := by
  induction k with
  | zero => simp [fixedB, numB, Nat.mod_one]
  | succ k ih =>
    rw [fixedB_succ, numB_append, ih, fixedB_length]
    have h : (UInt8.ofNat (v / 256 ^ k)).toNat = v / 256 ^ k % 256 := by simp [UInt8.toNat_ofNat']
    simp only [numB, h]
    rw [Nat.pow_succ, Nat.mod_mul, Nat.mul_comm (256 ^ k)]
    simp

/-- a short number's digits -/
def digB : List UInt8 → Nat
  | [] => 0
  | c :: r => c.toNat % 128 + 128 * digB r
theorem digB_lt : ∀ l : List UInt8, digB l < 128 ^ l.length := by
  intro l
  induction l with
  | nil => simp [digB]
  | cons c r ih => simp only [digB, List.length_cons, Nat.pow_succ]; omega
/-- how many bytes at the beginning, at most k, are 128 or more -/
def cntB : Nat → List UInt8 → Nat
  | 0, _ => 0
  | _, [] => 0
  | k + 1, c :: r => if 128 ≤ c.toNat then cntB k r + 1 else 0
theorem cntB_le : ∀ (k : Nat) (l : List UInt8), cntB k l ≤ k ∧ cntB k l ≤ l.length := by
  intro k
  induction k with
  | zero => intro l; simp [cntB]
  | succ k ih =>
    intro l
    cases l with
    | nil => simp [cntB]
    | cons c r =>
      simp only [cntB, List.length_cons]
      have := ih r
      split <;> omega
theorem cntB_big : ∀ (k : Nat) (l : List UInt8) (j : Nat) (c : UInt8), j < cntB k l → l[j]? = some c → 128 ≤ c.toNat := by
  intro k
  induction k with
  | zero => intro l j c h; simp [cntB] at h
  | succ k ih =>
    intro l j c h hc
    cases l with
    | nil => simp [cntB] at h
    | cons d r =>
      simp only [cntB] at h
      split at h
      · cases j with
        | zero => simp at hc; subst hc; assumption
        | succ j => exact ih r j c (by omega) (by simpa using hc)
      · omega
/-- the first of the bytes that is below 128 ends the row -/
theorem cntB_is : ∀ (k : Nat) (l : List UInt8) (n : Nat), n ≤ k → n ≤ l.length → (∀ j c, j < n → l[j]? = some c → 128 ≤ c.toNat) → (n = k ∨ n = l.length ∨ ∃ c, l[n]? = some c ∧ c.toNat < 128) → cntB k l = n := by
  intro k
  induction k with
  | zero => intro l n hk _ _ _; simp [cntB]; omega
  | succ k ih =>
    intro l n hk hl hb he
    cases l with
    | nil => simp at hl; simp [cntB, hl]
    | cons d r =>
      simp only [cntB]
      cases n with
      | zero =>
        rcases he with h | h | ⟨c, hc, h⟩
        · omega
        · simp at h
        · simp at hc; subst hc; rw [if_neg (by omega)]
      | succ n =>
        rw [if_pos (hb 0 d (by omega) rfl), ih r n (by omega) (by simpa using hl) (fun j c hj hc => hb (j + 1) c (by omega) (by simpa using hc)) ?_]
        rcases he with h | h | ⟨c, hc, h⟩
        · exact .inl (by omega)
        · exact .inr (.inl (by simpa using h))
        · exact .inr (.inr ⟨c, by simpa using hc, h⟩)
/-- the digits' short form is as long as they, if the last one is not 0 -/
theorem shortB_digB : ∀ (l : List UInt8) (c : UInt8), ((shortB (digB (l ++ [c]))).length = l.length + 1 ↔ ¬ (c.toNat % 128 = 0 ∧ 0 < l.length)) ∧ (c.toNat % 128 ≠ 0 → 0 < digB (l ++ [c])) := by
  intro l
  induction l with
  | nil => intro c; simp only [List.nil_append, digB]; rw [shortB_one (by omega)]; simp; omega
  | cons d r ih =>
    intro c
    obtain ⟨h1, h2⟩ := ih c
    simp only [List.cons_append, digB, List.length_cons]
    refine ⟨?_, fun h => by have := h2 h; omega⟩
    by_cases hu : digB (r ++ [c]) = 0
    · rw [hu, shortB_one (by omega)]
      have : c.toNat % 128 = 0 := by
        rcases Nat.eq_zero_or_pos (c.toNat % 128) with h | h
        · exact h
        · have := h2 (by omega); omega
      simp; omega
    · rw [shortB_more (by omega), show (d.toNat % 128 + 128 * digB (r ++ [c])) / 128 = digB (r ++ [c]) by omega]
      simp only [List.length_cons]
      by_cases hc : c.toNat % 128 = 0
      · by_cases hr : 0 < r.length
        · have : ¬ (shortB (digB (r ++ [c]))).length = r.length + 1 := fun h => (h1.1 h) ⟨hc, hr⟩
          simp [hc]; omega
        · exfalso
          obtain rfl : r = [] := List.eq_nil_of_length_eq_zero (by omega)
          simp [digB] at hu
          exact hu hc
      · have := h1.2 (fun h => hc h.1)
        simp [hc]; omega
theorem rdS_cnt : ∀ (b : List UInt8) (i v : Nat), i ≤ 9 → rdS i v b = if cntB (9 - i) b = 9 - i then (0, 0, 3) else if cntB (9 - i) b = b.length then (0, 0, 2) else
    if (b.getD (cntB (9 - i) b) 0).toNat = 0 ∧ 0 < i + cntB (9 - i) b then (0, 0, 3) else (v + digB (b.take (cntB (9 - i) b + 1)) * 128 ^ i, i + cntB (9 - i) b + 1, 0) := by
  intro b
  induction b with
  | nil =>
    intro i v hi
    by_cases h9 : i = 9
    · subst h9; rw [rdS_nine]; simp [cntB]
    · rw [rdS_nil _ (by omega)]
      have : cntB (9 - i) [] = 0 := by have := (cntB_le (9 - i) []).2; simpa using this
      rw [this, if_neg (by omega)]; simp
  | cons c r ih =>
    intro i v hi
    by_cases h9 : i = 9
    · subst h9; rw [rdS_nine]; simp [cntB]
    · obtain ⟨k, hk⟩ : ∃ k, 9 - i = k + 1 := ⟨8 - i, by omega⟩
      rw [hk]
      by_cases hb : 128 ≤ c.toNat
      · rw [rdS_more (by omega) hb, ih (i + 1) _ (by omega), show 9 - (i + 1) = k by omega]
        have ec : cntB (k + 1) (c :: r) = cntB k r + 1 := by simp only [cntB]; rw [if_pos hb]
        rw [ec]
        simp only [List.length_cons, Nat.add_right_cancel_iff, List.getD_cons_succ, List.take_succ_cons, digB]
        have e1 : i + 1 + cntB k r = i + (cntB k r + 1) := by omega
        rw [e1]
        congr 1
        congr 1
        by_cases h0 : (r.getD (cntB k r) 0).toNat = 0
        · rw [if_pos ⟨h0, by omega⟩, if_pos ⟨h0, by omega⟩]
        · rw [if_neg (fun h => h0 h.1), if_neg (fun h => h0 h.1)]
          refine Prod.ext ?_ (Prod.ext (by simp only) rfl)
          simp only
          rw [Nat.pow_succ, Nat.add_mul, Nat.add_assoc, Nat.mul_comm 128 (digB _), Nat.mul_assoc, Nat.mul_comm 128 (128 ^ i)]
      · have e0 : cntB (k + 1) (c :: r) = 0 := by simp only [cntB]; rw [if_neg hb]
        rw [e0, if_neg (by omega), if_neg (by simp)]
        simp only [List.getD_cons_zero, Nat.add_zero, Nat.zero_add, List.take_succ_cons, List.take_zero, digB, Nat.mul_zero]
        by_cases h0 : c.toNat = 0 ∧ 0 < i
        · rw [if_pos h0, rdS_zero (by omega) h0.1 h0.2]
        · rw [if_neg h0, rdS_last (by omega) (by omega) h0]
theorem cnt_stop : ∀ (k : Nat) (l : List UInt8), cntB k l ≠ k → (h : cntB k l < l.length) → (l[cntB k l]).toNat < 128 := by
  intro k
  induction k with
  | zero => intro l h; simp [cntB] at h
  | succ k ih =>
    intro l hk h
    cases l with
    | nil => simp at h
    | cons c r =>
      by_cases hc : 128 ≤ c.toNat
      · have e : cntB (k + 1) (c :: r) = cntB k r + 1 := by simp only [cntB]; rw [if_pos hc]
        have h' : cntB k r < r.length := by rw [e] at h; simpa using h
        have := ih r (by omega) h'
        simp only [e, List.getElem_cons_succ]
        exact this
      · have e : cntB (k + 1) (c :: r) = 0 := by simp only [cntB]; rw [if_neg hc]
        simp only [e, List.getElem_cons_zero]
        omega
/-- the document's answer: count, read, write again -/
theorem rdS_doc (b : List UInt8) : rdS 0 0 b = if cntB 9 b = 9 then (0, 0, 3) else if cntB 9 b = b.length then (0, 0, 2) else
    if (shortB (digB (b.take (cntB 9 b + 1)))).length ≠ cntB 9 b + 1 then (0, 0, 3) else (digB (b.take (cntB 9 b + 1)), cntB 9 b + 1, 0) := by
  have h := rdS_cnt b 0 0 (by omega)
  simp only [Nat.sub_zero, Nat.zero_add, Nat.pow_zero, Nat.mul_one] at h
  rw [h]
  split
  · rfl
  · rename_i h9
    split
    · rfl
    · rename_i hl
      have hle := cntB_le 9 b
      have hlt : cntB 9 b < b.length := by omega
      have hg : b.getD (cntB 9 b) 0 = b[cntB 9 b] := by simp [List.getD_eq_getElem?_getD, List.getElem?_eq_getElem hlt]
      have ht : b.take (cntB 9 b + 1) = b.take (cntB 9 b) ++ [b[cntB 9 b]] := by rw [List.take_add_one, List.getElem?_eq_getElem hlt]; rfl
      have hsm : b[cntB 9 b].toNat < 128 := by
        rcases Nat.lt_or_ge b[cntB 9 b].toNat 128 with h | h
        · exact h
        · have := cnt_stop 9 b (by omega) hlt
          omega
      have h2 := (shortB_digB (b.take (cntB 9 b)) b[cntB 9 b]).1
      rw [← ht, List.length_take, Nat.min_eq_left (by omega), Nat.mod_eq_of_lt hsm] at h2
      rw [hg]
      by_cases h0 : b[cntB 9 b].toNat = 0 ∧ 0 < cntB 9 b
      · rw [if_pos h0, if_pos (fun e => (h2.1 e) h0)]
      · rw [if_neg h0, if_neg (by have := h2.2 h0; omega)]

theorem rdS_er : ∀ (b : List UInt8) (i v : Nat), (rdS i v b).2.2 = 0 ∨ (rdS i v b).2.2 = 2 ∨ (rdS i v b).2.2 = 3 := by
  intro b
  induction b with
  | nil => intro i v; simp only [rdS]; split <;> simp
  | cons c r ih =>
    intro i v
    simp only [rdS]
    split
    · simp
    · split
      · exact ih _ _
      · split <;> simp
/-- a short number, read at a place -/
def rShort (b : List UInt8) (at_ : Nat) (e : Int) : Nat × Nat × Int :=
  if e ≠ 0 then (0, at_, e) else if (rdS 0 0 (b.drop at_)).2.2 = 0 then ((rdS 0 0 (b.drop at_)).1, at_ + (rdS 0 0 (b.drop at_)).2.1, 0) else (0, at_, ((rdS 0 0 (b.drop at_)).2.2 : Int))
/-- a signed number of a short one -/
def sgnR (x : Nat) : Int := if x % 2 = 1 then -((x / 2 + 1 : Nat) : Int) else ((x / 2 : Nat) : Int)
def rSigned (b : List UInt8) (at_ : Nat) (e : Int) : Int × Nat × Int :=
  if (rShort b at_ e).2.2 ≠ 0 then (0, (rShort b at_ e).2) else if 2305843009213693952 ≤ (((rShort b at_ e).1 / 2 : Nat) : Int) then (0, at_, 3) else (sgnR (rShort b at_ e).1, (rShort b at_ e).2)
def rText (b : List UInt8) (at_ : Nat) (e : Int) : List UInt8 × Nat × Int :=
  if (rShort b at_ e).2.2 ≠ 0 then ([], (rShort b at_ e).2) else if b.length < (rShort b at_ e).2.1 + (rShort b at_ e).1 then ([], at_, 2)
    else ((b.drop (rShort b at_ e).2.1).take (rShort b at_ e).1, (rShort b at_ e).2.1 + (rShort b at_ e).1, 0)
def rList (b : List UInt8) (most : Int) (at_ : Nat) (e : Int) : Nat × Nat × Int :=
  if (rShort b at_ e).2.2 ≠ 0 then (0, (rShort b at_ e).2) else if most < ((rShort b at_ e).1 : Int) then (0, at_, 3) else if b.length < (rShort b at_ e).2.1 + (rShort b at_ e).1 then (0, at_, 2)
    else ((rShort b at_ e).1, (rShort b at_ e).2.1, 0)
def rRaw (b : List UInt8) (m : Int) (at_ : Nat) (e : Int) : List UInt8 × Nat × Int :=
  if e ≠ 0 then ([], at_, e) else if ((b.length - at_ : Nat) : Int) < m then ([], at_, 2) else ((b.drop at_).take m.toNat, at_ + m.toNat, 0)
def rFixed (b : List UInt8) (k at_ : Nat) (e : Int) : Nat × Nat × Int := (numB (rRaw b k at_ e).1, (rRaw b k at_ e).2)

theorem rShort_at {b : List UInt8} {at_ : Nat} {e : Int} (h : at_ ≤ b.length) : at_ ≤ (rShort b at_ e).2.1 ∧ (rShort b at_ e).2.1 ≤ b.length ∧ ((rShort b at_ e).1 : Int) ≤ 9223372036854775807 := by
  have h1 := rdS_bounds (b.drop at_) 0 0 (by omega) (by simp)
  have h2 := rd_lt (b.drop at_)
  simp only [List.length_drop] at h1
  unfold rShort
  split
  · exact ⟨by simp, h, by simp⟩
  · split
    · exact ⟨by simp only; omega, by simp only; omega, h2⟩
    · exact ⟨by simp, h, by simp⟩
/-- one form alone -/
theorem rShort_one (b : List UInt8) : ((rShort b 0 0).2.2 = 0 ∧ b.take (rShort b 0 0).2.1 = shortB (rShort b 0 0).1) ∨ (((rShort b 0 0).2.2 = 2 ∨ (rShort b 0 0).2.2 = 3) ∧ (rShort b 0 0).1 = 0 ∧ (rShort b 0 0).2.1 = 0) := by
  obtain ⟨x, n, er, h⟩ : ∃ x n er, rdS 0 0 b = (x, n, er) := ⟨_, _, _, rfl⟩
  have he := rdS_er b 0 0
  unfold rShort
  rw [h] at he
  rw [List.drop_zero, h, if_neg (by omega)]
  simp only at he ⊢
  by_cases h0 : er = 0
  · subst h0
    obtain ⟨m, k, e1, e2, _, e3, _⟩ := rdS_inv b 0 0 x n h
    simp at e1 e2
    subst e1 e2
    left
    simp [e3]
  · rw [if_neg h0]
    right
    simp only [and_true]
    omega
theorem rRaw_at {b : List UInt8} {at_ : Nat} {e : Int} (m : Int) (h : at_ ≤ b.length) : at_ ≤ (rRaw b m at_ e).2.1 ∧ (rRaw b m at_ e).2.1 ≤ b.length ∧ (rRaw b m at_ e).1.length ≤ b.length := by
  unfold rRaw
  split
  · exact ⟨by simp, h, by simp⟩
  · split
    · exact ⟨by simp, h, by simp⟩
    · exact ⟨by simp only; omega, by simp only; omega, by simp; omega⟩
theorem rSigned_at {b : List UInt8} {at_ : Nat} {e : Int} (h : at_ ≤ b.length) : (rSigned b at_ e).2.1 ≤ b.length := by
  have := rShort_at (e := e) h
  unfold rSigned
  split
  · exact this.2.1
  · split
    · exact h
    · exact this.2.1
theorem rText_at {b : List UInt8} {at_ : Nat} {e : Int} (h : at_ ≤ b.length) : (rText b at_ e).2.1 ≤ b.length ∧ (rText b at_ e).1.length ≤ b.length := by
  have := rShort_at (e := e) h
  unfold rText
  split
  · exact ⟨this.2.1, by simp⟩
  · split
    · exact ⟨h, by simp⟩
    · exact ⟨by simp only; omega, by simp; omega⟩
theorem rList_at {b : List UInt8} {at_ : Nat} {e : Int} (most : Int) (h : at_ ≤ b.length) : (rList b most at_ e).2.1 ≤ b.length := by
  have := rShort_at (e := e) h
  unfold rList
  split
  · exact this.2.1
  · split
    · exact h
    · split
      · exact h
      · exact this.2.1
end
end Go.Proofs.Ytnkbkhlbogcfaaa
