/- The sum of bytes, as numbers: the register's step is linear and one to one; a table's round is eight steps; what differs within four bytes has another sum. -/
set_option linter.unusedVariables false
set_option linter.unusedSimpArgs false
namespace Go.Proofs.Ytnkbkhlbogcfaaa.Cm

def P : Nat := 3988292384
def step (r : Nat) : Nat := if r % 2 = 1 then (r / 2) ^^^ P else r / 2
noncomputable def step8 (r : Nat) : Nat := step (step (step (step (step (step (step (step r)))))))
noncomputable def reg (r : Nat) (b : List UInt8) : Nat := b.foldl (fun r c => step8 (r ^^^ c.toNat)) r
def all : Nat := 4294967295
noncomputable def crc (b : List UInt8) : Nat := reg all b ^^^ all

theorem P_lt : P < 2 ^ 32 := by decide
theorem all_lt : all < 2 ^ 32 := by decide

theorem div2_xor (a b : Nat) : (a ^^^ b) / 2 = a / 2 ^^^ b / 2 := by
  have h := Nat.shiftRight_xor_distrib (a := a) (b := b) (i := 1)
  simpa [Nat.shiftRight_eq_div_pow] using h

theorem mod2_xor (a b : Nat) : (a ^^^ b) % 2 = (a % 2 + b % 2) % 2 := by
  have h := Nat.testBit_xor a b 0
  simp only [Nat.testBit_zero] at h
  rcases Nat.mod_two_eq_zero_or_one a with ha | ha <;> rcases Nat.mod_two_eq_zero_or_one b with hb | hb <;> rcases Nat.mod_two_eq_zero_or_one (a ^^^ b) with hc | hc <;> simp [ha, hb, hc] at h ⊢

theorem step_xor (a b : Nat) : step (a ^^^ b) = step a ^^^ step b := by
  unfold step
  rw [div2_xor, mod2_xor]
  rcases Nat.mod_two_eq_zero_or_one a with ha | ha <;> rcases Nat.mod_two_eq_zero_or_one b with hb | hb <;> simp only [ha, hb] <;> simp
  · rw [Nat.xor_assoc]
  · rw [Nat.xor_assoc, Nat.xor_assoc]; congr 1; rw [Nat.xor_comm]
  · rw [show a / 2 ^^^ P ^^^ (b / 2 ^^^ P) = a / 2 ^^^ (P ^^^ (P ^^^ b / 2)) by rw [Nat.xor_assoc]; congr 2; exact Nat.xor_comm _ _]
    rw [← Nat.xor_assoc P P, Nat.xor_self, Nat.zero_xor]

theorem step8_xor (a b : Nat) : step8 (a ^^^ b) = step8 a ^^^ step8 b := by unfold step8; simp only [step_xor]

theorem step_lt {a : Nat} (h : a < 2 ^ 32) : step a < 2 ^ 32 := by
  unfold step
  split
  · exact Nat.xor_lt_two_pow (by omega) P_lt
  · omega
theorem step8_lt {a : Nat} (h : a < 2 ^ 32) : step8 a < 2 ^ 32 := by
  unfold step8
  iterate 8 apply step_lt
  exact h

theorem step_zero : step 0 = 0 := by decide
theorem step8_zero : step8 0 = 0 := by decide

theorem step_inj0 {a : Nat} (h : a < 2 ^ 32) (h0 : step a = 0) : a = 0 := by
  unfold step at h0
  split at h0
  · exfalso
    have : a / 2 = P := by
      have := congrArg (· ^^^ P) h0
      simpa [Nat.xor_assoc, Nat.xor_self, Nat.xor_zero, Nat.zero_xor] using this
    unfold P at this
    omega
  · omega
theorem step8_inj0 {a : Nat} (h : a < 2 ^ 32) (h0 : step8 a = 0) : a = 0 := by
  unfold step8 at h0
  have l1 := step_lt h
  have l2 := step_lt l1
  have l3 := step_lt l2
  have l4 := step_lt l3
  have l5 := step_lt l4
  have l6 := step_lt l5
  have l7 := step_lt l6
  exact step_inj0 h (step_inj0 l1 (step_inj0 l2 (step_inj0 l3 (step_inj0 l4 (step_inj0 l5 (step_inj0 l6 (step_inj0 l7 h0)))))))

theorem step_even (y : Nat) : step (2 * y) = y := by unfold step; rw [if_neg (by omega)]; omega
theorem step8_256 (y : Nat) : step8 (256 * y) = y := by
  have e : 256 * y = 2 * (2 * (2 * (2 * (2 * (2 * (2 * (2 * y))))))) := by omega
  unfold step8
  rw [e]
  simp only [step_even]

/-- a number is its low byte, and the rest -/
theorem split256 (r : Nat) : r = (256 * (r / 256)) ^^^ (r % 256) := by
  have h := Nat.two_pow_add_eq_or_of_lt (i := 8) (b := r % 256) (Nat.mod_lt _ (by decide)) (r / 256)
  have e : 256 * (r / 256) ^^^ (r % 256) = 256 * (r / 256) ||| (r % 256) := by
    apply Nat.eq_of_testBit_eq
    intro i
    rw [Nat.testBit_xor, Nat.testBit_or]
    by_cases hi : i < 8
    · have : (256 * (r / 256)).testBit i = false := by
        have := Nat.testBit_two_pow_mul (a := r / 256) (i := 8) (j := i)
        simp only [show (2 : Nat) ^ 8 = 256 from rfl] at this
        rw [this]; simp [show ¬ 8 ≤ i by omega]
      simp [this]
    · have : (r % 256).testBit i = false := by
        apply Nat.testBit_lt_two_pow
        exact Nat.lt_of_lt_of_le (Nat.mod_lt _ (by decide)) (show 256 ≤ 2 ^ i from by
          have := Nat.pow_le_pow_right (n := 2) (by decide) (show 8 ≤ i by omega)
          simpa using this)
      simp [this]
  rw [e]
  simp only [show (2 : Nat) ^ 8 = 256 from rfl] at h
  rw [← h]
  omega

/-- a round of the table -/
theorem round (r c : Nat) : step8 (r ^^^ c) = step8 ((r % 256) ^^^ c) ^^^ (r / 256) := by
  have h : r ^^^ c = (256 * (r / 256)) ^^^ ((r % 256) ^^^ c) := by
    rw [← Nat.xor_assoc, ← split256]
  rw [h, step8_xor, step8_256, Nat.xor_comm]

theorem reg_nil (r : Nat) : reg r [] = r := rfl
theorem reg_cons (r : Nat) (c : UInt8) (b : List UInt8) : reg r (c :: b) = reg (step8 (r ^^^ c.toNat)) b := rfl
theorem reg_append (r : Nat) (a b : List UInt8) : reg r (a ++ b) = reg (reg r a) b := by simp [reg]
theorem byte_lt (c : UInt8) : c.toNat < 2 ^ 32 := by have := c.toNat_lt; omega
theorem reg_lt {r : Nat} (h : r < 2 ^ 32) (b : List UInt8) : reg r b < 2 ^ 32 := by
  induction b generalizing r with
  | nil => exact h
  | cons c b ih => rw [reg_cons]; exact ih (step8_lt (Nat.xor_lt_two_pow h (byte_lt c)))
theorem crc_lt (b : List UInt8) : crc b < 2 ^ 32 := Nat.xor_lt_two_pow (reg_lt all_lt b) all_lt

theorem sub_all {r : Nat} (h : r < 2 ^ 32) : all - r = r ^^^ all := by
  have h1 : (BitVec.ofNat 32 r).toNat = r := by simp; omega
  have h2 : (BitVec.ofNat 32 r ^^^ BitVec.allOnes 32) = ~~~(BitVec.ofNat 32 r) := BitVec.xor_allOnes
  have h3 := congrArg BitVec.toNat h2
  rw [BitVec.toNat_xor, BitVec.toNat_not, h1] at h3
  have h4 : (BitVec.allOnes 32).toNat = all := by decide
  rw [h4] at h3
  rw [h3]
  rfl

def xorL (a b : List UInt8) : List UInt8 := List.zipWith (· ^^^ ·) a b

theorem xorL_snoc (a b : List UInt8) (x y : UInt8) (h : a.length = b.length) : xorL (a ++ [x]) (b ++ [y]) = xorL a b ++ [x ^^^ y] := by
  unfold xorL
  rw [List.zipWith_append h]
  rfl

theorem reg_xor (a : List UInt8) : ∀ (b : List UInt8) (r s : Nat), a.length = b.length → reg (r ^^^ s) (xorL a b) = reg r a ^^^ reg s b := by
  induction a with
  | nil => intro b r s h; cases b with
    | nil => rfl
    | cons c b => simp at h
  | cons x a ih =>
    intro b r s h
    cases b with
    | nil => simp at h
    | cons y b =>
      simp only [xorL, List.zipWith_cons_cons, reg_cons]
      rw [show r ^^^ s ^^^ (x ^^^ y).toNat = (r ^^^ x.toNat) ^^^ (s ^^^ y.toNat) by
        rw [UInt8.toNat_xor]; simp only [Nat.xor_assoc]; congr 1; rw [← Nat.xor_assoc, ← Nat.xor_assoc, Nat.xor_comm s]]
      rw [step8_xor]
      exact ih b _ _ (by simpa using h)

/-- three texts of one length -/
theorem crc_even (a b c : List UInt8) (h1 : a.length = b.length) (h2 : b.length = c.length) : crc (xorL (xorL a b) c) = crc a ^^^ crc b ^^^ crc c := by
  unfold crc
  have hl : (xorL a b).length = c.length := by simp [xorL, h1, h2]
  have e : all = (all ^^^ all) ^^^ all := by rw [Nat.xor_self, Nat.zero_xor]
  conv => lhs; rw [show reg all (xorL (xorL a b) c) = reg ((all ^^^ all) ^^^ all) (xorL (xorL a b) c) by rw [← e]]
  rw [reg_xor _ _ _ _ hl, reg_xor _ _ _ _ h1]
  generalize reg all a = x
  generalize reg all b = y
  generalize reg all c = z
  apply Nat.eq_of_testBit_eq
  intro i
  simp only [Nat.testBit_xor]
  cases x.testBit i <;> cases y.testBit i <;> cases z.testBit i <;> cases all.testBit i <;> rfl

/-- the number of up to four bytes, the lowest first -/
def le : List UInt8 → Nat
  | [] => 0
  | c :: b => c.toNat + 256 * le b

theorem low_xor (c y : Nat) (h : c < 256) : c + 256 * y = c ^^^ (256 * y) := by
  have := split256 (c + 256 * y)
  rw [show (c + 256 * y) / 256 = y by omega, show (c + 256 * y) % 256 = c by omega] at this
  rw [this, Nat.xor_comm]

noncomputable def stepN : Nat → Nat → Nat
  | 0, r => r
  | n + 1, r => stepN n (step8 r)

theorem reg_le (x : List UInt8) : ∀ r, reg r x = stepN x.length (r ^^^ le x) := by
  induction x with
  | nil => intro r; simp [reg, le, stepN]
  | cons c x ih =>
    intro r
    rw [reg_cons, ih]
    show stepN x.length _ = stepN x.length (step8 _)
    congr 1
    rw [le, low_xor _ _ (by have := c.toNat_lt; omega), ← Nat.xor_assoc, step8_xor (r ^^^ c.toNat), step8_256]

theorem stepN_inj0 (n : Nat) : ∀ {a : Nat}, a < 2 ^ 32 → stepN n a = 0 → a = 0 := by
  induction n with
  | zero => intro a _ h; exact h
  | succ n ih => intro a h h0; exact step8_inj0 h (ih (step8_lt h) h0)

theorem le_lt (x : List UInt8) : le x < 256 ^ x.length := by
  induction x with
  | nil => simp [le]
  | cons c x ih =>
    simp only [le, List.length_cons, Nat.pow_succ]
    have := c.toNat_lt
    omega
theorem le_zero (x : List UInt8) (h : le x = 0) : ∀ c ∈ x, c = 0 := by
  induction x with
  | nil => simp
  | cons c x ih =>
    simp only [le] at h
    intro d hd
    rcases List.mem_cons.1 hd with rfl | hd
    · apply UInt8.toNat_inj.1
      simp only [UInt8.toNat_zero]
      omega
    · exact ih (by omega) d hd

theorem reg_zeros (n : Nat) : reg 0 (List.replicate n 0) = 0 := by
  induction n with
  | zero => rfl
  | succ n ih => rw [List.replicate_succ, reg_cons, show (0 : Nat) ^^^ (0 : UInt8).toNat = 0 from rfl, step8_zero]; exact ih
theorem reg_zeros_inj (n : Nat) : ∀ {r : Nat}, r < 2 ^ 32 → reg r (List.replicate n 0) = 0 → r = 0 := by
  induction n with
  | zero => intro r _ h; exact h
  | succ n ih =>
    intro r hr h
    rw [List.replicate_succ, reg_cons] at h
    have e : r ^^^ (0 : UInt8).toNat = r := by simp
    rw [e] at h
    exact step8_inj0 hr (ih (step8_lt hr) h)

/-- a burst: zeros, up to four bytes, zeros -/
theorem reg_burst (n m : Nat) (x : List UInt8) (hx : x.length ≤ 4) (hne : ∃ c ∈ x, c ≠ 0) : reg 0 (List.replicate n 0 ++ x ++ List.replicate m 0) ≠ 0 := by
  rw [reg_append, reg_append, reg_zeros]
  intro h
  have hl : le x < 2 ^ 32 := by
    refine Nat.lt_of_lt_of_le (le_lt x) ?_
    have := Nat.pow_le_pow_right (n := 256) (by decide) hx
    exact this
  have h1 := reg_zeros_inj m (reg_lt (by decide) x) h
  rw [reg_le, Nat.zero_xor] at h1
  have h2 := stepN_inj0 _ hl h1
  obtain ⟨c, hc, hn⟩ := hne
  exact hn (le_zero x h2 c hc)

theorem xor_eq {a b : Nat} (h : a = b) : a ^^^ b = 0 := by rw [h, Nat.xor_self]
theorem eq_of_xor {a b : Nat} (h : a ^^^ b = 0) : a = b := by
  have := congrArg (· ^^^ b) h
  simpa [Nat.xor_assoc, Nat.xor_self] using this

theorem crc_diff (a b : List UInt8) (h : a.length = b.length) : crc a ^^^ crc b = reg 0 (xorL a b) := by
  have := reg_xor a b all all h
  rw [Nat.xor_self] at this
  rw [this]
  unfold crc
  generalize reg all a = x
  generalize reg all b = y
  apply Nat.eq_of_testBit_eq
  intro i
  simp only [Nat.testBit_xor]
  cases x.testBit i <;> cases y.testBit i <;> cases all.testBit i <;> rfl

/-- two texts of one length that differ by a burst -/
theorem crc_burst (a b : List UInt8) (n m : Nat) (x : List UInt8) (h : a.length = b.length) (hd : xorL a b = List.replicate n 0 ++ x ++ List.replicate m 0) (hx : x.length ≤ 4) (hne : ∃ c ∈ x, c ≠ 0) : crc a ≠ crc b := by
  intro e
  have h1 := crc_diff a b h
  rw [xor_eq e, hd] at h1
  exact reg_burst n m x hx hne h1.symm

end Go.Proofs.Ytnkbkhlbogcfaaa.Cm
