/- CrcSums: the walk. -/
import Derived.Test.YtnkbkhlbogcfaaaE
set_option linter.unusedVariables false
set_option linter.unusedSimpArgs false
namespace Go.Proofs.Ytnkbkhlbogcfaaa
open Go.RowKit Go.Proofs.YtnkbkhlbogcfaaaW.PrintWords
noncomputable section

/-- the first so many bytes -/
def few (b : List UInt8) (m : Nat) : List UInt8 := b.take (min b.length m)
theorem few_length (b : List UInt8) (m : Nat) : (few b m).length = min b.length m := by simp [few]
theorem few_rb {w : World} {A : Option Addr} {b : List UInt8} (h : RB w A b) (m : Nat) : RB w A (few b m) := h.take _ (Nat.min_le_left _ _)

theorem one_more (X : Nat) (h : X < 2 ^ 32) : (((X : Nat) : Int) == ((X : Int) + 1) % 4294967296) = false := by
  rw [beq_eq_false_iff_ne]
  omega

set_option maxHeartbeats 2000000 in
set_option maxRecDepth 100000 in
theorem crcSums_row {w : World} (A0 : Option Addr) (a0 : List UInt8) (c0 : Nat) (h0 : RB w A0 a0) (l0 : a0.length ≤ c0) (A1 : Option Addr) (b0 : List UInt8) (c1 : Nat) (h1 : RB w A1 b0) (l1 : b0.length ≤ c1) :
    Calls Try.prog 5 #[.slice A0 a0.length c0, .slice A1 b0.length c1] w fun e w' => e = .returned (.bool true) ∧ Below w.heap.size w w' := by
  obtain ⟨a, ha⟩ : ∃ a, a = few a0 300 := ⟨_, rfl⟩
  obtain ⟨b, hb⟩ : ∃ b, b = few b0 300 := ⟨_, rfl⟩
  obtain ⟨n, hn⟩ : ∃ n, n = min a0.length 300 := ⟨_, rfl⟩
  obtain ⟨m, hm⟩ : ∃ m, m = min b0.length 300 := ⟨_, rfl⟩
  have La : a.length = n := by rw [ha, hn, few_length]
  have Lb : b.length = m := by rw [hb, hm, few_length]
  have Ra : RB w A0 a := by rw [ha]; exact few_rb h0 _
  have Rb : RB w A1 b := by rw [hb]; exact few_rb h1 _
  have n3 : n ≤ 300 := by omega
  have m3 : m ≤ 300 := by omega
  have HN := Lib.hid (And.intro hn hm)
  have HR := Lib.hid (And.intro Ra (And.intro Rb (And.intro La Lb)))
  have hl0 := Lib.hid l0
  have hl1 := Lib.hid l1
  clear ha hb hn hm La Lb Ra Rb h0 h1 l0 l1
  obtain ⟨X, hX⟩ : ∃ X, X = Cm.crc a := ⟨_, rfl⟩
  obtain ⟨Y, hY⟩ : ∃ Y, Y = Cm.crc (a ++ b) := ⟨_, rfl⟩
  have HX := Lib.hid (And.intro hX hY)
  have Y1 := Lib.hid (one_more Y (by rw [hY]; exact Cm.crc_lt _))
  clear hX hY
  go_enter Try.func5, Try.ntmps5
  go_wp2_with fail
  refine (few_any A0 _ c0 300 _ hl0.out (by omega)).mono ?_
  rintro e w' ⟨rfl, rfl⟩
  rw [← HN.out.1]
  go_wp2_with fail
  refine (few_any A1 _ c1 300 _ hl1.out (by omega)).mono ?_
  rintro e w' ⟨rfl, rfl⟩
  rw [← HN.out.2]
  go_wp2_with fail
  refine (new_any _).mono ?_
  rintro e w1 ⟨p, rfl, hp, hs1, hb1⟩
  go_wp2_with fail
  have ea := HR.out.2.2.1
  have eb := HR.out.2.2.2
  refine (add_len p _ _ a A0 n c0 w1 ea hs1 (by decide) (HR.out.1.below hb1) (fun hpos ad e => by have := HR.out.1.lt e hpos; omega) (by omega)).mono ?_
  rintro e w2 ⟨rfl, hs2, hm2⟩
  have hb2 := hb1.trans (hm2.below hb1.size hp (by simp))
  clear ea eb
  go_wp2_with fail
  refine (now_any p _ _ _ hs2 (Cm.reg_lt (by decide) _)).mono ?_
  rintro e w3 ⟨rfl, rfl⟩
  rw [show Cm.reg Cm.all a ^^^ Cm.all = Cm.crc a from rfl, ← HX.out.1]
  go_wp2_with fail
  have ea := HR.out.2.2.1
  have eb := HR.out.2.2.2
  refine (add_len p _ _ b A1 m c1 w2 eb hs2 (Cm.reg_lt (by decide) _) (HR.out.2.1.below hb2) (fun hpos ad e => by have := HR.out.2.1.lt e hpos; omega) (by omega)).mono ?_
  rintro e w3 ⟨rfl, hs3, hm3⟩
  have hb3 := hb2.trans (hm3.below hb2.size hp (by simp))
  clear ea eb
  have HB3 := Lib.hid hb3
  have HS3 := Lib.hid hs3
  have Hp := Lib.hid hp
  clear hb1 hb2 hb3 hm2 hm3 hs1 hs2 hs3
  have la := HR.out.2.2.1
  have lb := HR.out.2.2.2
  have LA := Lib.hid la
  have LB := Lib.hid lb
  clear la lb
  go_wp2_with (first
    | (at_builtin; refine appB w.heap.size none 0 0 [] A0 n c0 a rfl rfl rfl rfl (OB.nil _ _) (HR.out.1.below HB3.out) LA.out HB3.out.size (by omega) ?_; intro A4 c4 w4 ho4 hg4 hs4; simp only [Nat.zero_add, List.nil_append] at ho4; have hb4 := HB3.out.grown hg4 HB3.out.size (by intro k hk; cases hk))
    | (at_builtin; refine appB w.heap.size A4 n c4 a A1 m c1 b rfl rfl rfl rfl ho4 (HR.out.2.1.below hb4) LB.out hb4.size (by omega) ?_; intro A5 c5 w5 ho5 hg5 hs5; have hb5 := hb4.grown hg5 hb4.size ho4.base))
  have hp3 := (Array.getElem?_eq_some_iff.1 HS3.out).1
  simp only [Nat.zero_add] at hs4
  have q4 : w4.heap[p]? = w3.heap[p]? := hg4.block p hp3 (by simp [Value.ownBlock])
  have q5 : w5.heap[p]? = w4.heap[p]? := hg5.block p (Nat.lt_of_lt_of_le hp3 hg4.size) (by
    intro e
    rcases hs4 with h | ⟨k, h, hk⟩
    · rw [h] at e; cases e
    · rw [h] at e; injection e with e; omega)
  have HS5 := Lib.hid (q5.trans (q4.trans HS3.out))
  have HO5 := Lib.hid ho5
  have HB5 := Lib.hid hb5
  have hl5 := Lib.hid ho5.len
  clear hp3 q4 q5 hg4 hg5 hs4 hs5 ho4 ho5 hb4 hb5
  refine (rof_len (a ++ b) A5 (n + m) c5 _ hl5.out HO5.out.rb (by omega)).mono ?_
  rintro e w6 ⟨rfl, rfl⟩
  rw [← HX.out.2]
  go_wp2_with fail
  refine (rof_len a A0 n c0 _ LA.out (HR.out.1.below HB5.out) (by omega)).mono ?_
  rintro e w6 ⟨rfl, rfl⟩
  rw [← HX.out.1]
  go_wp2_with fail
  refine (now_any p _ _ _ HS5.out (Cm.reg_lt (Cm.reg_lt (by decide) _) _)).mono ?_
  rintro e w6 ⟨rfl, rfl⟩
  rw [show Cm.reg (Cm.reg Cm.all a) b ^^^ Cm.all = Cm.crc (a ++ b) by rw [Cm.crc, Cm.reg_append], ← HX.out.2]
  go_wp2_with fail
  refine (slen_any p _ _ _ HS5.out).mono ?_
  rintro e w6 ⟨rfl, rfl⟩
  rw [show ((0 + n + m : Nat) : Int) = (n : Int) + (m : Int) by omega]
  go_wp2_with fail
  refine (of_len (a ++ b) A5 (n + m) c5 _ hl5.out HO5.out.rb (by omega)).mono ?_
  rintro e w6 ⟨rfl, hb6⟩
  rw [← HX.out.2]
  have HB6 := Lib.hid hb6
  clear hb6
  go_wp2_with fail
  refine (fits_len (a ++ b) A5 (n + m) c5 _ _ hl5.out (HO5.out.rb.below HB6.out) (by omega)).mono ?_
  rintro e w7 ⟨rfl, hb7⟩
  rw [← HX.out.2, beq_self_eq_true]
  have HB7 := Lib.hid (HB6.out.trans (hb7.mono HB6.out.size))
  clear hb7
  go_wp2_with fail
  refine (fits_len (a ++ b) A5 (n + m) c5 _ _ hl5.out (HO5.out.rb.below HB7.out) (by omega)).mono ?_
  rintro e w8 ⟨rfl, hb8⟩
  rw [← HX.out.2, Y1.out]
  have HB8 := Lib.hid (HB7.out.trans (hb8.mono HB7.out.size))
  clear hb8
  go_wp2_with fail
  refine (lives02_any _).mono ?_
  rintro e w9 ⟨rfl, hb9⟩
  go_wp2_with fail
  go_ret
  exact ⟨rfl, HB5.out.trans ((HB8.out.trans (hb9.mono HB8.out.size)).mono HB5.out.size)⟩
end
end Go.Proofs.Ytnkbkhlbogcfaaa
