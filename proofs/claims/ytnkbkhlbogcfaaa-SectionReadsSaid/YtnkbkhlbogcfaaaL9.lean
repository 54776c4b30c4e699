/- CrcSeals: the walk. -/
import Derived.Test.YtnkbkhlbogcfaaaL5
set_option linter.unusedVariables false
set_option linter.unusedSimpArgs false
namespace Go.Proofs.Ytnkbkhlbogcfaaa
open Go.RowKit Go.Proofs.YtnkbkhlbogcfaaaW.PrintWords
noncomputable section

theorem openE_len {b : List UInt8} (h : openE b = 0) : 4 ≤ b.length ∧ openB b = b.take (b.length - 4) := by
  have h4 : ¬ b.length < 4 := by
    intro h4
    rw [(openE_short h4).1] at h
    cases h
  exact ⟨by omega, by unfold openB; rw [h]; rfl⟩
theorem openE_not {b : List UInt8} (h : openE b ≠ 0) : openB b = [] := by unfold openB; rw [if_neg h]

set_option maxHeartbeats 2000000 in
set_option maxRecDepth 100000 in
theorem crcSeals_row {w : World} (A0 : Option Addr) (a0 : List UInt8) (c0 : Nat) (h0 : RB w A0 a0) (l0 : a0.length ≤ c0) :
    Calls Try.prog 9 #[.slice A0 a0.length c0] w fun e w' => e = .returned (.bool true) ∧ Below w.heap.size w w' := by
  obtain ⟨b, hb⟩ : ∃ a, a = few a0 300 := ⟨_, rfl⟩
  obtain ⟨n, hn⟩ : ∃ n, n = min a0.length 300 := ⟨_, rfl⟩
  have Lb : b.length = n := by rw [hb, hn, few_length]
  have Rb : RB w A0 b := by rw [hb]; exact few_rb h0 _
  have n3 : n ≤ 300 := by omega
  have nc : n ≤ c0 := by omega
  have HN := Lib.hid hn
  have HR := Lib.hid (And.intro Rb Lb)
  have hl0 := Lib.hid l0
  obtain ⟨E, hE⟩ : ∃ E, E = openE b := ⟨_, rfl⟩
  have HE := Lib.hid hE
  clear hb hn Lb Rb h0 l0 hE
  have nI : (n : Int) ≤ 300 := by omega
  go_enter Try.func9, Try.ntmps9
  go_wp2_with fail
  refine (few_any A0 _ c0 300 _ hl0.out (by omega)).mono ?_
  rintro e w' ⟨rfl, rfl⟩
  rw [← HN.out]
  go_wp2_with fail
  refine (seal_any b A0 n c0 _ HR.out.2 HR.out.1 (by omega)).mono ?_
  rintro e w1 ⟨A1, c1, rfl, ho1, hb1⟩
  have HO1 := Lib.hid ho1
  have HB1 := Lib.hid hb1
  clear ho1 hb1
  go_wp2_with fail
  refine (open_any (sealL b) A1 (n + 4) c1 _ HO1.out.len HO1.out.rb (by omega) HO1.out.cap).mono ?_
  rintro e w2 ⟨A2, n2, c2, rfl, ho2, hb2⟩
  rw [(openE_seal b).1]
  rw [(openE_seal b).2] at ho2
  have hn2 : n2 = n := by rw [← ho2.len, HR.out.2]
  subst hn2
  have HO2 := Lib.hid ho2
  have HB2 := Lib.hid (HB1.out.trans (hb2.mono HB1.out.size))
  have HO1' := Lib.hid (HO1.out.below hb2)
  clear ho2 hb2
  go_wp2_with fail
  refine (open_any b A0 n2 c0 _ HR.out.2 (HR.out.1.below HB2.out) (by omega) nc).mono ?_
  rintro e w3 ⟨A3, n3', c3, rfl, ho3, hb3⟩
  rw [← HE.out]
  have HO3 := Lib.hid ho3
  have HB3 := Lib.hid (HB2.out.trans (hb3.mono HB2.out.size))
  have HO1'' := Lib.hid (HO1'.out.below hb3)
  have HO2' := Lib.hid (HO2.out.below hb3)
  clear ho3 hb3
  go_wp2_with fail
  refine (why_any b A0 n2 c0 _ HR.out.2 (HR.out.1.below HB3.out) (by omega) nc).mono ?_
  rintro e w4 ⟨rfl, hb4⟩
  rw [← HE.out]
  have HB4 := Lib.hid (HB3.out.trans (hb4.mono HB3.out.size))
  have HO14 := Lib.hid (HO1''.out.below hb4)
  have HO24 := Lib.hid (HO2'.out.below hb4)
  have HO34 := Lib.hid (HO3.out.below hb4)
  clear hb4
  go_wp2_with fail
  refine (rseal_any b A0 n2 c0 _ HR.out.2 (HR.out.1.below HB4.out) (by omega)).mono ?_
  rintro e w5 ⟨A5, c5, rfl, ho5, hb5⟩
  have HB5 := Lib.hid (HB4.out.trans (hb5.mono HB4.out.size))
  have HO15 := Lib.hid (HO14.out.below hb5)
  have HO25 := Lib.hid (HO24.out.below hb5)
  have HO35 := Lib.hid (HO34.out.below hb5)
  have HO5 := Lib.hid ho5
  clear hb5 ho5
  go_wp2_with fail
  refine (same_any (sealL b) (sealL b) A1 A5 (n2 + 4) (n2 + 4) c1 c5 _ HO15.out.len HO5.out.len HO15.out.rb HO5.out.rb (by omega)).mono ?_
  rintro e w6 ⟨rfl, hb6⟩
  rw [decide_eq_true rfl]
  have HB6 := Lib.hid (HB5.out.trans (hb6.mono HB5.out.size))
  have HO26 := Lib.hid (HO25.out.below hb6)
  have HO36 := Lib.hid (HO35.out.below hb6)
  clear hb6
  go_wp2_with fail
  refine (same_any b b A2 A0 n2 n2 c2 c0 _ HO26.out.len HR.out.2 HO26.out.rb (HR.out.1.below HB6.out) (by omega)).mono ?_
  rintro e w7 ⟨rfl, hb7⟩
  rw [decide_eq_true rfl]
  have HB7 := Lib.hid (HB6.out.trans (hb7.mono HB6.out.size))
  have HO37 := Lib.hid (HO36.out.below hb7)
  clear hb7
  have hEE : (E != E) = false := by simp
  by_cases hz : E = 0
  · have hz1 : (E != 0) = false := by simp [hz]
    have h4 := openE_len (b := b) (by rw [← HE.out]; exact hz)
    have hz' := Lib.hid hz
    have hn4 : 4 ≤ n2 := by have := HR.out.2; omega
    have hn4I : (4 : Int) ≤ (n2 : Int) := by omega
    have ncI : (n2 : Int) ≤ (c0 : Int) := by omega
    have hL := HO37.out.len
    rw [h4.2] at hL
    have hL3 : n3' = n2 - 4 := by rw [← hL, List.length_take, HR.out.2]; omega
    have h4' := Lib.hid h4.2
    have hL3' := Lib.hid hL3
    clear hz h4 hL hL3
    go_wp2_with fail
    have ho := HO37.out
    rw [h4'.out] at ho
    refine (same_any (b.take (b.length - 4)) (b.take (b.length - 4)) A3 A0 n3' (n2 - 4) c3 c0 _ ho.len (by rw [List.length_take, HR.out.2]; omega) ho.rb ((HR.out.1.below HB7.out).take _ (by omega)) (by have := hL3'.out; omega)).mono ?_
    rintro e w8 ⟨rfl, hb8⟩
    rw [decide_eq_true rfl]
    go_wp2_with fail
    refine (lives02_any _).mono ?_
    rintro e w9 ⟨rfl, hb9⟩
    go_wp2_with fail
    go_ret
    have h8 := HB7.out.trans (hb8.mono HB7.out.size)
    exact ⟨rfl, h8.trans (hb9.mono h8.size)⟩
  · have hz1 : (E != 0) = true := by rw [bne_iff_ne]; exact hz
    have h4 := openE_not (b := b) (by rw [← HE.out]; exact hz)
    have hL := HO37.out.len
    rw [h4] at hL
    have hL3 : n3' = 0 := by rw [← hL]; rfl
    subst hL3
    clear hz h4 hL
    go_wp2_with fail
    refine (lives02_any _).mono ?_
    rintro e w9 ⟨rfl, hb9⟩
    go_wp2_with fail
    go_ret
    exact ⟨rfl, HB7.out.trans (hb9.mono HB7.out.size)⟩
end
end Go.Proofs.Ytnkbkhlbogcfaaa
