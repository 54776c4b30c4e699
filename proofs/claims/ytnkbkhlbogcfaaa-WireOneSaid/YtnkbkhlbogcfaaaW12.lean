/- WireOne: the walk. -/
import Derived.Test.YtnkbkhlbogcfaaaRs
import Derived.Test.YtnkbkhlbogcfaaaL5
set_option linter.unusedVariables false
set_option linter.unusedSimpArgs false
namespace Go.Proofs.Ytnkbkhlbogcfaaa
open Go.RowKit Go.Proofs.YtnkbkhlbogcfaaaW.PrintWords
noncomputable section

theorem lives01_b {w0 w : World} (hb : Below w0.heap.size w0 w) : Calls Try.prog 36 #[] w fun e w9 => e = .returned (.bool true) ∧ Below w0.heap.size w0 w9 :=
  (lives01_any w).mono (by rintro e w9 ⟨rfl, hb9⟩; exact ⟨rfl, hb.trans (hb9.mono hb.size)⟩)

set_option maxHeartbeats 4000000 in
set_option maxRecDepth 100000 in
theorem wireOne_row {w : World} (A0 : Option Addr) (a0 : List UInt8) (c0 : Nat) (h0 : RB w A0 a0) (l0 : a0.length ≤ c0) :
    Calls Try.prog 12 #[.slice A0 a0.length c0] w fun e w' => e = .returned (.bool true) ∧ Below w.heap.size w w' := by
  obtain ⟨b, hb⟩ : ∃ a, a = few a0 12 := ⟨_, rfl⟩
  obtain ⟨n, hn⟩ : ∃ n, n = min a0.length 12 := ⟨_, rfl⟩
  have Lb : b.length = n := by rw [hb, hn, few_length]
  have Rb : RB w A0 b := by rw [hb]; exact few_rb h0 _
  have n3 : n ≤ 12 := by omega
  have nc : n ≤ c0 := by omega
  have HN := Lib.hid hn
  have HR := Lib.hid (And.intro Rb Lb)
  have hl0 := Lib.hid l0
  clear hb hn Lb Rb h0 l0
  have nI : (n : Int) ≤ 12 := by omega
  have ncI : (n : Int) ≤ (c0 : Int) := by omega
  go_enter Try.func12, Try.ntmps12
  go_wp2_with fail
  refine (few_any A0 _ c0 12 _ hl0.out (by omega)).mono ?_
  rintro e w' ⟨rfl, rfl⟩
  rw [← HN.out]
  go_wp2_with fail
  refine (newReader_any b A0 n c0 _ HR.out.2 HR.out.1 (by omega)).mono ?_
  rintro e w1 ⟨A1, c1, p, rfl, hr1, hb1⟩
  have H1 := Lib.hid (And.intro hr1 hb1)
  clear hr1 hb1
  go_wp2_with fail
  refine (shortR_any p w.heap.size n c1 0 0 A1 b _ H1.out.1 (by omega) (by omega)).mono ?_
  rintro e w2 ⟨rfl, hr2, hm2⟩
  have hb2 : Below w.heap.size w w2 := H1.out.2.trans (hm2.below H1.out.2.size H1.out.1.base_p (fun k hk => by cases hk))
  have hv := (rShort_at (b := b) (at_ := 0) (e := 0) (by omega)).2
  have hone := rShort_one b
  obtain ⟨v, t, er, hq⟩ : ∃ v t er, rShort b 0 0 = (v, t, er) := ⟨_, _, _, rfl⟩
  rw [hq] at hr2 hv hone ⊢
  dsimp only at hr2 hv hone ⊢
  obtain ⟨ht, hv⟩ := hv
  rw [HR.out.2] at ht
  have v0 : (0 : Int) ≤ (v : Int) := by omega
  have t0 : (0 : Int) ≤ (t : Int) := by omega
  have tc : (t : Int) ≤ (c0 : Int) := by omega
  have H2 := Lib.hid (And.intro hr2 hb2)
  have HO := Lib.hid hone
  clear hr2 hm2 hb2 hq hone
  go_wp2_with fail
  refine (rerr_any p w.heap.size n c1 t er A1 b _ H2.out.1).mono ?_
  rintro e w3 ⟨rfl, rfl⟩
  rcases HO.out with ⟨rfl, hs⟩ | ⟨he, rfl, rfl⟩
  · have HS := Lib.hid hs
    have hw0 := Lib.hid (WrB.new w3)
    have hba := Lib.hid (show Below w3.heap.size w3 (w3.alloc (.cells #[.slice none 0 0] 38)) from below_alloc (Below.refl _ _) _)
    clear hs
    go_wp2_with fail
    refine (short_any (v : Int) v w3.heap.size w3.heap.size 0 0 none [] _ hw0.out (by omega) hv (by omega)).mono ?_
    rintro e w4 ⟨A4, c4, rfl, hw4, hm4, hs4⟩
    rw [Nat.zero_add, List.nil_append] at hw4
    have hb4 : Below w3.heap.size w3 w4 := hba.out.trans (hw0.out.mod_below (by simp) hm4)
    have HB4 := Lib.hid (H2.out.2.trans (hb4.mono H2.out.2.size))
    have H4 := Lib.hid (And.intro hw4 (H2.out.1.below hb4))
    have l4 := Lib.hid (shortB_le9 hv)
    clear hw4 hm4 hs4 hb4
    go_wp2_with fail
    refine (wbytes_any w3.heap.size w3.heap.size _ c4 A4 _ _ H4.out.1 (by have := l4.out; omega)).mono ?_
    rintro e w5 ⟨A5, c5, rfl, ho5, hb5⟩
    have HB5 := Lib.hid (HB4.out.trans (hb5.mono HB4.out.size))
    have H5 := Lib.hid (And.intro ho5 (H4.out.2.below hb5))
    clear ho5 hb5
    go_wp2_with fail
    refine (rat_any p w.heap.size n c1 t 0 A1 b _ H5.out.2).mono ?_
    rintro e w6 ⟨rfl, rfl⟩
    go_wp2_with fail
    refine (same_any (shortB v) (b.take t) A5 A0 _ t c5 c0 _ H5.out.1.len (by rw [List.length_take]; have := HR.out.2; omega) H5.out.1.rb ((HR.out.1.below HB5.out).take t (by have := HR.out.2; omega)) (by have := l4.out; omega)).mono ?_
    rintro e w7 ⟨rfl, hb7⟩
    rw [HS.out]
    have HB7 := Lib.hid (HB5.out.trans (hb7.mono HB5.out.size))
    clear hb7
    simp only [decide_true]
    go_wp2_with fail
    refine (lives01_b HB7.out).mono ?_
    rintro e w8 ⟨rfl, hb8⟩
    have HB8 := Lib.hid hb8
    clear hb8
    go_wp2
    go_ret
    exact ⟨rfl, HB8.out⟩
  · rcases he with rfl | rfl
    · go_wp2_with fail
      refine (rat_any p w.heap.size n c1 0 2 A1 b _ H2.out.1).mono ?_
      rintro e w4 ⟨rfl, rfl⟩
      go_wp2_with fail
      refine (rerr_any p w.heap.size n c1 0 2 A1 b _ H2.out.1).mono ?_
      rintro e w5 ⟨rfl, rfl⟩
      go_wp2_with fail
      refine (rerr_any p w.heap.size n c1 0 2 A1 b _ H2.out.1).mono ?_
      rintro e w6 ⟨rfl, rfl⟩
      go_wp2_with fail
      refine (lives01_b H2.out.2).mono ?_
      rintro e w8 ⟨rfl, hb8⟩
      have HB8 := Lib.hid hb8
      clear hb8
      go_wp2
      go_ret
      exact ⟨rfl, HB8.out⟩
    · go_wp2_with fail
      refine (rat_any p w.heap.size n c1 0 3 A1 b _ H2.out.1).mono ?_
      rintro e w4 ⟨rfl, rfl⟩
      go_wp2_with fail
      refine (rerr_any p w.heap.size n c1 0 3 A1 b _ H2.out.1).mono ?_
      rintro e w5 ⟨rfl, rfl⟩
      go_wp2_with fail
      refine (lives01_b H2.out.2).mono ?_
      rintro e w8 ⟨rfl, hb8⟩
      have HB8 := Lib.hid hb8
      clear hb8
      go_wp2
      go_ret
      exact ⟨rfl, HB8.out⟩
end
end Go.Proofs.Ytnkbkhlbogcfaaa
