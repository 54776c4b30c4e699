/- WireClones: the walk. -/
import Derived.Test.YtnkbkhlbogcfaaaV
import Derived.Test.YtnkbkhlbogcfaaaL5
set_option linter.unusedVariables false
set_option linter.unusedSimpArgs false
namespace Go.Proofs.Ytnkbkhlbogcfaaa
open Go.RowKit Go.Proofs.YtnkbkhlbogcfaaaW.PrintWords
noncomputable section

theorem WrB.below_of {w w1 : World} {base p n c B : Nat} {A : Option Addr} {xs : List UInt8} (h : WrB w base p A n c xs) (hb : Below B w w1) (hp : p < B) (ha : ∀ k, Ytnkbkhlbogcfaaa.blk A = some k → k < B) : WrB w1 base p A n c xs :=
  ⟨(hb.block p hp).trans h.blk, own_move h.own fun k hk => hb.block k (ha k (by rw [own_blk] at hk; exact hk)), h.base_p⟩
theorem RdB.store {w : World} {base p n c at_ e g : Nat} {A : Option Addr} {b : List UInt8} (h : RdB w base p A n c b at_ e) (hg : g < base) (j : Nat) (v : Value) : RdB (w.setCell ⟨g, j, none⟩ v) base p A n c b at_ e := by
  refine ⟨?_, ownsRow_setCell_other h.own (by intro q; have := h.own.base _ q; dsimp only at this; omega) _, h.base_p⟩
  rw [Below.heap_setCell _ _ _ _ (by have := h.base_p; dsimp only; omega)]
  exact h.blk

set_option maxHeartbeats 4000000 in
set_option maxRecDepth 100000 in
theorem wireClones_row {w : World} (A0 : Option Addr) (a0 : List UInt8) (c0 : Nat) (h0 : RB w A0 a0) (l0 : a0.length ≤ c0) (x : Int) (wx : (Lit.int .u8 x).wf = true) :
    Calls Try.prog 8 #[.slice A0 a0.length c0, .int .u8 x] w fun e w' => e = .returned (.bool true) ∧ Below w.heap.size w w' := by
  obtain ⟨xb, hxb⟩ : ∃ xb : UInt8, x = (xb.toNat : Int) := by
    have := bounds_u8 wx
    refine ⟨UInt8.ofNat x.toNat, ?_⟩
    simp only [UInt8.toNat_ofNat']
    omega
  subst hxb
  obtain ⟨b, hb⟩ : ∃ a, a = few a0 40 := ⟨_, rfl⟩
  obtain ⟨n, hn⟩ : ∃ n, n = min a0.length 40 := ⟨_, rfl⟩
  have Lb : b.length = n := by rw [hb, hn, few_length]
  have Rb : RB w A0 b := by rw [hb]; exact few_rb h0 _
  have n3 : n ≤ 40 := by omega
  have nc : n ≤ c0 := by omega
  have HN := Lib.hid hn
  have HR := Lib.hid (And.intro Rb Lb)
  have hl0 := Lib.hid l0
  have hw0 := Lib.hid (WrB.new w)
  clear hb hn Lb Rb h0 l0 wx
  have nI : (n : Int) ≤ 40 := by omega
  go_enter Try.func8, Try.ntmps8
  go_wp2_with fail
  refine (few_any A0 _ c0 40 _ hl0.out (by omega)).mono ?_
  rintro e w' ⟨rfl, rfl⟩
  rw [← HN.out]
  go_wp2_with fail
  have hba := Lib.hid (show Below w.heap.size w (w.alloc (.cells #[.slice none 0 0] 38)) from below_alloc (Below.refl _ _) _)
  refine (raw_any b A0 n c0 w.heap.size w.heap.size 0 0 none [] _ hw0.out (HR.out.1.below hba.out) HR.out.2 (by omega) (by omega)).mono ?_
  rintro e w1 ⟨A1, c1, rfl, hw1, hm1, hs1⟩
  rw [Nat.zero_add, List.nil_append] at hw1
  have H1 := Lib.hid (And.intro hw1 (hba.out.trans (hw0.out.mod_below (by simp) hm1)))
  clear hw1 hm1 hs1
  go_wp2_with fail
  refine (wbytes_any w.heap.size w.heap.size n c1 A1 b _ H1.out.1 (by omega)).mono ?_
  rintro e w2 ⟨A2, c2, rfl, ho2, hb2⟩
  have H2 := Lib.hid (And.intro ho2 hb2)
  clear ho2 hb2
  go_wp2_with fail
  go_loopw [7] (fun i wr => ∃ (k : Nat) (ys : List UInt8), k ≤ n ∧ i = .int .i64 k ∧ OB wr w1.heap.size A2 n c2 ys ∧ Below w1.heap.size w1 wr) (fun i _ => n - (intOf i).toNat)
  case atStart => exact ⟨0, b, by omega, rfl, H2.out.1, H2.out.2⟩
  case round =>
    obtain ⟨k, ys, hk, rfl, ho, hb⟩ := hrel
    have k0 : (0 : Int) ≤ (k : Int) := by omega
    have HO := Lib.hid (And.intro ho hb)
    clear ho hb
    by_cases hlt : k < n
    · have kn : (k : Int) < (n : Int) := by omega
      obtain ⟨g, hA, hg1, hg2⟩ := HO.out.1.form (by omega)
      subst hA
      obtain ⟨y, hy⟩ : ∃ y, ys[k]? = some y := ⟨_, List.getElem?_eq_getElem (by have := HO.out.1.len; omega)⟩
      obtain ⟨ad, had, e1⟩ := HO.out.1.rb.at_ hy
      injection had with had
      subst had
      rw [add_plain] at e1
      obtain ⟨f1, hst, hgr⟩ := HO.out.1.store k xb
      have HST := Lib.hid (And.intro hst hgr)
      clear hst hgr hy
      go_wp2
      go_roundw
      case rel => exact ⟨k + 1, ys.set k xb, by omega, by go_num, HST.out.1, HO.out.2.setCell (by dsimp only; omega) _⟩
      case measure => simp [intOf]; omega
    · have kn : (k : Int) = (n : Int) := by omega
      have kn' : k = n := by omega
      obtain ⟨wa, rfl⟩ : ∃ wa, wa = wr := ⟨_, rfl⟩
      have W1 := Lib.hid (H1.out.1.below HO.out.2)
      have B1 := Lib.hid (H1.out.2.trans (HO.out.2.mono H1.out.2.size))
      have n0 : (0 : Int) ≤ (n : Int) := by omega
      clear HO kn'
      go_wp2_with (at_builtin; refine appB wa.heap.size none 0 0 [] A0 n c0 b rfl rfl rfl rfl (OB.nil _ _) (HR.out.1.below B1.out) HR.out.2 (Nat.le_refl _) (by omega) ?_; intro A3 c3 w3 ho3 hg3 hs3)
      rw [Nat.zero_add, List.nil_append] at ho3
      have hb3 : Below wa.heap.size wa w3 := (Below.refl _ _).grown hg3 (Nat.le_refl _) (by intro k hk; cases hk)
      have H3 := Lib.hid (And.intro ho3 hb3)
      clear ho3 hb3 hg3 hs3
      go_wp2_with fail
      refine (newReader_any b A3 n c3 _ H3.out.1.len H3.out.1.rb (by omega)).mono ?_
      rintro e w4 ⟨A4, c4, p, rfl, hr4, hb4⟩
      have H4 := Lib.hid (And.intro hr4 (And.intro hb4 (H3.out.1.below hb4)))
      have s34 : wa.heap.size ≤ w3.heap.size := H3.out.2.size
      have s01 : w.heap.size ≤ wa.heap.size := B1.out.size
      clear hr4 hb4
      go_wp2_with fail
      go_loopw [10] (fun i wr => ∃ (k : Nat) (ys : List UInt8), k ≤ n ∧ i = .int .i64 k ∧ OB wr wa.heap.size A3 n c3 ys ∧ RdB wr w3.heap.size p A4 n c4 b 0 0 ∧ Below wa.heap.size wa wr) (fun i _ => n - (intOf i).toNat)
      case atStart => exact ⟨0, b, by omega, rfl, H4.out.2.2, H4.out.1, H3.out.2.trans (H4.out.2.1.mono s34)⟩
      case round =>
        obtain ⟨k, ys, hk, rfl, ho, hrd, hb⟩ := hrel
        have k0 : (0 : Int) ≤ (k : Int) := by omega
        have HO := Lib.hid (And.intro ho (And.intro hrd hb))
        clear ho hrd hb
        by_cases hlt : k < n
        · have kn : (k : Int) < (n : Int) := by omega
          have hA3 := H3.out.1.blk_lt
          obtain ⟨g, hA, hg1, hg2⟩ := HO.out.1.form (by omega)
          subst hA
          have hg3 : g < w3.heap.size := hA3 g rfl
          obtain ⟨y, hy⟩ : ∃ y, ys[k]? = some y := ⟨_, List.getElem?_eq_getElem (by have := HO.out.1.len; omega)⟩
          obtain ⟨ad, had, e1⟩ := HO.out.1.rb.at_ hy
          injection had with had
          subst had
          rw [add_plain] at e1
          obtain ⟨f1, hst, hgr⟩ := HO.out.1.store k xb
          have HST := Lib.hid (And.intro hst hgr)
          clear hst hgr hy hA3
          go_wp2
          go_roundw
          case rel => exact ⟨k + 1, ys.set k xb, by omega, by go_num, HST.out.1, HO.out.2.1.store hg3 _ _, HO.out.2.2.setCell (by dsimp only; omega) _⟩
          case measure => simp [intOf]; omega
        · have kn : (k : Int) = (n : Int) := by omega
          have W2 := Lib.hid (W1.out.below HO.out.2.2)
          have B2 := Lib.hid (B1.out.trans (HO.out.2.2.mono s01))
          have RD := Lib.hid HO.out.2.1
          have s3q : w3.heap.size ≤ wr.heap.size := RD.out.base_le
          clear HO
          go_wp2_with fail
          refine (rawR_ok (n : Int) n p w3.heap.size n c4 0 A4 b _ RD.out (by omega) (by omega) (by omega) (by omega)).mono ?_
          rintro e w5 ⟨A5, c5, rfl, ho5, hr5, hm5⟩
          rw [List.drop_zero, List.take_of_length_le (by have := HR.out.2; omega)] at ho5
          have hb5 : Below wr.heap.size wr w5 ∨ True := .inr trivial
          have HB5 := Lib.hid (hm5.below (B := w3.heap.size) s3q RD.out.base_p (fun k hk => by cases hk))
          have H5 := Lib.hid ho5
          have B5 := Lib.hid (B2.out.trans (HB5.out.mono (by omega)))
          have W5 := Lib.hid (show WrB w5 w.heap.size w.heap.size A1 n c1 b from W2.out.below_of HB5.out (by have := W1.out.lt; omega) (fun k hk => by have := W1.out.own.blk_lt k hk; omega))
          clear ho5 hr5 hm5 hb5
          go_wp2_with fail
          refine (wbytes_any w.heap.size w.heap.size n c1 A1 b _ W5.out (by omega)).mono ?_
          rintro e w6 ⟨A6, c6, rfl, ho6, hb6⟩
          have H6 := Lib.hid (And.intro ho6 hb6)
          have B6 := Lib.hid (B5.out.trans (hb6.mono B5.out.size))
          clear ho6 hb6
          go_wp2_with fail
          refine (same_any b b A6 A0 n n c6 c0 _ HR.out.2 HR.out.2 H6.out.1.rb (HR.out.1.below B6.out) (by omega)).mono ?_
          rintro e w7 ⟨rfl, hb7⟩
          have H7 := Lib.hid hb7
          have B7 := Lib.hid (B6.out.trans (hb7.mono B6.out.size))
          clear hb7
          simp only [decide_true]
          go_wp2_with fail
          refine (same_any b b A5 A0 n n c5 c0 _ HR.out.2 HR.out.2 ((H5.out.rb.below H6.out.2).below H7.out) (HR.out.1.below B7.out) (by omega)).mono ?_
          rintro e w8 ⟨rfl, hb8⟩
          have B8 := Lib.hid (B7.out.trans (hb8.mono B7.out.size))
          clear hb8
          simp only [decide_true]
          go_wp2_with fail
          refine (lives01_any _).mono ?_
          rintro e w9 ⟨rfl, hb9⟩
          have B9 := Lib.hid (B8.out.trans (hb9.mono B8.out.size))
          clear hb9
          go_wp2
          go_ret
          exact ⟨rfl, B9.out⟩
end
end Go.Proofs.Ytnkbkhlbogcfaaa
