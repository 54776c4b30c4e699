/- WireStops: the walk. -/
import Derived.Test.YtnkbkhlbogcfaaaRv
import Derived.Test.YtnkbkhlbogcfaaaN
import Derived.Test.YtnkbkhlbogcfaaaL5
set_option linter.unusedVariables false
set_option linter.unusedSimpArgs false
namespace Go.Proofs.Ytnkbkhlbogcfaaa
open Go.RowKit Go.Proofs.YtnkbkhlbogcfaaaW.PrintWords
noncomputable section

theorem lives01_b' {w0 w : World} (hb : Below w0.heap.size w0 w) : Calls Try.prog 36 #[] w fun e w9 => e = .returned (.bool true) ∧ Below w0.heap.size w0 w9 :=
  (lives01_any w).mono (by rintro e w9 ⟨rfl, hb9⟩; exact ⟨rfl, hb.trans (hb9.mono hb.size)⟩)
section
variable {p base n c at_ : Nat} {e : Int} {A : Option Addr} {b : List UInt8} {w : World}
theorem stop_of {w' : World} (h : RdB w base p A n c b at_ e) (hm : Mod w w' p none) : Below base w w' := hm.below h.base_le h.base_p (fun k hk => by cases hk)
theorem stop_fixed (k : Nat) (hk : k ≤ 8) (h : RdB w base p A n c b at_ e) (he : e ≠ 0) (hat : at_ ≤ n) (hn : n ≤ 900000) :
    Calls Try.prog 54 #[.pointer (some ⟨p, 0, none⟩), .int .i64 k] w fun ex w' => ex = .returned (.int .u64 0) ∧ RdB w' base p A n c b at_ e ∧ Below base w w' := by
  have e1 : rFixed b k at_ e = (0, at_, e) := by unfold rFixed rRaw; rw [if_pos he]; rfl
  refine (fixedR_any k p base n c at_ e A b w hk h hat hn).mono ?_
  rw [e1]
  rintro ex w' ⟨rfl, hr, hm⟩
  exact ⟨rfl, hr, stop_of h hm⟩
theorem stop_short (h : RdB w base p A n c b at_ e) (he : e ≠ 0) (hat : at_ ≤ n) (hn : n ≤ 900000) :
    Calls Try.prog 47 #[.pointer (some ⟨p, 0, none⟩)] w fun ex w' => ex = .returned (.int .i64 0) ∧ RdB w' base p A n c b at_ e ∧ Below base w w' := by
  have e1 : rShort b at_ e = (0, at_, e) := by unfold rShort; rw [if_pos he]
  refine (shortR_any p base n c at_ e A b w h hat hn).mono ?_
  rw [e1]
  rintro ex w' ⟨rfl, hr, hm⟩
  exact ⟨rfl, hr, stop_of h hm⟩
theorem stop_signed (h : RdB w base p A n c b at_ e) (he : e ≠ 0) (hat : at_ ≤ n) (hn : n ≤ 900000) :
    Calls Try.prog 55 #[.pointer (some ⟨p, 0, none⟩)] w fun ex w' => ex = .returned (.int .i64 0) ∧ RdB w' base p A n c b at_ e ∧ Below base w w' := by
  have e1 : rSigned b at_ e = (0, at_, e) := by unfold rSigned rShort; simp [he]
  refine (signedR_any p base n c at_ e A b w h hat hn).mono ?_
  rw [e1]
  rintro ex w' ⟨rfl, hr, hm⟩
  exact ⟨rfl, hr, stop_of h hm⟩
theorem stop_text (h : RdB w base p A n c b at_ e) (he : e ≠ 0) (hat : at_ ≤ n) (hn : n ≤ 900000) :
    Calls Try.prog 56 #[.pointer (some ⟨p, 0, none⟩)] w fun ex w' => ex = .returned (.string ⟨#[]⟩) ∧ RdB w' base p A n c b at_ e ∧ Below base w w' := by
  have e1 : rText b at_ e = ([], at_, e) := by unfold rText rShort; simp [he]
  refine (textR_any p base n c at_ e A b w h hat hn).mono ?_
  rw [e1]
  rintro ex w' ⟨rfl, hr, hm⟩
  exact ⟨rfl, hr, stop_of h hm⟩
theorem stop_raw (m : Int) (h : RdB w base p A n c b at_ e) (he : e ≠ 0) (hat : at_ ≤ n) (hn : n ≤ 900000) :
    Calls Try.prog 42 #[.pointer (some ⟨p, 0, none⟩), .int .i64 m] w fun ex w' => ∃ A' c', ex = .returned (.slice A' 0 c') ∧ RdB w' base p A n c b at_ e ∧ Below base w w' := by
  have e1 : rRaw b m at_ e = ([], at_, e) := by unfold rRaw; rw [if_pos he]
  refine (rawR_any m p base n c at_ e A b w h hat hn).mono ?_
  rw [e1]
  rintro ex w' ⟨A', c', rfl, ho, hr, hm⟩
  exact ⟨A', c', rfl, hr, stop_of h hm⟩
theorem stop_list (most : Int) (h : RdB w base p A n c b at_ e) (he : e ≠ 0) (hat : at_ ≤ n) (hn : n ≤ 900000) :
    Calls Try.prog 67 #[.pointer (some ⟨p, 0, none⟩), .int .i64 most] w fun ex w' => ex = .returned (.int .i64 0) ∧ RdB w' base p A n c b at_ e ∧ Below base w w' := by
  have e1 : rList b most at_ e = (0, at_, e) := by unfold rList rShort; simp [he]
  refine (listR_any most p base n c at_ e A b w h hat hn).mono ?_
  rw [e1]
  rintro ex w' ⟨rfl, hr, hm⟩
  exact ⟨rfl, hr, stop_of h hm⟩
theorem stop_fail (er : Int) (h : RdB w base p A n c b at_ e) (he : e ≠ 0) :
    Calls Try.prog 66 #[.pointer (some ⟨p, 0, none⟩), .int .i64 er] w fun ex w' => ex = .returned (.tuple #[]) ∧ RdB w' base p A n c b at_ e ∧ Below base w w' := by
  refine (rfail_any er p base n c at_ e A b w h).mono ?_
  rw [if_neg he]
  rintro ex w' ⟨rfl, hr, hm⟩
  exact ⟨rfl, hr, stop_of h hm⟩
theorem stop_end (h : RdB w base p A n c b at_ e) (he : e ≠ 0) (hat : at_ ≤ n) (hn : n ≤ 900000) :
    Calls Try.prog 57 #[.pointer (some ⟨p, 0, none⟩)] w fun ex w' => ex = .returned (.int .i64 e) ∧ RdB w' base p A n c b at_ e ∧ Below base w w' := by
  refine (rend_any p base n c at_ e A b w h hat (by omega)).mono ?_
  rw [if_neg (fun h => he h.1)]
  rintro ex w' ⟨rfl, hr, hm⟩
  exact ⟨rfl, hr, stop_of h hm⟩
end

set_option maxHeartbeats 8000000 in
set_option maxRecDepth 100000 in
theorem wireStops_row {w : World} (A0 : Option Addr) (a0 : List UInt8) (c0 : Nat) (h0 : RB w A0 a0) (l0 : a0.length ≤ c0) (z : Int) (wz : (Lit.int .i64 z).wf = true) (A : Option Addr) (l : List PutV) (c : Nat) (hP : PU w A l) (hc : l.length ≤ c) :
    Calls Try.prog 17 #[.slice A0 a0.length c0, .int .i64 z, .slice A l.length c] w fun e w' => e = .returned (.bool true) ∧ Below w.heap.size w w' := by
  have hz := bounds_i64 wz
  obtain ⟨b, hb⟩ : ∃ a, a = few a0 100 := ⟨_, rfl⟩
  obtain ⟨n, hn⟩ : ∃ n, n = min a0.length 100 := ⟨_, rfl⟩
  have Lb : b.length = n := by rw [hb, hn, few_length]
  have Rb : RB w A0 b := by rw [hb]; exact few_rb h0 _
  have n3 : n ≤ 100 := by omega
  have nc : n ≤ c0 := by omega
  have HN := Lib.hid hn
  have HR := Lib.hid (And.intro Rb Lb)
  have hl0 := Lib.hid l0
  have hP' := Lib.hid hP
  obtain ⟨L, hL⟩ : ∃ L, L = l.length := ⟨_, rfl⟩
  have hLI : (L : Int) ≤ 9223372036854775807 := by have := hP.1; omega
  rw [← hL]
  have hLh := Lib.hid hL
  clear hb hn Lb Rb h0 l0 hP hL hc wz
  have nI : (n : Int) ≤ 100 := by omega
  have ncI : (n : Int) ≤ (c0 : Int) := by omega
  obtain ⟨hz1, hz2⟩ := hz
  obtain ⟨why, hw1, hzc⟩ : ∃ why : Int, why ≠ 0 ∧ ((z < 0 ∧ why = RowKit.wrap64 (1 + -(z + 1).tmod 12)) ∨ (0 ≤ z ∧ why = 1 + z % 12)) := by
    by_cases hz : z < 0
    · have e1 : (z + 1).tmod 12 = -(-(z + 1) % 12) := by
        have : z + 1 = -(-(z + 1)) := by omega
        rw [this, Int.neg_tmod, Int.tmod_eq_emod_of_nonneg (by omega), Int.neg_neg]
      have e2 : RowKit.wrap64 (1 + -(z + 1).tmod 12) = 1 + -(z + 1) % 12 := by
        rw [e1, Int.neg_neg]
        exact IntWalk.wrap64_in _ ⟨by omega, by omega⟩
      exact ⟨_, by rw [e2]; omega, .inl ⟨hz, rfl⟩⟩
    · exact ⟨1 + z % 12, by omega, .inr ⟨by omega, rfl⟩⟩
  have HW := Lib.hid hw1
  clear hw1
  rcases hzc with ⟨hneg, hwy⟩ | ⟨hneg, hwy⟩
  all_goals
    have HWY := Lib.hid hwy
    clear hwy
    go_enter Try.func17, Try.ntmps17
    go_wp2_with fail
    refine (few_any A0 _ c0 100 _ hl0.out (by omega)).mono ?_
    rintro e w' ⟨rfl, rfl⟩
    rw [← HN.out]
    go_wp2_with fail
    refine (newReader_any b A0 n c0 _ HR.out.2 HR.out.1 (by omega)).mono ?_
    rintro e w1 ⟨A1, c1, p, rfl, hr1, hb1⟩
    have H1 := Lib.hid (And.intro hr1 hb1)
    clear hr1 hb1
    go_wp2_with fail
    rw [← HWY.out]
    refine (shortR_any p w.heap.size n c1 0 0 A1 b _ H1.out.1 (by omega) (by omega)).mono ?_
    rintro e w2 ⟨rfl, hr2, hm2⟩
    have hb2 := H1.out.2.trans (stop_of H1.out.1 hm2)
    have hone := rShort_one b
    have ht := (rShort_at (b := b) (at_ := 0) (e := 0) (by omega)).2.1
    rw [HR.out.2] at ht
    generalize rShort b 0 0 = q at *
    obtain ⟨v, t, er⟩ := q
    dsimp only at hr2 hone ht ⊢
    have H2 := Lib.hid (And.intro hr2 hb2)
    clear hr2 hm2 hb2
    go_wp2_with fail
    refine (rat_any p w.heap.size n c1 t er A1 b _ H2.out.1).mono ?_
    rintro e w3 ⟨rfl, rfl⟩
    go_wp2_with fail
    refine (rerr_any p w.heap.size n c1 t er A1 b _ H2.out.1).mono ?_
    rintro e w4 ⟨rfl, rfl⟩
    go_wp2_with fail
    refine (rfail_any why p w.heap.size n c1 t er A1 b _ H2.out.1).mono ?_
    rintro e w5 ⟨rfl, hr5, hm5⟩
    have hb5 := H2.out.2.trans (stop_of H2.out.1 hm5)
    obtain ⟨E, hE, hE0⟩ : ∃ E, E = (if er = 0 then why else er) ∧ E ≠ 0 := ⟨_, rfl, by split <;> first | exact HW.out | assumption⟩
    rw [← hE] at hr5
    have H5 := Lib.hid (And.intro hr5 hb5)
    have HE0 := Lib.hid hE0
    clear hr5 hm5 hb5 hE0 hone
    by_cases her : er = 0
    all_goals
      first
        | (rw [if_pos her] at hE; subst her)
        | (rw [if_neg her] at hE; have her' : (er == 0) = false := by simp [her])
      subst hE
      have HB : True := trivial
      go_wp2_with fail
      go_loopw [11] (fun i wr => ∃ k : Nat, k ≤ L ∧ k ≤ 10 ∧ i = .int .i64 k ∧ RdB wr w.heap.size p A1 n c1 b t E ∧ Below w.heap.size w wr)
        (fun i _ => L - (intOf i).toNat)
      case atStart => exact ⟨0, by omega, by omega, rfl, H5.out.1, H5.out.2⟩
      case round =>
        obtain ⟨k, hk1, hk2, rfl, hrd, hb⟩ := hrel
        have HRd := Lib.hid hrd
        have HB := Lib.hid hb
        clear hrd hb
        have k0 : (0 : Int) ≤ (k : Int) := by omega
        by_cases hgo : k < L ∧ k < 10
        · obtain ⟨g1, g2⟩ := hgo
          have j1 : (k : Int) < (L : Int) := by omega
          have j2 : (k : Int) < 10 := by omega
          obtain ⟨⟨xk, xn, xv, xs⟩, hx⟩ : ∃ x, l[k]? = some x := ⟨_, List.getElem?_eq_getElem (by have := hLh.out; omega)⟩
          have hxok := hP'.out.2.1 _ (List.mem_of_getElem? hx)
          obtain ⟨ad, had, e0, e1, e2, e3⟩ := (hP'.out.below HB.out).2.2 k _ hx
          obtain ⟨_, ⟨a3, a4⟩, _, _⟩ := hxok
          dsimp only at a3 a4
          have KE : ∀ w', Below w.heap.size w w' → w'.cell? ⟨(ad.add (k * 4)).block, (ad.add (k * 4)).off + 1, none⟩ = some (.int .i64 xn) ∧ w'.cell? ⟨(ad.add (k * 4)).block, (ad.add (k * 4)).off + 2, none⟩ = some (.int .i64 xv) := by
            intro w' h
            obtain ⟨ad', had', q0, q1, q2, q3⟩ := (hP'.out.below h).2.2 k _ hx
            have he : ad = ad' := by rw [had] at had'; injection had'
            subst he
            exact ⟨q1, q2⟩
          have KE := Lib.hid KE
          subst had
          clear hx e0 e1 e2 e3
          go_wp2_with fail
          refine (stop_fail 5 HRd.out HE0.out).mono ?_
          rintro e u1 ⟨rfl, hr, hb⟩
          have R1 := Lib.hid hr
          have B1 := Lib.hid (HB.out.trans hb)
          clear hr hb
          obtain ⟨q1, q2⟩ := KE.out _ B1.out
          go_wp2_with fail
          refine (wide_any xn a3 a4 _).mono ?_
          rintro e u2 ⟨rfl, hb⟩
          have R2 := Lib.hid (R1.out.below hb)
          have B2 := Lib.hid (B1.out.trans (hb.mono B1.out.size))
          clear hb
          have hw8 := wideN_le xn
          go_wp2_with fail
          refine (stop_fixed (wideN xn) hw8 R2.out HE0.out ht (by omega)).mono ?_
          rintro e u3 ⟨rfl, hr, hb⟩
          have R3 := Lib.hid hr
          have B3 := Lib.hid (B2.out.trans hb)
          clear hr hb hw8
          go_wp2_with fail
          refine (stop_short R3.out HE0.out ht (by omega)).mono ?_
          rintro e u4 ⟨rfl, hr, hb⟩
          have R4 := Lib.hid hr
          have B4 := Lib.hid (B3.out.trans hb)
          clear hr hb
          go_wp2_with fail
          refine (stop_signed R4.out HE0.out ht (by omega)).mono ?_
          rintro e u5 ⟨rfl, hr, hb⟩
          have R5 := Lib.hid hr
          have B5 := Lib.hid (B4.out.trans hb)
          clear hr hb
          go_wp2_with fail
          refine (stop_text R5.out HE0.out ht (by omega)).mono ?_
          rintro e u6 ⟨rfl, hr, hb⟩
          have R6 := Lib.hid hr
          have B6 := Lib.hid (B5.out.trans hb)
          clear hr hb q1 q2
          obtain ⟨q1, q2⟩ := KE.out _ B6.out
          go_wp2_with fail
          refine (stop_raw xn R6.out HE0.out ht (by omega)).mono ?_
          rintro e u7 ⟨A7, c7, rfl, hr, hb⟩
          have R7 := Lib.hid hr
          have B7 := Lib.hid (B6.out.trans hb)
          clear hr hb q1 q2
          obtain ⟨q1, q2⟩ := KE.out _ B7.out
          go_wp2_with fail
          refine (stop_list xv R7.out HE0.out ht (by omega)).mono ?_
          rintro e u8 ⟨rfl, hr, hb⟩
          have R8 := Lib.hid hr
          have B8 := Lib.hid (B7.out.trans hb)
          clear hr hb q1 q2
          go_wp2_with fail
          refine (rat_any p w.heap.size n c1 t E A1 b _ R8.out).mono ?_
          rintro e u9 ⟨rfl, rfl⟩
          go_wp2_with fail
          refine (rerr_any p w.heap.size n c1 t E A1 b _ R8.out).mono ?_
          rintro e u10 ⟨rfl, rfl⟩
          go_wp2
          go_roundw
          case rel => exact ⟨k + 1, by omega, by omega, by go_num, R8.out, B8.out⟩
          case measure => simp [intOf]; omega
        · have hkI : (k : Int) = (L : Int) ∨ ((k : Int) < (L : Int) ∧ (k : Int) = 10) := by omega
          clear hgo
          rcases hkI with hkI | ⟨hkI, hkJ⟩
          all_goals
            go_wp2_with fail
            refine (stop_end HRd.out HE0.out ht (by omega)).mono ?_
            rintro e u1 ⟨rfl, hr, hb⟩
            have B1 := Lib.hid (HB.out.trans hb)
            clear hr hb
            go_wp2_with fail
            refine (lives01_b' B1.out).mono ?_
            rintro e w8 ⟨rfl, hb8⟩
            have HB8 := Lib.hid hb8
            clear hb8
            go_wp2
            go_ret
            exact ⟨rfl, HB8.out⟩
end
end Go.Proofs.Ytnkbkhlbogcfaaa
