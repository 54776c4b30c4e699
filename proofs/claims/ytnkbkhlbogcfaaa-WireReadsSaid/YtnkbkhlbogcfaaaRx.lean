/- The document's read of a short number. -/
import Derived.Test.YtnkbkhlbogcfaaaRw
set_option linter.unusedVariables false
set_option linter.unusedSimpArgs false
namespace Go.Proofs.Ytnkbkhlbogcfaaa
open Go.RowKit Go.Proofs.YtnkbkhlbogcfaaaW.PrintWords
noncomputable section

theorem digB_drop (r : List UInt8) (j : Nat) (y : UInt8) (h : r[j]? = some y) : digB (r.drop j) = y.toNat % 128 + 128 * digB (r.drop (j + 1)) := by
  have hj : j < r.length := (List.getElem?_eq_some_iff.1 h).1
  have he := (List.getElem?_eq_some_iff.1 h).2
  rw [List.drop_eq_getElem_cons hj, he]
  rfl
theorem rShort_9 {b : List UInt8} {at_ : Nat} (h : cntB 9 (b.drop at_) = 9) : rShort b at_ 0 = (0, at_, 3) := by
  unfold rShort
  rw [if_neg (by omega), rdS_doc, if_pos h]
  rfl
theorem rShort_end {b : List UInt8} {at_ : Nat} (h9 : cntB 9 (b.drop at_) ≠ 9) (h : cntB 9 (b.drop at_) = (b.drop at_).length) : rShort b at_ 0 = (0, at_, 2) := by
  unfold rShort
  rw [if_neg (by omega), rdS_doc, if_neg h9, if_pos h]
  rfl
theorem rShort_odd {b : List UInt8} {at_ j : Nat} (hj : cntB 9 (b.drop at_) = j) (h9 : j ≠ 9) (h : j ≠ (b.drop at_).length) (hs : (shortB (digB ((b.drop at_).take (j + 1)))).length ≠ j + 1) : rShort b at_ 0 = (0, at_, 3) := by
  subst hj
  unfold rShort
  rw [if_neg (by omega), rdS_doc, if_neg h9, if_neg h, if_pos hs]
  rfl
theorem rShort_is {b : List UInt8} {at_ j : Nat} (hj : cntB 9 (b.drop at_) = j) (h9 : j ≠ 9) (h : j ≠ (b.drop at_).length) (hs : (shortB (digB ((b.drop at_).take (j + 1)))).length = j + 1) : rShort b at_ 0 = (digB ((b.drop at_).take (j + 1)), at_ + (j + 1), 0) := by
  subst hj
  have e : rdS 0 0 (b.drop at_) = (digB ((b.drop at_).take (cntB 9 (b.drop at_) + 1)), cntB 9 (b.drop at_) + 1, 0) := by
    rw [rdS_doc, if_neg h9, if_neg h, if_neg (fun e => e hs)]
  unfold rShort
  rw [if_neg (by omega), e]
  rfl

set_option maxHeartbeats 4000000 in
set_option maxRecDepth 100000 in
theorem dshort_any (n c at_ : Nat) (e : Int) (A : Option Addr) (b : List UInt8) (w : World) (hR : RB w A b) (hl : b.length = n) (hat : at_ ≤ n) (hnc : n ≤ c) (hn : n ≤ 900000) :
    Calls Try.prog 93 #[.agg #[.slice A n c, .int .i64 at_, .int .i64 e]] w fun ex w' => ex = .returned (.tuple #[.agg #[.slice A n c, .int .i64 ((rShort b at_ e).2.1 : Nat), .int .i64 (rShort b at_ e).2.2], .int .i64 ((rShort b at_ e).1 : Nat)]) ∧ Below w.heap.size w w' := by
  by_cases h0 : e = 0
  · subst h0
    obtain ⟨d, hd⟩ : ∃ d, d = n - at_ := ⟨_, rfl⟩
    obtain ⟨bb, hbb⟩ : ∃ bb, bb = b.drop at_ := ⟨_, rfl⟩
    have HBl : bb.length = d := by rw [hbb, hd, ← hl]; simp
    have HR := Lib.hid (And.intro (show RB w (dropA A c at_) bb by rw [hbb]; exact hR.drop c at_ (by omega) (by omega)) HBl)
    have HBB := Lib.hid hbb
    have hdc : d ≤ c - at_ := by omega
    have dcI : (d : Int) ≤ ((c - at_ : Nat) : Int) := by omega
    have atI : (at_ : Int) ≤ 900000 := by omega
    have at0 : (0 : Int) ≤ (at_ : Int) := by omega
    have HD := Lib.hid hd
    obtain ⟨tgt, htg⟩ : ∃ t, t = rShort b at_ 0 := ⟨_, rfl⟩
    rw [← htg]
    have HT := Lib.hid htg
    clear hbb HBl hR hl htg
    go_enter Try.func93, Try.ntmps93
    go_wp2_with fail
    refine (left_any n c at_ 0 A _ hat hnc).mono ?_
    rintro ex w1 ⟨rfl, hb1⟩
    rw [← hd]
    clear hd
    obtain ⟨D, hDA⟩ : ∃ D, D = dropA A c at_ := ⟨_, rfl⟩
    have HR1 := Lib.hid (show RB w1 D bb by rw [hDA]; exact (HR.out.1.below (below_alloc2 w _ _)).below hb1)
    rw [← hDA]
    obtain ⟨cc, hcc⟩ : ∃ cc, cc = c - at_ := ⟨_, rfl⟩
    rw [← hcc] at dcI hdc ⊢
    have hx := (hb1.block w.heap.size (by simp; omega)).trans (heap_alloc2_old w _ _)
    have hy := (hb1.block (w.heap.size + 1) (by simp)).trans (heap_alloc2_new w _ _)
    have hb := (below_alloc2 w _ _).trans (hb1.mono (by simp; omega))
    obtain ⟨⟨x0, x1, x2⟩, ⟨v0, v1, v2⟩⟩ := row3_cells hx
    obtain ⟨⟨y0, y1, y2⟩, ⟨z0, z1, z2⟩⟩ := row3_cells hy
    have H1 := Lib.hid (And.intro hb (And.intro hx hy))
    clear hx hy hb1 hb hDA hcc
    go_wp2_with fail
    go_loopw [5] (fun i wr => ∃ j : Nat, j ≤ d ∧ j ≤ 9 ∧ i = .int .i64 j ∧ (∀ i u, i < j → bb[i]? = some u → 128 ≤ u.toNat) ∧ wr = w1) (fun i _ => d - (intOf i).toNat)
    case atStart => exact ⟨0, by omega, by omega, rfl, fun _ _ h => by omega, rfl⟩
    case round =>
      obtain ⟨j, hj, hj9, rfl, hbig, rfl⟩ := hrel
      have HB := Lib.hid hbig
      have j0 : (0 : Int) ≤ (j : Int) := by omega
      clear hbig
      by_cases h9 : j = 9
      · have jI : (j : Int) = 9 := by omega
        have HE := Lib.hid (show tgt = (0, at_, 3) by
          rw [HT.out]
          refine rShort_9 ?_
          rw [← HBB.out]
          exact cntB_is 9 bb 9 (by omega) (by have := HR.out.2; omega) (by rw [← h9]; exact HB.out) (.inl rfl))
        subst h9
        rcases Nat.lt_or_ge 9 d with hdd | hdd
        · have dI : (9 : Int) < (d : Int) := by omega
          go_wp2_with fail
          refine (dfail_any 3 A n c at_ 0 _).mono ?_
          rintro ex w2 ⟨rfl, hb2⟩
          have hyz := (hb2.block (w.heap.size + 1) (blk_lt H1.out.2.2)).trans H1.out.2.2
          have hbz := H1.out.1.trans (hb2.mono H1.out.1.size)
          obtain ⟨⟨y0, y1, y2⟩, ⟨z0, z1, z2⟩⟩ := row3_cells hyz
          have HZ := Lib.hid (And.intro hbz hyz)
          clear hyz hbz hb2
          go_wp2
          refine post_ct rfl (w.heap.size + 1) _ _ _ rfl (row3_store HZ.out.2) rfl ?_
          rw [HE.out]
          exact ⟨rfl, below_store3 HZ.out.1 _ (by omega) _ _ _⟩
        · have dI : (d : Int) = 9 := by omega
          go_wp2_with fail
          refine (dfail_any 3 A n c at_ 0 _).mono ?_
          rintro ex w2 ⟨rfl, hb2⟩
          have hyz := (hb2.block (w.heap.size + 1) (blk_lt H1.out.2.2)).trans H1.out.2.2
          have hbz := H1.out.1.trans (hb2.mono H1.out.1.size)
          obtain ⟨⟨y0, y1, y2⟩, ⟨z0, z1, z2⟩⟩ := row3_cells hyz
          have HZ := Lib.hid (And.intro hbz hyz)
          clear hyz hbz hb2
          go_wp2
          refine post_ct rfl (w.heap.size + 1) _ _ _ rfl (row3_store HZ.out.2) rfl ?_
          rw [HE.out]
          exact ⟨rfl, below_store3 HZ.out.1 _ (by omega) _ _ _⟩
      · have j9 : (j : Int) < 9 := by omega
        have jn : ((j : Int) == 9) = false := by simp; omega
        by_cases hjd : j = d
        · have jI : (j : Int) = (d : Int) := by omega
          have HE := Lib.hid (show tgt = (0, at_, 2) by
            rw [HT.out]
            have hc := cntB_is 9 bb j (by omega) (by have := HR.out.2; omega) HB.out (.inr (.inl (by have := HR.out.2; omega)))
            rw [HBB.out] at hc
            refine rShort_end (by omega) ?_
            rw [hc, ← HBB.out]
            have := HR.out.2
            omega)
          go_wp2_with fail
          refine (dfail_any 2 A n c at_ 0 _).mono ?_
          rintro ex w2 ⟨rfl, hb2⟩
          have hyz := (hb2.block (w.heap.size + 1) (blk_lt H1.out.2.2)).trans H1.out.2.2
          have hbz := H1.out.1.trans (hb2.mono H1.out.1.size)
          obtain ⟨⟨y0, y1, y2⟩, ⟨z0, z1, z2⟩⟩ := row3_cells hyz
          have HZ := Lib.hid (And.intro hbz hyz)
          clear hyz hbz hb2
          go_wp2
          refine post_ct rfl (w.heap.size + 1) _ _ _ rfl (row3_store HZ.out.2) rfl ?_
          rw [HE.out]
          exact ⟨rfl, below_store3 HZ.out.1 _ (by omega) _ _ _⟩
        · have jd : (j : Int) < (d : Int) := by omega
          have jdn : ((j : Int) == (d : Int)) = false := by simp; omega
          obtain ⟨y, hy⟩ : ∃ y, bb[j]? = some y := ⟨_, List.getElem?_eq_getElem (by have := HR.out.2; omega)⟩
          obtain ⟨ad, had, e1⟩ := HR1.out.at_ hy
          subst had
          have HY := Lib.hid hy
          clear hy
          by_cases hyb : 128 ≤ y.toNat
          · have yI : (128 : Int) ≤ (y.toNat : Int) := by omega
            go_wp2
            go_roundw
            case rel =>
              refine ⟨j + 1, by omega, by omega, by go_num, ?_, trivial⟩
              intro i u hi hu
              by_cases hij : i = j
              · subst hij
                rw [HY.out] at hu
                injection hu with hu
                rw [← hu]
                exact hyb
              · exact HB.out i u (by omega) hu
            case measure => simp [intOf]; omega
          · have yI : (y.toNat : Int) < 128 := by omega
            have HC := Lib.hid (show cntB 9 (b.drop at_) = j by
              rw [← HBB.out]
              exact cntB_is 9 bb j (by omega) (by have := HR.out.2; omega) HB.out (.inr (.inr ⟨y, HY.out, by omega⟩)))
            obtain ⟨t, ht⟩ : ∃ t, t = bb.take (j + 1) := ⟨_, rfl⟩
            have HTk := Lib.hid (And.intro ht (show t.length = j + 1 by rw [ht, List.length_take]; have := HR.out.2; omega))
            clear ht
            obtain ⟨wa, rfl⟩ : ∃ wa, wa = wr := ⟨_, rfl⟩
            go_wp2_with fail
            go_loopw [6, 7] (fun v i wr => ∃ m : Nat, m ≤ j + 1 ∧ i = .int .i64 ((m : Int) - 1) ∧ v = .int .i64 (digB (t.drop m) : Nat) ∧ wr = wa) (fun _ i _ => (intOf i + 1).toNat)
            case atStart => exact ⟨j + 1, by omega, by go_num, by rw [List.drop_of_length_le (by have := HTk.out.2; omega)]; rfl, rfl⟩
            case round =>
              obtain ⟨m, hm, rfl, rfl, rfl⟩ := hrel
              by_cases hm0 : m = 0
              · subst hm0
                obtain ⟨x, hxx⟩ : ∃ x, x = digB (t.drop 0) := ⟨_, rfl⟩
                have HX := Lib.hid (show x = digB t by rw [hxx, List.drop_zero])
                have h9x := digB_lt t
                have e9 : ((128 ^ 9 : Nat) : Int) = 9223372036854775808 := by kernel_rfl
                have hxI : (x : Int) ≤ 9223372036854775807 := by
                  have : x < 128 ^ 9 := by
                    rw [HX.out]
                    exact Nat.lt_of_lt_of_le h9x (Nat.pow_le_pow_right (by omega) (by have := HTk.out.2; omega))
                  have := Int.ofNat_lt.2 this
                  rw [e9] at this
                  omega
                rw [← hxx]
                have em : ((0 : Nat) : Int) - 1 = -1 := rfl
                rw [em]
                have x0' : (0 : Int) ≤ (x : Int) := by omega
                have HS9 := Lib.hid (shortB_le9 (m := x) hxI)
                have KS := Lib.hid (rshort_any (x : Int) x (by omega) hxI wr)
                clear hxx em h9x e9 hxI
                go_wp2_with fail
                refine KS.out.mono ?_
                rintro ex w3 ⟨A3, c3, rfl, ho3, hb3⟩
                obtain ⟨sl, hsl⟩ : ∃ sl, sl = (shortB x).length := ⟨_, rfl⟩
                rw [← hsl]
                have hx3 := (hb3.block w.heap.size (blk_lt H1.out.2.1)).trans H1.out.2.1
                have hy3 := (hb3.block (w.heap.size + 1) (blk_lt H1.out.2.2)).trans H1.out.2.2
                have hbw := H1.out.1.trans (hb3.mono H1.out.1.size)
                clear x0 x1 x2 v0 v1 v2 y0 y1 y2 z0 z1 z2
                obtain ⟨⟨x0, x1, x2⟩, ⟨v0, v1, v2⟩⟩ := row3_cells hx3
                obtain ⟨⟨y0, y1, y2⟩, ⟨z0, z1, z2⟩⟩ := row3_cells hy3
                have HS := Lib.hid (And.intro hsl (And.intro hbw (And.intro hx3 hy3)))
                clear hsl hx3 hy3 hbw hb3 ho3
                by_cases hsj : sl = j + 1
                · have sI : (sl : Int) = (j : Int) + 1 := by omega
                  have HE := Lib.hid (show tgt = (x, at_ + (j + 1), 0) by
                    rw [HT.out]
                    have := rShort_is HC.out h9 (by rw [← HBB.out]; have := HR.out.2; omega) (by rw [← HBB.out, ← HTk.out.1, ← HX.out, ← HS.out.1]; exact hsj)
                    rw [this, ← HBB.out, ← HTk.out.1, ← HX.out])
                  clear hsj
                  go_wp2
                  have hy4 : (w3.setCell ⟨w.heap.size, 1, none⟩ (.int .i64 ((at_ : Int) + (j : Int) + 1))).heap[w.heap.size + 1]? = some (.cells #[.slice none 0 0, .int .i64 0, .int .i64 0] 83 (0, 0)) := by
                    rw [Below.heap_setCell _ _ _ _ (by dsimp only; omega)]; exact HS.out.2.2.2
                  refine post_ct rfl (w.heap.size + 1) _ _ _ rfl (row3_store hy4) rfl ?_
                  rw [HE.out]
                  have ea : ((at_ + (j + 1) : Nat) : Int) = (at_ : Int) + (j : Int) + 1 := by omega
                  dsimp only
                  rw [ea]
                  exact ⟨rfl, below_store3 (HS.out.2.1.setCell (by dsimp only; omega) _) _ (by omega) _ _ _⟩
                · have sI : ((sl : Int) == (j : Int) + 1) = false := by simp; omega
                  have sJ : ((sl : Int) != (j : Int) + 1) = true := by simp; omega
                  have HE := Lib.hid (show tgt = (0, at_, 3) by
                    rw [HT.out]
                    exact rShort_odd HC.out h9 (by rw [← HBB.out]; have := HR.out.2; omega) (by rw [← HBB.out, ← HTk.out.1, ← HX.out, ← HS.out.1]; exact hsj))
                  clear hsj
                  go_wp2_with fail
                  refine (dfail_any 3 A n c at_ 0 _).mono ?_
                  rintro ex w2 ⟨rfl, hb2⟩
                  have hyz := (hb2.block (w.heap.size + 1) (blk_lt HS.out.2.2.2)).trans HS.out.2.2.2
                  have hbz := HS.out.2.1.trans (hb2.mono HS.out.2.1.size)
                  obtain ⟨⟨y0, y1, y2⟩, ⟨z0, z1, z2⟩⟩ := row3_cells hyz
                  have HZ := Lib.hid (And.intro hbz hyz)
                  clear hyz hbz hb2
                  go_wp2
                  refine post_ct rfl (w.heap.size + 1) _ _ _ rfl (row3_store HZ.out.2) rfl ?_
                  rw [HE.out]
                  exact ⟨rfl, below_store3 HZ.out.1 _ (by omega) _ _ _⟩
              · obtain ⟨q, rfl⟩ : ∃ q, m = q + 1 := ⟨m - 1, by omega⟩
                have em : ((q + 1 : Nat) : Int) - 1 = (q : Int) := by omega
                rw [em]
                obtain ⟨u, hu⟩ : ∃ u, t[q]? = some u := ⟨_, List.getElem?_eq_getElem (by have := HTk.out.2; omega)⟩
                have hub : bb[q]? = some u := by rw [HTk.out.1, List.getElem?_take_of_lt (by omega)] at hu; exact hu
                obtain ⟨ad', had', e2⟩ := HR1.out.at_ hub
                injection had' with had'
                subst had'
                have h8 : digB (t.drop (q + 1)) < 128 ^ 8 := by
                  refine Nat.lt_of_lt_of_le (digB_lt _) (Nat.pow_le_pow_right (by omega) ?_)
                  have := HTk.out.2
                  rw [List.length_drop]
                  omega
                have e8 : ((128 ^ 8 : Nat) : Int) = 72057594037927936 := by kernel_rfl
                have h8I := Int.ofNat_lt.2 h8
                rw [e8] at h8I
                have hDD := digB_drop t q u hu
                obtain ⟨x, hxx⟩ : ∃ x, x = digB (t.drop (q + 1)) := ⟨_, rfl⟩
                rw [← hxx] at hDD h8I ⊢
                have HDD := Lib.hid hDD
                have x0' : (0 : Int) ≤ (x : Int) := by omega
                have u0 : (0 : Int) ≤ (u.toNat : Int) := by omega
                have u1 : (u.toNat : Int) < 256 := by have := u.toNat_lt; omega
                have q0 : (0 : Int) ≤ (q : Int) := by omega
                have qd : (q : Int) < (d : Int) := by omega
                clear hDD hxx h8 e8 hu hub e1
                go_wp2
                go_roundw
                case rel => exact ⟨q, by omega, rfl, by rw [HDD.out, Int.natCast_add, Int.natCast_mul, Int.add_comm]; rfl, trivial⟩
                case measure => simp [intOf]
  · have e1 : rShort b at_ e = (0, at_, e) := by unfold rShort; rw [if_pos h0]
    rw [e1]
    have g1 : (e == 0) = false := by simp [h0]
    clear e1
    go_enter Try.func93, Try.ntmps93
    go_wp2
    refine post_ct rfl (w.heap.size + 1) _ _ _ rfl (heap_alloc2_new w _ _) rfl ?_
    exact ⟨rfl, below_alloc2 w _ _⟩
end
end Go.Proofs.Ytnkbkhlbogcfaaa
