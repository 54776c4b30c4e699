/- A reader's reads: signed numbers, texts, lists. -/
import Derived.Test.YtnkbkhlbogcfaaaRs
import Derived.Test.YtnkbkhlbogcfaaaRc2
set_option linter.unusedVariables false
set_option linter.unusedSimpArgs false
namespace Go.Proofs.Ytnkbkhlbogcfaaa
open Go.RowKit Go.Proofs.YtnkbkhlbogcfaaaW.PrintWords
noncomputable section

theorem rSigned_eq (b : List UInt8) (at_ : Nat) : rSigned b at_ 0 = ((sgS (rdS 0 0 (b.drop at_))).1, (if (sgS (rdS 0 0 (b.drop at_))).2.2 = 0 then at_ + (sgS (rdS 0 0 (b.drop at_))).2.1 else at_), (((sgS (rdS 0 0 (b.drop at_))).2.2 : Nat) : Int)) := by
  have he := (rdS_bounds (b.drop at_) 0 0 (by omega) (by simp)).2.2.2.2
  unfold rSigned rShort sgS
  generalize rdS 0 0 (b.drop at_) = q at *
  obtain ⟨x, k, er⟩ := q
  dsimp only at he ⊢
  by_cases h0 : er = 0
  · subst h0
    by_cases hb : (2305843009213693952 : Int) ≤ (x : Int) / 2
    · simp [hb]
    · simp [hb]
  · obtain ⟨rfl, rfl⟩ := he h0
    simp [h0, sgnR]
theorem rText_eq (b : List UInt8) (at_ : Nat) (h : at_ ≤ b.length) : rText b at_ 0 = ((txS (b.length - at_) (b.drop at_) (rdS 0 0 (b.drop at_))).1, (if (txS (b.length - at_) (b.drop at_) (rdS 0 0 (b.drop at_))).2.2 = 0 then at_ + (txS (b.length - at_) (b.drop at_) (rdS 0 0 (b.drop at_))).2.1 else at_), (((txS (b.length - at_) (b.drop at_) (rdS 0 0 (b.drop at_))).2.2 : Nat) : Int)) := by
  unfold rText rShort txS
  generalize rdS 0 0 (b.drop at_) = q at *
  obtain ⟨x, k, er⟩ := q
  dsimp only
  by_cases h0 : er = 0
  · subst h0
    by_cases hb : b.length < at_ + k + x
    · have : b.length - at_ < k + x := by omega
      simp [hb, this]
    · have : ¬ b.length - at_ < k + x := by omega
      simp [hb, this, Nat.add_assoc]
      omega
  · simp [h0]
theorem rList_eq (b : List UInt8) (most : Int) (at_ : Nat) (h : at_ ≤ b.length) : rList b most at_ 0 = ((liS most (b.length - at_) (rdS 0 0 (b.drop at_))).1, (if (liS most (b.length - at_) (rdS 0 0 (b.drop at_))).2.2 = 0 then at_ + (liS most (b.length - at_) (rdS 0 0 (b.drop at_))).2.1 else at_), (((liS most (b.length - at_) (rdS 0 0 (b.drop at_))).2.2 : Nat) : Int)) := by
  unfold rList rShort liS
  generalize rdS 0 0 (b.drop at_) = q at *
  obtain ⟨x, k, er⟩ := q
  dsimp only
  by_cases h0 : er = 0
  · subst h0
    by_cases hm : most < (x : Int)
    · simp [hm]
    · by_cases hb : b.length < at_ + k + x
      · have : b.length - at_ < k + x := by omega
        simp [hb, this, hm]
      · have : ¬ b.length - at_ < k + x := by omega
        simp [hb, this, hm]
  · simp [h0]


set_option maxHeartbeats 1000000 in
set_option maxRecDepth 100000 in
theorem signedR_any (p base n c at_ : Nat) (e : Int) (A : Option Addr) (b : List UInt8) (w : World) (h : RdB w base p A n c b at_ e) (hat : at_ ≤ n) (hn : n ≤ 900000) :
    Calls Try.prog 55 #[.pointer (some ⟨p, 0, none⟩)] w fun ex w' => ex = .returned (.int .i64 (rSigned b at_ e).1) ∧ RdB w' base p A n c b (rSigned b at_ e).2.1 (rSigned b at_ e).2.2 ∧ Mod w w' p none := by
  have hH := Lib.hid h
  have hcap := h.own.cap
  have hlen := h.own.len
  have hlt := h.lt
  clear h
  go_enter Try.func55, Try.ntmps55
  go_wp2_with fail
  obtain ⟨W1, hW1⟩ : ∃ W1, W1 = w.alloc (.cells #[.int .i64 0] 3) := ⟨_, rfl⟩
  rw [← hW1]
  have hb1 : Below w.heap.size w W1 := by rw [hW1]; exact below_alloc (Below.refl _ _) _
  have hg : W1.heap[w.heap.size]? = some (.cells #[.int .i64 0] 3 (0, 0)) := by rw [hW1]; exact heap_alloc_new w _
  have s1 : W1.heap.size = w.heap.size + 1 := by rw [hW1]; simp
  have hRd := hH.out.below hb1
  have key : Calls Try.prog 82 #[.pointer (some ⟨p, 0, none⟩), .func (.func 87) #[] #[.pointer (some ⟨w.heap.size, 0, none⟩)]] W1 fun ex w' => ex = .returned (.tuple #[]) ∧
      w'.cell? ⟨w.heap.size, 0, none⟩ = some (.int .i64 (rSigned b at_ e).1) ∧ RdB w' base p A n c b (rSigned b at_ e).2.1 (rSigned b at_ e).2.2 ∧ Mod w w' p none := by
    by_cases h0 : e = 0
    · subst h0
      have hD : RB W1.drew (dropA A c at_) (b.drop at_) := (hRd.own.rb.below (Below.refl _ _).drew).drop c at_ (by omega) (by omega)
      have hkb : at_ + (sgS (rdS 0 0 (b.drop at_))).2.1 ≤ 1000000 := by
        have hk := rdS_bounds (b.drop at_) 0 0 (by omega) (by simp)
        have hl9 : (b.drop at_).length = n - at_ := by simp; omega
        have h5 := rd_lt (b.drop at_)
        unfold sgS
        generalize rdS 0 0 (b.drop at_) = q at *
        obtain ⟨x, k, er⟩ := q
        dsimp only at hk ⊢
        repeat' split
        all_goals (dsimp only at *; omega)
      rw [rSigned_eq]
      refine (take87_any (sgS (rdS 0 0 (b.drop at_))).2.1 (sgS (rdS 0 0 (b.drop at_))).2.2 (fun w' => Below w.heap.size W1.drew w' ∧ w'.cell? ⟨w.heap.size, 0, none⟩ = some (.int .i64 ((sgS (rdS 0 0 (b.drop at_))).1))) p n c at_ A W1 hRd.blk hat hcap (by omega) hkb _
        (by have := clos87 w.heap.size (n - at_) (c - at_) (dropA A c at_) (b.drop at_) W1.drew (by rw [heap_drew]; exact hg) (by simp; omega) hD (by omega) (by omega); first | exact this | (rw [hlen]; exact this)) ?_).mono ?_
      · rintro w' ⟨hb, _⟩
        rw [hb.block p hlt, heap_drew]
        exact hRd.blk
      · rintro ex w' ⟨rfl, w1, j, v, ⟨hb, hc⟩, hj, hp⟩
        obtain ⟨r1, r2, r3, r4⟩ := rd_took hH.out (hb1.trans (Below.drewL hb)) hj hp
        exact ⟨rfl, by rw [r3 _ _ (by omega), hc], r1, r2⟩
    · have e1 : rSigned b at_ e = (0, at_, e) := by unfold rSigned rShort; simp [h0]
      rw [e1]
      refine (take_stop e (.slice A n c) at_ p _ W1 hRd.blk (by simp [h0])).mono ?_
      rintro ex w' ⟨rfl, rfl⟩
      exact ⟨rfl, cell_of_one hg, hRd, mod_of_below hb1 p none⟩
  refine key.mono ?_
  rintro ex w2 ⟨rfl, d1, hr, hm⟩
  have HF := Lib.hid (And.intro hr hm)
  clear hr hm key hRd hg hb1 hW1 s1
  go_wp2
  go_ret
  exact ⟨rfl, HF.out⟩


set_option maxHeartbeats 1000000 in
set_option maxRecDepth 100000 in
theorem textR_any (p base n c at_ : Nat) (e : Int) (A : Option Addr) (b : List UInt8) (w : World) (h : RdB w base p A n c b at_ e) (hat : at_ ≤ n) (hn : n ≤ 900000) :
    Calls Try.prog 56 #[.pointer (some ⟨p, 0, none⟩)] w fun ex w' => ex = .returned (.string (bs (rText b at_ e).1)) ∧ RdB w' base p A n c b (rText b at_ e).2.1 (rText b at_ e).2.2 ∧ Mod w w' p none := by
  have hH := Lib.hid h
  have hcap := h.own.cap
  have hlen := h.own.len
  have hlt := h.lt
  clear h
  go_enter Try.func56, Try.ntmps56
  go_wp2_with fail
  obtain ⟨W1, hW1⟩ : ∃ W1, W1 = w.alloc (.cells #[.string ⟨#[]⟩] 9) := ⟨_, rfl⟩
  rw [← hW1]
  have hb1 : Below w.heap.size w W1 := by rw [hW1]; exact below_alloc (Below.refl _ _) _
  have hg : W1.heap[w.heap.size]? = some (.cells #[.string ⟨#[]⟩] 9 (0, 0)) := by rw [hW1]; exact heap_alloc_new w _
  have s1 : W1.heap.size = w.heap.size + 1 := by rw [hW1]; simp
  have hRd := hH.out.below hb1
  have key : Calls Try.prog 82 #[.pointer (some ⟨p, 0, none⟩), .func (.func 88) #[] #[.pointer (some ⟨w.heap.size, 0, none⟩)]] W1 fun ex w' => ex = .returned (.tuple #[]) ∧
      w'.cell? ⟨w.heap.size, 0, none⟩ = some (.string (bs (rText b at_ e).1)) ∧ RdB w' base p A n c b (rText b at_ e).2.1 (rText b at_ e).2.2 ∧ Mod w w' p none := by
    by_cases h0 : e = 0
    · subst h0
      have hD : RB W1.drew (dropA A c at_) (b.drop at_) := (hRd.own.rb.below (Below.refl _ _).drew).drop c at_ (by omega) (by omega)
      have hkb : at_ + (txS (b.length - at_) (b.drop at_) (rdS 0 0 (b.drop at_))).2.1 ≤ 1000000 := by
        have hk := rdS_bounds (b.drop at_) 0 0 (by omega) (by simp)
        have hl9 : (b.drop at_).length = n - at_ := by simp; omega
        have h5 := rd_lt (b.drop at_)
        unfold txS
        generalize rdS 0 0 (b.drop at_) = q at *
        obtain ⟨x, k, er⟩ := q
        dsimp only at hk ⊢
        repeat' split
        all_goals (dsimp only at *; omega)
      rw [rText_eq b at_ (by omega)]
      refine (take88_any (txS (b.length - at_) (b.drop at_) (rdS 0 0 (b.drop at_))).2.1 (txS (b.length - at_) (b.drop at_) (rdS 0 0 (b.drop at_))).2.2 (fun w' => Below w.heap.size W1.drew w' ∧ w'.cell? ⟨w.heap.size, 0, none⟩ = some (.string (bs ((txS (b.length - at_) (b.drop at_) (rdS 0 0 (b.drop at_))).1)))) p n c at_ A W1 hRd.blk hat hcap (by omega) hkb _
        (by have := clos88 w.heap.size (n - at_) (c - at_) (dropA A c at_) (b.drop at_) W1.drew (by rw [heap_drew]; exact hg) (by simp; omega) hD (by omega) (by omega); first | exact this | (rw [hlen]; exact this)) ?_).mono ?_
      · rintro w' ⟨hb, _⟩
        rw [hb.block p hlt, heap_drew]
        exact hRd.blk
      · rintro ex w' ⟨rfl, w1, j, v, ⟨hb, hc⟩, hj, hp⟩
        obtain ⟨r1, r2, r3, r4⟩ := rd_took hH.out (hb1.trans (Below.drewL hb)) hj hp
        exact ⟨rfl, by rw [r3 _ _ (by omega), hc], r1, r2⟩
    · have e1 : rText b at_ e = ([], at_, e) := by unfold rText rShort; simp [h0]
      rw [e1]
      refine (take_stop e (.slice A n c) at_ p _ W1 hRd.blk (by simp [h0])).mono ?_
      rintro ex w' ⟨rfl, rfl⟩
      exact ⟨rfl, cell_of_one hg, hRd, mod_of_below hb1 p none⟩
  refine key.mono ?_
  rintro ex w2 ⟨rfl, d1, hr, hm⟩
  have HF := Lib.hid (And.intro hr hm)
  clear hr hm key hRd hg hb1 hW1 s1
  go_wp2
  go_ret
  exact ⟨rfl, HF.out⟩

end
end Go.Proofs.Ytnkbkhlbogcfaaa
