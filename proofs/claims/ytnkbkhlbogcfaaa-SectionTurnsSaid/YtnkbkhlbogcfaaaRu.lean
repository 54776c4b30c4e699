/- A reader's reads: how many follow, bytes. -/
import Derived.Test.YtnkbkhlbogcfaaaRt
set_option linter.unusedVariables false
set_option linter.unusedSimpArgs false
namespace Go.Proofs.Ytnkbkhlbogcfaaa
open Go.RowKit Go.Proofs.YtnkbkhlbogcfaaaW.PrintWords
noncomputable section

set_option maxHeartbeats 1000000 in
set_option maxRecDepth 100000 in
theorem listR_any (most : Int) (p base n c at_ : Nat) (e : Int) (A : Option Addr) (b : List UInt8) (w : World) (h : RdB w base p A n c b at_ e) (hat : at_ ≤ n) (hn : n ≤ 900000) :
    Calls Try.prog 67 #[.pointer (some ⟨p, 0, none⟩), .int .i64 most] w fun ex w' => ex = .returned (.int .i64 ((rList b most at_ e).1 : Nat)) ∧ RdB w' base p A n c b (rList b most at_ e).2.1 (rList b most at_ e).2.2 ∧ Mod w w' p none := by
  have hH := Lib.hid h
  have hcap := h.own.cap
  have hlen := h.own.len
  have hlt := h.lt
  clear h
  go_enter Try.func67, Try.ntmps67
  go_wp2_with fail
  obtain ⟨W1, hW1⟩ : ∃ W1, W1 = w.alloc (.cells #[.int .i64 most] 3) := ⟨_, rfl⟩
  rw [← hW1]
  obtain ⟨W2, hW2⟩ : ∃ W2, W2 = W1.alloc (.cells #[.int .i64 0] 3) := ⟨_, rfl⟩
  rw [← hW2]
  have s1 : W1.heap.size = w.heap.size + 1 := by rw [hW1]; simp
  have s2 : W2.heap.size = w.heap.size + 2 := by rw [hW2]; simp [s1]
  have hb2 : Below w.heap.size w W2 := by rw [hW2, hW1]; exact (below_alloc (Below.refl _ _) _).alloc (by simp) _
  have hh : W2.heap[w.heap.size]? = some (.cells #[.int .i64 most] 3 (0, 0)) := by
    rw [hW2, (below_alloc (Below.refl W1.heap.size W1) _).block w.heap.size (by omega), hW1]
    exact heap_alloc_new w _
  have hg : W2.heap[w.heap.size + 1]? = some (.cells #[.int .i64 0] 3 (0, 0)) := by
    rw [hW2, ← s1]
    exact heap_alloc_new W1 _
  have hRd := hH.out.below hb2
  have key : Calls Try.prog 82 #[.pointer (some ⟨p, 0, none⟩), .func (.func 98) #[] #[.pointer (some ⟨w.heap.size, 0, none⟩), .pointer (some ⟨w.heap.size + 1, 0, none⟩)]] W2 fun ex w' => ex = .returned (.tuple #[]) ∧
      w'.cell? ⟨w.heap.size + 1, 0, none⟩ = some (.int .i64 ((rList b most at_ e).1 : Nat)) ∧ RdB w' base p A n c b (rList b most at_ e).2.1 (rList b most at_ e).2.2 ∧ Mod w w' p none := by
    by_cases h0 : e = 0
    · subst h0
      have hD : RB W2.drew (dropA A c at_) (b.drop at_) := (hRd.own.rb.below (Below.refl _ _).drew).drop c at_ (by omega) (by omega)
      have hkb : at_ + (liS most (b.length - at_) (rdS 0 0 (b.drop at_))).2.1 ≤ 1000000 := by
        have hk := rdS_bounds (b.drop at_) 0 0 (by omega) (by simp)
        have hl9 : (b.drop at_).length = n - at_ := by simp; omega
        unfold liS
        generalize rdS 0 0 (b.drop at_) = q at *
        obtain ⟨x, k, er⟩ := q
        dsimp only at hk ⊢
        repeat' split
        all_goals (dsimp only at *; omega)
      rw [rList_eq b most at_ (by omega)]
      refine (take98_any (liS most (b.length - at_) (rdS 0 0 (b.drop at_))).2.1 (liS most (b.length - at_) (rdS 0 0 (b.drop at_))).2.2 (fun w' => Below (w.heap.size + 1) W2.drew w' ∧ w'.cell? ⟨w.heap.size + 1, 0, none⟩ = some (.int .i64 ((liS most (b.length - at_) (rdS 0 0 (b.drop at_))).1 : Nat))) p n c at_ A W2 hRd.blk hat hcap (by omega) hkb _ _
        (by have := clos98 most w.heap.size (w.heap.size + 1) (n - at_) (c - at_) (dropA A c at_) (b.drop at_) W2.drew (by rw [heap_drew]; exact hh) (by rw [heap_drew]; exact hg) (by simp; omega) hD (by omega) (by omega); rw [hlen]; exact this) ?_).mono ?_
      · rintro w' ⟨hb, _⟩
        rw [hb.block p (by omega), heap_drew]
        exact hRd.blk
      · rintro ex w' ⟨rfl, w1, j, v, ⟨hb, hc⟩, hj, hp⟩
        obtain ⟨r1, r2, r3, r4⟩ := rd_took hH.out (hb2.trans (Below.drewL (hb.mono (by omega)))) hj hp
        exact ⟨rfl, by rw [r3 _ _ (by omega), hc], r1, r2⟩
    · have e1 : rList b most at_ e = (0, at_, e) := by unfold rList rShort; simp [h0]
      rw [e1]
      refine (take_stop e (.slice A n c) at_ p _ W2 hRd.blk (by simp [h0])).mono ?_
      rintro ex w' ⟨rfl, rfl⟩
      exact ⟨rfl, cell_of_one hg, hRd, mod_of_below hb2 p none⟩
  refine key.mono ?_
  rintro ex w2 ⟨rfl, d1, hr, hm⟩
  have HF := Lib.hid (And.intro hr hm)
  clear hr hm key hRd hg hb2 hW1 hW2 s1 s2 hh
  go_wp2
  go_ret
  exact ⟨rfl, HF.out⟩

set_option maxHeartbeats 1000000 in
set_option maxRecDepth 100000 in
theorem clos83_short (m : Int) (g n c : Nat) (A : Option Addr) (v : Value) (w : World) (hg : w.heap[g]? = some (.cells #[.int .i64 m] 3 (0, 0))) (hm : (n : Int) < m) :
    Calls Try.prog 83 #[.slice A n c, .pointer (some ⟨g, 0, none⟩), v] w fun e w' => e = .returned (.tuple #[.int .i64 0, .int .i64 2]) ∧ w' = w := by
  have c1 := cell_of_one hg
  clear hg
  go_enter Try.func83, Try.ntmps83
  go_wp2
  go_ret2
  exact ⟨rfl, rfl⟩

set_option maxHeartbeats 1000000 in
set_option maxRecDepth 100000 in
theorem rawR_any (m : Int) (p base n c at_ : Nat) (e : Int) (A : Option Addr) (b : List UInt8) (w : World) (h : RdB w base p A n c b at_ e) (hat : at_ ≤ n) (hn : n ≤ 900000) :
    Calls Try.prog 42 #[.pointer (some ⟨p, 0, none⟩), .int .i64 m] w fun ex w' => ∃ A' c', ex = .returned (.slice A' (rRaw b m at_ e).1.length c') ∧ OB w' w.heap.size A' (rRaw b m at_ e).1.length c' (rRaw b m at_ e).1 ∧
      RdB w' base p A n c b (rRaw b m at_ e).2.1 (rRaw b m at_ e).2.2 ∧ Mod w w' p none := by
  have hlen := h.own.len
  by_cases hok : e = 0 ∧ m ≤ ((b.length - at_ : Nat) : Int)
  · obtain ⟨rfl, hm⟩ := hok
    have e1 : rRaw b m at_ 0 = ((b.drop at_).take m.toNat, at_ + m.toNat, 0) := by unfold rRaw; rw [if_neg (by omega), if_neg (by omega)]
    have e2 : ((b.drop at_).take m.toNat).length = m.toNat := by simp; omega
    rw [e1]
    dsimp only
    rw [e2]
    exact rawR_ok m m.toNat p base n c at_ A b w h (by omega) hat (by omega) hn
  · have e1 : rRaw b m at_ e = ([], at_, if e = 0 then 2 else e) := by
      unfold rRaw
      by_cases h0 : e = 0
      · rw [if_neg (by omega), if_pos (by omega), if_pos h0]
      · rw [if_pos h0, if_neg h0]
    rw [e1]
    dsimp only
    have hH := Lib.hid h
    have hcap := h.own.cap
    have hlt := h.lt
    clear h e1
    obtain ⟨e', he'⟩ : ∃ e' : Int, e' = if e = 0 then 2 else e := ⟨_, rfl⟩
    rw [← he']
    have HE := Lib.hid he'
    have HO := Lib.hid hok
    clear he' hok
    go_enter Try.func42, Try.ntmps42
    go_wp2_with fail
    obtain ⟨W1, hW1⟩ : ∃ W1, W1 = w.alloc (.cells #[.int .i64 m] 3) := ⟨_, rfl⟩
    rw [← hW1]
    obtain ⟨W2, hW2⟩ : ∃ W2, W2 = W1.alloc (.cells #[.slice none 0 0] 22) := ⟨_, rfl⟩
    rw [← hW2]
    have s1 : W1.heap.size = w.heap.size + 1 := by rw [hW1]; simp
    have s2 : W2.heap.size = w.heap.size + 2 := by rw [hW2]; simp [s1]
    have hb2 : Below w.heap.size w W2 := by rw [hW2, hW1]; exact (below_alloc (Below.refl _ _) _).alloc (by simp) _
    have hg : W2.heap[w.heap.size]? = some (.cells #[.int .i64 m] 3 (0, 0)) := by
      rw [hW2, (below_alloc (Below.refl W1.heap.size W1) _).block w.heap.size (by omega), hW1]
      exact heap_alloc_new w _
    have hq : W2.heap[w.heap.size + 1]? = some (.cells #[.slice none 0 0] 22 (0, 0)) := by
      rw [hW2, ← s1]
      exact heap_alloc_new W1 _
    have hRd := hH.out.below hb2
    have key : Calls Try.prog 82 #[.pointer (some ⟨p, 0, none⟩), .func (.func 83) #[] #[.pointer (some ⟨w.heap.size, 0, none⟩), .pointer (some ⟨w.heap.size + 1, 0, none⟩)]] W2 fun ex w' => ex = .returned (.tuple #[]) ∧
        w'.cell? ⟨w.heap.size + 1, 0, none⟩ = some (.slice none 0 0) ∧ RdB w' base p A n c b at_ e' ∧ Mod w w' p none := by
      by_cases h0 : e = 0
      · subst h0
        rw [HE.out, if_pos rfl]
        refine (take83_any 0 2 (fun w' => w' = W2.drew) p n c at_ A W2 hRd.blk hat hcap (by omega) (by omega) _ _
          (clos83_short m w.heap.size (n - at_) (c - at_) (dropA A c at_) _ W2.drew (by rw [heap_drew]; exact hg) (by have := HO.out; omega)) ?_).mono ?_
        · rintro w' rfl
          rw [heap_drew]
          exact hRd.blk
        · rintro ex w' ⟨rfl, w1, j, v, rfl, hj, hp⟩
          obtain ⟨r1, r2, r3, r4⟩ := rd_took hH.out hb2.drew hj hp
          exact ⟨rfl, by rw [r3 _ _ (by omega)]; exact cell_of_one (by rw [heap_drew]; exact hq), r1, r2⟩
      · rw [HE.out, if_neg h0]
        refine (take_stop e (.slice A n c) at_ p _ W2 hRd.blk (by simp [h0])).mono ?_
        rintro ex w' ⟨rfl, rfl⟩
        exact ⟨rfl, cell_of_one hq, hRd, mod_of_below hb2 p none⟩
    refine key.mono ?_
    rintro ex w2 ⟨rfl, d1, hr, hm⟩
    have HF := Lib.hid (And.intro hr hm)
    clear hr hm key hRd hg hq hb2 hW1 hW2 s1 s2
    go_wp2
    go_ret
    exact ⟨none, 0, rfl, OB.nil _ _, HF.out⟩
end
end Go.Proofs.Ytnkbkhlbogcfaaa
