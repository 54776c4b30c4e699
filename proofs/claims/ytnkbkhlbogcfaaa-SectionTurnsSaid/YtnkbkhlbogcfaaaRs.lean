/- A reader's reads of numbers: short, signed, lists. -/
import Derived.Test.YtnkbkhlbogcfaaaRc
import Derived.Test.YtnkbkhlbogcfaaaRa
set_option linter.unusedVariables false
set_option linter.unusedSimpArgs false
namespace Go.Proofs.Ytnkbkhlbogcfaaa
open Go.RowKit Go.Proofs.YtnkbkhlbogcfaaaW.PrintWords
noncomputable section

theorem Below.drewL {B : Nat} {w w' : World} (h : Below B w.drew w') : Below B w w' := ((Below.refl B w).drew).trans h

set_option maxHeartbeats 1000000 in
set_option maxRecDepth 100000 in
theorem shortR_any (p base n c at_ : Nat) (e : Int) (A : Option Addr) (b : List UInt8) (w : World) (h : RdB w base p A n c b at_ e) (hat : at_ ≤ n) (hn : n ≤ 900000) :
    Calls Try.prog 47 #[.pointer (some ⟨p, 0, none⟩)] w fun ex w' => ex = .returned (.int .i64 ((rShort b at_ e).1 : Nat)) ∧ RdB w' base p A n c b (rShort b at_ e).2.1 (rShort b at_ e).2.2 ∧ Mod w w' p none := by
  have hH := Lib.hid h
  have hcap := h.own.cap
  have hlen := h.own.len
  have hlt := h.lt
  clear h
  go_enter Try.func47, Try.ntmps47
  go_wp2_with fail
  obtain ⟨W1, hW1⟩ : ∃ W1, W1 = w.alloc (.cells #[.int .i64 0] 3) := ⟨_, rfl⟩
  rw [← hW1]
  have hb1 : Below w.heap.size w W1 := by rw [hW1]; exact below_alloc (Below.refl _ _) _
  have hg : W1.heap[w.heap.size]? = some (.cells #[.int .i64 0] 3 (0, 0)) := by rw [hW1]; exact heap_alloc_new w _
  have s1 : W1.heap.size = w.heap.size + 1 := by rw [hW1]; simp
  have hRd := hH.out.below hb1
  have key : Calls Try.prog 82 #[.pointer (some ⟨p, 0, none⟩), .func (.func 85) #[] #[.pointer (some ⟨w.heap.size, 0, none⟩)]] W1 fun ex w' => ex = .returned (.tuple #[]) ∧
      w'.cell? ⟨w.heap.size, 0, none⟩ = some (.int .i64 ((rShort b at_ e).1 : Nat)) ∧ RdB w' base p A n c b (rShort b at_ e).2.1 (rShort b at_ e).2.2 ∧ Mod w w' p none := by
    by_cases h0 : e = 0
    · subst h0
      have hD : RB W1.drew (dropA A c at_) (b.drop at_) := (hRd.own.rb.below (Below.refl _ _).drew).drop c at_ (by omega) (by omega)
      have hk := rdS_bounds (b.drop at_) 0 0 (by omega) (by simp)
      refine (take85_any _ _ (fun w' => Below w.heap.size W1.drew w' ∧ w'.cell? ⟨w.heap.size, 0, none⟩ = some (.int .i64 ((rdS 0 0 (b.drop at_)).1 : Nat))) p n c at_ A W1 hRd.blk hat hcap (by omega) (by omega) _
        (clos85 w.heap.size (n - at_) (c - at_) (dropA A c at_) (b.drop at_) W1.drew (by rw [heap_drew]; exact hg) (by simp; omega) hD (by omega) (by omega)) ?_).mono ?_
      · rintro w' ⟨hb, _⟩
        rw [hb.block p hlt, heap_drew]
        exact hRd.blk
      · rintro ex w' ⟨rfl, w1, j, v, ⟨hb, hc⟩, hj, hp⟩
        obtain ⟨r1, r2, r3, r4⟩ := rd_took hH.out (hb1.trans (Below.drewL hb)) hj hp
        refine ⟨rfl, ?_, ?_, r2⟩
        · rw [r3 _ _ (by omega), hc]
          unfold rShort
          rw [if_neg (by omega)]
          split
          · rfl
          · rw [(hk.2.2.2.2 (by assumption)).1]
        · unfold rShort
          rw [if_neg (by omega)]
          split at r1
          · rename_i h1; rw [if_pos h1]; rw [h1] at r1; exact r1
          · rename_i h1; rw [if_neg h1]; exact r1
    · have e1 : rShort b at_ e = (0, at_, e) := by unfold rShort; rw [if_pos h0]
      rw [e1]
      refine (take_stop e (.slice A n c) at_ p _ W1 hRd.blk (by simp [h0])).mono ?_
      rintro ex w' ⟨rfl, rfl⟩
      exact ⟨rfl, cell_of_one hg, hRd, ⟨hb1.os, hb1.tape, hb1.output, hb1.size, fun q hq _ _ => hb1.block q hq⟩⟩
  refine key.mono ?_
  rintro ex w2 ⟨rfl, d1, hr, hm⟩
  have HF := Lib.hid (And.intro hr hm)
  clear hr hm key hRd hg hb1 hW1 s1
  go_wp2
  go_ret
  exact ⟨rfl, HF.out⟩
end
end Go.Proofs.Ytnkbkhlbogcfaaa
