/- The functions that take is handed: what each tells, and keeps · A reader's small methods · A reader's reads of numbers: short, signed, lists · The function that Text hands to take · A reader's reads: signed numbers, texts, lists · A reader's reads: how many follow, bytes · A reader's read of a number of so many bytes. -/
import Derived.Test.YtnkbkhlbogcfaaaUt
import Derived.Lib.BufferRead
set_option linter.unusedVariables false
set_option linter.unusedSimpArgs false
namespace Go.Proofs.Ytnkbkhlbogcfaaa
open Go.RowKit Go.Proofs.YtnkbkhlbogcfaaaW.PrintWords
noncomputable section

set_option maxHeartbeats 1000000 in
set_option maxRecDepth 100000 in
theorem clos85 (g n c : Nat) (A : Option Addr) (b : List UInt8) (w : World) (hg : w.heap[g]? = some (.cells #[.int .i64 0] 3 (0, 0))) (hl : b.length = n) (hR : RB w A b) (hn : n ≤ 1000000) (hnc : n ≤ c) :
    Calls Try.prog 85 #[.slice A n c, .pointer (some ⟨g, 0, none⟩)] w fun e w' => e = .returned (.tuple #[.int .i64 ((rdS 0 0 b).2.1 : Nat), .int .i64 ((rdS 0 0 b).2.2 : Nat)]) ∧
      Below g w w' ∧ w'.cell? ⟨g, 0, none⟩ = some (.int .i64 ((rdS 0 0 b).1 : Nat)) := by
  have c1 := cell_of_one hg
  have f1 := free_of_one hg
  have hG := Lib.hid hg
  have hS := short_read b A n c w hl hR hn hnc
  obtain ⟨x, k, er, hq⟩ : ∃ x k er, rdS 0 0 b = (x, k, er) := ⟨_, _, _, rfl⟩
  rw [hq] at hS ⊢
  dsimp only at hS ⊢
  have hS' := Lib.hid hS
  clear hS hg hR hq hl
  go_enter Try.func85, Try.ntmps85
  go_wp2_with fail
  refine hS'.out.mono ?_
  rintro e w1 ⟨rfl, rfl⟩
  go_wp2
  go_ret2
  exact ⟨rfl, (Below.refl _ _).setCell (by simp) _, cell_of_one (one_setCell hG.out)⟩

/-- what Signed makes of a short number -/
def sgS (q : Nat × Nat × Nat) : Int × Nat × Nat := if q.2.2 = 0 ∧ (2305843009213693952 : Int) ≤ ((q.1 / 2 : Nat) : Int) then (0, 0, 3) else (sgnR q.1, q.2.1, q.2.2)

set_option maxHeartbeats 1000000 in
set_option maxRecDepth 100000 in
theorem clos87 (g n c : Nat) (A : Option Addr) (b : List UInt8) (w : World) (hg : w.heap[g]? = some (.cells #[.int .i64 0] 3 (0, 0))) (hl : b.length = n) (hR : RB w A b) (hn : n ≤ 1000000) (hnc : n ≤ c) :
    Calls Try.prog 87 #[.slice A n c, .pointer (some ⟨g, 0, none⟩)] w fun e w' => e = .returned (.tuple #[.int .i64 ((sgS (rdS 0 0 b)).2.1 : Nat), .int .i64 ((sgS (rdS 0 0 b)).2.2 : Nat)]) ∧
      Below g w w' ∧ w'.cell? ⟨g, 0, none⟩ = some (.int .i64 (sgS (rdS 0 0 b)).1) := by
  have c1 := cell_of_one hg
  have f1 := free_of_one hg
  have hG := Lib.hid hg
  have hS := short_read b A n c w hl hR hn hnc
  have hx := rd_lt b
  have he := (rdS_bounds b 0 0 (by omega) (by simp)).2.2.2.2
  obtain ⟨x, k, er, hq⟩ : ∃ x k er, rdS 0 0 b = (x, k, er) := ⟨_, _, _, rfl⟩
  rw [hq] at hS hx he ⊢
  dsimp only at hS hx he ⊢
  have x0 : (0 : Int) ≤ (x : Int) := by omega
  have hS' := Lib.hid hS
  have hE := Lib.hid he
  clear hS hg hR hq hl he
  by_cases h0 : er = 0
  · subst h0
    by_cases hb : (2305843009213693952 : Int) ≤ ((x / 2 : Nat) : Int)
    · have e1 : sgS (x, k, 0) = (0, 0, 3) := by unfold sgS; rw [if_pos ⟨rfl, hb⟩]
      rw [e1]
      have g1 : (2305843009213693952 : Int) ≤ (x : Int) / 2 := by omega
      clear hb e1
      go_enter Try.func87, Try.ntmps87
      go_wp2_with fail
      refine hS'.out.mono ?_
      rintro e w1 ⟨rfl, rfl⟩
      go_wp2
      go_ret2
      exact ⟨rfl, Below.refl _ _, c1⟩
    · have g1 : decide ((2305843009213693952 : Int) ≤ (x : Int) / 2) = false := by simp; omega
      have g3 : (x : Int) / 2 ≤ 9223372036854770000 := by omega
      have e1 : sgS (x, k, 0) = (sgnR x, k, 0) := by unfold sgS; rw [if_neg (fun h => hb h.2)]
      rw [e1]
      dsimp only
      clear hb e1
      by_cases ho : x % 2 = 1
      · have g2 : ((x : Int) % 2 == 1) = true := by simp; omega
        have e2 := Lib.hid (show sgnR x = -((x : Int) / 2 + 1) by unfold sgnR; rw [if_pos ho]; omega)
        clear ho hx
        go_enter Try.func87, Try.ntmps87
        go_wp2_with fail
        refine hS'.out.mono ?_
        rintro e w1 ⟨rfl, rfl⟩
        go_wp2
        go_ret2
        refine ⟨rfl, (Below.refl _ _).setCell (by simp) _, ?_⟩
        rw [e2.out]
        exact cell_of_one (one_setCell hG.out)
      · have g2 : ((x : Int) % 2 == 1) = false := by simp; omega
        have e2 := Lib.hid (show sgnR x = (x : Int) / 2 by unfold sgnR; rw [if_neg ho]; omega)
        clear ho hx
        go_enter Try.func87, Try.ntmps87
        go_wp2_with fail
        refine hS'.out.mono ?_
        rintro e w1 ⟨rfl, rfl⟩
        go_wp2
        go_ret2
        refine ⟨rfl, (Below.refl _ _).setCell (by simp) _, ?_⟩
        rw [e2.out]
        exact cell_of_one (one_setCell hG.out)
  · obtain ⟨rfl, rfl⟩ := hE.out h0
    have e1 : sgS (0, 0, er) = (0, 0, er) := by unfold sgS; rw [if_neg (fun h => h0 h.1)]; simp [sgnR]
    rw [e1]
    have g1 : ((er : Int) == 0) = false := by simp; omega
    clear e1 h0 hx x0
    go_enter Try.func87, Try.ntmps87
    go_wp2_with fail
    refine hS'.out.mono ?_
    rintro e w1 ⟨rfl, rfl⟩
    go_wp2
    go_ret2
    exact ⟨rfl, (Below.refl _ _).setCell (by simp) _, cell_of_one (one_setCell hG.out)⟩

/-- what List makes of a short number -/
def liS (most : Int) (n : Nat) (q : Nat × Nat × Nat) : Nat × Nat × Nat := if q.2.2 ≠ 0 then (0, 0, q.2.2) else if most < (q.1 : Int) then (0, 0, 3) else if n < q.2.1 + q.1 then (0, 0, 2) else q

set_option maxHeartbeats 1000000 in
set_option maxRecDepth 100000 in
theorem clos98 (most : Int) (h g n c : Nat) (A : Option Addr) (b : List UInt8) (w : World) (hh : w.heap[h]? = some (.cells #[.int .i64 most] 3 (0, 0))) (hg : w.heap[g]? = some (.cells #[.int .i64 0] 3 (0, 0))) (hl : b.length = n) (hR : RB w A b) (hn : n ≤ 1000000) (hnc : n ≤ c) :
    Calls Try.prog 98 #[.slice A n c, .pointer (some ⟨h, 0, none⟩), .pointer (some ⟨g, 0, none⟩)] w fun e w' => e = .returned (.tuple #[.int .i64 ((liS most n (rdS 0 0 b)).2.1 : Nat), .int .i64 ((liS most n (rdS 0 0 b)).2.2 : Nat)]) ∧
      Below g w w' ∧ w'.cell? ⟨g, 0, none⟩ = some (.int .i64 ((liS most n (rdS 0 0 b)).1 : Nat)) := by
  have c1 := cell_of_one hg
  have f1 := free_of_one hg
  have c2 := cell_of_one hh
  have hG := Lib.hid hg
  have hS := short_read b A n c w hl hR hn hnc
  have hx := rd_lt b
  have hk := (rdS_bounds b 0 0 (by omega) (by simp)).2.1
  obtain ⟨x, k, er, hq⟩ : ∃ x k er, rdS 0 0 b = (x, k, er) := ⟨_, _, _, rfl⟩
  rw [hq] at hS hx hk ⊢
  dsimp only at hS hx hk ⊢
  have x0 : (0 : Int) ≤ (x : Int) := by omega
  have k0 : (0 : Int) ≤ (k : Int) := by omega
  have kn : (k : Int) ≤ (n : Int) := by omega
  have hS' := Lib.hid hS
  clear hS hg hR hq hl hh hk
  by_cases h0 : er = 0
  · subst h0
    by_cases hb : most < (x : Int)
    · have e1 : liS most n (x, k, 0) = (0, 0, 3) := by unfold liS; rw [if_neg (by simp), if_pos hb]
      rw [e1]
      clear e1
      go_enter Try.func98, Try.ntmps98
      go_wp2_with fail
      refine hS'.out.mono ?_
      rintro e w1 ⟨rfl, rfl⟩
      go_wp2
      go_ret2
      exact ⟨rfl, Below.refl _ _, c1⟩
    · by_cases hs : n < k + x
      · have e1 : liS most n (x, k, 0) = (0, 0, 2) := by unfold liS; rw [if_neg (by simp), if_neg hb, if_pos hs]
        have g1 : (n : Int) - (k : Int) < (x : Int) := by omega
        rw [e1]
        clear e1 hs
        go_enter Try.func98, Try.ntmps98
        go_wp2_with fail
        refine hS'.out.mono ?_
        rintro e w1 ⟨rfl, rfl⟩
        go_wp2
        go_ret2
        exact ⟨rfl, Below.refl _ _, c1⟩
      · have e1 : liS most n (x, k, 0) = (x, k, 0) := by unfold liS; rw [if_neg (by simp), if_neg hb, if_neg hs]
        have g1 : (x : Int) ≤ (n : Int) - (k : Int) := by omega
        rw [e1]
        clear e1 hs
        go_enter Try.func98, Try.ntmps98
        go_wp2_with fail
        refine hS'.out.mono ?_
        rintro e w1 ⟨rfl, rfl⟩
        go_wp2
        go_ret2
        exact ⟨rfl, (Below.refl _ _).setCell (by simp) _, cell_of_one (one_setCell hG.out)⟩
  · have e1 : liS most n (x, k, er) = (0, 0, er) := by unfold liS; rw [if_pos h0]
    rw [e1]
    have g1 : ((er : Int) == 0) = false := by simp; omega
    have g2 : ((er : Int) != 0) = true := by simp; omega
    clear e1 h0
    go_enter Try.func98, Try.ntmps98
    go_wp2_with fail
    refine hS'.out.mono ?_
    rintro e w1 ⟨rfl, rfl⟩
    go_wp2
    go_ret2
    exact ⟨rfl, Below.refl _ _, c1⟩
end
end Go.Proofs.Ytnkbkhlbogcfaaa

set_option linter.unusedVariables false
set_option linter.unusedSimpArgs false
namespace Go.Proofs.Ytnkbkhlbogcfaaa
open Go.RowKit Go.Proofs.YtnkbkhlbogcfaaaW.PrintWords
noncomputable section

theorem mod_of_below {w w1 : World} (h : Below w.heap.size w w1) (p : Nat) (row : Option Nat) : Mod w w1 p row := ⟨h.os, h.tape, h.output, h.size, fun q hq _ _ => h.block q hq⟩
theorem rerr_any (p base n c at_ : Nat) (e : Int) (A : Option Addr) (b : List UInt8) (w : World) (h : RdB w base p A n c b at_ e) :
    Calls Try.prog 48 #[.pointer (some ⟨p, 0, none⟩)] w fun ex w' => ex = .returned (.int .i64 e) ∧ w' = w := by
  obtain ⟨c1, c2, c3⟩ := rd_cells h.blk
  clear h
  go_enter Try.func48, Try.ntmps48
  go_wp2
  go_ret
  exact ⟨rfl, rfl⟩
theorem rat_any (p base n c at_ : Nat) (e : Int) (A : Option Addr) (b : List UInt8) (w : World) (h : RdB w base p A n c b at_ e) :
    Calls Try.prog 49 #[.pointer (some ⟨p, 0, none⟩)] w fun ex w' => ex = .returned (.int .i64 at_) ∧ w' = w := by
  obtain ⟨c1, c2, c3⟩ := rd_cells h.blk
  clear h
  go_enter Try.func49, Try.ntmps49
  go_wp2
  go_ret
  exact ⟨rfl, rfl⟩
set_option maxRecDepth 100000 in
theorem rleft_any (p base n c at_ : Nat) (e : Int) (A : Option Addr) (b : List UInt8) (w : World) (h : RdB w base p A n c b at_ e) (hat : at_ ≤ n) (hn : n ≤ 1000000) :
    Calls Try.prog 58 #[.pointer (some ⟨p, 0, none⟩)] w fun ex w' => ex = .returned (.int .i64 ((n - at_ : Nat) : Int)) ∧ Below w.heap.size w w' := by
  obtain ⟨c1, c2, c3⟩ := rd_cells h.blk
  have a0 : (0 : Int) ≤ (at_ : Int) := by omega
  have a1 : (at_ : Int) ≤ (n : Int) := by omega
  have e1 : ((n - at_ : Nat) : Int) = (n : Int) - (at_ : Int) := by omega
  clear h
  rw [e1]
  clear e1
  go_enter Try.func58, Try.ntmps58
  go_wp2
  go_quiet (fail)
  go_wp2
  go_ret
  exact ⟨rfl, pw_below_drewN (Below.refl _ _) _⟩
set_option maxHeartbeats 1000000 in
set_option maxRecDepth 100000 in
theorem rfail_any (er : Int) (p base n c at_ : Nat) (e : Int) (A : Option Addr) (b : List UInt8) (w : World) (h : RdB w base p A n c b at_ e) :
    Calls Try.prog 66 #[.pointer (some ⟨p, 0, none⟩), .int .i64 er] w fun ex w' => ex = .returned (.tuple #[]) ∧ RdB w' base p A n c b at_ (if e = 0 then er else e) ∧ Mod w w' p none := by
  obtain ⟨c1, c2, c3⟩ := rd_cells h.blk
  have f1 := frozen_of_row w p 2 _ _ h.blk
  have H := Lib.hid h
  clear h
  by_cases h0 : e = 0
  · subst h0
    rw [if_pos rfl]
    go_enter Try.func66, Try.ntmps66
    go_wp2
    go_end0
    obtain ⟨h1, h2, _⟩ := rd_took (j := 2) (v := .int .i64 er) (at' := at_) (e' := er) H.out (Below.refl _ _) rfl (by rw [heap_setCell_same _ _ _ _ _ _ H.out.blk]; rfl)
    exact ⟨rfl, h1, h2⟩
  · rw [if_neg h0]
    go_enter Try.func66, Try.ntmps66
    go_wp2
    go_end0
    exact ⟨rfl, H.out, Mod.refl _ _ _⟩
set_option maxHeartbeats 1000000 in
set_option maxRecDepth 100000 in
theorem rend_any (p base n c at_ : Nat) (e : Int) (A : Option Addr) (b : List UInt8) (w : World) (h : RdB w base p A n c b at_ e) (hat : at_ ≤ n) (hn : n ≤ 1000000) :
    Calls Try.prog 57 #[.pointer (some ⟨p, 0, none⟩)] w fun ex w' => ex = .returned (.int .i64 (if e = 0 ∧ at_ < n then 3 else e)) ∧ RdB w' base p A n c b at_ (if e = 0 ∧ at_ < n then 3 else e) ∧ Mod w w' p none := by
  have H := Lib.hid h
  clear h
  obtain ⟨e', he'⟩ : ∃ e' : Int, e' = (if e = 0 ∧ at_ < n then (3 : Int) else e) := ⟨_, rfl⟩
  rw [← he']
  have E0 := Lib.hid he'
  clear he'
  go_enter Try.func57, Try.ntmps57
  go_wp2_with fail
  refine (rleft_any p base n c at_ e A b _ H.out hat hn).mono ?_
  rintro ex w1 ⟨rfl, hb1⟩
  have H1 := Lib.hid (H.out.below hb1)
  have M1 := Lib.hid (mod_of_below hb1 p none)
  clear hb1
  by_cases hlt : at_ < n
  · have hltI : (0 : Int) < ((n - at_ : Nat) : Int) := by omega
    have E1 := Lib.hid (show e' = (if e = 0 then 3 else e) by
      rw [E0.out]
      by_cases h0 : e = 0
      · rw [if_pos ⟨h0, hlt⟩, if_pos h0]
      · rw [if_neg (fun h => h0 h.1), if_neg h0])
    obtain ⟨d, hd⟩ : ∃ d, d = n - at_ := ⟨_, rfl⟩
    rw [← hd] at hltI ⊢
    clear hd
    go_wp2_with fail
    refine (rfail_any 3 p base n c at_ e A b _ H1.out).mono ?_
    rintro ex w2 ⟨rfl, hr, hm⟩
    rw [← E1.out] at hr
    obtain ⟨c1, c2, c3⟩ := rd_cells hr.blk
    have HR := Lib.hid (And.intro hr (Mod.trans M1.out (Succ.refl _ _) hm))
    clear hr hm
    go_wp2
    go_ret
    exact ⟨rfl, HR.out⟩
  · have e0 : n - at_ = 0 := by omega
    have e1 : e' = e := by rw [E0.out]; exact if_neg (fun h => hlt h.2)
    subst e1
    rw [e0]
    clear e0
    obtain ⟨c1, c2, c3⟩ := rd_cells H1.out.blk
    go_wp2
    go_ret
    exact ⟨rfl, H1.out, M1.out⟩
end
end Go.Proofs.Ytnkbkhlbogcfaaa

set_option linter.unusedVariables false
set_option linter.unusedSimpArgs false
namespace Go.Proofs.Ytnkbkhlbogcfaaa
open Go.RowKit Go.Proofs.YtnkbkhlbogcfaaaW.PrintWords
noncomputable section

theorem Below.drewL {B : Nat} {w w' : World} (h : Below B w.drew w') : Below B w w' := ((Below.refl B w).drew).trans h

set_option maxHeartbeats 1000000 in
set_option maxRecDepth 100000 in
theorem shortR_any (p base n c at_ : Nat) (e : Int) (A : Option Addr) (b : List UInt8) (w : World) (h : RdB w base p A n c b at_ e) (hat : at_ ≤ n) (hn : n ≤ 900000) :
    Calls Try.prog 47 #[.pointer (some ⟨p, 0, none⟩)] w fun ex w' => ex = .returned (.int .i64 ((rShort b at_ e).1 : Nat)) ∧ RdB w' base p A n c b (rShort b at_ e).2.1 (rShort b at_ e).2.2 ∧ Mod w w' p none := by
  have hH := Lib.hid h
  have hcap := h.own.cap
  have hlen := h.own.len
  have hlt := h.lt
  clear h
  go_enter Try.func47, Try.ntmps47
  go_wp2_with fail
  obtain ⟨W1, hW1⟩ : ∃ W1, W1 = w.alloc (.cells #[.int .i64 0] 3) := ⟨_, rfl⟩
  rw [← hW1]
  have hb1 : Below w.heap.size w W1 := by rw [hW1]; exact below_alloc (Below.refl _ _) _
  have hg : W1.heap[w.heap.size]? = some (.cells #[.int .i64 0] 3 (0, 0)) := by rw [hW1]; exact heap_alloc_new w _
  have s1 : W1.heap.size = w.heap.size + 1 := by rw [hW1]; simp
  have hRd := hH.out.below hb1
  have key : Calls Try.prog 82 #[.pointer (some ⟨p, 0, none⟩), .func (.func 85) #[] #[.pointer (some ⟨w.heap.size, 0, none⟩)]] W1 fun ex w' => ex = .returned (.tuple #[]) ∧
      w'.cell? ⟨w.heap.size, 0, none⟩ = some (.int .i64 ((rShort b at_ e).1 : Nat)) ∧ RdB w' base p A n c b (rShort b at_ e).2.1 (rShort b at_ e).2.2 ∧ Mod w w' p none := by
    by_cases h0 : e = 0
    · subst h0
      have hD : RB W1.drew (dropA A c at_) (b.drop at_) := (hRd.own.rb.below (Below.refl _ _).drew).drop c at_ (by omega) (by omega)
      have hk := rdS_bounds (b.drop at_) 0 0 (by omega) (by simp)
      refine (take85_any _ _ (fun w' => Below w.heap.size W1.drew w' ∧ w'.cell? ⟨w.heap.size, 0, none⟩ = some (.int .i64 ((rdS 0 0 (b.drop at_)).1 : Nat))) p n c at_ A W1 hRd.blk hat hcap (by omega) (by omega) _
        (clos85 w.heap.size (n - at_) (c - at_) (dropA A c at_) (b.drop at_) W1.drew (by rw [heap_drew]; exact hg) (by simp; omega) hD (by omega) (by omega)) ?_).mono ?_
      · rintro w' ⟨hb, _⟩
        rw [hb.block p hlt, heap_drew]
        exact hRd.blk
      · rintro ex w' ⟨rfl, w1, j, v, ⟨hb, hc⟩, hj, hp⟩
        obtain ⟨r1, r2, r3, r4⟩ := rd_took hH.out (hb1.trans (Below.drewL hb)) hj hp
        refine ⟨rfl, ?_, ?_, r2⟩
        · rw [r3 _ _ (by omega), hc]
          unfold rShort
          rw [if_neg (by omega)]
          split
          · rfl
          · rw [(hk.2.2.2.2 (by assumption)).1]
        · unfold rShort
          rw [if_neg (by omega)]
          split at r1
          · rename_i h1; rw [if_pos h1]; rw [h1] at r1; exact r1
          · rename_i h1; rw [if_neg h1]; exact r1
    · have e1 : rShort b at_ e = (0, at_, e) := by unfold rShort; rw [if_pos h0]
      rw [e1]
      refine (take_stop e (.slice A n c) at_ p _ W1 hRd.blk (by simp [h0])).mono ?_
      rintro ex w' ⟨rfl, rfl⟩
      exact ⟨rfl, cell_of_one hg, hRd, ⟨hb1.os, hb1.tape, hb1.output, hb1.size, fun q hq _ _ => hb1.block q hq⟩⟩
  refine key.mono ?_
  rintro ex w2 ⟨rfl, d1, hr, hm⟩
  have HF := Lib.hid (And.intro hr hm)
  clear hr hm key hRd hg hb1 hW1 s1
  go_wp2
  go_ret
  exact ⟨rfl, HF.out⟩
end
end Go.Proofs.Ytnkbkhlbogcfaaa

set_option linter.unusedVariables false
set_option linter.unusedSimpArgs false
namespace Go.Proofs.Ytnkbkhlbogcfaaa
open Go.RowKit Go.Proofs.YtnkbkhlbogcfaaaW.PrintWords
noncomputable section

/-- bytes as a string -/
def bs (b : List UInt8) : ByteArray := ⟨b.toArray⟩
theorem sb_bs (b : List UInt8) : sb (bs b) = b := by simp [sb, bs]
theorem bs_sb (s : ByteArray) : bs (sb s) = s := by simp [sb, bs]
theorem bs_size (b : List UInt8) : (bs b).size = b.length := by simp [bs, ByteArray.size]
theorem run_convB {W : World} {A : Option Addr} {n c : Nat} {b : List UInt8} (hR : RB W A b) (hl : b.length = n) : (convert 22 9 (.slice A n c)).run Try.prog W = .ok (.string (bs b)) W := by
  subst hl
  cases A with
  | none =>
    have h0 : b = [] := by
      rcases Nat.eq_zero_or_pos b.length with h | h
      · exact List.eq_nil_of_length_eq_zero h
      · obtain ⟨ad, e, _⟩ := hR.2.2 h
        cases e
    subst h0
    exact Lib.run_convert_nil_bytes W 22 9 5 c Try.underlying22 Try.underlying5 Try.underlying9
  | some ad =>
    refine run_convert_bytes_back (P := Try.prog) W 22 9 5 ad c b Try.underlying22 Try.underlying5 Try.underlying9 fun j hj => ?_
    obtain ⟨ad', e, h⟩ := hR.at_ (List.getElem?_eq_getElem hj)
    injection e with e
    rw [e]
    exact h
section
variable {ops : Array Oper} {rest : List Oper} {o : Oper} {a : Act} {Q : Exit → Act → World → Prop} {W : World} {s x : Operand}
/-- string(b) -/
theorem convB (A : Option Addr) (n c : Nat) (b : List UInt8) (hgd : o.guard = none) (ho : o.op = .convert 22 9 x) (hx : a.eval x = .slice A n c) (hR : RB W A b) (hl : b.length = n)
    (h : wpList Try.prog ops Q rest (a.put o.dst (.string (bs b))) W) : wpList Try.prog ops Q (o :: rest) a W := by
  refine wpList_plain hgd fun K hK => ?_
  have hr := run_convB (c := c) hR hl
  unfold Oper.wp execOp
  simp only [ho, hx, Sem.run_bind, Sem.run_pure, Result.andThen_ok, hr]
  exact hK _ _ h
end

/-- what Text makes of a short number -/
def txS (n : Nat) (b : List UInt8) (q : Nat × Nat × Nat) : List UInt8 × Nat × Nat := if q.2.2 ≠ 0 then ([], 0, q.2.2) else if n < q.2.1 + q.1 then ([], 0, 2) else ((b.drop q.2.1).take q.1, q.2.1 + q.1, 0)

set_option maxHeartbeats 1000000 in
set_option maxRecDepth 100000 in
theorem clos88 (g n c : Nat) (A : Option Addr) (b : List UInt8) (w : World) (hg : w.heap[g]? = some (.cells #[.string ⟨#[]⟩] 9 (0, 0))) (hl : b.length = n) (hR : RB w A b) (hn : n ≤ 1000000) (hnc : n ≤ c) :
    Calls Try.prog 88 #[.slice A n c, .pointer (some ⟨g, 0, none⟩)] w fun e w' => e = .returned (.tuple #[.int .i64 ((txS n b (rdS 0 0 b)).2.1 : Nat), .int .i64 ((txS n b (rdS 0 0 b)).2.2 : Nat)]) ∧
      Below g w w' ∧ w'.cell? ⟨g, 0, none⟩ = some (.string (bs (txS n b (rdS 0 0 b)).1)) := by
  have c1 := cell_of_one hg
  have f1 := free_of_one hg
  have hG := Lib.hid hg
  have hS := short_read b A n c w hl hR hn hnc
  have hx := rd_lt b
  have hk := (rdS_bounds b 0 0 (by omega) (by simp)).2.1
  have he := (rdS_bounds b 0 0 (by omega) (by simp)).2.2.2.2
  obtain ⟨x, k, er, hq⟩ : ∃ x k er, rdS 0 0 b = (x, k, er) := ⟨_, _, _, rfl⟩
  rw [hq] at hS hx hk he ⊢
  dsimp only at hS hx hk he ⊢
  have x0 : (0 : Int) ≤ (x : Int) := by omega
  have k0 : (0 : Int) ≤ (k : Int) := by omega
  have kn : (k : Int) ≤ (n : Int) := by omega
  have kc : (k : Int) ≤ (c : Int) := by omega
  have nc : (n : Int) ≤ (c : Int) := by omega
  have hS' := Lib.hid hS
  have hH := Lib.hid (And.intro hR hl)
  have hE := Lib.hid he
  clear hS hg hR hq hl he
  by_cases h0 : er = 0
  · subst h0
    by_cases hs : n < k + x
    · have e1 : txS n b (x, k, 0) = ([], 0, 2) := by unfold txS; rw [if_neg (by simp), if_pos hs]
      have g1 : (n : Int) - (k : Int) < (x : Int) := by omega
      rw [e1]
      clear e1 hs
      go_enter Try.func88, Try.ntmps88
      go_wp2_with fail
      refine hS'.out.mono ?_
      rintro e w1 ⟨rfl, rfl⟩
      go_wp2
      go_ret2
      exact ⟨rfl, Below.refl _ _, c1⟩
    · have e1 : txS n b (x, k, 0) = ((b.drop k).take x, k + x, 0) := by unfold txS; rw [if_neg (by simp), if_neg hs]
      have g1 : (x : Int) ≤ (n : Int) - (k : Int) := by omega
      have g2 : (k : Int) + (x : Int) ≤ (n : Int) := by omega
      rw [e1]
      have hD := hH.out.1.drop c k (by omega) (by have := hH.out.2; omega)
      unfold dropA at hD
      clear e1 hs
      by_cases hca : c = k
      all_goals
        first
          | (rw [if_pos hca] at hD; have hca' := hca.symm; subst hca')
          | rw [if_neg hca] at hD
        have HD := Lib.hid (hD.take x (by have := hH.out.2; simp; omega))
        have HL := Lib.hid (show ((b.drop k).take x).length = k + x - k by have := hH.out.2; simp; omega)
        clear hD
        go_enter Try.func88, Try.ntmps88
        go_wp2_with fail
        refine hS'.out.mono ?_
        rintro e w1 ⟨rfl, rfl⟩
        go_wp2_with (refine convB _ (k + x - k) _ ((b.drop k).take x) rfl rfl rfl HD.out HL.out ?_)
        go_ret2
        have e2 : ((k + x : Nat) : Int) = (k : Int) + (x : Int) := by omega
        dsimp only
        rw [e2]
        exact ⟨rfl, (Below.refl _ _).setCell (by simp) _, cell_of_one (one_setCell hG.out)⟩
  · obtain ⟨rfl, rfl⟩ := hE.out h0
    have e1 : txS n b (0, 0, er) = ([], 0, er) := by unfold txS; rw [if_pos h0]
    rw [e1]
    have g1 : ((er : Int) == 0) = false := by simp; omega
    have HN : ∀ A', RB w A' [] := fun A' => ⟨by simp [bv], by simp, fun h => absurd h (by simp)⟩
    have HN := Lib.hid HN
    clear e1 h0 hx x0 k0 kn kc hk
    go_enter Try.func88, Try.ntmps88
    go_wp2_with fail
    refine hS'.out.mono ?_
    rintro e w1 ⟨rfl, rfl⟩
    go_wp2_with (refine convB _ 0 _ [] rfl rfl rfl (HN.out _) rfl ?_)
    all_goals
      go_ret2
      exact ⟨rfl, (Below.refl _ _).setCell (by simp) _, cell_of_one (one_setCell hG.out)⟩
end
end Go.Proofs.Ytnkbkhlbogcfaaa

set_option linter.unusedVariables false
set_option linter.unusedSimpArgs false
namespace Go.Proofs.Ytnkbkhlbogcfaaa
open Go.RowKit Go.Proofs.YtnkbkhlbogcfaaaW.PrintWords
noncomputable section

theorem rSigned_eq (b : List UInt8) (at_ : Nat) : rSigned b at_ 0 = ((sgS (rdS 0 0 (b.drop at_))).1, (if (sgS (rdS 0 0 (b.drop at_))).2.2 = 0 then at_ + (sgS (rdS 0 0 (b.drop at_))).2.1 else at_), (((sgS (rdS 0 0 (b.drop at_))).2.2 : Nat) : Int)) := by
  have he := (rdS_bounds (b.drop at_) 0 0 (by omega) (by simp)).2.2.2.2
  unfold rSigned rShort sgS
  generalize rdS 0 0 (b.drop at_) = q at *
  obtain ⟨x, k, er⟩ := q
  dsimp only at he ⊢
  by_cases h0 : er = 0
  · subst h0
    by_cases hb : (2305843009213693952 : Int) ≤ (x : Int) / 2
    · simp [hb]
    · simp [hb]
  · obtain ⟨rfl, rfl⟩ := he h0
    simp [h0, sgnR]
theorem rText_eq (b : List UInt8) (at_ : Nat) (h : at_ ≤ b.length) : rText b at_ 0 = ((txS (b.length - at_) (b.drop at_) (rdS 0 0 (b.drop at_))).1, (if (txS (b.length - at_) (b.drop at_) (rdS 0 0 (b.drop at_))).2.2 = 0 then at_ + (txS (b.length - at_) (b.drop at_) (rdS 0 0 (b.drop at_))).2.1 else at_), (((txS (b.length - at_) (b.drop at_) (rdS 0 0 (b.drop at_))).2.2 : Nat) : Int)) := by
  unfold rText rShort txS
  generalize rdS 0 0 (b.drop at_) = q at *
  obtain ⟨x, k, er⟩ := q
  dsimp only
  by_cases h0 : er = 0
  · subst h0
    by_cases hb : b.length < at_ + k + x
    · have : b.length - at_ < k + x := by omega
      simp [hb, this]
    · have : ¬ b.length - at_ < k + x := by omega
      simp [hb, this, Nat.add_assoc]
      omega
  · simp [h0]
theorem rList_eq (b : List UInt8) (most : Int) (at_ : Nat) (h : at_ ≤ b.length) : rList b most at_ 0 = ((liS most (b.length - at_) (rdS 0 0 (b.drop at_))).1, (if (liS most (b.length - at_) (rdS 0 0 (b.drop at_))).2.2 = 0 then at_ + (liS most (b.length - at_) (rdS 0 0 (b.drop at_))).2.1 else at_), (((liS most (b.length - at_) (rdS 0 0 (b.drop at_))).2.2 : Nat) : Int)) := by
  unfold rList rShort liS
  generalize rdS 0 0 (b.drop at_) = q at *
  obtain ⟨x, k, er⟩ := q
  dsimp only
  by_cases h0 : er = 0
  · subst h0
    by_cases hm : most < (x : Int)
    · simp [hm]
    · by_cases hb : b.length < at_ + k + x
      · have : b.length - at_ < k + x := by omega
        simp [hb, this, hm]
      · have : ¬ b.length - at_ < k + x := by omega
        simp [hb, this, hm]
  · simp [h0]


set_option maxHeartbeats 1000000 in
set_option maxRecDepth 100000 in
theorem signedR_any (p base n c at_ : Nat) (e : Int) (A : Option Addr) (b : List UInt8) (w : World) (h : RdB w base p A n c b at_ e) (hat : at_ ≤ n) (hn : n ≤ 900000) :
    Calls Try.prog 55 #[.pointer (some ⟨p, 0, none⟩)] w fun ex w' => ex = .returned (.int .i64 (rSigned b at_ e).1) ∧ RdB w' base p A n c b (rSigned b at_ e).2.1 (rSigned b at_ e).2.2 ∧ Mod w w' p none := by
  have hH := Lib.hid h
  have hcap := h.own.cap
  have hlen := h.own.len
  have hlt := h.lt
  clear h
  go_enter Try.func55, Try.ntmps55
  go_wp2_with fail
  obtain ⟨W1, hW1⟩ : ∃ W1, W1 = w.alloc (.cells #[.int .i64 0] 3) := ⟨_, rfl⟩
  rw [← hW1]
  have hb1 : Below w.heap.size w W1 := by rw [hW1]; exact below_alloc (Below.refl _ _) _
  have hg : W1.heap[w.heap.size]? = some (.cells #[.int .i64 0] 3 (0, 0)) := by rw [hW1]; exact heap_alloc_new w _
  have s1 : W1.heap.size = w.heap.size + 1 := by rw [hW1]; simp
  have hRd := hH.out.below hb1
  have key : Calls Try.prog 82 #[.pointer (some ⟨p, 0, none⟩), .func (.func 87) #[] #[.pointer (some ⟨w.heap.size, 0, none⟩)]] W1 fun ex w' => ex = .returned (.tuple #[]) ∧
      w'.cell? ⟨w.heap.size, 0, none⟩ = some (.int .i64 (rSigned b at_ e).1) ∧ RdB w' base p A n c b (rSigned b at_ e).2.1 (rSigned b at_ e).2.2 ∧ Mod w w' p none := by
    by_cases h0 : e = 0
    · subst h0
      have hD : RB W1.drew (dropA A c at_) (b.drop at_) := (hRd.own.rb.below (Below.refl _ _).drew).drop c at_ (by omega) (by omega)
      have hkb : at_ + (sgS (rdS 0 0 (b.drop at_))).2.1 ≤ 1000000 := by
        have hk := rdS_bounds (b.drop at_) 0 0 (by omega) (by simp)
        have hl9 : (b.drop at_).length = n - at_ := by simp; omega
        have h5 := rd_lt (b.drop at_)
        unfold sgS
        generalize rdS 0 0 (b.drop at_) = q at *
        obtain ⟨x, k, er⟩ := q
        dsimp only at hk ⊢
        repeat' split
        all_goals (dsimp only at *; omega)
      rw [rSigned_eq]
      refine (take87_any (sgS (rdS 0 0 (b.drop at_))).2.1 (sgS (rdS 0 0 (b.drop at_))).2.2 (fun w' => Below w.heap.size W1.drew w' ∧ w'.cell? ⟨w.heap.size, 0, none⟩ = some (.int .i64 ((sgS (rdS 0 0 (b.drop at_))).1))) p n c at_ A W1 hRd.blk hat hcap (by omega) hkb _
        (by have := clos87 w.heap.size (n - at_) (c - at_) (dropA A c at_) (b.drop at_) W1.drew (by rw [heap_drew]; exact hg) (by simp; omega) hD (by omega) (by omega); first | exact this | (rw [hlen]; exact this)) ?_).mono ?_
      · rintro w' ⟨hb, _⟩
        rw [hb.block p hlt, heap_drew]
        exact hRd.blk
      · rintro ex w' ⟨rfl, w1, j, v, ⟨hb, hc⟩, hj, hp⟩
        obtain ⟨r1, r2, r3, r4⟩ := rd_took hH.out (hb1.trans (Below.drewL hb)) hj hp
        exact ⟨rfl, by rw [r3 _ _ (by omega), hc], r1, r2⟩
    · have e1 : rSigned b at_ e = (0, at_, e) := by unfold rSigned rShort; simp [h0]
      rw [e1]
      refine (take_stop e (.slice A n c) at_ p _ W1 hRd.blk (by simp [h0])).mono ?_
      rintro ex w' ⟨rfl, rfl⟩
      exact ⟨rfl, cell_of_one hg, hRd, mod_of_below hb1 p none⟩
  refine key.mono ?_
  rintro ex w2 ⟨rfl, d1, hr, hm⟩
  have HF := Lib.hid (And.intro hr hm)
  clear hr hm key hRd hg hb1 hW1 s1
  go_wp2
  go_ret
  exact ⟨rfl, HF.out⟩


set_option maxHeartbeats 1000000 in
set_option maxRecDepth 100000 in
theorem textR_any (p base n c at_ : Nat) (e : Int) (A : Option Addr) (b : List UInt8) (w : World) (h : RdB w base p A n c b at_ e) (hat : at_ ≤ n) (hn : n ≤ 900000) :
    Calls Try.prog 56 #[.pointer (some ⟨p, 0, none⟩)] w fun ex w' => ex = .returned (.string (bs (rText b at_ e).1)) ∧ RdB w' base p A n c b (rText b at_ e).2.1 (rText b at_ e).2.2 ∧ Mod w w' p none := by
  have hH := Lib.hid h
  have hcap := h.own.cap
  have hlen := h.own.len
  have hlt := h.lt
  clear h
  go_enter Try.func56, Try.ntmps56
  go_wp2_with fail
  obtain ⟨W1, hW1⟩ : ∃ W1, W1 = w.alloc (.cells #[.string ⟨#[]⟩] 9) := ⟨_, rfl⟩
  rw [← hW1]
  have hb1 : Below w.heap.size w W1 := by rw [hW1]; exact below_alloc (Below.refl _ _) _
  have hg : W1.heap[w.heap.size]? = some (.cells #[.string ⟨#[]⟩] 9 (0, 0)) := by rw [hW1]; exact heap_alloc_new w _
  have s1 : W1.heap.size = w.heap.size + 1 := by rw [hW1]; simp
  have hRd := hH.out.below hb1
  have key : Calls Try.prog 82 #[.pointer (some ⟨p, 0, none⟩), .func (.func 88) #[] #[.pointer (some ⟨w.heap.size, 0, none⟩)]] W1 fun ex w' => ex = .returned (.tuple #[]) ∧
      w'.cell? ⟨w.heap.size, 0, none⟩ = some (.string (bs (rText b at_ e).1)) ∧ RdB w' base p A n c b (rText b at_ e).2.1 (rText b at_ e).2.2 ∧ Mod w w' p none := by
    by_cases h0 : e = 0
    · subst h0
      have hD : RB W1.drew (dropA A c at_) (b.drop at_) := (hRd.own.rb.below (Below.refl _ _).drew).drop c at_ (by omega) (by omega)
      have hkb : at_ + (txS (b.length - at_) (b.drop at_) (rdS 0 0 (b.drop at_))).2.1 ≤ 1000000 := by
        have hk := rdS_bounds (b.drop at_) 0 0 (by omega) (by simp)
        have hl9 : (b.drop at_).length = n - at_ := by simp; omega
        have h5 := rd_lt (b.drop at_)
        unfold txS
        generalize rdS 0 0 (b.drop at_) = q at *
        obtain ⟨x, k, er⟩ := q
        dsimp only at hk ⊢
        repeat' split
        all_goals (dsimp only at *; omega)
      rw [rText_eq b at_ (by omega)]
      refine (take88_any (txS (b.length - at_) (b.drop at_) (rdS 0 0 (b.drop at_))).2.1 (txS (b.length - at_) (b.drop at_) (rdS 0 0 (b.drop at_))).2.2 (fun w' => Below w.heap.size W1.drew w' ∧ w'.cell? ⟨w.heap.size, 0, none⟩ = some (.string (bs ((txS (b.length - at_) (b.drop at_) (rdS 0 0 (b.drop at_))).1)))) p n c at_ A W1 hRd.blk hat hcap (by omega) hkb _
        (by have := clos88 w.heap.size (n - at_) (c - at_) (dropA A c at_) (b.drop at_) W1.drew (by rw [heap_drew]; exact hg) (by simp; omega) hD (by omega) (by omega); first | exact this | (rw [hlen]; exact this)) ?_).mono ?_
      · rintro w' ⟨hb, _⟩
        rw [hb.block p hlt, heap_drew]
        exact hRd.blk
      · rintro ex w' ⟨rfl, w1, j, v, ⟨hb, hc⟩, hj, hp⟩
        obtain ⟨r1, r2, r3, r4⟩ := rd_took hH.out (hb1.trans (Below.drewL hb)) hj hp
        exact ⟨rfl, by rw [r3 _ _ (by omega), hc], r1, r2⟩
    · have e1 : rText b at_ e = ([], at_, e) := by unfold rText rShort; simp [h0]
      rw [e1]
      refine (take_stop e (.slice A n c) at_ p _ W1 hRd.blk (by simp [h0])).mono ?_
      rintro ex w' ⟨rfl, rfl⟩
      exact ⟨rfl, cell_of_one hg, hRd, mod_of_below hb1 p none⟩
  refine key.mono ?_
  rintro ex w2 ⟨rfl, d1, hr, hm⟩
  have HF := Lib.hid (And.intro hr hm)
  clear hr hm key hRd hg hb1 hW1 s1
  go_wp2
  go_ret
  exact ⟨rfl, HF.out⟩

end
end Go.Proofs.Ytnkbkhlbogcfaaa

set_option linter.unusedVariables false
set_option linter.unusedSimpArgs false
namespace Go.Proofs.Ytnkbkhlbogcfaaa
open Go.RowKit Go.Proofs.YtnkbkhlbogcfaaaW.PrintWords
noncomputable section

set_option maxHeartbeats 1000000 in
set_option maxRecDepth 100000 in
theorem listR_any (most : Int) (p base n c at_ : Nat) (e : Int) (A : Option Addr) (b : List UInt8) (w : World) (h : RdB w base p A n c b at_ e) (hat : at_ ≤ n) (hn : n ≤ 900000) :
    Calls Try.prog 67 #[.pointer (some ⟨p, 0, none⟩), .int .i64 most] w fun ex w' => ex = .returned (.int .i64 ((rList b most at_ e).1 : Nat)) ∧ RdB w' base p A n c b (rList b most at_ e).2.1 (rList b most at_ e).2.2 ∧ Mod w w' p none := by
  have hH := Lib.hid h
  have hcap := h.own.cap
  have hlen := h.own.len
  have hlt := h.lt
  clear h
  go_enter Try.func67, Try.ntmps67
  go_wp2_with fail
  obtain ⟨W1, hW1⟩ : ∃ W1, W1 = w.alloc (.cells #[.int .i64 most] 3) := ⟨_, rfl⟩
  rw [← hW1]
  obtain ⟨W2, hW2⟩ : ∃ W2, W2 = W1.alloc (.cells #[.int .i64 0] 3) := ⟨_, rfl⟩
  rw [← hW2]
  have s1 : W1.heap.size = w.heap.size + 1 := by rw [hW1]; simp
  have s2 : W2.heap.size = w.heap.size + 2 := by rw [hW2]; simp [s1]
  have hb2 : Below w.heap.size w W2 := by rw [hW2, hW1]; exact (below_alloc (Below.refl _ _) _).alloc (by simp) _
  have hh : W2.heap[w.heap.size]? = some (.cells #[.int .i64 most] 3 (0, 0)) := by
    rw [hW2, (below_alloc (Below.refl W1.heap.size W1) _).block w.heap.size (by omega), hW1]
    exact heap_alloc_new w _
  have hg : W2.heap[w.heap.size + 1]? = some (.cells #[.int .i64 0] 3 (0, 0)) := by
    rw [hW2, ← s1]
    exact heap_alloc_new W1 _
  have hRd := hH.out.below hb2
  have key : Calls Try.prog 82 #[.pointer (some ⟨p, 0, none⟩), .func (.func 98) #[] #[.pointer (some ⟨w.heap.size, 0, none⟩), .pointer (some ⟨w.heap.size + 1, 0, none⟩)]] W2 fun ex w' => ex = .returned (.tuple #[]) ∧
      w'.cell? ⟨w.heap.size + 1, 0, none⟩ = some (.int .i64 ((rList b most at_ e).1 : Nat)) ∧ RdB w' base p A n c b (rList b most at_ e).2.1 (rList b most at_ e).2.2 ∧ Mod w w' p none := by
    by_cases h0 : e = 0
    · subst h0
      have hD : RB W2.drew (dropA A c at_) (b.drop at_) := (hRd.own.rb.below (Below.refl _ _).drew).drop c at_ (by omega) (by omega)
      have hkb : at_ + (liS most (b.length - at_) (rdS 0 0 (b.drop at_))).2.1 ≤ 1000000 := by
        have hk := rdS_bounds (b.drop at_) 0 0 (by omega) (by simp)
        have hl9 : (b.drop at_).length = n - at_ := by simp; omega
        unfold liS
        generalize rdS 0 0 (b.drop at_) = q at *
        obtain ⟨x, k, er⟩ := q
        dsimp only at hk ⊢
        repeat' split
        all_goals (dsimp only at *; omega)
      rw [rList_eq b most at_ (by omega)]
      refine (take98_any (liS most (b.length - at_) (rdS 0 0 (b.drop at_))).2.1 (liS most (b.length - at_) (rdS 0 0 (b.drop at_))).2.2 (fun w' => Below (w.heap.size + 1) W2.drew w' ∧ w'.cell? ⟨w.heap.size + 1, 0, none⟩ = some (.int .i64 ((liS most (b.length - at_) (rdS 0 0 (b.drop at_))).1 : Nat))) p n c at_ A W2 hRd.blk hat hcap (by omega) hkb _ _
        (by have := clos98 most w.heap.size (w.heap.size + 1) (n - at_) (c - at_) (dropA A c at_) (b.drop at_) W2.drew (by rw [heap_drew]; exact hh) (by rw [heap_drew]; exact hg) (by simp; omega) hD (by omega) (by omega); rw [hlen]; exact this) ?_).mono ?_
      · rintro w' ⟨hb, _⟩
        rw [hb.block p (by omega), heap_drew]
        exact hRd.blk
      · rintro ex w' ⟨rfl, w1, j, v, ⟨hb, hc⟩, hj, hp⟩
        obtain ⟨r1, r2, r3, r4⟩ := rd_took hH.out (hb2.trans (Below.drewL (hb.mono (by omega)))) hj hp
        exact ⟨rfl, by rw [r3 _ _ (by omega), hc], r1, r2⟩
    · have e1 : rList b most at_ e = (0, at_, e) := by unfold rList rShort; simp [h0]
      rw [e1]
      refine (take_stop e (.slice A n c) at_ p _ W2 hRd.blk (by simp [h0])).mono ?_
      rintro ex w' ⟨rfl, rfl⟩
      exact ⟨rfl, cell_of_one hg, hRd, mod_of_below hb2 p none⟩
  refine key.mono ?_
  rintro ex w2 ⟨rfl, d1, hr, hm⟩
  have HF := Lib.hid (And.intro hr hm)
  clear hr hm key hRd hg hb2 hW1 hW2 s1 s2 hh
  go_wp2
  go_ret
  exact ⟨rfl, HF.out⟩

set_option maxHeartbeats 1000000 in
set_option maxRecDepth 100000 in
theorem clos83_short (m : Int) (g n c : Nat) (A : Option Addr) (v : Value) (w : World) (hg : w.heap[g]? = some (.cells #[.int .i64 m] 3 (0, 0))) (hm : (n : Int) < m) :
    Calls Try.prog 83 #[.slice A n c, .pointer (some ⟨g, 0, none⟩), v] w fun e w' => e = .returned (.tuple #[.int .i64 0, .int .i64 2]) ∧ w' = w := by
  have c1 := cell_of_one hg
  clear hg
  go_enter Try.func83, Try.ntmps83
  go_wp2
  go_ret2
  exact ⟨rfl, rfl⟩

set_option maxHeartbeats 1000000 in
set_option maxRecDepth 100000 in
theorem rawR_any (m : Int) (p base n c at_ : Nat) (e : Int) (A : Option Addr) (b : List UInt8) (w : World) (h : RdB w base p A n c b at_ e) (hat : at_ ≤ n) (hn : n ≤ 900000) :
    Calls Try.prog 42 #[.pointer (some ⟨p, 0, none⟩), .int .i64 m] w fun ex w' => ∃ A' c', ex = .returned (.slice A' (rRaw b m at_ e).1.length c') ∧ OB w' w.heap.size A' (rRaw b m at_ e).1.length c' (rRaw b m at_ e).1 ∧
      RdB w' base p A n c b (rRaw b m at_ e).2.1 (rRaw b m at_ e).2.2 ∧ Mod w w' p none := by
  have hlen := h.own.len
  by_cases hok : e = 0 ∧ m ≤ ((b.length - at_ : Nat) : Int)
  · obtain ⟨rfl, hm⟩ := hok
    have e1 : rRaw b m at_ 0 = ((b.drop at_).take m.toNat, at_ + m.toNat, 0) := by unfold rRaw; rw [if_neg (by omega), if_neg (by omega)]
    have e2 : ((b.drop at_).take m.toNat).length = m.toNat := by simp; omega
    rw [e1]
    dsimp only
    rw [e2]
    exact rawR_ok m m.toNat p base n c at_ A b w h (by omega) hat (by omega) hn
  · have e1 : rRaw b m at_ e = ([], at_, if e = 0 then 2 else e) := by
      unfold rRaw
      by_cases h0 : e = 0
      · rw [if_neg (by omega), if_pos (by omega), if_pos h0]
      · rw [if_pos h0, if_neg h0]
    rw [e1]
    dsimp only
    have hH := Lib.hid h
    have hcap := h.own.cap
    have hlt := h.lt
    clear h e1
    obtain ⟨e', he'⟩ : ∃ e' : Int, e' = if e = 0 then 2 else e := ⟨_, rfl⟩
    rw [← he']
    have HE := Lib.hid he'
    have HO := Lib.hid hok
    clear he' hok
    go_enter Try.func42, Try.ntmps42
    go_wp2_with fail
    obtain ⟨W1, hW1⟩ : ∃ W1, W1 = w.alloc (.cells #[.int .i64 m] 3) := ⟨_, rfl⟩
    rw [← hW1]
    obtain ⟨W2, hW2⟩ : ∃ W2, W2 = W1.alloc (.cells #[.slice none 0 0] 22) := ⟨_, rfl⟩
    rw [← hW2]
    have s1 : W1.heap.size = w.heap.size + 1 := by rw [hW1]; simp
    have s2 : W2.heap.size = w.heap.size + 2 := by rw [hW2]; simp [s1]
    have hb2 : Below w.heap.size w W2 := by rw [hW2, hW1]; exact (below_alloc (Below.refl _ _) _).alloc (by simp) _
    have hg : W2.heap[w.heap.size]? = some (.cells #[.int .i64 m] 3 (0, 0)) := by
      rw [hW2, (below_alloc (Below.refl W1.heap.size W1) _).block w.heap.size (by omega), hW1]
      exact heap_alloc_new w _
    have hq : W2.heap[w.heap.size + 1]? = some (.cells #[.slice none 0 0] 22 (0, 0)) := by
      rw [hW2, ← s1]
      exact heap_alloc_new W1 _
    have hRd := hH.out.below hb2
    have key : Calls Try.prog 82 #[.pointer (some ⟨p, 0, none⟩), .func (.func 83) #[] #[.pointer (some ⟨w.heap.size, 0, none⟩), .pointer (some ⟨w.heap.size + 1, 0, none⟩)]] W2 fun ex w' => ex = .returned (.tuple #[]) ∧
        w'.cell? ⟨w.heap.size + 1, 0, none⟩ = some (.slice none 0 0) ∧ RdB w' base p A n c b at_ e' ∧ Mod w w' p none := by
      by_cases h0 : e = 0
      · subst h0
        rw [HE.out, if_pos rfl]
        refine (take83_any 0 2 (fun w' => w' = W2.drew) p n c at_ A W2 hRd.blk hat hcap (by omega) (by omega) _ _
          (clos83_short m w.heap.size (n - at_) (c - at_) (dropA A c at_) _ W2.drew (by rw [heap_drew]; exact hg) (by have := HO.out; omega)) ?_).mono ?_
        · rintro w' rfl
          rw [heap_drew]
          exact hRd.blk
        · rintro ex w' ⟨rfl, w1, j, v, rfl, hj, hp⟩
          obtain ⟨r1, r2, r3, r4⟩ := rd_took hH.out hb2.drew hj hp
          exact ⟨rfl, by rw [r3 _ _ (by omega)]; exact cell_of_one (by rw [heap_drew]; exact hq), r1, r2⟩
      · rw [HE.out, if_neg h0]
        refine (take_stop e (.slice A n c) at_ p _ W2 hRd.blk (by simp [h0])).mono ?_
        rintro ex w' ⟨rfl, rfl⟩
        exact ⟨rfl, cell_of_one hq, hRd, mod_of_below hb2 p none⟩
    refine key.mono ?_
    rintro ex w2 ⟨rfl, d1, hr, hm⟩
    have HF := Lib.hid (And.intro hr hm)
    clear hr hm key hRd hg hq hb2 hW1 hW2 s1 s2
    go_wp2
    go_ret
    exact ⟨none, 0, rfl, OB.nil _ _, HF.out⟩
end
end Go.Proofs.Ytnkbkhlbogcfaaa

set_option linter.unusedVariables false
set_option linter.unusedSimpArgs false
namespace Go.Proofs.Ytnkbkhlbogcfaaa
open Go.RowKit Go.Proofs.YtnkbkhlbogcfaaaW.PrintWords
noncomputable section

theorem u64_wrap_nat (a : Nat) (h : a < 2 ^ 64) : IntKind.u64.wrap (a : Int) = (a : Int) := by
  have e64 : ((2 ^ 64 : Nat) : Int) = 18446744073709551616 := by kernel_rfl
  have : (a : Int) < 18446744073709551616 := by rw [← e64]; exact Int.ofNat_lt.2 h
  show (a : Int) % 18446744073709551616 = _
  omega
theorem u64_or_nat (a b : Nat) (ha : a < 2 ^ 64) (hb : b < 2 ^ 64) : bits BinOp.or .u64 (a : Int) (b : Int) = ((a ||| b : Nat) : Int) := by
  show IntKind.u64.wrap ((BitVec.ofInt 64 (a : Int) ||| BitVec.ofInt 64 (b : Int)).toNat : Int) = _
  rw [BitVec.toNat_or, ofInt_u64 a ha, ofInt_u64 b hb]
  exact u64_wrap_nat _ (Nat.or_lt_two_pow ha hb)
theorem or_upB (a z k : Nat) (ha : a < 256 ^ k) : a ||| z * 256 ^ k = a + z * 256 ^ k := by
  have e : 256 ^ k = 2 ^ (8 * k) := by rw [Nat.pow_mul]
  rw [e] at ha ⊢
  have := Nat.two_pow_add_eq_or_of_lt ha z
  rw [Nat.mul_comm z, Nat.add_comm, this, Nat.or_comm]
/-- one more byte is told to a number -/
theorem num_step (r : List UInt8) (j : Nat) (y : UInt8) (hj : j ≤ 7) (hy : r[j]? = some y) : bits BinOp.or .u64 ((numB (r.take j) : Nat) : Int) (IntKind.u64.wrap ((y.toNat : Int) * 2 ^ (8 * j))) = ((numB (r.take (j + 1)) : Nat) : Int) := by
  have hjl : j < r.length := (List.getElem?_eq_some_iff.1 hy).1
  have hx := numB_lt (r.take j)
  rw [List.length_take, Nat.min_eq_left (by omega)] at hx
  have hyl := y.toNat_lt
  have h8 : 256 ^ j ≤ 256 ^ 7 := Nat.pow_le_pow_right (by omega) hj
  have e7 : 256 * 256 ^ 7 = 2 ^ 64 := by kernel_rfl
  have h1 : y.toNat * 256 ^ j < 2 ^ 64 := by
    have : y.toNat * 256 ^ j ≤ 255 * 256 ^ 7 := Nat.mul_le_mul (by omega) h8
    omega
  have h2 : numB (r.take j) < 2 ^ 64 := by omega
  have e : (y.toNat : Int) * 2 ^ (8 * j) = ((y.toNat * 256 ^ j : Nat) : Int) := by
    rw [Int.natCast_mul, Int.natCast_pow, Int.pow_mul]
    rfl
  rw [e, u64_wrap_nat _ h1, u64_or_nat _ _ h2 h1, or_upB _ _ _ hx]
  congr 1
  rw [List.take_add_one, hy, numB_append, List.length_take, Nat.min_eq_left (by omega)]
  simp [numB]

set_option maxHeartbeats 1000000 in
set_option maxRecDepth 100000 in
theorem fixedR_any (k p base n c at_ : Nat) (e : Int) (A : Option Addr) (b : List UInt8) (w : World) (hk : k ≤ 8) (h : RdB w base p A n c b at_ e) (hat : at_ ≤ n) (hn : n ≤ 900000) :
    Calls Try.prog 54 #[.pointer (some ⟨p, 0, none⟩), .int .i64 k] w fun ex w' => ex = .returned (.int .u64 ((rFixed b k at_ e).1 : Nat)) ∧ RdB w' base p A n c b (rFixed b k at_ e).2.1 (rFixed b k at_ e).2.2 ∧ Mod w w' p none := by
  have hlen := h.own.len
  have hl8 : (rRaw b k at_ e).1.length ≤ 8 := by
    unfold rRaw
    split
    · simp
    · split
      · simp
      · simp; omega
  unfold rFixed
  dsimp only
  obtain ⟨r, at', e', hr⟩ : ∃ r at' e', rRaw b k at_ e = (r, at', e') := ⟨_, _, _, rfl⟩
  have hRaw := rawR_any k p base n c at_ e A b w h hat hn
  rw [hr] at hRaw hl8 ⊢
  dsimp only at hRaw hl8 ⊢
  obtain ⟨l, hl⟩ : ∃ l, l = r.length := ⟨_, rfl⟩
  rw [← hl] at hRaw hl8
  have HR := Lib.hid hRaw
  have HL := Lib.hid hl
  have l8 : (l : Int) ≤ 8 := by omega
  clear hRaw h hr hl hlen
  go_enter Try.func54, Try.ntmps54
  go_wp2_with fail
  refine HR.out.mono ?_
  rintro ex w1 ⟨A1, c1, rfl, ho, hrd, hm⟩
  have HO := Lib.hid (And.intro ho (And.intro hrd hm))
  clear ho hrd hm
  go_wp2_with fail
  go_loopw [5, 12] (fun v i wr => ∃ j : Nat, j ≤ l ∧ i = .int .i64 j ∧ v = .int .u64 (numB (r.take j) : Nat) ∧ wr = w1) (fun _ i _ => l - (intOf i).toNat)
  case atStart => exact ⟨0, by omega, rfl, rfl, rfl⟩
  case round =>
    obtain ⟨j, hj, rfl, rfl, rfl⟩ := hrel
    have j0 : (0 : Int) ≤ (j : Int) := by omega
    by_cases hlt : j < l
    · have jl : (j : Int) < (l : Int) := by omega
      have jl8 : (j : Int) ≤ 7 := by omega
      obtain ⟨y, hy⟩ : ∃ y, r[j]? = some y := ⟨_, List.getElem?_eq_getElem (by have := HL.out; omega)⟩
      obtain ⟨ad, had, e1⟩ := HO.out.1.rb.at_ hy
      subst had
      have HY := Lib.hid hy
      obtain ⟨x, hx⟩ : ∃ x, x = numB (r.take j) := ⟨_, rfl⟩
      rw [← hx]
      have HX := Lib.hid hx
      clear hy hx
      have x0 : (0 : Int) ≤ (x : Int) := by omega
      have y0 : (0 : Int) ≤ (y.toNat : Int) := by omega
      have y1 : (y.toNat : Int) < 256 := by have := y.toNat_lt; omega
      have HS := Lib.hid (num_step r j y (by omega) HY.out)
      go_wp2
      go_roundw
      case rel =>
        refine ⟨j + 1, by omega, by go_num, ?_, trivial⟩
        rw [HX.out, HS.out]
      case measure => simp [intOf]; omega
    · obtain rfl : j = l := by omega
      go_wp2
      go_ret
      refine ⟨?_, HO.out.2⟩
      rw [List.take_of_length_le (by have := HL.out; omega)]
      rfl
end
end Go.Proofs.Ytnkbkhlbogcfaaa
