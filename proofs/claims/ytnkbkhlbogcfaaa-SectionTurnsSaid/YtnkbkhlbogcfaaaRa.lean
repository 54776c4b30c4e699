/- A reader's small methods. -/
import Derived.Test.YtnkbkhlbogcfaaaUt
set_option linter.unusedVariables false
set_option linter.unusedSimpArgs false
namespace Go.Proofs.Ytnkbkhlbogcfaaa
open Go.RowKit Go.Proofs.YtnkbkhlbogcfaaaW.PrintWords
noncomputable section

theorem mod_of_below {w w1 : World} (h : Below w.heap.size w w1) (p : Nat) (row : Option Nat) : Mod w w1 p row := ⟨h.os, h.tape, h.output, h.size, fun q hq _ _ => h.block q hq⟩
theorem rerr_any (p base n c at_ : Nat) (e : Int) (A : Option Addr) (b : List UInt8) (w : World) (h : RdB w base p A n c b at_ e) :
    Calls Try.prog 48 #[.pointer (some ⟨p, 0, none⟩)] w fun ex w' => ex = .returned (.int .i64 e) ∧ w' = w := by
  obtain ⟨c1, c2, c3⟩ := rd_cells h.blk
  clear h
  go_enter Try.func48, Try.ntmps48
  go_wp2
  go_ret
  exact ⟨rfl, rfl⟩
theorem rat_any (p base n c at_ : Nat) (e : Int) (A : Option Addr) (b : List UInt8) (w : World) (h : RdB w base p A n c b at_ e) :
    Calls Try.prog 49 #[.pointer (some ⟨p, 0, none⟩)] w fun ex w' => ex = .returned (.int .i64 at_) ∧ w' = w := by
  obtain ⟨c1, c2, c3⟩ := rd_cells h.blk
  clear h
  go_enter Try.func49, Try.ntmps49
  go_wp2
  go_ret
  exact ⟨rfl, rfl⟩
set_option maxRecDepth 100000 in
theorem rleft_any (p base n c at_ : Nat) (e : Int) (A : Option Addr) (b : List UInt8) (w : World) (h : RdB w base p A n c b at_ e) (hat : at_ ≤ n) (hn : n ≤ 1000000) :
    Calls Try.prog 58 #[.pointer (some ⟨p, 0, none⟩)] w fun ex w' => ex = .returned (.int .i64 ((n - at_ : Nat) : Int)) ∧ Below w.heap.size w w' := by
  obtain ⟨c1, c2, c3⟩ := rd_cells h.blk
  have a0 : (0 : Int) ≤ (at_ : Int) := by omega
  have a1 : (at_ : Int) ≤ (n : Int) := by omega
  have e1 : ((n - at_ : Nat) : Int) = (n : Int) - (at_ : Int) := by omega
  clear h
  rw [e1]
  clear e1
  go_enter Try.func58, Try.ntmps58
  go_wp2
  go_quiet (fail)
  go_wp2
  go_ret
  exact ⟨rfl, pw_below_drewN (Below.refl _ _) _⟩
set_option maxHeartbeats 1000000 in
set_option maxRecDepth 100000 in
theorem rfail_any (er : Int) (p base n c at_ : Nat) (e : Int) (A : Option Addr) (b : List UInt8) (w : World) (h : RdB w base p A n c b at_ e) :
    Calls Try.prog 66 #[.pointer (some ⟨p, 0, none⟩), .int .i64 er] w fun ex w' => ex = .returned (.tuple #[]) ∧ RdB w' base p A n c b at_ (if e = 0 then er else e) ∧ Mod w w' p none := by
  obtain ⟨c1, c2, c3⟩ := rd_cells h.blk
  have f1 := frozen_of_row w p 2 _ _ h.blk
  have H := Lib.hid h
  clear h
  by_cases h0 : e = 0
  · subst h0
    rw [if_pos rfl]
    go_enter Try.func66, Try.ntmps66
    go_wp2
    go_end0
    obtain ⟨h1, h2, _⟩ := rd_took (j := 2) (v := .int .i64 er) (at' := at_) (e' := er) H.out (Below.refl _ _) rfl (by rw [heap_setCell_same _ _ _ _ _ _ H.out.blk]; rfl)
    exact ⟨rfl, h1, h2⟩
  · rw [if_neg h0]
    go_enter Try.func66, Try.ntmps66
    go_wp2
    go_end0
    exact ⟨rfl, H.out, Mod.refl _ _ _⟩
set_option maxHeartbeats 1000000 in
set_option maxRecDepth 100000 in
theorem rend_any (p base n c at_ : Nat) (e : Int) (A : Option Addr) (b : List UInt8) (w : World) (h : RdB w base p A n c b at_ e) (hat : at_ ≤ n) (hn : n ≤ 1000000) :
    Calls Try.prog 57 #[.pointer (some ⟨p, 0, none⟩)] w fun ex w' => ex = .returned (.int .i64 (if e = 0 ∧ at_ < n then 3 else e)) ∧ RdB w' base p A n c b at_ (if e = 0 ∧ at_ < n then 3 else e) ∧ Mod w w' p none := by
  have H := Lib.hid h
  clear h
  obtain ⟨e', he'⟩ : ∃ e' : Int, e' = (if e = 0 ∧ at_ < n then (3 : Int) else e) := ⟨_, rfl⟩
  rw [← he']
  have E0 := Lib.hid he'
  clear he'
  go_enter Try.func57, Try.ntmps57
  go_wp2_with fail
  refine (rleft_any p base n c at_ e A b _ H.out hat hn).mono ?_
  rintro ex w1 ⟨rfl, hb1⟩
  have H1 := Lib.hid (H.out.below hb1)
  have M1 := Lib.hid (mod_of_below hb1 p none)
  clear hb1
  by_cases hlt : at_ < n
  · have hltI : (0 : Int) < ((n - at_ : Nat) : Int) := by omega
    have E1 := Lib.hid (show e' = (if e = 0 then 3 else e) by
      rw [E0.out]
      by_cases h0 : e = 0
      · rw [if_pos ⟨h0, hlt⟩, if_pos h0]
      · rw [if_neg (fun h => h0 h.1), if_neg h0])
    obtain ⟨d, hd⟩ : ∃ d, d = n - at_ := ⟨_, rfl⟩
    rw [← hd] at hltI ⊢
    clear hd
    go_wp2_with fail
    refine (rfail_any 3 p base n c at_ e A b _ H1.out).mono ?_
    rintro ex w2 ⟨rfl, hr, hm⟩
    rw [← E1.out] at hr
    obtain ⟨c1, c2, c3⟩ := rd_cells hr.blk
    have HR := Lib.hid (And.intro hr (Mod.trans M1.out (Succ.refl _ _) hm))
    clear hr hm
    go_wp2
    go_ret
    exact ⟨rfl, HR.out⟩
  · have e0 : n - at_ = 0 := by omega
    have e1 : e' = e := by rw [E0.out]; exact if_neg (fun h => hlt h.2)
    subst e1
    rw [e0]
    clear e0
    obtain ⟨c1, c2, c3⟩ := rd_cells H1.out.blk
    go_wp2
    go_ret
    exact ⟨rfl, H1.out, M1.out⟩
end
end Go.Proofs.Ytnkbkhlbogcfaaa
