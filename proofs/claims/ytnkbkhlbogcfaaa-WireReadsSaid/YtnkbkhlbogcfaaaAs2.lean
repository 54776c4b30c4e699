/- Something that is read, of both: the walk of ask. -/
import Derived.Test.YtnkbkhlbogcfaaaRv
import Derived.Test.YtnkbkhlbogcfaaaRz
import Derived.Test.YtnkbkhlbogcfaaaN
set_option linter.unusedVariables false
set_option linter.unusedSimpArgs false
namespace Go.Proofs.Ytnkbkhlbogcfaaa
open Go.RowKit Go.Proofs.YtnkbkhlbogcfaaaW.PrintWords
noncomputable section

/-- place and error behind something that is asked -/
def askR (b : List UInt8) (x : PutV) (at_ : Nat) (e : Int) : Nat × Int :=
  if x.k = 0 then (rFixed b (wideN x.n) at_ e).2 else if x.k = 1 then (rShort b at_ e).2 else if x.k = 2 then (rSigned b at_ e).2 else if x.k = 3 then (rText b at_ e).2
  else if x.k = 4 then (rList b x.v at_ e).2 else if x.k = 5 then (at_, if e = 0 then x.v.tmod 10 else e) else (rRaw b x.n at_ e).2

/-- behind the call of the document's read, and the store of what it told -/
structure Asked (w W : World) (g : Nat) (A : Option Addr) (n c at_ : Nat) (e : Int) (at' : Nat) (e' : Int) (x : PutV) : Prop where
  below : Below w.heap.size w W
  arg : W.heap[w.heap.size]? = some (.cells #[.slice A n c, .int .i64 at_, .int .i64 e] 83 (0, 0))
  put : W.heap[w.heap.size + 1]? = some (.cells #[.int .i64 x.k, .int .i64 x.n, .int .i64 x.v, .string x.s] 71 (0, 0))
  res : W.heap[w.heap.size + 1 + 1]? = some (.cells #[.slice none 0 0, .int .i64 0, .int .i64 0] 83 (0, 0))
  next : W.heap[g]? = some (.cells #[.slice A n c, .int .i64 at', .int .i64 e'] 83 (0, 0))
  g_gt : w.heap.size + 1 + 1 < g
/-- the three blocks ahead of it -/
structure Asks (w W : World) (A : Option Addr) (n c at_ : Nat) (e : Int) (x : PutV) : Prop where
  below : Below w.heap.size w W
  size : w.heap.size + 3 ≤ W.heap.size
  arg : W.heap[w.heap.size]? = some (.cells #[.slice A n c, .int .i64 at_, .int .i64 e] 83 (0, 0))
  put : W.heap[w.heap.size + 1]? = some (.cells #[.int .i64 x.k, .int .i64 x.n, .int .i64 x.v, .string x.s] 71 (0, 0))
  res : W.heap[w.heap.size + 1 + 1]? = some (.cells #[.slice none 0 0, .int .i64 0, .int .i64 0] 83 (0, 0))
theorem asks (w : World) (A : Option Addr) (n c at_ : Nat) (e : Int) (x : PutV) :
    Asks w (((w.alloc (.cells #[.slice A n c, .int .i64 at_, .int .i64 e] 83)).alloc (.cells #[.int .i64 x.k, .int .i64 x.n, .int .i64 x.v, .string x.s] 71)).alloc (.cells #[.slice none 0 0, .int .i64 0, .int .i64 0] 83)) A n c at_ e x := by
  have s : ((w.alloc (.cells #[.slice A n c, .int .i64 at_, .int .i64 e] 83)).alloc (.cells #[.int .i64 x.k, .int .i64 x.n, .int .i64 x.v, .string x.s] 71)).heap.size = w.heap.size + 1 + 1 := by simp
  refine ⟨(below_alloc2 w _ _).alloc (by simp; omega) _, by simp, ?_, ?_, ?_⟩
  · rw [(below_alloc (Below.refl _ _) _).block _ (by simp; omega)]; exact heap_alloc2_old w _ _
  · rw [(below_alloc (Below.refl _ _) _).block _ (by simp)]; exact heap_alloc2_new w _ _
  · rw [← s]; exact heap_alloc_new _ _
theorem Asks.go {w W w2 : World} {A : Option Addr} {n c at_ : Nat} {e : Int} {x : PutV} (h : Asks w W A n c at_ e x) (hb : Below W.heap.size W w2) : Asks w w2 A n c at_ e x :=
  ⟨h.below.trans (hb.mono h.below.size), Nat.le_trans h.size hb.size, (hb.block _ (blk_lt h.arg)).trans h.arg, (hb.block _ (blk_lt h.put)).trans h.put, (hb.block _ (blk_lt h.res)).trans h.res⟩
theorem Asks.next {w W : World} {A : Option Addr} {n c at_ at' : Nat} {e e' : Int} {x : PutV} (h : Asks w W A n c at_ e x) :
    Asked w (W.alloc (.cells #[.slice A n c, .int .i64 at', .int .i64 e'] 83)) W.heap.size A n c at_ e at' e' x := by
  have h2 := h.go (below_alloc (Below.refl W.heap.size W) (.cells #[.slice A n c, .int .i64 at', .int .i64 e'] 83))
  exact ⟨h2.below, h2.arg, h2.put, h2.res, heap_alloc_new _ _, by have := h.size; omega⟩
theorem row4_cells {w : World} {g : Nat} {x y z u : Value} {t : TypeId} (h : w.heap[g]? = some (.cells #[x, y, z, u] t (0, 0))) :
    w.cell? ⟨g, 0, none⟩ = some x ∧ w.cell? ⟨g, 1, none⟩ = some y ∧ w.cell? ⟨g, 2, none⟩ = some z ∧ w.cell? ⟨g, 3, none⟩ = some u := by
  refine ⟨?_, ?_, ?_, ?_⟩
  · rw [cell_of_row w g 0 _ _ _ h]; rfl
  · rw [cell_of_row w g 1 _ _ _ h]; rfl
  · rw [cell_of_row w g 2 _ _ _ h]; rfl
  · rw [cell_of_row w g 3 _ _ _ h]; rfl

theorem store3_cells {w : World} {g h : Nat} {x y z : Value} {t : TypeId} (hg : w.heap[g]? = some (.cells #[x, y, z] t (0, 0))) (hne : h < g) (a b c : Value) :
    (((w.setCell ⟨h, 0, none⟩ a).setCell ⟨h, 1, none⟩ b).setCell ⟨h, 2, none⟩ c).cell? ⟨g, 0, none⟩ = some x ∧ (((w.setCell ⟨h, 0, none⟩ a).setCell ⟨h, 1, none⟩ b).setCell ⟨h, 2, none⟩ c).cell? ⟨g, 1, none⟩ = some y ∧
      (((w.setCell ⟨h, 0, none⟩ a).setCell ⟨h, 1, none⟩ b).setCell ⟨h, 2, none⟩ c).cell? ⟨g, 2, none⟩ = some z := by
  refine rd_cells (t := t) (fr := (0, 0)) ?_
  rw [Below.heap_setCell _ _ _ _ (by dsimp only; omega), Below.heap_setCell _ _ _ _ (by dsimp only; omega), Below.heap_setCell _ _ _ _ (by dsimp only; omega)]
  exact hg
theorem RdB.store3 {w : World} {base p n c at_ g : Nat} {e : Int} {A : Option Addr} {b : List UInt8} (h : RdB w base p A n c b at_ e) (hp : p ≠ g) (hA : Ytnkbkhlbogcfaaa.blk A ≠ some g) (x y z : Value) :
    RdB (((w.setCell ⟨g, 0, none⟩ x).setCell ⟨g, 1, none⟩ y).setCell ⟨g, 2, none⟩ z) base p A n c b at_ e := by
  have hA' : (Value.slice A n c).ownBlock ≠ some g := by rw [own_blk]; exact hA
  refine ⟨?_, ownsRow_setCell_other (ownsRow_setCell_other (ownsRow_setCell_other h.own hA' _) hA' _) hA' _, h.base_p⟩
  rw [Below.heap_setCell _ _ _ _ (by dsimp only; omega), Below.heap_setCell _ _ _ _ (by dsimp only; omega), Below.heap_setCell _ _ _ _ (by dsimp only; omega)]
  exact h.blk
theorem mod_store3 {w w1 : World} {p g : Nat} (h : Mod w w1 p none) (hg : w.heap.size ≤ g) (x y z : Value) : Mod w (((w1.setCell ⟨g, 0, none⟩ x).setCell ⟨g, 1, none⟩ y).setCell ⟨g, 2, none⟩ z) p none := by
  refine ⟨h.os, h.tape, h.output, by simpa using h.size, fun k hk hp hr => ?_⟩
  rw [Below.heap_setCell _ _ _ _ (by dsimp only; omega), Below.heap_setCell _ _ _ _ (by dsimp only; omega), Below.heap_setCell _ _ _ _ (by dsimp only; omega)]
  exact h.block k hk hp hr
theorem blk_ne {w : World} {base p n c at_ g : Nat} {e : Int} {A : Option Addr} {b : List UInt8} (h : RdB w base p A n c b at_ e) (hg : w.heap.size ≤ g) : Ytnkbkhlbogcfaaa.blk A ≠ some g := by
  intro q; have := h.own.blk_lt g q; omega
/-- what ask tells, and leaves -/
def AskQ (w : World) (base p : Nat) (A A1 : Option Addr) (n c c1 : Nat) (b : List UInt8) (at' : Nat) (e' : Int) : Ending → World → Prop := fun ex w' =>
  ex = .returned (.tuple #[.agg #[.slice A n c, .int .i64 at', .int .i64 e'], .bool true]) ∧ RdB w' base p A1 n c1 b at' e' ∧ Mod w w' p none

theorem store_cell4 {w : World} {g h : Nat} {x y z u : Value} {t : TypeId} (hg : w.heap[g]? = some (.cells #[x, y, z, u] t (0, 0))) (hne : g < h) (a b c : Value) :
    (((w.setCell ⟨h, 0, none⟩ a).setCell ⟨h, 1, none⟩ b).setCell ⟨h, 2, none⟩ c).cell? ⟨g, 2, none⟩ = some z ∧ (((w.setCell ⟨h, 0, none⟩ a).setCell ⟨h, 1, none⟩ b).setCell ⟨h, 2, none⟩ c).cell? ⟨g, 1, none⟩ = some y := by
  have e : (((w.setCell ⟨h, 0, none⟩ a).setCell ⟨h, 1, none⟩ b).setCell ⟨h, 2, none⟩ c).heap[g]? = some (.cells #[x, y, z, u] t (0, 0)) := by
    rw [Below.heap_setCell _ _ _ _ (by dsimp only; omega), Below.heap_setCell _ _ _ _ (by dsimp only; omega), Below.heap_setCell _ _ _ _ (by dsimp only; omega)]
    exact hg
  exact ⟨(row4_cells e).2.2.1, (row4_cells e).2.1⟩

set_option maxHeartbeats 4000000 in
set_option maxRecDepth 100000 in
theorem ask1 (p base n c c1 at_ : Nat) (e : Int) (A A1 : Option Addr) (b : List UInt8) (w : World) (x : PutV) (hk : x.k = 1) (hR : RB w A b) (hl : b.length = n) (hr : RdB w base p A1 n c1 b at_ e) (hat : at_ ≤ n) (hnc : n ≤ c) (hn : n ≤ 1000) :
    Calls Try.prog 65 #[.pointer (some ⟨p, 0, none⟩), .agg #[.slice A n c, .int .i64 at_, .int .i64 e], .agg #[.int .i64 x.k, .int .i64 x.n, .int .i64 x.v, .string x.s]] w
      (AskQ w base p A A1 n c c1 b (askR b x at_ e).1 (askR b x at_ e).2) := by
  have e1 : askR b x at_ e = (rShort b at_ e).2 := by unfold askR; rw [hk]; simp
  rw [e1]
  unfold AskQ
  obtain ⟨v, at', e', hq⟩ : ∃ v at' e', rShort b at_ e = (v, at', e') := ⟨_, _, _, rfl⟩
  have KD := fun (wx : World) (hb : Below w.heap.size w wx) => dshort_any n c at_ e A b wx (hR.below hb) hl hat hnc (by omega)
  have KP := fun (wx : World) (h : RdB wx base p A1 n c1 b at_ e) => shortR_any p base n c1 at_ e A1 b wx h hat (by omega)
  rw [hq] at KD KP ⊢
  dsimp only at KD KP ⊢
  have HK := Lib.hid (And.intro KD KP)
  have HR := Lib.hid hr
  obtain ⟨xk, xn, xv, xs⟩ := x
  dsimp only at hk HK ⊢
  subst hk
  have HX := Lib.hid (asks w A n c at_ e ⟨1, xn, xv, xs⟩)
  clear KD KP hR hl hr e1 hq
  go_enter Try.func65, Try.ntmps65
  go_wp2_with fail
  refine (HK.out.1 _ HX.out.below).mono ?_
  rintro ex w1 ⟨rfl, hb1⟩
  have hA := (HX.out.go hb1).next (at' := at') (e' := e')
  obtain ⟨W, hW⟩ : ∃ W, W = w1.alloc (.cells #[.slice A n c, .int .i64 at', .int .i64 e'] 83) := ⟨_, rfl⟩
  rw [← hW] at hA
  obtain ⟨⟨y0, y1, y2⟩, ⟨z0, z1, z2⟩⟩ := row3_cells hA.res
  have H1 := Lib.hid hA
  clear hb1 hA
  go_wp2_with fail
  rw [← hW]
  have HRE := Lib.hid (HR.out.below H1.out.below)
  have hbd : Below W.heap.size W W.drew := (Below.refl _ _).drew
  have HGN := Lib.hid (show ∀ w', Mod W.drew w' p none → w'.heap[w1.heap.size]? = some (.cells #[.slice A n c, .int .i64 at', .int .i64 e'] 83 (0, 0)) ∧ w'.heap[w.heap.size + 1 + 1]? = some (.cells #[.slice none 0 0, .int .i64 0, .int .i64 0] 83 (0, 0)) ∧ w'.heap[w.heap.size + 1]? = some (.cells #[.int .i64 1, .int .i64 xn, .int .i64 xv, .string xs] 71 (0, 0)) by
    intro w' hm
    have hp := HR.out.lt
    have hg := H1.out.g_gt
    refine ⟨?_, ?_, ?_⟩
    · rw [hm.block _ (by rw [heap_drew]; exact blk_lt H1.out.next) (by omega) (by simp), heap_drew]; exact H1.out.next
    · rw [hm.block _ (by rw [heap_drew]; exact blk_lt H1.out.res) (by omega) (by simp), heap_drew]; exact H1.out.res
    · rw [hm.block _ (by rw [heap_drew]; exact blk_lt H1.out.put) (by omega) (by simp), heap_drew]; exact H1.out.put)
  obtain ⟨⟨n0, n1, n2⟩, _⟩ := row3_cells H1.out.next
  clear hW
  go_region_held3 (fun w' => w'.cell? ⟨w1.heap.size, 0, none⟩ = some (.slice A n c) ∧ w'.cell? ⟨w1.heap.size, 1, none⟩ = some (.int .i64 at') ∧ w'.cell? ⟨w1.heap.size, 2, none⟩ = some (.int .i64 e'))
    (first | exact And.intro n0 (And.intro n1 n2) | exact q3 | exact q5)
    ((go_at_call 47; with_reducible refine (HK.out.2 _ (HRE.out.below hbd)).mono ?_; rintro ex w4 ⟨rfl, hr4, hm4⟩; obtain ⟨hq1, hq2, hq3⟩ := HGN.out _ hm4; have q3 := (row3_cells hq1).1; have q5 := store3_cells hq1 H1.out.g_gt (.slice A n c) (.int .i64 at') (.int .i64 e'); have q4 := row3_cells hq2; obtain ⟨⟨y0, y1, y2⟩, ⟨z0, z1, z2⟩⟩ := q4))
  have HF := Lib.hid (And.intro hr4 (And.intro (Mod.trans (mod_of_below H1.out.below.drew p none) (Succ.refl _ _) hm4) hq2))
  clear hr4 hm4 hq1 hq2 hq3 q3 q5
  go_wp2
  refine post_ct rfl (w.heap.size + 1 + 1) _ _ _ rfl (row3_store HF.out.2.2) rfl ?_
  have hlt := HR.out.lt
  exact ⟨rfl, HF.out.1.store3 (by omega) (blk_ne HR.out (by omega)) _ _ _, mod_store3 HF.out.2.1 (by omega) _ _ _⟩


set_option maxHeartbeats 4000000 in
set_option maxRecDepth 100000 in
theorem ask2 (p base n c c1 at_ : Nat) (e : Int) (A A1 : Option Addr) (b : List UInt8) (w : World) (x : PutV) (hk : x.k = 2) (hR : RB w A b) (hl : b.length = n) (hr : RdB w base p A1 n c1 b at_ e) (hat : at_ ≤ n) (hnc : n ≤ c) (hn : n ≤ 1000) :
    Calls Try.prog 65 #[.pointer (some ⟨p, 0, none⟩), .agg #[.slice A n c, .int .i64 at_, .int .i64 e], .agg #[.int .i64 x.k, .int .i64 x.n, .int .i64 x.v, .string x.s]] w
      (AskQ w base p A A1 n c c1 b (askR b x at_ e).1 (askR b x at_ e).2) := by
  have e1 : askR b x at_ e = (rSigned b at_ e).2 := by unfold askR; rw [hk]; simp
  rw [e1]
  unfold AskQ
  obtain ⟨v, at', e', hq⟩ : ∃ v at' e', rSigned b at_ e = (v, at', e') := ⟨_, _, _, rfl⟩
  have KD := fun (wx : World) (hb : Below w.heap.size w wx) => dsigned_any n c at_ e A b wx (hR.below hb) hl hat hnc (by omega)
  have KP := fun (wx : World) (h : RdB wx base p A1 n c1 b at_ e) => signedR_any p base n c1 at_ e A1 b wx h hat (by omega)
  rw [hq] at KD KP ⊢
  dsimp only at KD KP ⊢
  have HK := Lib.hid (And.intro KD KP)
  have HR := Lib.hid hr
  obtain ⟨xk, xn, xv, xs⟩ := x
  dsimp only at hk HK ⊢
  subst hk
  have HX := Lib.hid (asks w A n c at_ e ⟨2, xn, xv, xs⟩)
  clear KD KP hR hl hr e1 hq
  go_enter Try.func65, Try.ntmps65
  go_wp2_with fail
  refine (HK.out.1 _ HX.out.below).mono ?_
  rintro ex w1 ⟨rfl, hb1⟩
  have hA := (HX.out.go hb1).next (at' := at') (e' := e')
  obtain ⟨W, hW⟩ : ∃ W, W = w1.alloc (.cells #[.slice A n c, .int .i64 at', .int .i64 e'] 83) := ⟨_, rfl⟩
  rw [← hW] at hA
  obtain ⟨⟨y0, y1, y2⟩, ⟨z0, z1, z2⟩⟩ := row3_cells hA.res
  have H1 := Lib.hid hA
  clear hb1 hA
  go_wp2_with fail
  rw [← hW]
  have HRE := Lib.hid (HR.out.below H1.out.below)
  have hbd : Below W.heap.size W W.drew := (Below.refl _ _).drew
  have HGN := Lib.hid (show ∀ w', Mod W.drew w' p none → w'.heap[w1.heap.size]? = some (.cells #[.slice A n c, .int .i64 at', .int .i64 e'] 83 (0, 0)) ∧ w'.heap[w.heap.size + 1 + 1]? = some (.cells #[.slice none 0 0, .int .i64 0, .int .i64 0] 83 (0, 0)) ∧ w'.heap[w.heap.size + 1]? = some (.cells #[.int .i64 2, .int .i64 xn, .int .i64 xv, .string xs] 71 (0, 0)) by
    intro w' hm
    have hp := HR.out.lt
    have hg := H1.out.g_gt
    refine ⟨?_, ?_, ?_⟩
    · rw [hm.block _ (by rw [heap_drew]; exact blk_lt H1.out.next) (by omega) (by simp), heap_drew]; exact H1.out.next
    · rw [hm.block _ (by rw [heap_drew]; exact blk_lt H1.out.res) (by omega) (by simp), heap_drew]; exact H1.out.res
    · rw [hm.block _ (by rw [heap_drew]; exact blk_lt H1.out.put) (by omega) (by simp), heap_drew]; exact H1.out.put)
  obtain ⟨⟨n0, n1, n2⟩, _⟩ := row3_cells H1.out.next
  clear hW
  go_region_held3 (fun w' => w'.cell? ⟨w1.heap.size, 0, none⟩ = some (.slice A n c) ∧ w'.cell? ⟨w1.heap.size, 1, none⟩ = some (.int .i64 at') ∧ w'.cell? ⟨w1.heap.size, 2, none⟩ = some (.int .i64 e'))
    (first | exact And.intro n0 (And.intro n1 n2) | exact q3 | exact q5)
    ((go_at_call 55; with_reducible refine (HK.out.2 _ (HRE.out.below hbd)).mono ?_; rintro ex w4 ⟨rfl, hr4, hm4⟩; obtain ⟨hq1, hq2, hq3⟩ := HGN.out _ hm4; have q3 := (row3_cells hq1).1; have q5 := store3_cells hq1 H1.out.g_gt (.slice A n c) (.int .i64 at') (.int .i64 e'); have q4 := row3_cells hq2; obtain ⟨⟨y0, y1, y2⟩, ⟨z0, z1, z2⟩⟩ := q4))
  have HF := Lib.hid (And.intro hr4 (And.intro (Mod.trans (mod_of_below H1.out.below.drew p none) (Succ.refl _ _) hm4) hq2))
  clear hr4 hm4 hq1 hq2 hq3 q3 q5
  go_wp2
  refine post_ct rfl (w.heap.size + 1 + 1) _ _ _ rfl (row3_store HF.out.2.2) rfl ?_
  have hlt := HR.out.lt
  exact ⟨rfl, HF.out.1.store3 (by omega) (blk_ne HR.out (by omega)) _ _ _, mod_store3 HF.out.2.1 (by omega) _ _ _⟩


set_option maxHeartbeats 4000000 in
set_option maxRecDepth 100000 in
theorem ask3 (p base n c c1 at_ : Nat) (e : Int) (A A1 : Option Addr) (b : List UInt8) (w : World) (x : PutV) (hk : x.k = 3) (hR : RB w A b) (hl : b.length = n) (hr : RdB w base p A1 n c1 b at_ e) (hat : at_ ≤ n) (hnc : n ≤ c) (hn : n ≤ 1000) :
    Calls Try.prog 65 #[.pointer (some ⟨p, 0, none⟩), .agg #[.slice A n c, .int .i64 at_, .int .i64 e], .agg #[.int .i64 x.k, .int .i64 x.n, .int .i64 x.v, .string x.s]] w
      (AskQ w base p A A1 n c c1 b (askR b x at_ e).1 (askR b x at_ e).2) := by
  have e1 : askR b x at_ e = (rText b at_ e).2 := by unfold askR; rw [hk]; simp
  rw [e1]
  unfold AskQ
  obtain ⟨v, at', e', hq⟩ : ∃ v at' e', rText b at_ e = (v, at', e') := ⟨_, _, _, rfl⟩
  have KD := fun (wx : World) (hb : Below w.heap.size w wx) => dtext_any n c at_ e A b wx (hR.below hb) hl hat hnc (by omega)
  have KP := fun (wx : World) (h : RdB wx base p A1 n c1 b at_ e) => textR_any p base n c1 at_ e A1 b wx h hat (by omega)
  rw [hq] at KD KP ⊢
  dsimp only at KD KP ⊢
  have HK := Lib.hid (And.intro KD KP)
  have HR := Lib.hid hr
  obtain ⟨xk, xn, xv, xs⟩ := x
  dsimp only at hk HK ⊢
  subst hk
  have HX := Lib.hid (asks w A n c at_ e ⟨3, xn, xv, xs⟩)
  clear KD KP hR hl hr e1 hq
  go_enter Try.func65, Try.ntmps65
  go_wp2_with fail
  refine (HK.out.1 _ HX.out.below).mono ?_
  rintro ex w1 ⟨rfl, hb1⟩
  have hA := (HX.out.go hb1).next (at' := at') (e' := e')
  obtain ⟨W, hW⟩ : ∃ W, W = w1.alloc (.cells #[.slice A n c, .int .i64 at', .int .i64 e'] 83) := ⟨_, rfl⟩
  rw [← hW] at hA
  obtain ⟨⟨y0, y1, y2⟩, ⟨z0, z1, z2⟩⟩ := row3_cells hA.res
  have H1 := Lib.hid hA
  clear hb1 hA
  go_wp2_with fail
  rw [← hW]
  have HRE := Lib.hid (HR.out.below H1.out.below)
  have hbd : Below W.heap.size W W.drew := (Below.refl _ _).drew
  have HGN := Lib.hid (show ∀ w', Mod W.drew w' p none → w'.heap[w1.heap.size]? = some (.cells #[.slice A n c, .int .i64 at', .int .i64 e'] 83 (0, 0)) ∧ w'.heap[w.heap.size + 1 + 1]? = some (.cells #[.slice none 0 0, .int .i64 0, .int .i64 0] 83 (0, 0)) ∧ w'.heap[w.heap.size + 1]? = some (.cells #[.int .i64 3, .int .i64 xn, .int .i64 xv, .string xs] 71 (0, 0)) by
    intro w' hm
    have hp := HR.out.lt
    have hg := H1.out.g_gt
    refine ⟨?_, ?_, ?_⟩
    · rw [hm.block _ (by rw [heap_drew]; exact blk_lt H1.out.next) (by omega) (by simp), heap_drew]; exact H1.out.next
    · rw [hm.block _ (by rw [heap_drew]; exact blk_lt H1.out.res) (by omega) (by simp), heap_drew]; exact H1.out.res
    · rw [hm.block _ (by rw [heap_drew]; exact blk_lt H1.out.put) (by omega) (by simp), heap_drew]; exact H1.out.put)
  obtain ⟨⟨n0, n1, n2⟩, _⟩ := row3_cells H1.out.next
  clear hW
  go_region_held3 (fun w' => w'.cell? ⟨w1.heap.size, 0, none⟩ = some (.slice A n c) ∧ w'.cell? ⟨w1.heap.size, 1, none⟩ = some (.int .i64 at') ∧ w'.cell? ⟨w1.heap.size, 2, none⟩ = some (.int .i64 e'))
    (first | exact And.intro n0 (And.intro n1 n2) | exact q3 | exact q5)
    ((go_at_call 56; with_reducible refine (HK.out.2 _ (HRE.out.below hbd)).mono ?_; rintro ex w4 ⟨rfl, hr4, hm4⟩; obtain ⟨hq1, hq2, hq3⟩ := HGN.out _ hm4; have q3 := (row3_cells hq1).1; have q5 := store3_cells hq1 H1.out.g_gt (.slice A n c) (.int .i64 at') (.int .i64 e'); have q4 := row3_cells hq2; obtain ⟨⟨y0, y1, y2⟩, ⟨z0, z1, z2⟩⟩ := q4))
  have HF := Lib.hid (And.intro hr4 (And.intro (Mod.trans (mod_of_below H1.out.below.drew p none) (Succ.refl _ _) hm4) hq2))
  clear hr4 hm4 hq1 hq2 hq3 q3 q5
  go_wp2
  refine post_ct rfl (w.heap.size + 1 + 1) _ _ _ rfl (row3_store HF.out.2.2) rfl ?_
  have hlt := HR.out.lt
  exact ⟨rfl, HF.out.1.store3 (by omega) (blk_ne HR.out (by omega)) _ _ _, mod_store3 HF.out.2.1 (by omega) _ _ _⟩


set_option maxHeartbeats 4000000 in
set_option maxRecDepth 100000 in
theorem ask4 (p base n c c1 at_ : Nat) (e : Int) (A A1 : Option Addr) (b : List UInt8) (w : World) (x : PutV) (hk : x.k = 4) (hR : RB w A b) (hl : b.length = n) (hr : RdB w base p A1 n c1 b at_ e) (hat : at_ ≤ n) (hnc : n ≤ c) (hn : n ≤ 1000) :
    Calls Try.prog 65 #[.pointer (some ⟨p, 0, none⟩), .agg #[.slice A n c, .int .i64 at_, .int .i64 e], .agg #[.int .i64 x.k, .int .i64 x.n, .int .i64 x.v, .string x.s]] w
      (AskQ w base p A A1 n c c1 b (askR b x at_ e).1 (askR b x at_ e).2) := by
  have e1 : askR b x at_ e = (rList b x.v at_ e).2 := by unfold askR; rw [hk]; simp
  rw [e1]
  unfold AskQ
  obtain ⟨v, at', e', hq⟩ : ∃ v at' e', rList b x.v at_ e = (v, at', e') := ⟨_, _, _, rfl⟩
  have KD := fun (wx : World) (hb : Below w.heap.size w wx) => dlist_any x.v n c at_ e A b wx (hR.below hb) hl hat hnc (by omega)
  have KP := fun (wx : World) (h : RdB wx base p A1 n c1 b at_ e) => listR_any x.v p base n c1 at_ e A1 b wx h hat (by omega)
  rw [hq] at KD KP ⊢
  dsimp only at KD KP ⊢
  have HK := Lib.hid (And.intro KD KP)
  have HR := Lib.hid hr
  obtain ⟨xk, xn, xv, xs⟩ := x
  dsimp only at hk HK ⊢
  subst hk
  have HX := Lib.hid (asks w A n c at_ e ⟨4, xn, xv, xs⟩)
  clear KD KP hR hl hr e1 hq
  go_enter Try.func65, Try.ntmps65
  go_wp2_with fail
  refine (HK.out.1 _ HX.out.below).mono ?_
  rintro ex w1 ⟨rfl, hb1⟩
  have hA := (HX.out.go hb1).next (at' := at') (e' := e')
  obtain ⟨W, hW⟩ : ∃ W, W = w1.alloc (.cells #[.slice A n c, .int .i64 at', .int .i64 e'] 83) := ⟨_, rfl⟩
  rw [← hW] at hA
  obtain ⟨⟨y0, y1, y2⟩, ⟨z0, z1, z2⟩⟩ := row3_cells hA.res
  have H1 := Lib.hid hA
  clear hb1 hA
  go_wp2_with fail
  rw [← hW]
  have HRE := Lib.hid (HR.out.below H1.out.below)
  have hbd : Below W.heap.size W W.drew := (Below.refl _ _).drew
  have HGN := Lib.hid (show ∀ w', Mod W.drew w' p none → w'.heap[w1.heap.size]? = some (.cells #[.slice A n c, .int .i64 at', .int .i64 e'] 83 (0, 0)) ∧ w'.heap[w.heap.size + 1 + 1]? = some (.cells #[.slice none 0 0, .int .i64 0, .int .i64 0] 83 (0, 0)) ∧ w'.heap[w.heap.size + 1]? = some (.cells #[.int .i64 4, .int .i64 xn, .int .i64 xv, .string xs] 71 (0, 0)) by
    intro w' hm
    have hp := HR.out.lt
    have hg := H1.out.g_gt
    refine ⟨?_, ?_, ?_⟩
    · rw [hm.block _ (by rw [heap_drew]; exact blk_lt H1.out.next) (by omega) (by simp), heap_drew]; exact H1.out.next
    · rw [hm.block _ (by rw [heap_drew]; exact blk_lt H1.out.res) (by omega) (by simp), heap_drew]; exact H1.out.res
    · rw [hm.block _ (by rw [heap_drew]; exact blk_lt H1.out.put) (by omega) (by simp), heap_drew]; exact H1.out.put)
  obtain ⟨⟨n0, n1, n2⟩, _⟩ := row3_cells H1.out.next
  obtain ⟨_, _, m2, _⟩ := row4_cells H1.out.put
  clear hW
  go_region_held3 (fun w' => w'.cell? ⟨w1.heap.size, 0, none⟩ = some (.slice A n c) ∧ w'.cell? ⟨w1.heap.size, 1, none⟩ = some (.int .i64 at') ∧ w'.cell? ⟨w1.heap.size, 2, none⟩ = some (.int .i64 e') ∧ w'.cell? ⟨w.heap.size + 1, 2, none⟩ = some (.int .i64 xv))
    (first | exact And.intro n0 (And.intro n1 (And.intro n2 m2)) | exact And.intro q3.1 (And.intro q3.2.1 (And.intro q3.2.2 q6)) | exact And.intro q5.1 (And.intro q5.2.1 (And.intro q5.2.2 q7)))
    ((go_at_call 67; with_reducible refine (HK.out.2 _ (HRE.out.below hbd)).mono ?_; rintro ex w4 ⟨rfl, hr4, hm4⟩; obtain ⟨hq1, hq2, hq3⟩ := HGN.out _ hm4; have q3 := (row3_cells hq1).1; have q5 := store3_cells hq1 H1.out.g_gt (.slice A n c) (.int .i64 at') (.int .i64 e'); have q4 := row3_cells hq2; obtain ⟨⟨y0, y1, y2⟩, ⟨z0, z1, z2⟩⟩ := q4; have q6 := (row4_cells hq3).2.2.1; have q7 := (store_cell4 hq3 (Nat.lt_succ_self _) (.slice A n c) (.int .i64 at') (.int .i64 e')).1))
  have HF := Lib.hid (And.intro hr4 (And.intro (Mod.trans (mod_of_below H1.out.below.drew p none) (Succ.refl _ _) hm4) hq2))
  clear hr4 hm4 hq1 hq2 hq3 q3 q5
  go_wp2
  refine post_ct rfl (w.heap.size + 1 + 1) _ _ _ rfl (row3_store HF.out.2.2) rfl ?_
  have hlt := HR.out.lt
  exact ⟨rfl, HF.out.1.store3 (by omega) (blk_ne HR.out (by omega)) _ _ _, mod_store3 HF.out.2.1 (by omega) _ _ _⟩

end
end Go.Proofs.Ytnkbkhlbogcfaaa
