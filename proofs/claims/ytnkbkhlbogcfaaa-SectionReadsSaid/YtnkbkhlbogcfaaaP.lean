/- The document's text; the layer's example. -/
import Derived.Test.YtnkbkhlbogcfaaaO
import Derived.Lib.ConvBytes
set_option linter.unusedVariables false
set_option linter.unusedSimpArgs false
namespace Go.Proofs.Ytnkbkhlbogcfaaa
open Go.RowKit Go.Proofs.YtnkbkhlbogcfaaaW.PrintWords
noncomputable section

theorem bytesWorld_below (w : World) (e : TypeId) (s : ByteArray) {base : Nat} (hb : base ≤ w.heap.size) : Below base w (Lib.bytesWorld w e s) := by
  refine ⟨?_, ?_, ?_, ?_, fun k hk => Lib.bytesWorld_at_old w e s k (by omega)⟩
  · simp [Lib.bytesWorld, World.freeze, World.alloc, World.drew, -World.alloc_eq, -World.drew_eq]
  · simp [Lib.bytesWorld, World.freeze, World.alloc, World.drew, -World.alloc_eq, -World.drew_eq]
  · simp [Lib.bytesWorld, World.freeze, World.alloc, World.drew, -World.alloc_eq, -World.drew_eq]
  · rw [Lib.bytesWorld_size]; omega
theorem bytesWorld_rb (w : World) (s : ByteArray) (hs : s.size ≤ 100000) : RB (Lib.bytesWorld w 5 s) (some ⟨w.heap.size, 0, none⟩) (sb s) := by
  refine rb_block (Lib.bytesWorld_at_new w 5 s) (by rw [sb_length]; omega) fun j x hx => ?_
  have hj : j < s.size := by have := (List.getElem?_eq_some_iff.1 hx).1; rw [sb_length] at this; exact this
  have h1 := Lib.bytesWorld_cell w 5 s j hj
  rw [cell_of_row _ _ j _ _ _ (Lib.bytesWorld_at_new w 5 s)] at h1
  rw [h1, List.getD_eq_getElem?_getD]
  unfold sb at hx
  rw [hx]
  rfl

section
variable {ops : Array Oper} {rest : List Oper} {o : Oper} {a : Act} {Q : Exit → Act → World → Prop} {W : World} {s x : Operand}
/-- []byte(s) -/
theorem convS (y : ByteArray) (hgd : o.guard = none) (ho : o.op = .convert 9 22 x) (hx : a.eval x = .string y) (hs : y.size ≤ 100000)
    (h : ∀ c1 w1, RB w1 (some ⟨W.heap.size, 0, none⟩) (sb y) → Below W.heap.size W w1 → wpList Try.prog ops Q rest (a.put o.dst (.slice (some ⟨W.heap.size, 0, none⟩) y.size c1)) w1) :
    wpList Try.prog ops Q (o :: rest) a W := by
  refine wpList_plain hgd fun K hK => ?_
  have hr := Lib.run_convert_string_bytes (P := Try.prog) W 9 22 5 y Try.underlying9 Try.underlying22 Try.underlying5
  unfold Oper.wp execOp
  simp only [ho, hx, Sem.run_bind, Sem.run_pure, Result.andThen_ok, hr]
  exact hK _ _ (h _ _ (bytesWorld_rb W y hs) (bytesWorld_below W 5 y (Nat.le_refl _)))
end

set_option maxHeartbeats 1000000 in
set_option maxRecDepth 100000 in
theorem rtext_any (y : ByteArray) (hy : y.size ≤ 100000) (w : World) :
    Calls Try.prog 80 #[.string y] w fun e w' => ∃ A' c', e = .returned (.slice A' ((shortB y.size).length + y.size) c') ∧ OB w' w.heap.size A' ((shortB y.size).length + y.size) c' (shortB y.size ++ sb y) ∧ Below w.heap.size w w' := by
  have hl9 := Lib.hid (shortB_le9 (m := y.size) (by omega))
  go_enter Try.func80, Try.ntmps80
  go_wp2_with fail
  refine (rshort_any (y.size : Int) y.size (by omega) (by omega) _).mono ?_
  rintro e w1 ⟨A1, c1, rfl, ho1, hb1⟩
  have hW := Lib.hid (And.intro ho1 hb1)
  clear ho1 hb1
  go_wp2_with (first
    | (refine convS y rfl rfl rfl hy ?_; intro c2 w2 hr2 hb2)
    | (at_builtin; refine appB w.heap.size A1 (shortB y.size).length c1 (shortB y.size) (some ⟨w1.heap.size, 0, none⟩) y.size _ (sb y) rfl rfl rfl rfl (hW.out.1.below hb2) hr2 (sb_length y) (Nat.le_trans hW.out.2.size hb2.size) (by have := hl9.out; omega) ?_; intro A3 c3 w3 ho3 hg3 hs3; rw [own_blk] at hg3))
  go_ret
  exact ⟨A3, c3, rfl, ho3, (hW.out.2.trans (hb2.mono hW.out.2.size)).grown hg3 (Nat.le_trans hW.out.2.size hb2.size) hW.out.1.blk_base⟩

theorem rb_new3 (w : World) (v0 v1 v2 : Int) (ys : List UInt8) (h : bv ys = [v0, v1, v2]) : RB (w.alloc (.cells #[.int .u8 v0, .int .u8 v1, .int .u8 v2] 5)) (some ⟨w.heap.size, 0, none⟩) ys := by
  have hl : ys.length = 3 := by have := congrArg List.length h; simpa [bv] using this
  refine rb_block (heap_alloc_new w _) (by omega) fun j x hx => ?_
  have hj : j < 3 := by have := (List.getElem?_eq_some_iff.1 hx).1; omega
  have e : (bv ys)[j]? = some (x.toNat : Int) := by simp [bv, hx]
  rw [h] at e
  match j, hj with
  | 0, _ => simp at e; subst e; rfl
  | 1, _ => simp at e; subst e; rfl
  | 2, _ => simp at e; subst e; rfl

theorem short300 : shortB 300 = [172, 2] := by
  rw [shortB_more (by omega), shortB_one (by omega)]
  rfl
theorem signM1 : shortB (signN (-1)) = [1] := by
  have h : signN (-1) = 1 := by decide
  rw [h, shortB_one (by omega)]
  rfl

set_option maxHeartbeats 1000000 in
set_option maxRecDepth 100000 in
theorem lives01_any (w : World) : Calls Try.prog 36 #[] w fun e w' => e = .returned (.bool true) ∧ Below w.heap.size w w' := by
  have hw0 := Lib.hid (WrB.new w)
  have h3 := Lib.hid (signM1)
  go_enter Try.func36, Try.ntmps36
  go_wp2_with fail
  refine (short_any 300 300 w.heap.size w.heap.size 0 0 none [] _ hw0.out (by omega) (by omega) (by omega)).mono ?_
  rintro e w1 ⟨A1, c1, rfl, hw1, hm1, hs1⟩
  rw [short300] at hw1
  have hW1 := Lib.hid (And.intro hw1 (And.intro hm1 hs1))
  clear hw1 hm1 hs1
  go_wp2_with fail
  refine (signed_any (-1) w.heap.size w.heap.size _ c1 A1 _ _ hW1.out.1 (by simp)).mono ?_
  rintro e w2 ⟨A2, c2, rfl, hw2, hm2, hs2⟩
  rw [signM1] at hw2
  have hW2 := Lib.hid (And.intro hw2 (And.intro hm2 hs2))
  clear hw2 hm2 hs2
  go_wp2_with fail
  refine (wbytes_any w.heap.size w.heap.size _ c2 A2 _ _ hW2.out.1 (by simp)).mono ?_
  rintro e w3 ⟨A3, c3, rfl, ho3, hb3⟩
  have hW3 := Lib.hid (And.intro ho3 hb3)
  clear ho3 hb3
  have r3 := Lib.hid (rb_new3 w3 172 2 1 [172, 2, 1] rfl)
  go_wp2_with fail
  refine (same_any [172, 2, 1] [172, 2, 1] A3 (some ⟨w3.heap.size, 0, none⟩) 3 3 c3 3 _ rfl rfl (hW3.out.1.rb.below (below_alloc (Below.refl _ _) _)) r3.out (by omega)).mono ?_
  rintro e w4 ⟨rfl, hb4⟩
  have hb4' := Lib.hid hb4
  clear hb4
  go_wp2_with fail
  refine (wlen_any w.heap.size w.heap.size _ c2 A2 _ _ (((hW2.out.1.below hW3.out.2).below (below_alloc (Below.refl _ _) _)).below hb4'.out)).mono ?_
  rintro e w5 ⟨rfl, rfl⟩
  go_wp2
  go_ret
  refine ⟨rfl, ?_⟩
  have b1 := hw0.out.mod_below (by simp) hW1.out.2.1
  have b2 := hW1.out.1.mod_below hW1.out.1.base_le hW2.out.2.1
  have b3 := hW3.out.2.mono hW2.out.1.base_le
  have s3 : w.heap.size ≤ w3.heap.size := Nat.le_trans hW2.out.1.base_le hW3.out.2.size
  exact ((((below_alloc (Below.refl _ _) _).trans b1).trans b2).trans b3).trans (((below_alloc (Below.refl _ _) _).trans (hb4'.out.mono (by simp))).mono s3)
end
end Go.Proofs.Ytnkbkhlbogcfaaa
