/- Sections put: the walks. -/
import Derived.Test.YtnkbkhlbogcfaaaSh
set_option linter.unusedVariables false
set_option linter.unusedSimpArgs false
namespace Go.Proofs.Ytnkbkhlbogcfaaa
open Go.RowKit Go.Proofs.YtnkbkhlbogcfaaaW.PrintWords
noncomputable section

theorem putL_len (l : List SecV) (K : Int) (y : SecV) : (putL l K y).length = if fnd K l < l.length then l.length else l.length + 1 := by
  unfold putL; split <;> simp
theorem putL_mem {l : List SecV} {K : Int} {y x : SecV} (h : x ∈ putL l K y) : x ∈ l ∨ x = y := by
  unfold putL at h
  split at h
  · exact List.mem_or_eq_of_mem_set h
  · simpa using h

set_option maxHeartbeats 4000000 in
set_option maxRecDepth 100000 in
theorem rput_any (K : Int) (l : List SecV) (base n c m d : Nat) (A B : Option Addr) (bd : List UInt8) (w : World) (hk1 : -9223372036854775808 ≤ K) (hk2 : K ≤ 9223372036854775807) (hO : OSec w base A n c l) (hn : n ≤ 100) (hb : ∀ x ∈ l, x.ok ∧ RB w x.A x.b) (hB : RB w B bd) (hm : bd.length = m) (hmd : m ≤ d) :
    Calls Try.prog 63 #[.slice A n c, .int .i64 K, .slice B m d] w fun e w' => ∃ A' n' c' y, e = .returned (.slice A' n' c') ∧ y.k = K ∧ y.b = bd ∧ SE w' A' (putL l K y) ∧ (putL l K y).length = n' ∧ Below w.heap.size w w' := by
  have HO := Lib.hid hO
  have HBd := Lib.hid hb
  have HB := Lib.hid (And.intro hB (And.intro hm hmd))
  have HL := Lib.hid hO.len
  have KF := Lib.hid (fun (wx : World) (h : Below w.heap.size w wx) => rfind_any K l A n c wx hO.len ((hO.se (by omega) hb).below h))
  clear hO hb hB hm hmd
  go_enter Try.func63, Try.ntmps63
  go_wp2_with (at_builtin; refine wpAppAll base n c A l rfl rfl rfl rfl HO.out (by omega) ?_; intro A1 c1 w1 ho1 hb1)
  have H1 := Lib.hid (And.intro ho1 hb1)
  clear ho1 hb1
  refine (KF.out _ H1.out.2).mono ?_
  rintro e w2 ⟨rfl, rfl⟩
  have HY := Lib.hid (show ∀ wx, Below w.heap.size w wx → ∀ x, (x ∈ l ∨ x = (⟨K, B, d, bd⟩ : SecV)) → x.ok ∧ RB wx x.A x.b by
    rintro wx hwx x (hx | rfl)
    · exact ⟨(HBd.out x hx).1, (HBd.out x hx).2.below hwx⟩
    · exact ⟨⟨⟨hk1, hk2⟩, by have := HB.out; dsimp only; omega, trivial⟩, HB.out.1.below hwx⟩)
  by_cases hf : fnd K l < l.length
  · have e1 : fndI K l = (fnd K l : Int) := by unfold fndI; rw [if_pos hf]
    rw [e1]
    obtain ⟨x, hx, hxk⟩ := fnd_at hf
    have hpl := Lib.hid (show ∀ y, putL l K y = l.set (fnd K l) y from fun y => by unfold putL; rw [if_pos hf])
    obtain ⟨k, hk⟩ : ∃ k, k = fnd K l := ⟨_, rfl⟩
    rw [← hk] at hx hpl hf ⊢
    have k0 : (0 : Int) ≤ (k : Int) := by omega
    have kn : (k : Int) < (n : Int) := by have := HL.out; omega
    have hA1 : ∃ g, A1 = some ⟨g, 0, none⟩ ∧ w.heap.size ≤ g := by
      rcases H1.out.1.2 with ⟨_, h⟩ | ⟨g, cap, cur, e, hg, _⟩
      · have := HL.out; omega
      · injection e with e1; exact ⟨g, e1, hg⟩
    obtain ⟨g, rfl, hgw⟩ := hA1
    obtain ⟨c0, f0, hst⟩ := H1.out.1.store (y := ⟨K, B, d, bd⟩) hx hxk.symm
    have hm := HB.out.2.1
    dsimp only at hst
    rw [hm] at hst
    have HST := Lib.hid hst
    clear e1 hk hx hxk hst hf hm
    go_wp2
    go_ret
    have hbf : Below w.heap.size w (w2.setCell ⟨g, k * 2 + 1, none⟩ (.slice B m d)) := H1.out.2.setCell hgw _
    refine ⟨some ⟨g, 0, none⟩, n, c1, ⟨K, B, d, bd⟩, rfl, rfl, rfl, ?_, ?_, hbf⟩
    · rw [hpl.out]
      refine HST.out.se (by omega) fun z hz => HY.out _ hbf z ?_
      exact List.mem_or_eq_of_mem_set hz
    · rw [hpl.out, List.length_set]; exact HL.out
  · have e1 : fndI K l = -1 := by unfold fndI; rw [if_neg hf]
    rw [e1]
    have hpl := Lib.hid (show ∀ y, putL l K y = l ++ [y] from fun y => by unfold putL; rw [if_neg hf])
    have hm := HB.out.2.1
    obtain ⟨y, hy⟩ : ∃ y : SecV, y = ⟨K, B, d, bd⟩ := ⟨_, rfl⟩
    have HYy := Lib.hid hy
    have y1 : K = y.k := by rw [hy]
    have y2 : B = y.A := by rw [hy]
    have y3 : d = y.c := by rw [hy]
    have y4 : m = y.b.length := by rw [hy]; exact hm.symm
    clear e1 hf hm hy
    subst y1 y2 y3 y4
    go_wp2_with (at_builtin; refine appSec y w.heap.size A1 n c1 l rfl rfl rfl rfl H1.out.1 H1.out.2.size (by omega) ?_; intro A2 c2 w3 ho3 hb3 _)
    go_ret
    have hbf : Below w.heap.size w w3 := H1.out.2.trans hb3
    refine ⟨A2, n + 1, c2, y, rfl, rfl, by rw [HYy.out], ?_, ?_, hbf⟩
    · rw [hpl.out]
      refine ho3.se (by omega) fun z hz => HY.out _ hbf z ?_
      rw [← HYy.out]
      simpa using hz
    · rw [hpl.out, List.length_append]; have := HL.out; simp; exact this

theorem OB.cap_le {w : World} {base n c : Nat} {A : Option Addr} {b : List UInt8} (h : OB w base A n c b) : (c : Int) ≤ 9223372036854775807 := by
  rcases h.2 with ⟨e, _⟩ | ⟨g, cap, cur, e, _, _, _, hcm, _⟩
  · injection e with _ _ e3; omega
  · injection e with _ _ e3; unfold maxLen at hcm; omega
theorem OSec.lt {w : World} {base n c g : Nat} {A : Option Addr} {l : List SecV} (h : OSec w base A n c l) (hA : A = some ⟨g, 0, none⟩) : g < w.heap.size := by
  subst hA
  rcases h.2 with ⟨e, _⟩ | ⟨g', cap, cur, e, _, hh, _⟩
  · injection e with e1; cases e1
  · injection e with e1
    injection e1 with e1
    injection e1 with e1
    subst e1
    exact blk_lt hh
theorem osec_of_row {w : World} {base g n : Nat} {l : List SecV} {tl : List Value} (hg : w.heap[g]? = some (.cells (secCells l ++ tl).toArray 68 (0, 0))) (hbase : base ≤ g) (hl : l.length = n) (ht : tl.length = 2) (hn : n ≤ 1000) : OSec w base (some ⟨g, 0, none⟩) n (n + 1) l := by
  refine ⟨by rw [secCells_length, hl], .inr ⟨g, n + 1, _, rfl, hbase, hg, by omega, by unfold maxLen; omega, ?_, ?_⟩⟩
  · simp [secCells_length, hl, ht]; omega
  · simp only [List.toList_toArray]
    rw [← hl, ← secCells_length, List.take_left]

set_option maxHeartbeats 4000000 in
set_option maxRecDepth 100000 in
theorem sput_any (K : Int) (l : List SecV) (base n c m d : Nat) (A B : Option Addr) (bd : List UInt8) (w : World) (hk1 : -9223372036854775808 ≤ K) (hk2 : K ≤ 9223372036854775807) (hO : OSec w base A n c l) (hn : n ≤ 100) (hb : ∀ x ∈ l, x.ok ∧ RB w x.A x.b) (hB : RB w B bd) (hm : bd.length = m) (hm100 : m ≤ 100) :
    Calls Try.prog 61 #[.slice A n c, .int .i64 K, .slice B m d] w fun e w' => ∃ A' n' c' y, e = .returned (.slice A' n' c') ∧ y.k = K ∧ y.b = bd ∧ SE w' A' (putL l K y) ∧ (putL l K y).length = n' ∧ Below w.heap.size w w' := by
  have HO := Lib.hid hO
  have HBd := Lib.hid hb
  have HB := Lib.hid (And.intro hB hm)
  have HL := Lib.hid hO.len
  have n0 : (0 : Int) ≤ (n : Int) := by omega
  clear hO hb hB hm
  go_enter Try.func61, Try.ntmps61
  go_wp2_with (first
    | (refine wpMakeSec n rfl rfl rfl rfl (by omega) ?_; intro cur hcur)
    | (refine wpCopySec base n c (n + 1) w.heap.size A l cur rfl rfl rfl rfl (HO.out.below (below_alloc (Below.refl _ _) _)) (heap_alloc_new w _) (by omega) ?_; intro w1 hrow hb1))
  have hb1' : Below w.heap.size w w1 := (below_alloc (Below.refl w.heap.size w) (.cells cur 68)).trans hb1
  have ho1 := osec_of_row (base := w.heap.size) hrow (Nat.le_refl _) HL.out (by simp [hcur]; omega) (by omega)
  have H1 := Lib.hid (And.intro ho1 hb1')
  clear hrow hb1 hb1' ho1 hcur
  refine (clone_any bd B m d _ HB.out.2 (HB.out.1.below H1.out.2) (by omega)).mono ?_
  rintro e w2 ⟨B2, d2, rfl, hob2, hb2⟩
  have H2 := Lib.hid (And.intro hob2 (And.intro (H1.out.1.below hb2) (H1.out.2.trans (hb2.mono H1.out.2.size))))
  clear hob2 hb2
  have HSE := Lib.hid (H2.out.2.1.se (by omega) (fun x hx => ⟨(HBd.out x hx).1, (HBd.out x hx).2.below H2.out.2.2⟩))
  go_wp2_with fail
  refine (secof_any K l (some ⟨w.heap.size, 0, none⟩) n (n + 1) _ HL.out HSE.out).mono ?_
  rintro e w3 ⟨hcase, hb3⟩
  have H3 := Lib.hid (And.intro (H2.out.2.1.below hb3) (And.intro (H2.out.2.2.trans (hb3.mono H2.out.2.2.size)) (H2.out.1.rb.below hb3)))
  have HCap := Lib.hid (And.intro H2.out.1.cap H2.out.1.cap_le)
  have hgt : w.heap.size < w1.heap.size := H1.out.1.lt rfl
  have HOB := Lib.hid (H2.out.1.below hb3)
  clear hb3
  rcases hcase with ⟨hf, ad, hada, rfl⟩ | ⟨hf, rfl⟩
  · injection hada with hada
    subst hada
    obtain ⟨x, hx, hxk⟩ := fnd_at (K := K) (l := l) (by have := HL.out; omega)
    have hpl := Lib.hid (show ∀ y, putL l K y = l.set (fnd K l) y from fun y => by unfold putL; rw [if_pos (by have := HL.out; omega)])
    obtain ⟨k, hk⟩ : ∃ k, k = fnd K l := ⟨_, rfl⟩
    rw [← hk] at hx hpl hf ⊢
    obtain ⟨c0, f0, hst⟩ := H3.out.1.store (y := ⟨K, B2, d2, bd⟩) hx hxk.symm
    have hm := HB.out.2
    dsimp only at hst
    rw [hm] at hst
    have HST := Lib.hid hst
    clear hk hx hxk hst hm
    rw [add_plain]
    go_wp2
    go_ret
    have hbf : Below w.heap.size w (w3.setCell ⟨w.heap.size, k * 2 + 1, none⟩ (.slice B2 m d2)) := H3.out.2.1.setCell (Nat.le_refl _) _
    have hrbf : RB (w3.setCell ⟨w.heap.size, k * 2 + 1, none⟩ (.slice B2 m d2)) B2 bd :=
      OB.rb (base := w1.heap.size) (n := m) (c := d2) (ownsRow_setCell_other HOB.out (by intro q; have := HOB.out.base _ q; dsimp only at this; omega) _)
    refine ⟨some ⟨w.heap.size, 0, none⟩, n, n + 1, ⟨K, B2, d2, bd⟩, rfl, rfl, rfl, ?_, ?_, hbf⟩
    · rw [hpl.out]
      refine HST.out.se (by omega) fun z hz => ?_
      rcases List.mem_or_eq_of_mem_set hz with hz | rfl
      · exact ⟨(HBd.out z hz).1, (HBd.out z hz).2.below hbf⟩
      · exact ⟨⟨⟨hk1, hk2⟩, by have := HB.out.2; have := HCap.out.1; dsimp only; omega, trivial⟩, hrbf⟩
    · rw [hpl.out, List.length_set]; exact HL.out
  · have hpl := Lib.hid (show ∀ y, putL l K y = l ++ [y] from fun y => by unfold putL; rw [if_neg (by have := HL.out; omega)])
    have hm := HB.out.2
    obtain ⟨y, hy⟩ : ∃ y : SecV, y = ⟨K, B2, d2, bd⟩ := ⟨_, rfl⟩
    have HYy := Lib.hid (show y.k = K ∧ y.b = bd ∧ y.A = B2 ∧ y.c = d2 by rw [hy]; exact ⟨rfl, rfl, rfl, rfl⟩)
    have y1 : K = y.k := by rw [hy]
    have y2 : B2 = y.A := by rw [hy]
    have y3 : d2 = y.c := by rw [hy]
    have y4 : m = y.b.length := by rw [hy]; exact hm.symm
    clear hf hm hy
    subst y1 y2 y3 y4
    go_wp2_with (at_builtin; refine appSec y w.heap.size (some ⟨w.heap.size, 0, none⟩) n (n + 1) l rfl rfl rfl rfl H3.out.1 H3.out.2.1.size (by omega) ?_; intro A4 c4 w4 ho4 hb4 hg4)
    go_ret
    have hbf : Below w.heap.size w w4 := H3.out.2.1.trans hb4
    have hrbf : RB w4 y.A y.b := by
      rw [HYy.out.2.1]
      refine OB.rb (base := w1.heap.size) (n := y.b.length) (c := y.c) (own_move HOB.out fun q hq => hg4.block q (own_lt HOB.out q hq) ?_)
      intro e
      have := HOB.out.base q hq
      simp [Value.ownBlock] at e
      omega
    refine ⟨A4, n + 1, c4, y, rfl, rfl, HYy.out.2.1, ?_, ?_, hbf⟩
    · rw [hpl.out]
      refine ho4.se (by omega) fun z hz => ?_
      rcases List.mem_append.1 hz with hz | hz
      · exact ⟨(HBd.out z hz).1, (HBd.out z hz).2.below hbf⟩
      · simp at hz
        subst hz
        exact ⟨⟨⟨hk1, hk2⟩, HCap.out.1, trivial⟩, hrbf⟩
    · rw [hpl.out, List.length_append]; have := HL.out; simp; exact this
end
end Go.Proofs.Ytnkbkhlbogcfaaa
