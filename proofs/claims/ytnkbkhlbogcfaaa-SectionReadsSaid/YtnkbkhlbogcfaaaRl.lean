/- A file, read by the document: the walk. -/
import Derived.Test.YtnkbkhlbogcfaaaRk
import Derived.Test.YtnkbkhlbogcfaaaSq
import Derived.OpenShut
import Derived.BigRegion
import Derived.BigQuiet
import Derived.Deep.RegionHeld3
set_option linter.unusedVariables false
set_option linter.unusedSimpArgs false
namespace Go.Proofs.Ytnkbkhlbogcfaaa
open Go.RowKit Go.Proofs.YtnkbkhlbogcfaaaW.PrintWords
noncomputable section

/-- what the document's Read answers -/
def ReadQ (w : World) (b : List UInt8) (e : Ending) (w' : World) : Prop :=
  ((fileE b ≠ 0 ∧ e = .returned (.tuple #[.int .i64 0, .slice none 0 0, .int .i64 (fileE b)])) ∨
    (fileE b = 0 ∧ ∃ A' c' l, e = .returned (.tuple #[.int .i64 ((hVer (openB b)).1 : Nat), .slice A' (hCnt (openB b)).1 c', .int .i64 0]) ∧ SE w' A' l ∧ AsRead (openB b) l)) ∧ Below w.heap.size w w'

section
variable {ops : Array Oper} {rest : List Oper} {o : Oper} {a : Act} {Q : Exit → Act → World → Prop} {W : World} {s x : Operand}
/-- append to nil -/
theorem appNil (A2 : Option Addr) (m c2 : Nat) (ys : List UInt8) (hgd : o.guard = none) (ho : o.op = .call { callee := .builtin .append, args := #[s, x], argTypes := #[22, 22] })
    (hs : a.eval s = .slice none 0 0) (hx : a.eval x = .slice A2 m c2) (HR : RB W A2 ys) (hm : ys.length = m) (hl : m ≤ 140737488355328)
    (h : ∀ A1 c1 w1, OB w1 W.heap.size A1 m c1 ys → Below W.heap.size W w1 → wpList Try.prog ops Q rest (a.put o.dst (.slice A1 m c1)) w1) :
    wpList Try.prog ops Q (o :: rest) a W := by
  refine appB W.heap.size none 0 0 [] A2 m c2 ys hgd ho hs hx (World.ownsRow_nil _ _ _ _) HR hm (Nat.le_refl _) (by omega) fun A1 c1 w1 h1 h2 h3 => ?_
  rw [Nat.zero_add] at h1 ⊢
  rw [List.nil_append] at h1
  exact h A1 c1 w1 h1 ((Below.refl _ _).grown h2 (Nat.le_refl _) (fun q hq => by cases hq))
end
theorem gl_form {w : World} {base n c : Nat} {A : Option Addr} {l : List SecV} (h : OSec w base A n c l) (hn : 0 < n) : ∃ g, A = some ⟨g, 0, none⟩ ∧ base ≤ g ∧ g < w.heap.size := by
  rcases h.2 with ⟨_, h0⟩ | ⟨g, cap, cur, e, hg, hh, _⟩
  · have := h.len; omega
  · injection e with e1
    exact ⟨g, e1, hg, by
      by_cases q : g < w.heap.size
      · exact q
      · rw [Array.getElem?_eq_none (by omega)] at hh; cases hh⟩

set_option maxHeartbeats 8000000 in
set_option maxRecDepth 100000 in
theorem rread_any (b : List UInt8) (A : Option Addr) (n c : Nat) (w : World) (hl : b.length = n) (hR : RB w A b) (hnc : n ≤ c) (hn : n ≤ 800000) :
    Calls Try.prog 71 #[.slice A n c] w (ReadQ w b) := by
  have KO := Lib.hid (why_any b A n c w hl hR (by omega) hnc)
  by_cases ho : openE b = 0
  rotate_left
  · have hfe : fileE b = openE b := by unfold fileE; rw [if_pos ho]
    obtain ⟨er, her⟩ : ∃ er, er = openE b := ⟨_, rfl⟩
    have HFE := Lib.hid (show fileE b = er by rw [hfe, her])
    rw [← her] at KO ho
    have g1 : (er == 0) = false := by simp [ho]
    clear hfe her hl hR
    go_enter Try.func71, Try.ntmps71
    go_wp2_with fail
    refine KO.out.mono ?_
    rintro e w1 ⟨rfl, hb1⟩
    have H1 := Lib.hid hb1
    clear hb1
    go_wp2
    go_ret3
    exact ⟨.inl ⟨by rw [HFE.out]; exact ho, by rw [HFE.out]; rfl⟩, H1.out⟩
  have hfe : fileE b = bEnd (openB b) := by unfold fileE; rw [if_neg (by simp [ho])]
  have hn4 : ¬ n < 4 := by
    intro q
    unfold openE at ho
    rw [if_pos (by omega)] at ho
    omega
  obtain ⟨m, rfl⟩ : ∃ m, n = m + 4 := ⟨n - 4, by omega⟩
  have hob : openB b = b.take m := by unfold openB; rw [if_pos ho, hl, Nat.add_sub_cancel]
  have hRo := hR.take m (by omega)
  rw [← hob] at hRo
  have hlo : (openB b).length = m := by rw [hob, List.length_take]; omega
  rw [ho] at KO
  have HQ := Lib.hid (show ∀ e w', (((bEnd (openB b) ≠ 0 ∧ e = .returned (.tuple #[.int .i64 0, .slice none 0 0, .int .i64 (bEnd (openB b))])) ∨
    (bEnd (openB b) = 0 ∧ ∃ A' c' l, e = .returned (.tuple #[.int .i64 ((hVer (openB b)).1 : Nat), .slice A' (hCnt (openB b)).1 c', .int .i64 0]) ∧ SE w' A' l ∧ AsRead (openB b) l)) ∧ Below w.heap.size w w') → ReadQ w b e w' by
    intro e w' h
    unfold ReadQ
    rw [hfe]
    exact h)
  obtain ⟨o, hoe⟩ : ∃ o, o = openB b := ⟨_, rfl⟩
  rw [← hoe] at hRo hlo HQ
  have HRO := Lib.hid (And.intro hRo hlo)
  have mc : (m : Int) + 4 ≤ (c : Int) := by omega
  clear ho hfe hn4 hob hR hl hoe hRo
  by_cases hm4 : m < 4
  · have hE := Lib.hid (bEnd_hd o (hd_short o (by omega)) (by omega))
    have m4 : (m : Int) < 4 := by omega
    go_enter Try.func71, Try.ntmps71
    go_wp2_with fail
    refine KO.out.mono ?_
    rintro e w1 ⟨rfl, hb1⟩
    have H1 := Lib.hid hb1
    clear hb1 hlo hnc hn
    go_wp2
    go_ret3
    refine HQ.out _ _ ⟨.inl ⟨by rw [hE.out]; omega, by rw [hE.out]; rfl⟩, H1.out⟩
  have m4 : (4 : Int) ≤ (m : Int) := by omega
  have KB := Lib.hid (fun (wx : World) (h : Below w.heap.size w wx) => begins_any o A m c wx hlo (HRO.out.1.below h) hm4)
  obtain ⟨d, hd⟩ : ∃ d, d = decide (o.take 4 = [72, 73, 66, 82]) := ⟨_, rfl⟩
  rw [← hd] at KB
  cases d
  · have hE := Lib.hid (bEnd_hd o (hd_form o (by omega) (of_decide_eq_false hd.symm)) (by omega))
    clear hd
    go_enter Try.func71, Try.ntmps71
    go_wp2_with fail
    refine KO.out.mono ?_
    rintro e w1 ⟨rfl, hb1⟩
    have H1 := Lib.hid hb1
    clear hb1 hlo hnc
    go_wp2_with fail
    refine (KB.out _ H1.out).mono ?_
    rintro e w2 ⟨rfl, rfl⟩
    go_wp2
    go_ret3
    refine HQ.out _ _ ⟨.inl ⟨by rw [hE.out]; omega, by rw [hE.out]; rfl⟩, H1.out⟩
  have hd0 := hd_is o (by omega) (of_decide_eq_true hd.symm)
  clear hd
  obtain ⟨vv, a1, e1, hv⟩ : ∃ vv a1 e1, hVer o = (vv, a1, e1) := ⟨_, _, _, rfl⟩
  obtain ⟨cnt, a2, e2, hcn⟩ : ∃ cnt a2 e2, hCnt o = (cnt, a2, e2) := ⟨_, _, _, rfl⟩
  have ha1 : a1 ≤ m := by have := hVer_at o; rw [hv] at this; dsimp only at this; omega
  have ha2 : a2 ≤ m := by have := hCnt_at o; rw [hcn] at this; dsimp only at this; omega
  have hcnt : cnt ≤ 16 := by have := hCnt_le o; rw [hcn] at this; exact this
  have hvv : vv < 256 := by have := hVer_lt o; rw [hv] at this; exact this
  have KV := Lib.hid (show ∀ wx, Below w.heap.size w wx → Calls Try.prog 92 #[.agg #[.slice A m c, .int .i64 4, .int .i64 0], .int .i64 1] wx fun ex w' => ex = .returned (.tuple #[.agg #[.slice A m c, .int .i64 (a1 : Nat), .int .i64 e1], .int .u64 (vv : Nat)]) ∧ Below wx.heap.size wx w' by
    intro wx h
    have := dfixed_any 1 m c 4 0 A o wx (by omega) (HRO.out.1.below h) hlo (by omega) (by omega) (by omega)
    have e : rFixed o 1 4 0 = (vv, a1, e1) := by rw [← hv]; unfold hVer; rw [hd0]
    rw [e] at this
    exact this)
  have KC := Lib.hid (show ∀ wx, Below w.heap.size w wx → Calls Try.prog 96 #[.agg #[.slice A m c, .int .i64 (a1 : Nat), .int .i64 e1], .int .i64 16] wx fun ex w' => ex = .returned (.tuple #[.agg #[.slice A m c, .int .i64 (a2 : Nat), .int .i64 e2], .int .i64 (cnt : Nat)]) ∧ Below wx.heap.size wx w' by
    intro wx h
    have := dlist_any 16 m c a1 e1 A o wx (HRO.out.1.below h) hlo ha1 (by omega) (by omega)
    have e : rList o 16 a1 e1 = (cnt, a2, e2) := by rw [← hcn]; unfold hCnt; rw [hv]
    rw [e] at this
    exact this)
  have HV := Lib.hid hv
  have HC := Lib.hid hcn
  clear hd0 hv hcn
  go_enter Try.func71, Try.ntmps71
  go_wp2_with fail
  refine KO.out.mono ?_
  rintro e w1 ⟨rfl, hb1⟩
  have H1 := Lib.hid hb1
  clear hb1
  go_wp2_with fail
  refine (KB.out _ H1.out).mono ?_
  rintro e w2 ⟨rfl, rfl⟩
  clear KB KO
  go_wp2_with fail
  refine (KV.out _ H1.out).mono ?_
  rintro e w3 ⟨rfl, hb3⟩
  have H3 := Lib.hid (H1.out.trans (hb3.mono H1.out.size))
  clear hb3
  have HC3 := Lib.hid (H3.out.alloc H3.out.size (.cells #[.slice A m c, .int .i64 (a1 : Nat), .int .i64 e1] 83))
  go_wp2_with fail
  refine (KC.out _ HC3.out).mono ?_
  rintro e w4 ⟨rfl, hb4⟩
  have H4 := Lib.hid (HC3.out.trans (hb4.mono HC3.out.size))
  clear hb4 KV KC
  by_cases he2 : e2 = 0
  rotate_left
  · have g2 : (e2 == 0) = false := by simp [he2]
    have hE := Lib.hid (bEnd_cnt o (e := e2) (by rw [HC.out]) he2)
    go_wp2_with fail
    go_quiet (fail)
    go_wp2
    go_ret3
    refine HQ.out _ _ ⟨.inl ⟨by rw [hE.out]; exact he2, by rw [hE.out]; rfl⟩, ?_⟩
    first
      | exact pw_below_drewN (H4.out.alloc H4.out.size _) _
      | exact (H4.out.alloc H4.out.size _)
  subst he2
  go_wp2_with fail
  obtain ⟨W0, hW0⟩ : ∃ W0, W0 = w4.alloc (.cells #[.slice A m c, .int .i64 (a2 : Nat), .int .i64 0] 83) := ⟨_, rfl⟩
  have hbx : W0.heap[w4.heap.size]? = some (.cells #[.slice A m c, .int .i64 (a2 : Nat), .int .i64 0] 83 (0, 0)) := by rw [hW0]; exact heap_alloc_new w4 _
  have hB0 : Below w.heap.size w W0 := by rw [hW0]; exact H4.out.alloc H4.out.size _
  have hsz0 : W0.heap.size = w4.heap.size + 1 := by rw [hW0]; simp
  have hw4 := H4.out.size
  rw [← hW0]
  obtain ⟨p, hp⟩ : ∃ p, p = w4.heap.size := ⟨_, rfl⟩
  rw [← hp] at hbx hsz0 hw4 ⊢
  obtain ⟨G, hG⟩ : ∃ G, G = p + 1 := ⟨_, rfl⟩
  have hpG : p < G := by omega
  have HB0 := Lib.hid (And.intro hbx (And.intro hB0 (show W0.heap.size = G by omega)))
  have HWP := Lib.hid hw4
  clear hbx hB0 hsz0 hW0 hp hG hw4 H4 HC3 H3 H1
  go_loopw [12, 13, 14] (fun l z i wr => ∃ (k : Nat) (A12 : Option Addr) (c12 : Nat) (A13 : Option Addr) (c13 : Nat), k ≤ cnt ∧ i = .int .i64 k ∧ l = .slice A12 k c12 ∧ z = .slice A13 k c13 ∧ Pair wr G A12 k c12 (secK o k) A13 k c13 (szK o k) ∧
      wr.heap[p]? = some (.cells #[.slice A m c, .int .i64 ((hSt o k).1 : Nat), .int .i64 0] 83 (0, 0)) ∧ (hSt o k).2 = 0 ∧ Below w.heap.size w wr ∧ G ≤ wr.heap.size ∧ (∀ i, i < k → hSize o i ≤ 1048576)) (fun _ _ i _ => cnt - (intOf i).toNat)
  case atStart =>
    refine ⟨0, none, 0, none, 0, by omega, rfl, rfl, rfl, ⟨OSec.nil _ _, World.ownsRow_nil _ _ _ _, fun q h => by cases h⟩, ?_, ?_, HB0.out.2.1, by rw [HB0.out.2.2]; exact Nat.le_refl _, fun i h => by omega⟩
    · show W0.heap[p]? = some (Obj.cells #[.slice A m c, .int .i64 ((hCnt o).2.1 : Nat), .int .i64 0] 83 (0, 0))
      rw [HC.out]; exact HB0.out.1
    · show (hCnt o).2.2 = 0
      rw [HC.out]
  case round =>
    obtain ⟨k, A12, c12, A13, c13, hk, rfl, rfl, rfl, hpr, hbx, hst, hb, hGw, hszb⟩ := hrel
    have HI := Lib.hid (And.intro hpr (And.intro hbx (And.intro hst (And.intro hb hGw))))
    have HSB := Lib.hid hszb
    clear hszb
    have k0 : (0 : Int) ≤ (k : Int) := by omega
    by_cases hlt : k < cnt
    · have j1 : (k : Int) < (cnt : Int) := by omega
      obtain ⟨a3, ha3⟩ : ∃ a3, a3 = (hSt o k).1 := ⟨_, rfl⟩
      have hqs : hSt o k = (a3, 0) := by rw [ha3, ← hst]
      have a3m : a3 ≤ m := by rw [ha3, ← hlo]; exact hSt_at o k
      obtain ⟨kd, a4, e4, hF4⟩ : ∃ kd a4 e4, hF o (hSt o k) = (kd, a4, e4) := ⟨_, _, _, rfl⟩
      obtain ⟨sz, a5, e5, hS5⟩ : ∃ sz a5 e5, hS o (hSt o k) = (sz, a5, e5) := ⟨_, _, _, rfl⟩
      have a4m : a4 ≤ m := by have := hF_at (b := o) (s := hSt o k) (hSt_at o k); rw [hF4] at this; dsimp only at this; omega
      have hs5 := hS_at (b := o) (s := hSt o k) (hSt_at o k)
      rw [hS5] at hs5
      dsimp only at hs5
      have hkd : kd < 256 := by have := hKind_lt o k; unfold hKind at this; rw [hF4] at this; exact this
      have KF := Lib.hid (show ∀ wx, Below w.heap.size w wx → Calls Try.prog 92 #[.agg #[.slice A m c, .int .i64 (a3 : Nat), .int .i64 0], .int .i64 1] wx fun ex w' => ex = .returned (.tuple #[.agg #[.slice A m c, .int .i64 (a4 : Nat), .int .i64 e4], .int .u64 (kd : Nat)]) ∧ Below wx.heap.size wx w' by
        intro wx h
        have := dfixed_any 1 m c a3 0 A o wx (by omega) (HRO.out.1.below h) hlo a3m (by omega) (by omega)
        have e : rFixed o 1 a3 0 = (kd, a4, e4) := by rw [← hF4]; unfold hF; rw [hqs]
        rw [e] at this
        exact this)
      have KS := Lib.hid (show ∀ wx, Below w.heap.size w wx → Calls Try.prog 93 #[.agg #[.slice A m c, .int .i64 (a4 : Nat), .int .i64 e4]] wx fun ex w' => ex = .returned (.tuple #[.agg #[.slice A m c, .int .i64 (a5 : Nat), .int .i64 e5], .int .i64 (sz : Nat)]) ∧ Below wx.heap.size wx w' by
        intro wx h
        have := dshort_any m c a4 e4 A o wx (HRO.out.1.below h) hlo a4m (by omega) (by omega)
        have e : rShort o a4 e4 = (sz, a5, e5) := by rw [← hS5]; unfold hS; rw [hF4]
        rw [e] at this
        exact this)
      have HNX := Lib.hid (show hSt o (k + 1) = (a5, if 1048576 < sz then noteE e5 3 else e5) by
        show hNext o (hSt o k) = _
        unfold hNext
        rw [hS5])
      have HKD := Lib.hid (show hKind o k = kd ∧ hSize o k = sz by
        unfold hKind hSize
        rw [hF4, hS5]
        exact ⟨rfl, rfl⟩)
      rw [← ha3] at hbx
      obtain ⟨⟨p0, p1, p2⟩, ⟨f0, f1, f2⟩⟩ := row3_cells hbx
      have sz0 : (0 : Int) ≤ (sz : Int) := by omega
      have szI : (sz : Int) ≤ 9223372036854775807 := hs5.2
      have hplt : p < wr.heap.size := by omega
      have HA3 := Lib.hid ha3
      clear hpr hbx hst hb hqs hF4 hS5 hs5 ha3
      go_wp2_with fail
      refine (KF.out _ HI.out.2.2.2.1).mono ?_
      rintro e w5 ⟨rfl, hb5⟩
      have hb5a := hb5.trans ((below_alloc (Below.refl w5.heap.size w5) (.cells #[.slice A m c, .int .i64 (a4 : Nat), .int .i64 e4] 83)).mono hb5.size)
      have H5 := Lib.hid hb5a
      clear hb5 hb5a
      go_wp2_with fail
      refine (KS.out _ (HI.out.2.2.2.1.trans (H5.out.mono HI.out.2.2.2.1.size))).mono ?_
      rintro e w6 ⟨rfl, hb6⟩
      have H6 := Lib.hid (H5.out.trans (hb6.mono H5.out.size))
      have H6a := Lib.hid (fun (R : Obj) => H6.out.alloc H6.out.size R)
      have H6b := Lib.hid (fun (R : Obj) => HI.out.2.2.2.1.trans ((H6a.out R).mono HI.out.2.2.2.1.size))
      clear hb6 KF KS p0 p1 p2 f0 f1 f2
      by_cases he5 : e5 = 0
      rotate_left
      · have g5 : (e5 == 0) = false := by simp [he5]
        have hE := Lib.hid (bEnd_h o (k := k + 1) (e := e5) (by
          rw [HNX.out]
          dsimp only
          unfold noteE
          rw [if_neg he5, ite_self]) he5 (by rw [HC.out]; exact hlt))
        go_wp2_with fail
        go_quiet (fail)
        go_wp2
        go_ret3
        exact HQ.out _ _ ⟨.inl ⟨by rw [hE.out]; exact he5, by rw [hE.out]; rfl⟩, pw_below_drewN (H6b.out _) _⟩
      subst he5
      by_cases hbig : (1048576 : Int) < (sz : Int)
      · have hE := Lib.hid (bEnd_h o (k := k + 1) (e := 3) (by
          rw [HNX.out]
          dsimp only
          rw [if_pos (by omega)]
          rfl) (by omega) (by rw [HC.out]; exact hlt))
        go_wp2
        go_ret3
        exact HQ.out _ _ ⟨.inl ⟨by rw [hE.out]; omega, by rw [hE.out]; rfl⟩, H6b.out _⟩
      have HNX2 := Lib.hid (show hSt o (k + 1) = (a5, 0) by rw [HNX.out, if_neg (by omega)])
      have hbx6 : (w6.alloc (.cells #[.slice A m c, .int .i64 (a5 : Nat), .int .i64 0] 83)).heap[p]? = some (.cells #[.slice A m c, .int .i64 (a3 : Nat), .int .i64 0] 83 (0, 0)) := by
        rw [(H6a.out _).block p hplt, HA3.out]
        exact HI.out.2.1
      obtain ⟨⟨p0, p1, p2⟩, ⟨f0, f1, f2⟩⟩ := row3_cells hbx6
      have HP := Lib.hid ((((HI.out.1.below (H6a.out (.cells #[.slice A m c, .int .i64 (a5 : Nat), .int .i64 0] 83))).other hpG 0 (.slice A m c)).other hpG 1 (.int .i64 (a5 : Nat))).other hpG 2 (.int .i64 0))
      have hbx7 := Lib.hid (row3_store (x' := .slice A m c) (y' := .int .i64 (a5 : Nat)) (z' := .int .i64 0) hbx6)
      have hBel7 := Lib.hid (below_store3 (H6b.out (.cells #[.slice A m c, .int .i64 (a5 : Nat), .int .i64 0] 83)) p HWP.out (.slice A m c) (.int .i64 (a5 : Nat)) (.int .i64 0))
      have hGs : G ≤ ((((w6.alloc (.cells #[.slice A m c, .int .i64 (a5 : Nat), .int .i64 0] 83)).setCell ⟨p, 0, none⟩ (.slice A m c)).setCell ⟨p, 1, none⟩ (.int .i64 (a5 : Nat))).setCell ⟨p, 2, none⟩ (.int .i64 0)).heap.size := by
        have := HI.out.2.2.2.2
        have := H6.out.size
        simp; omega
      have HGS := Lib.hid hGs
      have hz6 : w6.heap.size + 1 = ((((w6.alloc (.cells #[.slice A m c, .int .i64 (a5 : Nat), .int .i64 0] 83)).setCell ⟨p, 0, none⟩ (.slice A m c)).setCell ⟨p, 1, none⟩ (.int .i64 (a5 : Nat))).setCell ⟨p, 2, none⟩ (.int .i64 0)).heap.size := by simp
      have HZ6 := Lib.hid hz6
      clear hbx6 hGs hz6
      go_wp2_with (first
        | (at_builtin; refine appSec2 (kd : Int) G A12 k c12 (secK o k) rfl rfl rfl _ HZ6.out rfl HP.out.sec HGS.out (by omega) ?_; intro A14 c14 w7 ho7 hb7 hg7 hs7; have HP7 := Lib.hid (HP.out.grow ho7 hg7 hs7); have HB7 := Lib.hid hb7; have hG7 := Nat.le_trans HGS.out hb7.size; clear ho7 hb7 hg7 hs7)
        | (at_builtin; refine appI2 (sz : Int) G A13 k c13 (szK o k) rfl rfl rfl _ rfl rfl HP7.out.ints hG7 (by omega) ?_; intro A15 c15 w8 ho8 hb8 hg8 hs8))
      have HP8 := Lib.hid (HP7.out.grow2 ho8 hg8 hs8)
      have HB8 := Lib.hid (And.intro ((hb8.block p hpG).trans ((HB7.out.block p hpG).trans hbx7.out)) (And.intro ((hBel7.out.trans (HB7.out.mono (Nat.le_trans HWP.out (Nat.le_of_lt hpG)))).trans (hb8.mono (Nat.le_trans HWP.out (Nat.le_of_lt hpG)))) (Nat.le_trans hG7 hb8.size)))
      clear ho8 hb8 hg8 hs8
      go_roundw
      case rel =>
        refine ⟨k + 1, A14, c14, A15, c15, by omega, by go_num, rfl, rfl, ?_, ?_, by rw [HNX2.out], HB8.out.2.1, HB8.out.2.2, ?_⟩
        · rw [secK_succ, szK_succ, HKD.out.1, HKD.out.2]; exact HP8.out
        · rw [HNX2.out]; exact HB8.out.1
        · intro i hi
          by_cases q : i = k
          · rw [q, HKD.out.2]; omega
          · exact HSB.out i (by omega)
      case measure => simp [intOf]; omega
    · obtain rfl : k = cnt := by omega
      obtain ⟨cnt, rfl⟩ : ∃ u, u = k := ⟨_, rfl⟩
      obtain ⟨W2, rfl⟩ : ∃ u, u = wr := ⟨_, rfl⟩
      have hpS : p < W2.heap.size := by omega
      obtain ⟨G2, hG2⟩ : ∃ g, g = W2.heap.size := ⟨_, rfl⟩
      have HG2 := Lib.hid hG2
      rw [← hG2] at hpS
      clear hpr hbx hst hb hGw hlt hG2
      go_wp2_with fail
      go_loopw [19] (fun i wr => ∃ (k : Nat) (l : List SecV), k ≤ cnt ∧ i = .int .i64 k ∧ OSec wr G A12 cnt c12 l ∧ Got wr G2 o cnt k l ∧ OI wr G A13 cnt c13 (szK o cnt) ∧
          wr.heap[p]? = some (.cells #[.slice A m c, .int .i64 ((bSt o k).1 : Nat), .int .i64 0] 83 (0, 0)) ∧ (bSt o k).2 = 0 ∧ Below w.heap.size w wr ∧ G2 ≤ wr.heap.size) (fun i _ => cnt - (intOf i).toNat)
      case atStart =>
        refine ⟨0, secK o cnt, by omega, rfl, HI.out.1.sec, secK_got _ _ _ _, HI.out.1.ints, ?_, ?_, HI.out.2.2.2.1, by rw [HG2.out]; exact Nat.le_refl _⟩
        · show _ = some (Obj.cells #[.slice A m c, .int .i64 ((hSt o (hCnt o).1).1 : Nat), .int .i64 0] 83 (0, 0))
          rw [HC.out]; exact HI.out.2.1
        · show (hSt o (hCnt o).1).2 = 0
          rw [HC.out]; exact HI.out.2.2.1
      case round =>
        obtain ⟨k, l, hk, rfl, hos, hgo, hoi, hbx, hst, hb, hGw⟩ := hrel
        have HJ := Lib.hid (And.intro hos (And.intro hgo (And.intro hoi (And.intro hbx (And.intro hst (And.intro hb hGw))))))
        have k0 : (0 : Int) ≤ (k : Int) := by omega
        by_cases hlt : k < cnt
        · have j1 : (k : Int) < (cnt : Int) := by omega
          obtain ⟨gl, rfl, hgl1, hgl2⟩ := gl_form HI.out.1.sec (by omega)
          rw [← HG2.out] at hgl2
          obtain ⟨gz, rfl, _⟩ := HI.out.1.ints.form (by omega)
          have hgz1 : G ≤ gz := own_base HI.out.1.ints gz rfl
          have hgz2 : gz < G2 := by rw [HG2.out]; exact own_lt HI.out.1.ints gz rfl
          have hlz : gl ≠ gz := fun e => HI.out.1.ne gl rfl (by rw [e]; rfl)
          obtain ⟨a3, ha3⟩ : ∃ a3, a3 = (bSt o k).1 := ⟨_, rfl⟩
          have hqs : bSt o k = (a3, 0) := by rw [ha3, ← hst]
          have a3m : a3 ≤ m := by rw [ha3, ← hlo]; exact bSt_at o k
          obtain ⟨sz, hsz⟩ : ∃ sz, sz = hSize o k := ⟨_, rfl⟩
          have szb : sz ≤ 1048576 := by rw [hsz]; exact HSB.out k hlt
          have HW5 := Lib.hid (show IntKind.i64.wrap ((sz : Int) + 4) = (sz : Int) + 4 from IntWalk.i64_in _ (by clear hsz; omega))
          obtain ⟨r, a4, e4, hB4⟩ : ∃ r a4 e4, bRaw o (bSt o k) (hSize o k) = (r, a4, e4) := ⟨_, _, _, rfl⟩
          have hwz : RowKit.wrap64 ((sz : Int) + 4) = ((sz + 4 : Nat) : Int) := by rw [IntWalk.wrap64_in _ ⟨by omega, by omega⟩]; omega
          have KD := Lib.hid (show ∀ wx, Below w.heap.size w wx → Calls Try.prog 97 #[.agg #[.slice A m c, .int .i64 (a3 : Nat), .int .i64 0], .int .i64 (IntKind.i64.wrap ((sz : Int) + 4))] wx fun ex w' => ∃ A' c', ex = .returned (.tuple #[.agg #[.slice A m c, .int .i64 (a4 : Nat), .int .i64 e4], .slice A' r.length c']) ∧
              r.length ≤ c' ∧ (∀ wy, RB wy A o → RB wy A' r) ∧ Below wx.heap.size wx w' by
            intro wx h
            rw [HW5.out]
            have := draw_any ((sz : Int) + 4) m c a3 0 A o wx (HRO.out.1.below h) hlo a3m (by omega) (by omega)
            have e : rRaw o ((sz : Int) + 4) a3 0 = (r, a4, e4) := by rw [← hB4]; unfold bRaw; rw [hqs, ← hsz, hwz]; rfl
            rw [e] at this
            exact this)
          have HNB := Lib.hid (show bSt o (k + 1) = (a4, if openE r = 0 then e4 else noteE e4 (openE r)) ∧ bBody o k = openB r by
            refine ⟨?_, by unfold bBody; rw [hB4]⟩
            show bNext o (bSt o k) (hSize o k) = _
            unfold bNext
            rw [hB4])
          have HRL := Lib.hid (show e4 = 0 → r.length = sz + 4 ∧ sz + 4 ≤ m by
            intro q
            have h : (bRaw o (bSt o k) (hSize o k)).2.2 = 0 := by rw [hB4]; exact q
            have h1 : (bRaw o (bSt o k) (hSize o k)).1 = r := by rw [hB4]
            unfold bRaw at h h1
            rw [← hsz, hwz] at h h1
            obtain ⟨_, _, _, h4, h5⟩ := rRaw_back h
            refine ⟨?_, by rw [hlo] at h5; clear hwz hsz; omega⟩
            rw [← h1, h4, List.length_take, List.length_drop]
            exact Nat.min_eq_left h5)
          have HSZ := Lib.hid hsz
          rw [← ha3] at hbx
          have HA3 := Lib.hid ha3
          have KC := Lib.hid (show ∀ w', Below wr.heap.size wr w' → w'.cell? ⟨p, 0, none⟩ = some (.slice A m c) ∧ w'.cell? ⟨p, 1, none⟩ = some (.int .i64 (a3 : Nat)) ∧ w'.cell? ⟨p, 2, none⟩ = some (.int .i64 0) ∧ w'.cell? ⟨gz, k, none⟩ = some (.int .i64 (sz : Nat)) by
            intro w' hb'
            have h := row3_cells ((hb'.block p (by omega)).trans hbx)
            obtain ⟨g', hg', hc'⟩ := (hoi.below hb').form (by omega)
            injection hg' with hg'
            injection hg' with hg'
            subst hg'
            exact ⟨h.1.1, h.1.2.1, h.1.2.2, hc' k _ (by rw [hsz]; exact szK_at o hlt)⟩)
          clear hos hgo hoi hbx hst hb hqs hB4 hsz ha3 hwz
          have hd0 : Below wr.heap.size wr wr.drew := (Below.refl _ _).drew
          obtain ⟨R0, hR0⟩ : ∃ R0, R0 = Obj.cells #[.slice none 0 0, .int .i64 0, .int .i64 0] 83 := ⟨_, rfl⟩
          have ha0 : Below wr.heap.size wr (wr.alloc R0).drew := ((Below.refl wr.heap.size wr).alloc (Nat.le_refl _) R0).drew
          have hz0a : (wr.alloc R0).drew.heap[wr.heap.size]? = some R0 := by rw [heap_drew]; exact heap_alloc_new wr _
          have HZ0 := Lib.hid hz0a
          clear hz0a
          have HBW := Lib.hid (fun (W' : World) (h : Below wr.heap.size wr W') => HJ.out.2.2.2.2.2.1.trans (h.mono HJ.out.2.2.2.2.2.1.size))
          have hs0 := KC.out wr (Below.refl _ _)
          have sz0 : (0 : Int) ≤ (sz : Int) := by omega
          subst hR0
          go_wp2_with fail
          go_region_held3 (fun w' => w'.cell? ⟨p, 0, none⟩ = some (.slice A m c) ∧ w'.cell? ⟨p, 1, none⟩ = some (.int .i64 (a3 : Nat)) ∧ w'.cell? ⟨p, 2, none⟩ = some (.int .i64 0) ∧ w'.cell? ⟨gz, k, none⟩ = some (.int .i64 (sz : Nat)))
            (first | exact KC.out wr.drew hd0 | exact KC.out _ ha0 | exact KC.out _ hb4 | exact KC.out _ (hb4.alloc hb4.size _) | exact KC.out _ (below_store3 hb4 _ (Nat.le_refl _) _ _ _))
            (first
              | (go_at_call 97; with_reducible refine (KD.out _ (HBW.out _ ha0)).mono ?_; rintro ex w4 ⟨A4, c4, rfl, hc4, hrb4, hb4'⟩; have hz4 := (hb4'.block _ (blk_lt HZ0.out)).trans HZ0.out; have hb4 := ha0.trans (hb4'.mono ha0.size); obtain ⟨⟨y0, y1, y2⟩, ⟨z0, z1, z2⟩⟩ := row3_cells hz4)
              | (go_at_call 97; with_reducible refine (KD.out _ (HBW.out _ hd0)).mono ?_; rintro ex w4 ⟨A4, c4, rfl, hc4, hrb4, hb4'⟩; have hb4 := hd0.trans (hb4'.mono hd0.size)))
          all_goals
            first
              | (have hAs : (((w4.setCell ⟨wr.heap.size, 0, none⟩ (.slice A m c)).setCell ⟨wr.heap.size, 1, none⟩ (.int .i64 (a4 : Nat))).setCell ⟨wr.heap.size, 2, none⟩ (.int .i64 e4)).heap[wr.heap.size]? = some (.cells #[.slice A m c, .int .i64 (a4 : Nat), .int .i64 e4] 83 (0, 0)) ∧ Below wr.heap.size wr (((w4.setCell ⟨wr.heap.size, 0, none⟩ (.slice A m c)).setCell ⟨wr.heap.size, 1, none⟩ (.int .i64 (a4 : Nat))).setCell ⟨wr.heap.size, 2, none⟩ (.int .i64 e4)) ∧ wr.heap.size ≤ wr.heap.size := ⟨row3_store hz4, below_store3 hb4 _ (Nat.le_refl _) _ _ _, Nat.le_refl _⟩
                 obtain ⟨Wf, hWf⟩ : ∃ Wf, Wf = (((w4.setCell ⟨wr.heap.size, 0, none⟩ (.slice A m c)).setCell ⟨wr.heap.size, 1, none⟩ (.int .i64 (a4 : Nat))).setCell ⟨wr.heap.size, 2, none⟩ (.int .i64 e4)) := ⟨_, rfl⟩
                 rw [← hWf] at hAs ⊢
                 clear hWf
                 obtain ⟨gN, hgN, hAs⟩ : ∃ gN, gN = wr.heap.size ∧ Wf.heap[gN]? = some (.cells #[.slice A m c, .int .i64 (a4 : Nat), .int .i64 e4] 83 (0, 0)) ∧ Below wr.heap.size wr Wf ∧ wr.heap.size ≤ gN := ⟨_, rfl, hAs⟩
                 rw [← hgN]
                 clear hgN
                 clear y0 y1 y2 z0 z1 z2 hz4)
              | (have hAs : (w4.alloc (.cells #[.slice A m c, .int .i64 (a4 : Nat), .int .i64 e4] 83)).heap[w4.heap.size]? = some (.cells #[.slice A m c, .int .i64 (a4 : Nat), .int .i64 e4] 83 (0, 0)) ∧ Below wr.heap.size wr (w4.alloc (.cells #[.slice A m c, .int .i64 (a4 : Nat), .int .i64 e4] 83)) ∧ wr.heap.size ≤ w4.heap.size := ⟨heap_alloc_new w4 _, hb4.alloc hb4.size _, hb4.size⟩
                 obtain ⟨Wf, hWf⟩ : ∃ Wf, Wf = (w4.alloc (.cells #[.slice A m c, .int .i64 (a4 : Nat), .int .i64 e4] 83)) := ⟨_, rfl⟩
                 rw [← hWf] at hAs ⊢
                 clear hWf
                 obtain ⟨gN, hgN⟩ : ∃ g, g = w4.heap.size := ⟨_, rfl⟩
                 rw [← hgN] at hAs ⊢
                 clear hgN)
          all_goals
            have HF := Lib.hid hAs
            obtain ⟨⟨n0, n1, n2⟩, _⟩ := row3_cells hAs.1
            clear hAs hb4 hb4' hs0 hd0 ha0
            by_cases he4 : e4 = 0
            rotate_left
            · have g4 : (e4 == 0) = false := by simp [he4]
              have hE := Lib.hid (bEnd_b o (k := k + 1) (e := e4) (by
                rw [HNB.out.1]
                dsimp only
                unfold noteE
                rw [if_neg he4, ite_self]) he4 (by rw [HC.out]; exact hlt))
              go_wp2_with fail
              go_quiet (fail)
              go_wp2
              go_ret3
              exact HQ.out _ _ ⟨.inl ⟨by rw [hE.out]; exact he4, by rw [hE.out]; rfl⟩, pw_below_drewN (HBW.out _ HF.out.2.1) _⟩
            subst he4
            obtain ⟨hrl, hszm⟩ := HRL.out rfl
            rw [hrl] at hc4 ⊢
            have HRB := Lib.hid hrb4
            have HHR := Lib.hid hrl
            have KW := Lib.hid (fun (W' : World) (h : Below wr.heap.size wr W') => why_any r A4 (sz + 4) c4 W' hrl (hrb4 W' (HRO.out.1.below (HBW.out W' h))) (by omega) hc4)
            obtain ⟨er, her⟩ : ∃ er, er = openE r := ⟨_, rfl⟩
            have her4 : er ≠ 0 → er = 4 := by
              intro q
              rw [her] at q ⊢
              unfold openE at q ⊢
              rw [if_neg (by omega)] at q ⊢
              by_cases q2 : sealL (r.take (r.length - 4)) = r
              · rw [if_pos q2] at q; exact absurd rfl q
              · rw [if_neg q2]
            rw [← her] at KW HNB
            have HER := Lib.hid her
            clear hrb4 hrl her
            go_wp2_with fail
            refine (KW.out _ HF.out.2.1).mono ?_
            rintro e w5 ⟨rfl, hb5⟩
            have H5 := Lib.hid (HF.out.2.1.trans (hb5.mono HF.out.2.1.size))
            have HF5 := Lib.hid ((hb5.block _ (blk_lt HF.out.1)).trans HF.out.1)
            clear hb5 n0 n1 n2
            by_cases hz : er = 0
            rotate_left
            · obtain rfl := her4 hz
              have hE := Lib.hid (bEnd_b o (k := k + 1) (e := 4) (by
                rw [HNB.out.1]
                rfl) (by omega) (by rw [HC.out]; exact hlt))
              go_wp2
              go_ret3
              exact HQ.out _ _ ⟨.inl ⟨by rw [hE.out]; omega, by rw [hE.out]; rfl⟩, HBW.out _ H5.out⟩
            subst hz
            obtain ⟨x, hx⟩ : ∃ x, l[k]? = some x := ⟨_, List.getElem?_eq_getElem (by rw [HJ.out.1.len]; exact hlt)⟩
            have hbx5 : w5.heap[p]? = some (.cells #[.slice A m c, .int .i64 (a3 : Nat), .int .i64 0] 83 (0, 0)) := by
              have h := HJ.out.2.2.2.1
              rw [← HA3.out] at h
              exact (H5.out.block _ (blk_lt h)).trans h
            obtain ⟨⟨n0, n1, n2⟩, _⟩ := row3_cells HF5.out
            obtain ⟨⟨p0, p1, p2⟩, ⟨f0, f1, f2⟩⟩ := row3_cells hbx5
            obtain ⟨W7, hW7⟩ : ∃ W7, W7 = (((w5.setCell ⟨p, 0, none⟩ (.slice A m c)).setCell ⟨p, 1, none⟩ (.int .i64 (a4 : Nat))).setCell ⟨p, 2, none⟩ (.int .i64 0)) := ⟨_, rfl⟩
            have hG2 : G ≤ G2 := by rw [HG2.out]; exact HI.out.2.2.2.2
            have hz5 := H5.out.size
            have hGw := HJ.out.2.2.2.2.2.2
            have hgl7 : gl < W7.heap.size := by rw [hW7]; simp; omega
            have hG27 : G2 ≤ W7.heap.size := by rw [hW7]; simp; omega
            have hp7 : p < W7.heap.size := by omega
            have hBel7 : Below w.heap.size w W7 := by rw [hW7]; exact below_store3 (HBW.out _ H5.out) p HWP.out _ _ _
            have hbx7 : W7.heap[p]? = some (.cells #[.slice A m c, .int .i64 (a4 : Nat), .int .i64 0] 83 (0, 0)) := by rw [hW7]; exact row3_store hbx5
            have hos7 : OSec W7 G (some ⟨gl, 0, none⟩) cnt c12 l := by
              have q : ∀ ad : Addr, some (⟨gl, 0, none⟩ : Addr) = some ad → ad.block ≠ p := by rintro ad h; injection h with h; subst h; dsimp only; omega
              rw [hW7]; exact (((HJ.out.1.below H5.out).other q _ _).other q _ _).other q _ _
            have hgo7 : Got W7 G2 o cnt k l := by rw [hW7]; exact (((HJ.out.2.1.below H5.out).store hpS _ _).store hpS _ _).store hpS _ _
            have hoi7 : OI W7 G (some ⟨gz, 0, none⟩) cnt c13 (szK o cnt) := by
              have q : ∀ ad : Addr, some (⟨gz, 0, none⟩ : Addr) = some ad → ad.block ≠ p := by rintro ad h; injection h with h; subst h; dsimp only; omega
              rw [hW7]; exact (((HJ.out.2.2.1.below H5.out).other q _ _).other q _ _).other q _ _
            have zc7 : (((w5.setCell ⟨p, 0, none⟩ (.slice A m c)).setCell ⟨p, 1, none⟩ (.int .i64 (a4 : Nat))).setCell ⟨p, 2, none⟩ (.int .i64 0)).cell? ⟨gz, k, none⟩ = some (.int .i64 (sz : Nat)) := by
              rw [← hW7]
              obtain ⟨g', hg', hc'⟩ := hoi7.form (by omega)
              injection hg' with hg'
              injection hg' with hg'
              subst hg'
              rw [HSZ.out]
              exact hc' k _ (szK_at o hlt)
            have HR7 := Lib.hid ((HRB.out W7 (HRO.out.1.below hBel7)).take sz (by rw [HHR.out]; omega))
            have HTL := Lib.hid (show (r.take sz).length = sz by rw [List.length_take, HHR.out]; omega)
            have hxk := (hgo7.all k x hx).1
            have HST := Lib.hid (show ∀ w8, Below W7.heap.size W7 w8 → ∀ A8 c8, w8.cell? ⟨gl, k * 2 + 1, none⟩ = some (.slice x.A x.b.length x.c) ∧ w8.frozen? ⟨gl, k * 2 + 1, none⟩ = false ∧ OSec (w8.setCell ⟨gl, k * 2 + 1, none⟩ (.slice A8 sz c8)) G (some ⟨gl, 0, none⟩) cnt c12 (l.set k ⟨(hKind o k : Int), A8, c8, r.take sz⟩) by
              intro w8 hb8 A8 c8
              have h := (hos7.below hb8).store (y := ⟨(hKind o k : Int), A8, c8, r.take sz⟩) hx hxk.symm
              dsimp only at h
              rw [HTL.out] at h
              exact h)
            have H7 := Lib.hid (And.intro hBel7 (And.intro hbx7 (And.intro hgo7 (And.intro hoi7 hG27))))
            have HW7 := Lib.hid hW7
            have hpgl : p < gl := by omega
            have HOB := Lib.hid (show bBody o k = r.take sz by
              rw [HNB.out.2]
              unfold openB
              rw [if_pos HER.out.symm, HHR.out, Nat.add_sub_cancel])
            have HNB2 := Lib.hid (show bSt o (k + 1) = (a4, 0) by rw [HNB.out.1, if_pos rfl])
            have scI : (sz : Int) ≤ (c4 : Int) := by omega
            clear hx hbx5 hW7 hz5 hBel7 hbx7 hos7 hgo7 hoi7 hxk
            go_wp2_with (rw [← HW7.out]; refine appNil A4 sz c4 (r.take sz) rfl rfl rfl rfl HR7.out HTL.out (by omega) ?_; intro A8 c8 w8 ho8 hb8; obtain ⟨s0, f0', hst8⟩ := HST.out w8 hb8 A8 c8; have H8 := Lib.hid (And.intro hst8 (And.intro ho8 hb8)); clear hst8 ho8 hb8)
            go_roundw
            case rel =>
              refine ⟨k + 1, _, by omega, by go_num, H8.out.1, ?_, ?_, ?_, ?_, ?_, ?_⟩
              · refine ((H7.out.2.2.1.below H8.out.2.2).store hgl2 _ _).next hlt rfl HOB.out.symm (by rw [HTL.out]; exact H8.out.2.1.cap) ?_ ?_
                · have hne : (Value.slice A8 sz c8).ownBlock ≠ some gl := fun q => by have := own_base H8.out.2.1 gl q; omega
                  exact OB.rb (ownsRow_setCell_other H8.out.2.1 hne _)
                · intro ad e _
                  have := ob_ge H8.out.2.1 ad e
                  omega
              · exact (H7.out.2.2.2.1.below H8.out.2.2).other (by rintro ad h; injection h with h; subst h; exact hlz.symm) _ _
              · rw [HNB2.out, Below.heap_setCell _ _ _ _ (by dsimp only; omega)]
                exact (H8.out.2.2.block p hp7).trans H7.out.2.1
              · rw [HNB2.out]
              · exact (H7.out.1.trans (H8.out.2.2.mono H7.out.1.size)).setCell (by have := HWP.out; dsimp only; omega) _
              · have := H8.out.2.2.size
                simp; omega
            case measure => simp [intOf]; omega
        · obtain rfl : k = cnt := by omega
          obtain ⟨cnt, rfl⟩ : ∃ u, u = k := ⟨_, rfl⟩
          obtain ⟨W3, rfl⟩ : ∃ u, u = wr := ⟨_, rfl⟩
          obtain ⟨a3, ha3⟩ : ∃ a3, a3 = (bSt o cnt).1 := ⟨_, rfl⟩
          rw [← ha3] at hbx
          have hbe : bEnd o = if a3 < m then 3 else 0 := by
            unfold bEnd
            rw [HC.out]
            dsimp only
            rw [hst, ← ha3, hlo]
            by_cases q : a3 < m
            · rw [if_pos ⟨rfl, q⟩, if_pos q]
            · rw [if_neg (by rintro ⟨_, q2⟩; exact q q2), if_neg q]
          have HBE := Lib.hid hbe
          obtain ⟨⟨p0, p1, p2⟩, _⟩ := row3_cells hbx
          clear hos hgo hoi hbx hst hb hGw hlt ha3 hbe
          by_cases ha : (a3 : Int) < (m : Int)
          · go_wp2
            go_ret3
            exact HQ.out _ _ ⟨.inl ⟨by rw [HBE.out, if_pos (by omega)]; omega, by rw [HBE.out, if_pos (by omega)]; rfl⟩, HJ.out.2.2.2.2.2.1⟩
          · have vvI : (vv : Int) < 256 := by omega
            go_wp2
            go_ret3
            refine HQ.out _ _ ⟨.inr ⟨by rw [HBE.out, if_neg (by omega)], A12, c12, l, by rw [HV.out, HC.out]; rfl, got_se HJ.out.1 HJ.out.2.1 (by omega), ⟨by rw [HC.out]; exact HJ.out.2.1.len, fun i x hx => ?_⟩⟩, HJ.out.2.2.2.2.2.1⟩
            obtain ⟨h1, h2, _⟩ := HJ.out.2.1.all i x hx
            have hi : i < cnt := by rw [← HJ.out.2.1.len]; exact (List.getElem?_eq_some_iff.1 hx).1
            rw [if_pos hi] at h2
            exact ⟨h1, h2⟩
end
end Go.Proofs.Ytnkbkhlbogcfaaa
