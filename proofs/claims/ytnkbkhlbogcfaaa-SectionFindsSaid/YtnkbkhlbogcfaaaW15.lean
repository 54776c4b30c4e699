/- SectionFinds: the walk. -/
import Derived.Test.YtnkbkhlbogcfaaaSi
import Derived.Test.YtnkbkhlbogcfaaaW13
set_option linter.unusedVariables false
set_option linter.unusedSimpArgs false
namespace Go.Proofs.Ytnkbkhlbogcfaaa
open Go.RowKit Go.Proofs.YtnkbkhlbogcfaaaW.PrintWords
noncomputable section

/-- numbers of one's own -/
def OI (w : World) (base : Nat) (A : Option Addr) (n c : Nat) (xs : List Int) : Prop := w.ownsRow base 3 1 (.slice A n c) n (nums .i64 xs)
theorem OI.below {w w1 : World} {base n c : Nat} {A : Option Addr} {xs : List Int} (h : OI w base A n c xs) (hb : Below w.heap.size w w1) : OI w1 base A n c xs := pw_own_below h hb
theorem OI.len {w : World} {base n c : Nat} {A : Option Addr} {xs : List Int} (h : OI w base A n c xs) : xs.length = n := by have := h.1; simpa [nums] using this
theorem OI.new (w : World) (z : Int) : OI (w.alloc (.cells #[.int .i64 z] 3)) w.heap.size (some ⟨w.heap.size, 0, none⟩) 1 1 [z] :=
  ⟨rfl, .inr ⟨w.heap.size, 1, _, rfl, Nat.le_refl _, heap_alloc_new _ _, Nat.le_refl _, by unfold maxLen; omega, rfl, rfl⟩⟩
theorem OI.form {w : World} {base n c : Nat} {A : Option Addr} {xs : List Int} (h : OI w base A n c xs) (hn : 0 < n) : ∃ g, A = some ⟨g, 0, none⟩ ∧ ∀ j x, xs[j]? = some x → w.cell? ⟨g, j, none⟩ = some (.int .i64 x) := by
  rcases h.2 with ⟨e, h0⟩ | ⟨g, cap, cur, e, _⟩
  · omega
  · injection e with e1
    subst e1
    refine ⟨g, rfl, fun j x hx => ?_⟩
    have := h.cells (g := g) rfl j (.int .i64 x) (by simp [nums, hx])
    rwa [add_plain] at this
theorem Try.info3' : (Try.prog.info? 3).map (fun i => (i.zero, i.size, i.bytes)) = some (some (.int .i64 0), 1, 8) := by kernel_rfl
section
variable {ops : Array Oper} {rest : List Oper} {o : Oper} {a : Act} {Q : Exit → Act → World → Prop} {W : World} {s x : Operand}
/-- append(kinds, z) -/
theorem appI (base : Nat) (A : Option Addr) (n c : Nat) (xs : List Int) {z : Int} (hgd : o.guard = none) (ho : o.op = .call { callee := .builtin .append, args := #[s, x], argTypes := #[75, 75] })
    (hs : a.eval s = .slice A n c) (hx : a.eval x = .slice (some ⟨W.heap.size, 0, none⟩) 1 1) (HO : OI W base A n c xs) (hbase : base ≤ W.heap.size) (hl : n ≤ 1000)
    (h : ∀ A1 c1 w1, OI w1 base A1 (n + 1) c1 (xs ++ [z]) → Below base W w1 → wpList Try.prog ops Q rest (a.put o.dst (.slice A1 (n + 1) c1)) w1) :
    wpList Try.prog ops Q (o :: rest) a (W.alloc (.cells #[.int .i64 z] 3)) := by
  have hn := HO.len
  subst hn
  refine print_append_num (w0 := W) base hgd s x 75 3 .i64 8 ho Try.underlying75 Try.info3' (by omega) _ xs z hs hx HO (Below.refl _ _) hbase (by omega) fun v1 w1 h1 h2 h3 h4 => ?_
  obtain ⟨A1, c1, rfl⟩ := own_slice h1
  simp only [List.length_append, List.length_singleton] at h1 ⊢
  exact h A1 c1 w1 h1 h2
end
theorem fnd_set {K : Int} {l : List SecV} {y : SecV} (h : fnd K l < l.length) (hy : y.k = K) : fnd K (l.set (fnd K l) y) = fnd K l := by
  induction l with
  | nil => simp at h
  | cons z r ih =>
    by_cases hz : z.k = K
    · simp [fnd, hz, hy]
    · have e : fnd K (z :: r) = fnd K r + 1 := by simp [fnd, hz]
      rw [e] at h ⊢
      rw [List.set_cons_succ]
      simp only [fnd]
      rw [if_neg hz, ih (by simpa using h)]
theorem fnd_app {K : Int} {l : List SecV} {y : SecV} (h : ¬ fnd K l < l.length) (hy : y.k = K) : fnd K (l ++ [y]) = l.length := by
  induction l with
  | nil => simp [fnd, hy]
  | cons z r ih =>
    by_cases hz : z.k = K
    · exact absurd (by simp [fnd, hz]) h
    · have e : fnd K (z :: r) = fnd K r + 1 := by simp [fnd, hz]
      rw [e] at h
      simp only [List.cons_append, fnd]
      rw [if_neg hz, ih (by intro q; apply h; simp; omega)]
      simp
/-- what was put is found -/
theorem fnd_put (K : Int) (l : List SecV) (y : SecV) (hy : y.k = K) : (putL l K y)[fnd K (putL l K y)]? = some y := by
  unfold putL
  by_cases h : fnd K l < l.length
  · rw [if_pos h, fnd_set h hy]
    simp [h]
  · rw [if_neg h, fnd_app h hy]
    simp
theorem putL_same (l : List SecV) (K : Int) (y z : SecV) (hk : y.k = z.k) (hb : y.b = z.b) : SameS (putL l K y) (putL l K z) := by
  refine ⟨by rw [putL_len, putL_len], fun i x x' h1 h2 => ?_⟩
  unfold putL at h1 h2
  by_cases h : fnd K l < l.length
  · rw [if_pos h] at h1 h2
    rw [List.getElem?_set] at h1 h2
    by_cases q1 : fnd K l = i
    · rw [if_pos q1] at h1 h2
      by_cases q2 : i < l.length
      · rw [if_pos (by omega)] at h1 h2
        injection h1 with h1
        injection h2 with h2
        subst h1 h2
        exact ⟨hk, hb⟩
      · omega
    · rw [if_neg q1] at h1 h2
      rw [h1] at h2
      injection h2 with h2
      subst h2
      exact ⟨rfl, rfl⟩
  · rw [if_neg h] at h1 h2
    rw [List.getElem?_append] at h1 h2
    split at h1
    · rename_i q
      rw [if_pos q, h1] at h2
      injection h2 with h2
      subst h2
      exact ⟨rfl, rfl⟩
    · rename_i q
      rw [if_neg q] at h2
      cases hi : i - l.length with
      | zero => rw [hi] at h1 h2; simp at h1 h2; subst h1 h2; exact ⟨hk, hb⟩
      | succ j => rw [hi] at h1; simp at h1
/-- Find, of what Put gave -/
theorem sfind_put (K : Int) (l : List SecV) (y : SecV) (hy : y.k = K) (A : Option Addr) (L c : Nat) (w : World) (hL : (putL l K y).length = L) (hS : SE w A (putL l K y)) (h100 : ∀ x ∈ putL l K y, x.b.length ≤ 100) :
    Calls Try.prog 60 #[.slice A L c, .int .i64 K] w fun e w' => ∃ A' c', e = .returned (.tuple #[.slice A' y.b.length c', .bool true]) ∧ RB w' A' y.b ∧ Below w.heap.size w w' := by
  refine (sfind_any K _ A L c w hL hS h100).mono ?_
  have hp := fnd_put K l y hy
  rintro e w' ⟨(⟨x, A', c', hx, rfl, hr⟩ | ⟨hf, rfl⟩), hb⟩
  · rw [hp] at hx
    injection hx with hx
    subst hx
    exact ⟨A', c', rfl, hr, hb⟩
  · exfalso
    have := (List.getElem?_eq_some_iff.1 hp).1
    omega

set_option maxHeartbeats 8000000 in
set_option maxRecDepth 100000 in
theorem sectionFinds_row {w : World} (A : Option Addr) (l : List SecV) (c : Nat) (hS : SE w A l) (hc : l.length ≤ c) (z : Int) (wz : (Lit.int .i64 z).wf = true) (A0 : Option Addr) (a0 : List UInt8) (c0 : Nat) (h0 : RB w A0 a0) (l0 : a0.length ≤ c0) (q : Int) (wq : (Lit.int .i64 q).wf = true) :
    Calls Try.prog 15 #[.slice A l.length c, .int .i64 z, .slice A0 a0.length c0, .int .i64 q] w fun e w' => e = .returned (.bool true) ∧ Below w.heap.size w w' := by
  obtain ⟨z1, z2⟩ := bounds_i64 wz
  obtain ⟨q1, q2⟩ := bounds_i64 wq
  have HG := Lib.hid (good_true l A l.length c w rfl hS)
  obtain ⟨L, hL⟩ : ∃ L, L = l.length := ⟨_, rfl⟩
  rw [← hL] at HG ⊢
  obtain ⟨bd, hbd⟩ : ∃ a, a = few a0 50 := ⟨_, rfl⟩
  obtain ⟨m, hm⟩ : ∃ m, m = min a0.length 50 := ⟨_, rfl⟩
  have HBd := Lib.hid (And.intro (show RB w A0 bd by rw [hbd]; exact few_rb h0 _) (show bd.length = m by rw [hbd, hm, few_length]))
  have HM := Lib.hid (And.intro hm l0)
  have m50 : m ≤ 50 := by omega
  have mc : m ≤ c0 := by omega
  have H100 := Lib.hid (goodL_100 true l)
  obtain ⟨gl, hgl⟩ : ∃ gl, gl = goodL true l := ⟨_, rfl⟩
  rw [← hgl] at HG H100
  clear hL hS hc wz wq hbd hm h0 l0 hgl
  go_enter Try.func15, Try.ntmps15
  go_wp2_with fail
  refine HG.out.mono ?_
  rintro e w1 ⟨A1, n, c1, rfl, hn, ho1, hs1, hb1⟩
  have HL := Lib.hid ho1.len
  have H1 := Lib.hid (And.intro ho1 (And.intro hs1 hb1))
  clear ho1 hs1 hb1
  go_wp2_with fail
  refine (few_any A0 _ c0 50 _ HM.out.2 (by omega)).mono ?_
  rintro e w2 ⟨rfl, rfl⟩
  rw [← HM.out.1]
  by_cases hn0 : 0 < n
  · have nI : (0 : Int) < (n : Int) := by omega
    have arl := arN_lt q hn0
    have KA := Lib.hid (fun (wx : World) => around_any q n hn0 (by omega) q1 q2 wx)
    obtain ⟨j, hj⟩ : ∃ j, j = arN q n := ⟨_, rfl⟩
    rw [← hj] at KA arl
    have j0 : (0 : Int) ≤ (j : Int) := by omega
    have jn : (j : Int) < (n : Int) := by omega
    obtain ⟨xj, hxj⟩ : ∃ x, gl[j]? = some x := ⟨_, List.getElem?_eq_getElem (by have := HL.out; omega)⟩
    have hba := below_alloc (Below.refl w1.heap.size w1) (.cells #[.int .i64 z] 3)
    obtain ⟨ad, hadA, p0, p1⟩ := (H1.out.2.1.below hba).2.2 j _ hxj
    subst hadA
    have hxk := (H1.out.2.1.2.1 xj (List.mem_of_getElem? hxj)).1.1
    have HKZ := Lib.hid hxk
    have HBA := Lib.hid hba
    clear hj hxj hxk hba
    go_wp2_with fail
    refine (KA.out _).mono ?_
    rintro e w2 ⟨rfl, hw2⟩
    obtain ⟨wk, hwk⟩ : ∃ wk, wk = w1.alloc (.cells #[.int .i64 z] 3) := ⟨_, rfl⟩
    rw [← hwk] at hw2 HBA
    subst hw2
    rw [← hwk] at p0 p1
    have HO1 := Lib.hid (show OI w2 w1.heap.size (some ⟨w1.heap.size, 0, none⟩) 1 1 [z] by rw [hwk]; exact OI.new w1 z)
    clear hwk
    go_wp2_with (at_builtin; refine appI w1.heap.size _ 1 1 [z] rfl rfl rfl rfl HO1.out HBA.out.size (by omega) ?_; intro Ak ck w3 ho3 hb3)
    have hb13 : Below w1.heap.size w1 w3 := HBA.out.trans hb3
    have H3 := Lib.hid (And.intro (show OI w3 w1.heap.size Ak 2 ck ([z] ++ [xj.k]) from ho3) (And.intro (H1.out.1.below hb13) (And.intro hb13 (H1.out.2.2.trans (hb13.mono H1.out.2.2.size)))))
    obtain ⟨nk, hnk⟩ : ∃ nk, nk = 2 := ⟨_, rfl⟩
    obtain ⟨ks, hks⟩ : ∃ ks, ks = [z] ++ [xj.k] := ⟨_, rfl⟩
    rw [← hks] at H3
    have HKS := Lib.hid (show ∀ K ∈ ks, -9223372036854775808 ≤ K ∧ K ≤ 9223372036854775807 by
      rw [hks]; intro K hK; simp at hK; rcases hK with rfl | rfl
      · exact ⟨z1, z2⟩
      · exact HKZ.out)
    clear hks ho3 hb3 hb13 p0 p1 HO1 KA arl
    go_wp2_with fail
    go_loopw [11] (fun i wr => ∃ k : Nat, k ≤ 2 ∧ i = .int .i64 k ∧ Below w3.heap.size w3 wr) (fun i _ => 2 - (intOf i).toNat)
    case atStart => exact ⟨0, by omega, rfl, Below.refl _ _⟩
    case round =>
      obtain ⟨k, hk, rfl, hb⟩ := hrel
      have HB := Lib.hid (And.intro hb (And.intro (H3.out.2.2.1.trans (hb.mono H3.out.2.2.1.size)) (H3.out.2.2.2.trans (hb.mono H3.out.2.2.2.size))))
      clear hb
      have k0 : (0 : Int) ≤ (k : Int) := by omega
      by_cases hlt : k < 2
      · have jk : (k : Int) < 2 := by omega
        obtain ⟨K, hKx⟩ : ∃ K, ks[k]? = some K := ⟨_, List.getElem?_eq_getElem (by have := H3.out.1.len; omega)⟩
        obtain ⟨hK1, hK2⟩ := HKS.out K (List.mem_of_getElem? hKx)
        obtain ⟨g, hAg, hcell⟩ := H3.out.1.form (by omega)
        have KC := Lib.hid (show ∀ wx, Below w3.heap.size w3 wx → wx.cell? ⟨g, k, none⟩ = some (.int .i64 K) from fun wx h => by
          obtain ⟨g', hg', h'⟩ := (H3.out.1.below h).form (by omega)
          rw [hAg] at hg'
          injection hg' with hg'
          injection hg' with hg'
          subst hg'
          exact h' k K hKx)
        try (injection hAg with hAg; injection hAg with hAg; subst hAg)
        try subst hAg
        have HBo := Lib.hid (show ∀ wx, Below w1.heap.size w1 wx → ∀ x ∈ gl, x.ok ∧ RB wx x.A x.b from fun wx h x hx => ⟨(H1.out.2.1.2.1 x hx).1, (H1.out.2.1.2.1 x hx).2.below h⟩)
        have HOS := Lib.hid (show ∀ wx, Below w1.heap.size w1 wx → OSec wx w.heap.size _ _ c1 gl from fun wx h => H1.out.1.below h)
        have HSE := Lib.hid (show ∀ wx, Below w1.heap.size w1 wx → SE wx _ gl from fun wx h => H1.out.2.1.below h)
        clear hKx hcell
        have r1 := KC.out _ HB.out.1
        have HB4 := Lib.hid (show ∀ wa wb : World, Below w3.heap.size w3 wa → Below wa.heap.size wa wb → Below w3.heap.size w3 wb from fun wa wb h1 h2 => h1.trans (h2.mono h1.size))
        have HT := Lib.hid (show ∀ wx, Below w3.heap.size w3 wx → Below w1.heap.size w1 wx from fun wx h => H3.out.2.2.1.trans (h.mono H3.out.2.2.1.size))
        have KRF := Lib.hid (fun (wx : World) (h : Below w1.heap.size w1 wx) => rfind_any K gl _ _ c1 wx HL.out (HSE.out wx h))
        have KSF := Lib.hid (fun (wx : World) (h : Below w1.heap.size w1 wx) => sfind_any K gl _ _ c1 wx HL.out (HSE.out wx h) H100.out)
        have KSP := Lib.hid (fun (wx : World) (h : Below w1.heap.size w1 wx) => sput_any K gl w.heap.size _ c1 m c0 _ A0 bd wx hK1 hK2 (HOS.out wx h) (by omega) (HBo.out wx h) (HBd.out.1.below (H1.out.2.2.trans (h.mono H1.out.2.2.size))) HBd.out.2 (by omega))
        have KRP := Lib.hid (fun (wx : World) (h : Below w1.heap.size w1 wx) => rput_any K gl w.heap.size _ c1 m c0 _ A0 bd wx hK1 hK2 (HOS.out wx h) (by omega) (HBo.out wx h) (HBd.out.1.below (H1.out.2.2.trans (h.mono H1.out.2.2.size))) HBd.out.2 mc)
        have HP100 := Lib.hid (show ∀ y : SecV, y.b = bd → ∀ x ∈ putL gl K y, x.b.length ≤ 100 from fun y hy x hx => by
          rcases putL_mem hx with h | rfl
          · exact H100.out x h
          · rw [hy, HBd.out.2]; omega)
        by_cases hf : fnd K gl < gl.length
        · obtain ⟨x, hx, hxk⟩ := fnd_at hf
          have hfi : fndI K gl = (fnd K gl : Int) := by unfold fndI; rw [if_pos hf]
          rw [hfi] at KRF
          obtain ⟨fi, hfe⟩ : ∃ fi, fi = fnd K gl := ⟨_, rfl⟩
          have HX := Lib.hid (And.intro hfe hx)
          rw [← hfe] at KRF hx
          have fi0 : (0 : Int) ≤ (fi : Int) := by omega
          have fin : (fi : Int) < (n : Int) := by have := HL.out; omega
          obtain ⟨adx, hadx, _, _⟩ := (HSE.out w1 (Below.refl _ _)).2.2 fi x hx
          have KB := Lib.hid (show ∀ wx, Below w1.heap.size w1 wx → wx.cell? ⟨(adx.add (fi * 2)).block, (adx.add (fi * 2)).off + 1, none⟩ = some (.slice x.A x.b.length x.c) ∧ RB wx x.A x.b from fun wx h => by
            obtain ⟨ad', had', _, h1⟩ := (HSE.out wx h).2.2 fi x hx
            rw [hadx] at had'
            injection had' with had'
            subst had'
            exact ⟨h1, ((HSE.out wx h).2.1 x (List.mem_of_getElem? hx)).2⟩)
          have hx100 := H100.out x (List.mem_of_getElem? hx)
          first
            | (injection hadx with hadx; subst hadx)
            | subst hadx
          clear hfi hfe hx hxk hf
          go_wp2_with (refine wpAppAll w.heap.size _ c1 _ gl rfl rfl rfl rfl (HOS.out _ HB.out.2.1) (by omega) ?_; intro Aw cw w4 ho4 hb4; have h4 := HB4.out _ _ HB.out.1 hb4; have r4 := KC.out _ h4)
          have HW := Lib.hid (ho4.se (by omega) (HBo.out _ (HT.out _ h4)))
          have H4 := Lib.hid h4
          clear ho4 hb4 h4 r1
          refine (KRF.out _ (HT.out _ H4.out)).mono ?_
          rintro e w5 ⟨rfl, rfl⟩
          go_wp2_with fail
          refine (KSF.out _ (HT.out _ H4.out)).mono ?_
          rintro e w6 ⟨hcase, hb6⟩
          obtain ⟨A6, c6, rfl, hr6⟩ : ∃ A6 c6, e = .returned (.tuple #[.slice A6 x.b.length c6, .bool true]) ∧ RB w6 A6 x.b := by
            rcases hcase with ⟨x', A6, c6, hx', rfl, hr⟩ | ⟨hno, _⟩
            · rw [HX.out.2] at hx'
              injection hx' with hx'
              subst hx'
              exact ⟨A6, c6, rfl, hr⟩
            · exfalso
              have := (List.getElem?_eq_some_iff.1 HX.out.2).1
              have := HL.out
              omega
          have h6 := HB4.out _ _ H4.out hb6
          have r6 := KC.out _ h6
          have H6 := Lib.hid (And.intro hr6 (And.intro h6 (HW.out.below hb6)))
          clear hcase hb6 hr6 h6 r4
          go_wp2_with fail
          refine (KSP.out _ (HT.out _ H6.out.2.1)).mono ?_
          rintro e w7 ⟨A7, n7, c7, y7, rfl, hy7, hyb7, hs7, hl7, hb7⟩
          have h7 := HB4.out _ _ H6.out.2.1 hb7
          have r7 := KC.out _ h7
          have H7 := Lib.hid (And.intro hs7 (And.intro hl7 (And.intro h7 (And.intro (H6.out.1.below hb7) (H6.out.2.2.below hb7)))))
          have HY7 := Lib.hid (And.intro hy7 hyb7)
          clear hs7 hl7 hb7 h7 r6 hy7 hyb7
          have b1 : decide ((0 : Int) ≤ (fi : Int)) = true := decide_eq_true fi0
          go_wp2_with fail
          refine (KRP.out _ (HT.out _ H7.out.2.2.1)).mono ?_
          rintro e w8 ⟨A8, n8, c8, y8, rfl, hy8, hyb8, hs8, hl8, hb8⟩
          have h8 := HB4.out _ _ H7.out.2.2.1 hb8
          have hnn : n8 = n7 := by rw [← hl8, ← H7.out.2.1, putL_len, putL_len]
          subst hnn
          have K62 := Lib.hid (rsame_true _ _ A7 A8 _ c7 c8 _ H7.out.2.1 (putL_same gl K y7 y8 (by rw [HY7.out.1, hy8]) (by rw [HY7.out.2, hyb8])) (H7.out.1.below hb8) hs8 (fun x hx => Nat.le_trans (HP100.out y7 HY7.out.2 x hx) (by omega)))
          have r8 := KC.out _ h8
          have H8 := Lib.hid (And.intro (H7.out.1.below hb8) (And.intro h8 (And.intro (H7.out.2.2.2.1.below hb8) (H7.out.2.2.2.2.below hb8))))
          clear hs8 hl8 hb8 h8 r7 hy8 hyb8
          go_wp2_with fail
          refine K62.out.mono ?_
          rintro e w9 ⟨rfl, hb9⟩
          have h9 := HB4.out _ _ H8.out.2.1 hb9
          have H9 := Lib.hid (And.intro (H8.out.1.below hb9) (And.intro h9 (And.intro (H8.out.2.2.1.below hb9) (H8.out.2.2.2.below hb9))))
          have r9 := KC.out _ h9
          clear hb9 h9 r8
          go_wp2_with fail
          refine (rsame_true gl gl _ Aw _ c1 cw _ HL.out (SameS.refl gl) (HSE.out _ (HT.out _ H9.out.2.1)) H9.out.2.2.2 (fun x hx => Nat.le_trans (H100.out x hx) (by omega))).mono ?_
          rintro e w10 ⟨rfl, hb10⟩
          have h10 := HB4.out _ _ H9.out.2.1 hb10
          have H10 := Lib.hid (And.intro (H9.out.1.below hb10) (And.intro h10 (H9.out.2.2.1.below hb10)))
          have r10 := KC.out _ h10
          obtain ⟨s10, hbx10⟩ := KB.out _ (HT.out _ h10)
          have HBX := Lib.hid hbx10
          clear hb10 h10 r9 hbx10
          go_wp2_with fail
          refine (same_one x.b A6 x.A x.b.length c6 x.c _ rfl H10.out.2.2 HBX.out (by omega)).mono ?_
          rintro e w11 ⟨rfl, hb11⟩
          have h11 := HB4.out _ _ H10.out.2.1 hb11
          have H11 := Lib.hid (And.intro (H10.out.1.below hb11) h11)
          have r11 := KC.out _ h11
          clear hb11 h11 r10 s10
          go_wp2_with fail
          refine (sfind_put K gl y7 HY7.out.1 A7 _ c7 _ H7.out.2.1 H11.out.1 (HP100.out y7 HY7.out.2)).mono ?_
          rintro e w12 ⟨A12, c12, rfl, hr12, hb12⟩
          have h12 := HB4.out _ _ H11.out.2 hb12
          have hr12' := hr12
          rw [HY7.out.2] at hr12'
          have H12 := Lib.hid (And.intro hr12' h12)
          have e12 : y7.b.length = m := by rw [HY7.out.2, HBd.out.2]
          rw [e12]
          clear hr12 hr12' hb12 h12 r11 e12
          go_wp2_with fail
          refine (same_one bd A12 A0 m c12 c0 _ HBd.out.2 H12.out.1 (HBd.out.1.below (H1.out.2.2.trans ((HT.out _ H12.out.2).mono H1.out.2.2.size))) (by omega)).mono ?_
          rintro e w13 ⟨rfl, hb13⟩
          have H13 := Lib.hid (HB4.out _ _ H12.out.2 hb13)
          clear hb13
          go_wp2
          go_roundw
          case rel => exact ⟨k + 1, by omega, by go_num, H13.out⟩
          case measure => simp [intOf]; omega
        · have hfi : fndI K gl = -1 := by unfold fndI; rw [if_neg hf]
          rw [hfi] at KRF
          have HNF := Lib.hid hf
          clear hfi hf
          go_wp2_with (refine wpAppAll w.heap.size _ c1 _ gl rfl rfl rfl rfl (HOS.out _ HB.out.2.1) (by omega) ?_; intro Aw cw w4 ho4 hb4; have h4 := HB4.out _ _ HB.out.1 hb4; have r4 := KC.out _ h4)
          have HW := Lib.hid (ho4.se (by omega) (HBo.out _ (HT.out _ h4)))
          have H4 := Lib.hid h4
          clear ho4 hb4 h4 r1
          refine (KRF.out _ (HT.out _ H4.out)).mono ?_
          rintro e w5 ⟨rfl, rfl⟩
          go_wp2_with fail
          refine (KSF.out _ (HT.out _ H4.out)).mono ?_
          rintro e w6 ⟨hcase, hb6⟩
          obtain rfl : e = .returned (.tuple #[.slice none 0 0, .bool false]) := by
            rcases hcase with ⟨x', A6, c6, hx', _, _⟩ | ⟨_, rfl⟩
            · exact absurd (List.getElem?_eq_some_iff.1 hx').1 HNF.out
            · rfl
          have h6 := HB4.out _ _ H4.out hb6
          have r6 := KC.out _ h6
          have H6 := Lib.hid (And.intro h6 (HW.out.below hb6))
          clear hcase hb6 h6 r4
          go_wp2_with fail
          refine (KSP.out _ (HT.out _ H6.out.1)).mono ?_
          rintro e w7 ⟨A7, n7, c7, y7, rfl, hy7, hyb7, hs7, hl7, hb7⟩
          have h7 := HB4.out _ _ H6.out.1 hb7
          have r7 := KC.out _ h7
          have H7 := Lib.hid (And.intro hs7 (And.intro hl7 (And.intro h7 (H6.out.2.below hb7))))
          have HY7 := Lib.hid (And.intro hy7 hyb7)
          clear hs7 hl7 hb7 h7 r6 hy7 hyb7
          go_wp2_with fail
          refine (KRP.out _ (HT.out _ H7.out.2.2.1)).mono ?_
          rintro e w8 ⟨A8, n8, c8, y8, rfl, hy8, hyb8, hs8, hl8, hb8⟩
          have h8 := HB4.out _ _ H7.out.2.2.1 hb8
          have hnn : n8 = n7 := by rw [← hl8, ← H7.out.2.1, putL_len, putL_len]
          subst hnn
          have K62 := Lib.hid (rsame_true _ _ A7 A8 _ c7 c8 _ H7.out.2.1 (putL_same gl K y7 y8 (by rw [HY7.out.1, hy8]) (by rw [HY7.out.2, hyb8])) (H7.out.1.below hb8) hs8 (fun x hx => Nat.le_trans (HP100.out y7 HY7.out.2 x hx) (by omega)))
          have r8 := KC.out _ h8
          have H8 := Lib.hid (And.intro (H7.out.1.below hb8) (And.intro h8 (H7.out.2.2.2.below hb8)))
          clear hs8 hl8 hb8 h8 r7 hy8 hyb8
          go_wp2_with fail
          refine K62.out.mono ?_
          rintro e w9 ⟨rfl, hb9⟩
          have h9 := HB4.out _ _ H8.out.2.1 hb9
          have H9 := Lib.hid (And.intro (H8.out.1.below hb9) (And.intro h9 (H8.out.2.2.below hb9)))
          have r9 := KC.out _ h9
          clear hb9 h9 r8
          go_wp2_with fail
          refine (rsame_true gl gl _ Aw _ c1 cw _ HL.out (SameS.refl gl) (HSE.out _ (HT.out _ H9.out.2.1)) H9.out.2.2 (fun x hx => Nat.le_trans (H100.out x hx) (by omega))).mono ?_
          rintro e w11 ⟨rfl, hb11⟩
          have h11 := HB4.out _ _ H9.out.2.1 hb11
          have H11 := Lib.hid (And.intro (H9.out.1.below hb11) h11)
          have r11 := KC.out _ h11
          clear hb11 h11 r9
          go_wp2_with fail
          refine (sfind_put K gl y7 HY7.out.1 A7 _ c7 _ H7.out.2.1 H11.out.1 (HP100.out y7 HY7.out.2)).mono ?_
          rintro e w12 ⟨A12, c12, rfl, hr12, hb12⟩
          have h12 := HB4.out _ _ H11.out.2 hb12
          have hr12' := hr12
          rw [HY7.out.2] at hr12'
          have H12 := Lib.hid (And.intro hr12' h12)
          have e12 : y7.b.length = m := by rw [HY7.out.2, HBd.out.2]
          rw [e12]
          clear hr12 hr12' hb12 h12 r11 e12
          go_wp2_with fail
          refine (same_one bd A12 A0 m c12 c0 _ HBd.out.2 H12.out.1 (HBd.out.1.below (H1.out.2.2.trans ((HT.out _ H12.out.2).mono H1.out.2.2.size))) (by omega)).mono ?_
          rintro e w13 ⟨rfl, hb13⟩
          have H13 := Lib.hid (HB4.out _ _ H12.out.2 hb13)
          clear hb13
          go_wp2
          go_roundw
          case rel => exact ⟨k + 1, by omega, by go_num, H13.out⟩
          case measure => simp [intOf]; omega
      · have hkI : k = 2 := by omega
        subst hkI
        go_wp2_with fail
        refine (ssame_true gl gl _ _ _ c1 c1 _ HL.out (SameS.refl gl) (H1.out.2.1.below HB.out.2.1) (H1.out.2.1.below HB.out.2.1) (fun x hx => Nat.le_trans (H100.out x hx) (by omega))).mono ?_
        rintro e w4 ⟨rfl, hb4⟩
        have H4 := Lib.hid (HB.out.2.2.trans (hb4.mono HB.out.2.2.size))
        clear hb4
        go_wp2_with fail
        refine (lives16_any H4.out).mono ?_
        rintro e w5 ⟨rfl, hb5⟩
        have H5 := Lib.hid hb5
        clear hb5
        go_wp2
        go_ret
        exact ⟨rfl, H5.out⟩
  · have n0 : n = 0 := by omega
    subst n0
    go_wp2_with fail
    obtain ⟨w3, hw3⟩ : ∃ w3, w3 = w1.alloc (.cells #[.int .i64 z] 3) := ⟨_, rfl⟩
    rw [← hw3]
    have hb13 : Below w1.heap.size w1 w3 := by rw [hw3]; exact below_alloc (Below.refl _ _) _
    obtain ⟨ks, hks⟩ : ∃ ks, ks = [z] := ⟨_, rfl⟩
    have H3 := Lib.hid (And.intro (show OI w3 w1.heap.size (some ⟨w1.heap.size, 0, none⟩) 1 1 ks by rw [hw3, hks]; exact OI.new w1 z) (And.intro (H1.out.1.below hb13) (And.intro hb13 (H1.out.2.2.trans (hb13.mono H1.out.2.2.size)))))
    have HKS := Lib.hid (show ∀ K ∈ ks, -9223372036854775808 ≤ K ∧ K ≤ 9223372036854775807 by
      rw [hks]; intro K hK; simp at hK; subst hK; exact ⟨z1, z2⟩)
    clear hks hw3 hb13
    go_wp2_with fail
    go_loopw [11] (fun i wr => ∃ k : Nat, k ≤ 1 ∧ i = .int .i64 k ∧ Below w3.heap.size w3 wr) (fun i _ => 1 - (intOf i).toNat)
    case atStart => exact ⟨0, by omega, rfl, Below.refl _ _⟩
    case round =>
      obtain ⟨k, hk, rfl, hb⟩ := hrel
      have HB := Lib.hid (And.intro hb (And.intro (H3.out.2.2.1.trans (hb.mono H3.out.2.2.1.size)) (H3.out.2.2.2.trans (hb.mono H3.out.2.2.2.size))))
      clear hb
      have k0 : (0 : Int) ≤ (k : Int) := by omega
      by_cases hlt : k < 1
      · have jk : (k : Int) < 1 := by omega
        obtain ⟨K, hKx⟩ : ∃ K, ks[k]? = some K := ⟨_, List.getElem?_eq_getElem (by have := H3.out.1.len; omega)⟩
        obtain ⟨hK1, hK2⟩ := HKS.out K (List.mem_of_getElem? hKx)
        obtain ⟨g, hAg, hcell⟩ := H3.out.1.form (by omega)
        have KC := Lib.hid (show ∀ wx, Below w3.heap.size w3 wx → wx.cell? ⟨g, k, none⟩ = some (.int .i64 K) from fun wx h => by
          obtain ⟨g', hg', h'⟩ := (H3.out.1.below h).form (by omega)
          rw [hAg] at hg'
          injection hg' with hg'
          injection hg' with hg'
          subst hg'
          exact h' k K hKx)
        try (injection hAg with hAg; injection hAg with hAg; subst hAg)
        try subst hAg
        have HBo := Lib.hid (show ∀ wx, Below w1.heap.size w1 wx → ∀ x ∈ gl, x.ok ∧ RB wx x.A x.b from fun wx h x hx => ⟨(H1.out.2.1.2.1 x hx).1, (H1.out.2.1.2.1 x hx).2.below h⟩)
        have HOS := Lib.hid (show ∀ wx, Below w1.heap.size w1 wx → OSec wx w.heap.size _ _ c1 gl from fun wx h => H1.out.1.below h)
        have HSE := Lib.hid (show ∀ wx, Below w1.heap.size w1 wx → SE wx _ gl from fun wx h => H1.out.2.1.below h)
        clear hKx hcell
        have r1 := KC.out _ HB.out.1
        have HB4 := Lib.hid (show ∀ wa wb : World, Below w3.heap.size w3 wa → Below wa.heap.size wa wb → Below w3.heap.size w3 wb from fun wa wb h1 h2 => h1.trans (h2.mono h1.size))
        have HT := Lib.hid (show ∀ wx, Below w3.heap.size w3 wx → Below w1.heap.size w1 wx from fun wx h => H3.out.2.2.1.trans (h.mono H3.out.2.2.1.size))
        have KRF := Lib.hid (fun (wx : World) (h : Below w1.heap.size w1 wx) => rfind_any K gl _ _ c1 wx HL.out (HSE.out wx h))
        have KSF := Lib.hid (fun (wx : World) (h : Below w1.heap.size w1 wx) => sfind_any K gl _ _ c1 wx HL.out (HSE.out wx h) H100.out)
        have KSP := Lib.hid (fun (wx : World) (h : Below w1.heap.size w1 wx) => sput_any K gl w.heap.size _ c1 m c0 _ A0 bd wx hK1 hK2 (HOS.out wx h) (by omega) (HBo.out wx h) (HBd.out.1.below (H1.out.2.2.trans (h.mono H1.out.2.2.size))) HBd.out.2 (by omega))
        have KRP := Lib.hid (fun (wx : World) (h : Below w1.heap.size w1 wx) => rput_any K gl w.heap.size _ c1 m c0 _ A0 bd wx hK1 hK2 (HOS.out wx h) (by omega) (HBo.out wx h) (HBd.out.1.below (H1.out.2.2.trans (h.mono H1.out.2.2.size))) HBd.out.2 mc)
        have HP100 := Lib.hid (show ∀ y : SecV, y.b = bd → ∀ x ∈ putL gl K y, x.b.length ≤ 100 from fun y hy x hx => by
          rcases putL_mem hx with h | rfl
          · exact H100.out x h
          · rw [hy, HBd.out.2]; omega)
        by_cases hf : fnd K gl < gl.length
        · exfalso
          have := HL.out
          omega
        · have hfi : fndI K gl = -1 := by unfold fndI; rw [if_neg hf]
          rw [hfi] at KRF
          have HNF := Lib.hid hf
          clear hfi hf
          go_wp2_with (refine wpAppAll w.heap.size _ c1 _ gl rfl rfl rfl rfl (HOS.out _ HB.out.2.1) (by omega) ?_; intro Aw cw w4 ho4 hb4; have h4 := HB4.out _ _ HB.out.1 hb4; have r4 := KC.out _ h4)
          have HW := Lib.hid (ho4.se (by omega) (HBo.out _ (HT.out _ h4)))
          have H4 := Lib.hid h4
          clear ho4 hb4 h4 r1
          refine (KRF.out _ (HT.out _ H4.out)).mono ?_
          rintro e w5 ⟨rfl, rfl⟩
          go_wp2_with fail
          refine (KSF.out _ (HT.out _ H4.out)).mono ?_
          rintro e w6 ⟨hcase, hb6⟩
          obtain rfl : e = .returned (.tuple #[.slice none 0 0, .bool false]) := by
            rcases hcase with ⟨x', A6, c6, hx', _, _⟩ | ⟨_, rfl⟩
            · exact absurd (List.getElem?_eq_some_iff.1 hx').1 HNF.out
            · rfl
          have h6 := HB4.out _ _ H4.out hb6
          have r6 := KC.out _ h6
          have H6 := Lib.hid (And.intro h6 (HW.out.below hb6))
          clear hcase hb6 h6 r4
          go_wp2_with fail
          refine (KSP.out _ (HT.out _ H6.out.1)).mono ?_
          rintro e w7 ⟨A7, n7, c7, y7, rfl, hy7, hyb7, hs7, hl7, hb7⟩
          have h7 := HB4.out _ _ H6.out.1 hb7
          have r7 := KC.out _ h7
          have H7 := Lib.hid (And.intro hs7 (And.intro hl7 (And.intro h7 (H6.out.2.below hb7))))
          have HY7 := Lib.hid (And.intro hy7 hyb7)
          clear hs7 hl7 hb7 h7 r6 hy7 hyb7
          go_wp2_with fail
          refine (KRP.out _ (HT.out _ H7.out.2.2.1)).mono ?_
          rintro e w8 ⟨A8, n8, c8, y8, rfl, hy8, hyb8, hs8, hl8, hb8⟩
          have h8 := HB4.out _ _ H7.out.2.2.1 hb8
          have hnn : n8 = n7 := by rw [← hl8, ← H7.out.2.1, putL_len, putL_len]
          subst hnn
          have K62 := Lib.hid (rsame_true _ _ A7 A8 _ c7 c8 _ H7.out.2.1 (putL_same gl K y7 y8 (by rw [HY7.out.1, hy8]) (by rw [HY7.out.2, hyb8])) (H7.out.1.below hb8) hs8 (fun x hx => Nat.le_trans (HP100.out y7 HY7.out.2 x hx) (by omega)))
          have r8 := KC.out _ h8
          have H8 := Lib.hid (And.intro (H7.out.1.below hb8) (And.intro h8 (H7.out.2.2.2.below hb8)))
          clear hs8 hl8 hb8 h8 r7 hy8 hyb8
          go_wp2_with fail
          refine K62.out.mono ?_
          rintro e w9 ⟨rfl, hb9⟩
          have h9 := HB4.out _ _ H8.out.2.1 hb9
          have H9 := Lib.hid (And.intro (H8.out.1.below hb9) (And.intro h9 (H8.out.2.2.below hb9)))
          have r9 := KC.out _ h9
          clear hb9 h9 r8
          go_wp2_with fail
          refine (rsame_true gl gl _ Aw _ c1 cw _ HL.out (SameS.refl gl) (HSE.out _ (HT.out _ H9.out.2.1)) H9.out.2.2 (fun x hx => Nat.le_trans (H100.out x hx) (by omega))).mono ?_
          rintro e w11 ⟨rfl, hb11⟩
          have h11 := HB4.out _ _ H9.out.2.1 hb11
          have H11 := Lib.hid (And.intro (H9.out.1.below hb11) h11)
          have r11 := KC.out _ h11
          clear hb11 h11 r9
          go_wp2_with fail
          refine (sfind_put K gl y7 HY7.out.1 A7 _ c7 _ H7.out.2.1 H11.out.1 (HP100.out y7 HY7.out.2)).mono ?_
          rintro e w12 ⟨A12, c12, rfl, hr12, hb12⟩
          have h12 := HB4.out _ _ H11.out.2 hb12
          have hr12' := hr12
          rw [HY7.out.2] at hr12'
          have H12 := Lib.hid (And.intro hr12' h12)
          have e12 : y7.b.length = m := by rw [HY7.out.2, HBd.out.2]
          rw [e12]
          clear hr12 hr12' hb12 h12 r11 e12
          go_wp2_with fail
          refine (same_one bd A12 A0 m c12 c0 _ HBd.out.2 H12.out.1 (HBd.out.1.below (H1.out.2.2.trans ((HT.out _ H12.out.2).mono H1.out.2.2.size))) (by omega)).mono ?_
          rintro e w13 ⟨rfl, hb13⟩
          have H13 := Lib.hid (HB4.out _ _ H12.out.2 hb13)
          clear hb13
          go_wp2
          go_roundw
          case rel => exact ⟨k + 1, by omega, by go_num, H13.out⟩
          case measure => simp [intOf]; omega
      · have hkI : k = 1 := by omega
        subst hkI
        go_wp2_with fail
        refine (ssame_true gl gl _ _ _ c1 c1 _ HL.out (SameS.refl gl) (H1.out.2.1.below HB.out.2.1) (H1.out.2.1.below HB.out.2.1) (fun x hx => Nat.le_trans (H100.out x hx) (by omega))).mono ?_
        rintro e w4 ⟨rfl, hb4⟩
        have H4 := Lib.hid (HB.out.2.2.trans (hb4.mono HB.out.2.2.size))
        clear hb4
        go_wp2_with fail
        refine (lives16_any H4.out).mono ?_
        rintro e w5 ⟨rfl, hb5⟩
        have H5 := Lib.hid hb5
        clear hb5
        go_wp2
        go_ret
        exact ⟨rfl, H5.out⟩
end
end Go.Proofs.Ytnkbkhlbogcfaaa
