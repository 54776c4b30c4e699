/- SectionReads: the walk. -/
import Derived.Test.YtnkbkhlbogcfaaaRl
import Derived.Test.YtnkbkhlbogcfaaaRi
import Derived.Test.YtnkbkhlbogcfaaaSq
import Derived.Test.YtnkbkhlbogcfaaaW13
import Derived.Test.YtnkbkhlbogcfaaaSi
import Derived.OpenShut
import Derived.BigRegion
import Derived.BigQuiet
import Derived.Deep.RegionHeld3
set_option linter.unusedVariables false
set_option linter.unusedSimpArgs false
namespace Go.Proofs.Ytnkbkhlbogcfaaa
open Go.RowKit Go.Proofs.YtnkbkhlbogcfaaaW.PrintWords
noncomputable section

set_option maxHeartbeats 4000000 in
set_option maxRecDepth 100000 in
theorem rsame_big (a b : List SecV) (A B : Option Addr) (n c d : Nat) (w : World) (ha : a.length = n) (hs : SameS a b) (hA : SE w A a) (hB : SE w B b) (h100 : ∀ x ∈ a, x.b.length ≤ 2000) :
    Calls Try.prog 62 #[.slice A n c, .slice B n d] w fun e w' => e = .returned (.bool true) ∧ Below w.heap.size w w' := by
  have HA := Lib.hid hA
  have HB := Lib.hid hB
  have HN := Lib.hid ha
  have HS := Lib.hid hs
  have HC := Lib.hid h100
  have hLI : (n : Int) ≤ 9223372036854775807 := by have := hA.1; omega
  clear ha hs hA hB h100
  go_enter Try.func62, Try.ntmps62
  go_wp2
  go_loopw [5] (fun i wr => ∃ k : Nat, k ≤ n ∧ i = .int .i64 k ∧ Below w.heap.size w wr) (fun i _ => n - (intOf i).toNat)
  case atStart => exact ⟨0, by omega, rfl, Below.refl _ _⟩
  case round =>
    obtain ⟨k, hk, rfl, hb⟩ := hrel
    have HBl := Lib.hid hb
    clear hb
    have k0 : (0 : Int) ≤ (k : Int) := by omega
    by_cases hlt : k < n
    · have j1 : (k : Int) < (n : Int) := by omega
      obtain ⟨x, hx⟩ : ∃ x, a[k]? = some x := ⟨_, List.getElem?_eq_getElem (by have := HN.out; omega)⟩
      obtain ⟨y, hy⟩ : ∃ y, b[k]? = some y := ⟨_, List.getElem?_eq_getElem (by have := HN.out; have := HS.out.1; omega)⟩
      obtain ⟨hk1, hb1⟩ := HS.out.2 k x y hx hy
      have KS : ∀ w', Below w.heap.size w w' → ∃ ad bd, A = some ad ∧ B = some bd ∧ (w'.cell? (ad.add (k * 2)) = some (.int .i64 x.k) ∧ w'.cell? ⟨(ad.add (k * 2)).block, (ad.add (k * 2)).off + 1, none⟩ = some (.slice x.A x.b.length x.c) ∧
          w'.cell? (bd.add (k * 2)) = some (.int .i64 x.k) ∧ w'.cell? ⟨(bd.add (k * 2)).block, (bd.add (k * 2)).off + 1, none⟩ = some (.slice y.A x.b.length y.c)) := by
        intro w' h
        obtain ⟨ad, h1, h2, h3⟩ := (HA.out.below h).2.2 k x hx
        obtain ⟨bd, h4, h5, h6⟩ := (HB.out.below h).2.2 k y hy
        rw [← hk1] at h5
        rw [← hb1] at h6
        exact ⟨ad, bd, h1, h4, h2, h3, h5, h6⟩
      obtain ⟨ad, bd, rfl, rfl, _⟩ := KS w (Below.refl _ _)
      have KS := Lib.hid (show ∀ w', Below w.heap.size w w' → w'.cell? (ad.add (k * 2)) = some (.int .i64 x.k) ∧ w'.cell? ⟨(ad.add (k * 2)).block, (ad.add (k * 2)).off + 1, none⟩ = some (.slice x.A x.b.length x.c) ∧
          w'.cell? (bd.add (k * 2)) = some (.int .i64 x.k) ∧ w'.cell? ⟨(bd.add (k * 2)).block, (bd.add (k * 2)).off + 1, none⟩ = some (.slice y.A x.b.length y.c) from fun w' h => by
        obtain ⟨a', b', h1, h2, h3⟩ := KS w' h
        injection h1 with h1
        injection h2 with h2
        subst h1 h2
        exact h3)
      have HRx := Lib.hid ((HA.out.below HBl.out).2.1 x (List.mem_of_getElem? hx)).2
      have hRy := ((HB.out.below HBl.out).2.1 y (List.mem_of_getElem? hy)).2
      rw [← hb1] at hRy
      have HRy := Lib.hid hRy
      have hxl := HC.out x (List.mem_of_getElem? hx)
      obtain ⟨m, hm⟩ : ∃ m, m = x.b.length := ⟨_, rfl⟩
      rw [← hm] at KS hxl
      have HM := Lib.hid hm
      have hbd : Below wr.heap.size wr wr.drew := (Below.refl _ _).drew
      clear hx hy hk1 hb1 hRy hm
      go_wp2_with fail
      go_region_held3 (fun w' => w'.cell? (ad.add (k * 2)) = some (.int .i64 x.k) ∧ w'.cell? ⟨(ad.add (k * 2)).block, (ad.add (k * 2)).off + 1, none⟩ = some (.slice x.A m x.c) ∧
          w'.cell? (bd.add (k * 2)) = some (.int .i64 x.k) ∧ w'.cell? ⟨(bd.add (k * 2)).block, (bd.add (k * 2)).off + 1, none⟩ = some (.slice y.A m y.c))
        (first | exact KS.out _ HBl.out.drew | exact KS.out _ hb5)
        ((go_at_call 38; with_reducible refine (same_one x.b x.A y.A m x.c y.c _ HM.out.symm (HRx.out.below hbd) (HRy.out.below hbd) (by omega)).mono ?_; rintro e w5 ⟨rfl, hb4⟩; have hb5 := HBl.out.trans ((hbd.trans (hb4.mono (by simp))).mono HBl.out.size)))
      all_goals
        have H5 := Lib.hid hb5
        clear hb4 hb5
        go_wp2
        go_roundw
        case rel => exact ⟨k + 1, by omega, by go_num, H5.out⟩
        case measure => simp [intOf]; omega
    · have kn : (k : Int) = (n : Int) := by omega
      go_wp2
      go_ret
      exact ⟨rfl, HBl.out⟩
theorem got_asread {w : World} {G : Nat} {o : List UInt8} {l : List SecV} (h : Got w G o (hCnt o).1 (hCnt o).1 l) : AsRead o l :=
  ⟨h.len, fun i x hx => by
    obtain ⟨h1, h2, _⟩ := h.all i x hx
    have hi : i < (hCnt o).1 := by rw [← h.len]; exact (List.getElem?_eq_some_iff.1 hx).1
    rw [if_pos hi] at h2
    exact ⟨h1, h2⟩⟩
theorem asread_same {o : List UInt8} {l m : List SecV} (h : AsRead o l) (k : AsRead o m) : SameS l m := by
  refine ⟨by rw [h.len, k.len], fun i x y hx hy => ?_⟩
  obtain ⟨h1, h2⟩ := h.all i x hx
  obtain ⟨k1, k2⟩ := k.all i y hy
  exact ⟨by rw [h1, k1], by rw [h2, k2]⟩
theorem asread_big {o : List UInt8} {l : List SecV} (h : AsRead o l) (ho : o.length ≤ 2000) : ∀ x ∈ l, x.b.length ≤ 2000 := by
  intro x hx
  obtain ⟨i, hi, rfl⟩ := List.mem_iff_getElem.1 hx
  have := (h.all i _ (List.getElem?_eq_getElem hi)).2
  rw [this]
  exact Nat.le_trans (bBody_le o i) ho

/-- three texts in memory -/
def Three (ga : Nat) (k : Nat) (W0 : World) : Prop := ∃ Ak nk ck bk, bk.length = nk ∧ nk ≤ ck ∧ nk ≤ 2004 ∧ (∀ wx, Below W0.heap.size W0 wx → wx.cell? ⟨ga, k, none⟩ = some (.slice Ak nk ck) ∧ RB wx Ak bk)

set_option maxHeartbeats 8000000 in
set_option maxRecDepth 100000 in
theorem sectionReads_row {w : World} (A0 : Option Addr) (a0 : List UInt8) (c0 : Nat) (h0 : RB w A0 a0) (l0 : a0.length ≤ c0) (A : Option Addr) (l : List SecV) (c : Nat) (hS : SE w A l) (hc : l.length ≤ c) (z : Int) (wz : (Lit.int .i64 z).wf = true) (x : Int) (wx : (Lit.int .u8 x).wf = true) (q : Int) (wq : (Lit.int .i64 q).wf = true) :
    Calls Try.prog 20 #[.slice A0 a0.length c0, .slice A l.length c, .int .i64 z, .int .u8 x, .int .i64 q] w fun e w' => e = .returned (.bool true) ∧ Below w.heap.size w w' := by
  obtain ⟨xb, rfl⟩ : ∃ xb : UInt8, x = (xb.toNat : Int) := by
    have := bounds_u8 wx
    refine ⟨UInt8.ofNat x.toNat, ?_⟩
    rw [UInt8.toNat_ofNat', Nat.mod_eq_of_lt (by omega)]
    omega
  obtain ⟨z1, z2⟩ := bounds_i64 wz
  obtain ⟨q1, q2⟩ := bounds_i64 wq
  have KZ := Lib.hid (fun (m : Nat) (hm : 0 < m) (hm2 : (m : Int) ≤ 9223372036854775807) (wx : World) => around_any z m hm hm2 z1 z2 wx)
  have KQ := Lib.hid (show ∀ wx, Calls Try.prog 52 #[.int .i64 q, .int .i64 6] wx fun e w' => e = .returned (.int .i64 (arN q 6)) ∧ w' = wx from fun wx => around_any q 6 (by omega) (by omega) q1 q2 wx)
  have q6 := arN_lt q (m := 6) (by omega)
  obtain ⟨qc, hqc⟩ : ∃ qc, qc = arN q 6 := ⟨_, rfl⟩
  rw [← hqc] at KQ q6
  clear wz wx wq z1 z2 q1 q2 hqc
  have hf := few_rb h0 200
  have hfl := few_length a0 200
  obtain ⟨b1, hb1⟩ : ∃ b1, b1 = few a0 200 := ⟨_, rfl⟩
  obtain ⟨n1, hn1⟩ : ∃ n1, n1 = min a0.length 200 := ⟨_, rfl⟩
  have hc1 : n1 ≤ c0 := by omega
  have hn200 : n1 ≤ 200 := by omega
  have KF := few_any A0 a0.length c0 200 w l0 (by omega)
  rw [← hb1, ← hn1] at hfl
  rw [← hb1] at hf
  rw [← hn1] at KF
  have KF := Lib.hid KF
  have HF1 := Lib.hid (And.intro hf hfl)
  have HG := Lib.hid (good_false l A l.length c w rfl hS)
  obtain ⟨L, hL⟩ : ∃ L, L = l.length := ⟨_, rfl⟩
  rw [← hL] at HG ⊢
  obtain ⟨L0, hL0⟩ : ∃ L0, L0 = a0.length := ⟨_, rfl⟩
  rw [← hL0] at KF ⊢
  clear hS hc hL hL0 h0 l0 hf hfl hb1 hn1
  go_enter Try.func20, Try.ntmps20
  go_wp2_with fail
  refine KF.out.mono ?_
  rintro e w0' ⟨rfl, rfl⟩
  go_wp2_with fail
  refine HG.out.mono ?_
  rintro e w1 ⟨A1, m1, c1, rfl, hm1, ho1, hs1, hb1⟩
  obtain ⟨gl, hgl⟩ : ∃ gl, gl = goodL false l := ⟨_, rfl⟩
  have HM : May 3 (goodL false l) := goodL_may 3 (by omega) l
  have H100 := goodL_100 false l
  rw [← hgl] at ho1 hs1 HM H100
  have hlen := ho1.len
  have HFL := file_len HM H100
  have HM := Lib.hid HM
  have H100 := Lib.hid H100
  have H1 := Lib.hid (And.intro hs1 (And.intro hb1 hlen))
  clear ho1 hs1 hb1 hgl hlen HG
  go_wp2_with fail
  refine (rwrite_any 3 gl A1 m1 c1 _ H1.out.2.2 H1.out.1 HM.out H100.out).mono ?_
  rintro e w2 ⟨A2, N, c2, rfl, hN, ho2, hb2⟩
  obtain ⟨b, hbe⟩ : ∃ b, b = fileH 3 gl := ⟨_, rfl⟩
  have hfb : fileB 3 gl = sealL b := by rw [hbe]; rfl
  rw [hfb] at ho2
  rw [← hbe] at HFL
  obtain ⟨n, hn2⟩ : ∃ n, n = b.length := ⟨_, rfl⟩
  rw [← hn2] at HFL
  have hNn : N = n + 4 := by have h := ho2.len; rw [sealL_length, ← hn2] at h; exact h.symm
  subst hNn
  obtain ⟨g, rfl, hg, hgl⟩ := ho2.form (by omega)
  have n6 : 6 ≤ n := by omega
  have HO := Lib.hid (ho2.lower H1.out.2.1.size)
  have HB := Lib.hid (H1.out.2.1.trans (hb2.mono H1.out.2.1.size))
  have hwg : w.heap.size ≤ g := Nat.le_trans H1.out.2.1.size hg
  have hLc := ho2.cap
  have hsl : (sealL b).length = n + 4 := ho2.len
  clear ho2 hb2 hfb hbe hn2 hg hgl HFL HM H100 H1
  have hk := arN_lt z (m := n) (by omega)
  have KZn := Lib.hid (KZ.out n (by omega) (by omega))
  obtain ⟨k, hke⟩ : ∃ k, k = arN z n := ⟨_, rfl⟩
  rw [← hke] at hk KZn
  clear hke KZ
  go_wp2_with fail
  refine (KZn.out _).mono ?_
  rintro e w3 ⟨rfl, rfl⟩
  obtain ⟨cc, hcc⟩ : ∃ c, (sealL b)[k]? = some c := ⟨_, List.getElem?_eq_getElem (by omega)⟩
  obtain ⟨ad, had, e1⟩ := HO.out.rb.at_ hcc
  injection had with had
  subst had
  rw [add_plain] at e1
  obtain ⟨u, hu⟩ : ∃ u, u = cc ^^^ xb := ⟨_, rfl⟩
  have x1 := u8x cc xb
  rw [← hu] at x1
  obtain ⟨f1, hst, _⟩ := HO.out.store k u
  have HO2 := Lib.hid hst
  have HB2 := Lib.hid (HB.out.setCell (p := ⟨g, k, none⟩) hwg (.int .u8 (u.toNat : Int)))
  have hsl2 : ((sealL b).set k u).length = n + 4 := by rw [List.length_set, hsl]
  obtain ⟨bt, hbt⟩ : ∃ bt, bt = (sealL b).set k u := ⟨_, rfl⟩
  rw [← hbt] at HO2 hsl2
  have HSL2 := Lib.hid hsl2
  have i0 : (0 : Int) ≤ (k : Int) := by omega
  have i1 : (k : Int) < (n : Int) := by omega
  have i2 : (qc : Int) < 6 := by omega
  have i3 : (0 : Int) ≤ (qc : Int) := by omega
  have i4 : (6 : Int) ≤ (n : Int) := by omega
  have i5 : (n : Int) + 4 ≤ (c2 : Int) := by omega
  clear hst hcc hu hsl hbt hsl2
  go_wp2_with fail
  refine (KQ.out _).mono ?_
  rintro e w4 ⟨rfl, rfl⟩
  obtain ⟨w4, hw4⟩ : ∃ w4, w4 = w3.setCell ⟨g, k, none⟩ (.int .u8 (u.toNat : Int)) := ⟨_, rfl⟩
  rw [← hw4] at HO2 HB2 ⊢
  clear hw4 e1 f1 x1
  go_wp2_with fail
  have HF4 := Lib.hid (And.intro (HF1.out.1.below HB2.out) HF1.out.2)
  refine (rseal_any b1 A0 n1 c0 w4 HF4.out.2 HF4.out.1 (by omega)).mono ?_
  rintro e w5 ⟨A5, c5, rfl, ho5, hb5⟩
  obtain ⟨no, hno⟩ : ∃ no, no = n - qc := ⟨_, rfl⟩
  rw [← hno]
  have hnoc : no ≤ c2 := by omega
  have HRO := Lib.hid ((HO2.out.rb.take no (by have := HSL2.out; omega)).below hb5)
  have hlo : (bt.take no).length = no := by rw [List.length_take, HSL2.out]; omega
  have hno2 : no ≤ 2000 := by omega
  have HB5 := Lib.hid (HB2.out.trans (hb5.mono HB2.out.size))
  have H5 := Lib.hid (And.intro ho5.rb (And.intro ho5.len ho5.cap))
  clear ho5 hb5 hno i2 i3 i4 i5
  obtain ⟨bo, hbo⟩ : ∃ bo, bo = bt.take no := ⟨_, rfl⟩
  rw [← hbo] at HRO hlo
  have HLO := Lib.hid hlo
  clear hbo hlo
  go_wp2_with fail
  refine (rseal_any bo (some ⟨g, 0, none⟩) no c2 w5 HLO.out HRO.out (by omega)).mono ?_
  rintro e w6 ⟨A6, c6, rfl, ho6, hb6⟩
  have H6 := Lib.hid (And.intro ho6.rb (And.intro ho6.len (And.intro ho6.cap hb6)))
  have HB6 := Lib.hid (HB5.out.trans (hb6.mono HB5.out.size))
  clear ho6 hb6
  go_wp2_with fail
  obtain ⟨W0, hW0⟩ : ∃ W0, W0 = w6.alloc (.cells #[.slice A0 n1 c0, .slice A5 (n1 + 4) c5, .slice A6 (no + 4) c6] 22) := ⟨_, rfl⟩
  have hcW : W0.heap[w6.heap.size]? = some (.cells #[.slice A0 n1 c0, .slice A5 (n1 + 4) c5, .slice A6 (no + 4) c6] 22 (0, 0)) := by rw [hW0]; exact heap_alloc_new w6 _
  have hBW : Below w.heap.size w W0 := by rw [hW0]; exact HB6.out.alloc HB6.out.size _
  have hb60 : Below w6.heap.size w6 W0 := by rw [hW0]; exact below_alloc (Below.refl _ _) _
  have HT : ∀ k, k < 3 → Three w6.heap.size k W0 := by
    intro k hk
    have hc' : ∀ wx, Below W0.heap.size W0 wx → wx.heap[w6.heap.size]? = some (.cells #[.slice A0 n1 c0, .slice A5 (n1 + 4) c5, .slice A6 (no + 4) c6] 22 (0, 0)) := fun wx h => (h.block _ (blk_lt hcW)).trans hcW
    match k, hk with
    | 0, _ => exact ⟨A0, n1, c0, b1, HF4.out.2, hc1, by omega, fun wx h => ⟨cell_of_row wx _ 0 _ _ _ (hc' wx h), (HF1.out.1.below hBW).below h⟩⟩
    | 1, _ => exact ⟨A5, n1 + 4, c5, sealL b1, H5.out.2.1, H5.out.2.2, by omega, fun wx h => ⟨cell_of_row wx _ 1 _ _ _ (hc' wx h), ((H5.out.1.below H6.out.2.2.2).below hb60).below h⟩⟩
    | 2, _ => exact ⟨A6, no + 4, c6, sealL bo, H6.out.2.1, H6.out.2.2.1, by omega, fun wx h => ⟨cell_of_row wx _ 2 _ _ _ (hc' wx h), (H6.out.1.below hb60).below h⟩⟩
  rw [← hW0]
  obtain ⟨ga, hga⟩ : ∃ ga, ga = w6.heap.size := ⟨_, rfl⟩
  rw [← hga] at HT ⊢
  have HT := Lib.hid HT
  have HBW := Lib.hid hBW
  clear hW0 hcW hBW hb60 hga
  go_loopw [14] (fun i wr => ∃ k : Nat, k ≤ 3 ∧ i = .int .i64 k ∧ Below w.heap.size w wr ∧ Below W0.heap.size W0 wr) (fun i _ => 3 - (intOf i).toNat)
  case atStart => exact ⟨0, by omega, rfl, HBW.out, Below.refl _ _⟩
  case round =>
    obtain ⟨k', hk3, rfl, hb, hb0⟩ := hrel
    obtain ⟨kk, rfl⟩ : ∃ kk, kk = k' := ⟨_, rfl⟩
    have H0 := Lib.hid (And.intro hb hb0)
    clear hb hb0
    have k0 : (0 : Int) ≤ (kk : Int) := by omega
    by_cases hlt : kk < 3
    · have j1 : (kk : Int) < 3 := by omega
      obtain ⟨Ak, nk, ck, bk, hlk, hck, hnk, hT⟩ := HT.out kk hlt
      have HTk := Lib.hid hT
      have HL := Lib.hid hlk
      have hcell := (hT wr H0.out.2).1
      clear hT hlk
      go_wp2_with fail
      refine (readF_any bk Ak nk ck wr HL.out (HTk.out wr H0.out.2).2 hck (by omega)).mono ?_
      rintro e w7 ⟨(⟨h0, rfl⟩ | ⟨h0, gl7, l7, rfl, ho7, hg7⟩), hb7⟩
      · obtain ⟨er, her⟩ : ∃ er, er = fileE bk := ⟨_, rfl⟩
        have HER := Lib.hid her
        rw [← her] at h0 ⊢
        have g1 : (er == 0) = false := by simp [h0]
        have H7 := Lib.hid (And.intro (H0.out.1.trans (hb7.mono H0.out.1.size)) (H0.out.2.trans (hb7.mono H0.out.2.size)))
        clear her hb7 hcell
        have hcell := (HTk.out w7 H7.out.2).1
        go_wp2_with fail
        refine (rread_any bk Ak nk ck w7 HL.out (HTk.out w7 H7.out.2).2 hck (by omega)).mono ?_
        intro e w8 hq
        unfold ReadQ at hq
        obtain ⟨(⟨_, rfl⟩ | ⟨h1, _⟩), hb8⟩ := hq
        rotate_left
        · exact absurd (HER.out.trans h1) h0
        rw [← HER.out]
        have H8 := Lib.hid (And.intro (H7.out.1.trans (hb8.mono H7.out.1.size)) (H7.out.2.trans (hb8.mono H7.out.2.size)))
        clear hb8 hcell
        have hcell := (HTk.out w8 H8.out.2).1
        go_wp2_with fail
        refine (sspans_any bk Ak nk ck w8 HL.out (HTk.out w8 H8.out.2).2 hck (by omega)).mono ?_
        rintro e w9 ⟨(⟨_, rfl⟩ | ⟨h1, _⟩), hb9⟩
        rotate_left
        · exact absurd (HER.out.trans h1) h0
        rw [← HER.out]
        have H9 := Lib.hid (And.intro (H8.out.1.trans (hb9.mono H8.out.1.size)) (H8.out.2.trans (hb9.mono H8.out.2.size)))
        clear hb9 hcell
        go_wp2_with fail
        refine (rsame_big [] [] none none 0 0 0 w9 rfl ⟨rfl, fun i x y hx => by simp at hx⟩ (SE.nil _ _) (SE.nil _ _) (by simp)).mono ?_
        rintro e w10 ⟨rfl, hb10⟩
        have H10 := Lib.hid (And.intro (H9.out.1.trans (hb10.mono H9.out.1.size)) (H9.out.2.trans (hb10.mono H9.out.2.size)))
        clear hb10
        go_wp2_with fail
        go_quiet (fail)
        go_wp2
        go_roundw
        case rel => exact ⟨kk + 1, by omega, by go_num, pw_below_drewN H10.out.1 _, pw_below_drewN H10.out.2 _⟩
        case measure => simp [intOf]; omega
      · have hpart := fileE_parts h0
        have hol : (openB bk).length ≤ 2000 := by
          have hle : (openB bk).length ≤ bk.length - 4 := by
            unfold openB; rw [if_pos hpart.1, List.length_take]; omega
          rw [HL.out] at hle; omega
        have hcnt := hCnt_le (openB bk)
        have hvlt := hVer_lt (openB bk)
        have hAR := got_asread hg7
        have hfb : fileB ((hVer (openB bk)).1 : Nat) l7 = bk := by
          unfold fileB
          rw [file_back hpart.2 hAR]
          exact seal_back hpart.1
        have hM := file_may hpart.2 hAR
        have HBig := Lib.hid (asread_big hAR hol)
        have HSE := Lib.hid (got_se ho7 hg7 (by omega))
        have hln := hAR.len
        have HAR := Lib.hid hAR
        obtain ⟨cnt, hct⟩ : ∃ cnt, cnt = (hCnt (openB bk)).1 := ⟨_, rfl⟩
        obtain ⟨vv, hvv⟩ : ∃ vv, vv = (hVer (openB bk)).1 := ⟨_, rfl⟩
        have K71 := Lib.hid (show ∀ wy, Below W0.heap.size W0 wy → Calls Try.prog 71 #[.slice Ak nk ck] wy fun e w' => ∃ A8 c8 l8, e = .returned (.tuple #[.int .i64 (vv : Nat), .slice A8 cnt c8, .int .i64 0]) ∧ SE w' A8 l8 ∧ AsRead (openB bk) l8 ∧ Below wy.heap.size wy w' by
          intro wy h
          refine (rread_any bk Ak nk ck wy HL.out (HTk.out wy h).2 hck (by omega)).mono ?_
          intro e w8 hq
          unfold ReadQ at hq
          obtain ⟨(⟨h1, _⟩ | ⟨_, A8, c8, l8, he, hse8, har8⟩), hb8⟩ := hq
          · exact absurd h0 h1
          · exact ⟨A8, c8, l8, by rw [he, hct, hvv], hse8, har8, hb8⟩)
        have K72 := Lib.hid (show ∀ wy, Below W0.heap.size W0 wy → Calls Try.prog 72 #[.slice Ak nk ck] wy fun e w' => ∃ gs, e = .returned (.tuple #[.slice (some ⟨gs, 0, none⟩) cnt cnt, .int .i64 0]) ∧ Below wy.heap.size wy w' by
          intro wy h
          refine (sspans_any bk Ak nk ck wy HL.out (HTk.out wy h).2 hck (by omega)).mono ?_
          rintro e w9 ⟨(⟨h1, _⟩ | ⟨_, gs, he, _⟩), hb9⟩
          · exact absurd h0 h1
          · exact ⟨gs, by rw [he, hct], hb9⟩)
        rw [← hct] at hln hcnt ⊢
        rw [← hvv] at hfb hM hvlt ⊢
        have HFB := Lib.hid hfb
        have HM := Lib.hid hM
        have HLn := Lib.hid hln
        have H7 := Lib.hid (And.intro (H0.out.1.trans (hb7.mono H0.out.1.size)) (H0.out.2.trans (hb7.mono H0.out.2.size)))
        clear hpart hol hAR hfb hM hln ho7 hg7 hb7 hcell h0 hct hvv
        have hcell := (HTk.out w7 H7.out.2).1
        go_wp2_with fail
        refine (K71.out w7 H7.out.2).mono ?_
        rintro e w8 ⟨A8, c8, l8, rfl, hse8, har8, hb8⟩
        have H8 := Lib.hid (And.intro (H7.out.1.trans (hb8.mono H7.out.1.size)) (H7.out.2.trans (hb8.mono H7.out.2.size)))
        have HS8 := Lib.hid (And.intro (HSE.out.below hb8) (And.intro hse8 (asread_same HAR.out har8)))
        clear hb8 hcell hse8 har8
        have hcell := (HTk.out w8 H8.out.2).1
        go_wp2_with fail
        refine (K72.out w8 H8.out.2).mono ?_
        rintro e w9 ⟨gs, rfl, hb9⟩
        have H9 := Lib.hid (And.intro (H8.out.1.trans (hb9.mono H8.out.1.size)) (H8.out.2.trans (hb9.mono H8.out.2.size)))
        have HS9 := Lib.hid (And.intro (HS8.out.1.below hb9) (HS8.out.2.1.below hb9))
        clear hb9 hcell
        go_wp2_with fail
        refine (rsame_big l7 l8 (some ⟨gl7, 0, none⟩) A8 cnt cnt c8 w9 HLn.out HS8.out.2.2 HS9.out.1 HS9.out.2 HBig.out).mono ?_
        rintro e w10 ⟨rfl, hb10⟩
        have H10 := Lib.hid (And.intro (H9.out.1.trans (hb10.mono H9.out.1.size)) (H9.out.2.trans (hb10.mono H9.out.2.size)))
        have HS10 := Lib.hid (HS9.out.1.below hb10)
        have hd0 : Below w10.heap.size w10 w10.drew := (Below.refl _ _).drew
        clear hb10
        have hcell := (HTk.out w10 H10.out.2).1
        go_wp2_with fail
        go_region_held3 (fun w' => w'.cell? ⟨ga, kk, none⟩ = some (.slice Ak nk ck))
          (first | exact (HTk.out _ H10.out.2.drew).1 | exact (HTk.out _ (H10.out.2.trans (hbA.mono H10.out.2.size))).1 | exact (HTk.out _ (H10.out.2.trans (hbB.mono H10.out.2.size))).1)
          (first
            | (go_at_call 68; with_reducible refine (rwriteG_any (vv : Nat) l7 (some ⟨gl7, 0, none⟩) cnt cnt _ HLn.out (HS10.out.below hd0) HM.out HBig.out).mono ?_; rintro ex w11 ⟨A11, n11, c11, rfl, hn11, ho11, hb11⟩; rw [HFB.out] at ho11; obtain rfl : nk = n11 := HL.out.symm.trans ho11.len; have hbA := hd0.trans (hb11.mono hd0.size))
            | (go_at_call 38; with_reducible refine (same_one bk A11 Ak nk c11 ck _ HL.out ho11.rb (HTk.out _ (H10.out.2.trans (hbA.mono H10.out.2.size))).2 (by omega)).mono ?_; rintro ex w12 ⟨rfl, hb12⟩; have hbB := hbA.trans (hb12.mono hbA.size)))
        all_goals
          have H12 := Lib.hid (And.intro (H10.out.1.trans (hbB.mono H10.out.1.size)) (H10.out.2.trans (hbB.mono H10.out.2.size)))
          clear hbA hbB hb11 hb12 ho11 hcell
          go_wp2
          go_roundw
          case rel => exact ⟨kk + 1, by omega, by go_num, H12.out.1, H12.out.2⟩
          case measure => simp [intOf]; omega
    · obtain rfl : kk = 3 := by omega
      go_wp2_with fail
      refine (lives16_any H0.out.1).mono ?_
      rintro e w7 ⟨rfl, hb7⟩
      have HB7 := Lib.hid hb7
      clear hb7
      go_wp2
      go_ret
      exact ⟨rfl, HB7.out⟩
end
end Go.Proofs.Ytnkbkhlbogcfaaa
