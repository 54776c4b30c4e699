/- A file, written by the document, of longer bodies: the walk. -/
import Derived.Test.YtnkbkhlbogcfaaaSn
set_option linter.unusedVariables false
set_option linter.unusedSimpArgs false
namespace Go.Proofs.Ytnkbkhlbogcfaaa
open Go.RowKit Go.Proofs.YtnkbkhlbogcfaaaW.PrintWords
noncomputable section

set_option maxHeartbeats 4000000 in
set_option maxRecDepth 100000 in
theorem rwriteG_any (v : Int) (l : List SecV) (A : Option Addr) (L c : Nat) (w : World) (hL : l.length = L) (hS : SE w A l) (hM : May v l) (h100 : ∀ x ∈ l, x.b.length ≤ 2000) :
    Calls Try.prog 68 #[.int .i64 v, .slice A L c] w fun e w' => ∃ A' n c', e = .returned (.slice A' n c') ∧ n ≤ 40000 ∧ OB w' w.heap.size A' n c' (fileB v l) ∧ Below w.heap.size w w' := by
  have HS := Lib.hid hS
  have hLh := Lib.hid hL
  obtain ⟨v0, v1, hL16, hodd⟩ := hM
  have HOdd := Lib.hid (show ∀ x ∈ l, 0 ≤ x.k ∧ x.k ≤ 255 from fun x hx => by
    have : ¬ odd x := fun h => hodd ⟨x, hx, h⟩
    unfold odd at this
    omega)
  have HC := Lib.hid h100
  have L16 : (L : Int) ≤ 16 := by omega
  obtain ⟨vb, hvb⟩ : ∃ vb : UInt8, vb = UInt8.ofNat v.toNat := ⟨_, rfl⟩
  have hvv : v = (vb.toNat : Int) := by rw [hvb, UInt8.toNat_ofNat']; omega
  have HVB := Lib.hid hvb
  subst hvv
  clear hvb hS hL hodd h100
  have hvl := vb.toNat_lt
  have HO0 := Lib.hid (rb_new5 w 72 73 66 82 (vb.toNat : Int) [72, 73, 66, 82, vb] rfl)
  have HB0 := Lib.hid (show Below w.heap.size w (w.alloc (.cells #[.int .u8 72, .int .u8 73, .int .u8 66, .int .u8 82, .int .u8 (vb.toNat : Int)] 5)) from below_alloc (Below.refl _ _) _)
  go_enter Try.func68, Try.ntmps68
  go_wp2_with fail
  refine (rshort_any (L : Int) L (by omega) (by omega) _).mono ?_
  rintro e w1 ⟨A1, c1, rfl, ho1, hb1⟩
  have H1 := Lib.hid (And.intro (HO0.out.below hb1) (And.intro ho1.rb (HB0.out.trans (hb1.mono HB0.out.size))))
  clear ho1 hb1
  have hlh := Lib.hid (show (shortB L).length = 1 by rw [shortB_one (by omega)]; rfl)
  go_wp2_with (at_builtin; refine appB w.heap.size _ 5 5 [72, 73, 66, 82, vb] A1 (shortB L).length c1 (shortB L) rfl rfl rfl rfl H1.out.1 H1.out.2.1 rfl H1.out.2.2.size (by rw [hlh.out]; omega) ?_; intro A2 c2 w2 ho2 hg2 hs2)
  have hl1 := hlh.out
  have hst : [72, 73, 66, 82, vb] ++ shortB L = startB (vb.toNat : Int) l := by unfold startB; rw [← HVB.out, hLh.out]; rfl
  rw [hst, hl1] at ho2
  have H2 := Lib.hid (And.intro ho2 (H1.out.2.2.grown hg2 H1.out.2.2.size (by intro q hq; exact own_base H1.out.1 q hq)))
  rw [hl1]
  have e6 : (5 + 1 : Nat) = 6 := rfl
  rw [e6]
  clear ho2 hg2 hs2 hst hl1 e6
  go_loopw [5, 6] (fun s i wr => ∃ (k n5 : Nat) (A5 : Option Addr) (c5 : Nat), k ≤ L ∧ i = .int .i64 k ∧ s = .slice A5 n5 c5 ∧ n5 ≤ 6 + 10 * k ∧ OB wr w.heap.size A5 n5 c5 (startB (vb.toNat : Int) l ++ headB (l.take k)) ∧ Below w.heap.size w wr) (fun _ i _ => L - (intOf i).toNat)
  case atStart => exact ⟨0, 6, A2, c2, by omega, rfl, rfl, by omega, by simpa [headB] using H2.out.1, H2.out.2⟩
  case round =>
    obtain ⟨k, n5, A5, c5, hk, rfl, rfl, hn5, hw, hb⟩ := hrel
    have HW := Lib.hid (And.intro hw hb)
    clear hw hb
    have k0 : (0 : Int) ≤ (k : Int) := by omega
    by_cases hlt : k < L
    · have j1 : (k : Int) < (L : Int) := by omega
      obtain ⟨x, hx⟩ : ∃ x, l[k]? = some x := ⟨_, List.getElem?_eq_getElem (by have := hLh.out; omega)⟩
      have KC := Lib.hid (show ∃ ad, A = some ad ∧ ∀ wx, Below w.heap.size w wx → wx.cell? (ad.add (k * 2)) = some (.int .i64 x.k) ∧ wx.cell? ⟨(ad.add (k * 2)).block, (ad.add (k * 2)).off + 1, none⟩ = some (.slice x.A x.b.length x.c) by
        obtain ⟨ad, had, _, _⟩ := HS.out.2.2 k _ hx
        refine ⟨ad, had, fun wx h => ?_⟩
        obtain ⟨ad', had', h0, h1⟩ := (HS.out.below h).2.2 k _ hx
        rw [had] at had'
        injection had' with had'
        subst had'
        exact ⟨h0, h1⟩)
      obtain ⟨ad, rfl, hc⟩ := KC.out
      have KC := Lib.hid hc
      have hxk := HOdd.out x (List.mem_of_getElem? hx)
      have hxl := HC.out x (List.mem_of_getElem? hx)
      have HX := Lib.hid (headB_succ hx)
      obtain ⟨xb, hxb⟩ : ∃ xb : UInt8, xb = UInt8.ofNat x.k.toNat := ⟨_, rfl⟩
      have hxv : x.k = (xb.toNat : Int) := by rw [hxb, UInt8.toNat_ofNat']; omega
      have hXX := Lib.hid (show headX x = [xb] ++ shortB x.b.length by unfold headX; rw [← hxb]; rfl)
      have hxbl := xb.toNat_lt
      obtain ⟨m, hm⟩ : ∃ m, m = x.b.length := ⟨_, rfl⟩
      rw [hxv, ← hm] at KC
      rw [← hm] at hXX hxl
      obtain ⟨q0, q1⟩ := KC.out _ HW.out.2
      clear hx hxb hxv hxk hm hc
      go_wp2_with (at_builtin; refine app8 xb w.heap.size A5 _ c5 _ rfl rfl rfl rfl rfl HW.out.1 HW.out.2.size (by omega) ?_; intro A6 c6 w6 ho6 hg6 hs6; have hb6 := HW.out.2.grown hg6 HW.out.2.size (by intro q hq; exact HW.out.1.blk_base q hq); have q6 := KC.out _ hb6; obtain ⟨q60, q61⟩ := q6)
      have H6 := Lib.hid (And.intro ho6 hb6)
      clear ho6 hg6 hs6 hb6
      refine (rshort_any (m : Int) m (by omega) (by omega) _).mono ?_
      rintro e w7 ⟨A7, c7, rfl, ho7, hb7⟩
      have H7 := Lib.hid (And.intro (H6.out.1.below hb7) (And.intro ho7.rb (H6.out.2.trans (hb7.mono H6.out.2.size))))
      have hlh := Lib.hid (shortB_le9 (m := m) (by omega))
      obtain ⟨sh, hsh⟩ : ∃ sh, sh = (shortB m).length := ⟨_, rfl⟩
      rw [← hsh] at hlh
      have HSH := Lib.hid hsh
      have sh9 := hlh.out
      rw [← hsh]
      clear ho7 hb7 hsh
      go_wp2_with (at_builtin; refine appB w.heap.size A6 _ c6 _ A7 sh c7 (shortB m) rfl rfl rfl rfl H7.out.1 H7.out.2.1 HSH.out.symm H7.out.2.2.size (by omega) ?_; intro A8 c8 w8 ho8 hg8 hs8)
      have hb8 := H7.out.2.2.grown hg8 H7.out.2.2.size (by intro q hq; exact own_base H7.out.1 q hq)
      rw [show startB (vb.toNat : Int) l ++ headB (l.take k) ++ [xb] ++ shortB m = startB (vb.toNat : Int) l ++ headB (l.take (k + 1)) by rw [HX.out, hXX.out]; simp [List.append_assoc]] at ho8
      have H8 := Lib.hid (And.intro ho8 hb8)
      clear ho8 hg8 hs8 hb8
      go_roundw
      case rel => exact ⟨k + 1, n5 + 1 + sh, A8, c8, by omega, by go_num, rfl, by omega, H8.out.1, H8.out.2⟩
      case measure => simp [intOf]; omega
    · obtain rfl : k = L := by omega
      obtain ⟨L, rfl⟩ : ∃ L, L = k := ⟨_, rfl⟩
      have hwx := HW.out.1
      rw [List.take_of_length_le (by have := hLh.out; omega)] at hwx
      obtain ⟨N, hN⟩ : ∃ N, N = n5 := ⟨_, rfl⟩
      rw [← hN] at hwx hn5 ⊢
      have N40 : N ≤ 200 := by omega
      have HW1 := Lib.hid (And.intro hwx HW.out.2)
      clear hwx HW hN
      obtain ⟨wa, rfl⟩ : ∃ wa, wa = wr := ⟨_, rfl⟩
      go_wp2_with fail
      go_loopw [5, 7] (fun s i wr => ∃ (k n5 : Nat) (A5 : Option Addr) (c5 : Nat), k ≤ L ∧ i = .int .i64 k ∧ s = .slice A5 n5 c5 ∧ n5 ≤ 200 + 2004 * k ∧ OB wr w.heap.size A5 n5 c5 (startB (vb.toNat : Int) l ++ headB l ++ bodyB (l.take k)) ∧ Below w.heap.size w wr) (fun _ i _ => L - (intOf i).toNat)
      case atStart => exact ⟨0, N, A5, c5, by omega, rfl, rfl, by omega, by simpa [bodyB] using HW1.out.1, HW1.out.2⟩
      case round =>
        obtain ⟨k, n5, A5, c5, hk, rfl, rfl, hn5, hw, hb⟩ := hrel
        have HW := Lib.hid (And.intro hw hb)
        clear hw hb
        have k0 : (0 : Int) ≤ (k : Int) := by omega
        by_cases hlt : k < L
        · have j1 : (k : Int) < (L : Int) := by omega
          obtain ⟨x, hx⟩ : ∃ x, l[k]? = some x := ⟨_, List.getElem?_eq_getElem (by have := hLh.out; omega)⟩
          obtain ⟨ad, had, q0, q1⟩ := (HS.out.below HW.out.2).2.2 k _ hx
          subst had
          have hxl := HC.out x (List.mem_of_getElem? hx)
          have HRB := Lib.hid ((HS.out.below HW.out.2).2.1 x (List.mem_of_getElem? hx)).2
          have HX := Lib.hid (bodyB_succ hx)
          obtain ⟨m, hm⟩ : ∃ m, m = x.b.length := ⟨_, rfl⟩
          rw [← hm] at q1 hxl
          have HM := Lib.hid hm
          clear hx hm
          go_wp2_with fail
          refine (rseal_any x.b x.A m x.c _ HM.out.symm HRB.out (by omega)).mono ?_
          rintro e w6 ⟨A6, c6, rfl, ho6, hb6⟩
          have H6 := Lib.hid (And.intro ho6 (And.intro (HW.out.1.below hb6) (HW.out.2.trans (hb6.mono HW.out.2.size))))
          clear ho6 hb6
          go_wp2_with (at_builtin; refine appB w.heap.size A5 n5 c5 _ A6 (m + 4) c6 (sealL x.b) rfl rfl rfl rfl H6.out.2.1 H6.out.1.rb H6.out.1.len H6.out.2.2.size (by omega) ?_; intro A8 c8 w8 ho8 hg8 hs8)
          have hb8 := H6.out.2.2.grown hg8 H6.out.2.2.size (by intro q hq; exact own_base H6.out.2.1 q hq)
          rw [List.append_assoc, ← HX.out] at ho8
          have H8 := Lib.hid (And.intro ho8 hb8)
          clear ho8 hg8 hs8 hb8
          go_roundw
          case rel => exact ⟨k + 1, n5 + (m + 4), A8, c8, by omega, by go_num, rfl, by omega, H8.out.1, H8.out.2⟩
          case measure => simp [intOf]; omega
        · obtain rfl : k = L := by omega
          have hwx := HW.out.1
          rw [List.take_of_length_le (by have := hLh.out; omega)] at hwx
          have HW2 := Lib.hid (And.intro hwx HW.out.2)
          clear hwx HW
          go_wp2_with fail
          refine (rseal_any _ A5 n5 c5 _ HW2.out.1.len HW2.out.1.rb (by omega)).mono ?_
          rintro e w6 ⟨A7, c7, rfl, ho6, hb6⟩
          have hsz := HW2.out.2.size
          have H6 := Lib.hid (And.intro (ho6.lower hsz) (HW2.out.2.trans (hb6.mono HW2.out.2.size)))
          clear ho6 hb6
          go_wp2
          go_ret
          exact ⟨A7, n5 + 4, c7, rfl, by omega, H6.out.1, H6.out.2⟩
end
end Go.Proofs.Ytnkbkhlbogcfaaa
