/- A file's bytes: the program's answer. -/
import Derived.Test.YtnkbkhlbogcfaaaSb
import Derived.Test.YtnkbkhlbogcfaaaJ
import Derived.Test.YtnkbkhlbogcfaaaP
import Derived.Lib.SlBytesConst
set_option linter.unusedVariables false
set_option linter.unusedSimpArgs false
namespace Go.Proofs.Ytnkbkhlbogcfaaa
open Go.RowKit Go.Proofs.YtnkbkhlbogcfaaaW.PrintWords
noncomputable section

/-- what stands ahead of the bodies, of each section -/
def headX (x : SecV) : List UInt8 := UInt8.ofNat x.k.toNat :: shortB x.b.length
def headB (l : List SecV) : List UInt8 := l.flatMap headX
def bodyB (l : List SecV) : List UInt8 := l.flatMap fun x => sealL x.b
def startB (v : Int) (l : List SecV) : List UInt8 := [72, 73, 66, 82] ++ [UInt8.ofNat v.toNat] ++ shortB l.length
def fileH (v : Int) (l : List SecV) : List UInt8 := startB v l ++ headB l ++ bodyB l
def fileB (v : Int) (l : List SecV) : List UInt8 := sealL (fileH v l)
theorem headB_succ {l : List SecV} {k : Nat} {x : SecV} (h : l[k]? = some x) : headB (l.take (k + 1)) = headB (l.take k) ++ headX x := by
  unfold headB; rw [List.take_add_one, h]; simp
theorem bodyB_succ {l : List SecV} {k : Nat} {x : SecV} (h : l[k]? = some x) : bodyB (l.take (k + 1)) = bodyB (l.take k) ++ sealL x.b := by
  unfold bodyB; rw [List.take_add_one, h]; simp
theorem headX_len (x : SecV) (h : x.b.length ≤ 100) : (headX x).length = 2 := by unfold headX; rw [shortB_one (by omega)]; rfl
theorem headB_len (l : List SecV) (h : ∀ x ∈ l, x.b.length ≤ 100) : (headB l).length = 2 * l.length := by
  unfold headB
  induction l with
  | nil => rfl
  | cons x r ih =>
    rw [List.flatMap_cons, List.length_append, headX_len x (h x (by simp)), ih (fun y hy => h y (by simp [hy]))]
    simp only [List.length_cons]; omega
theorem bodyB_le (l : List SecV) (h : ∀ x ∈ l, x.b.length ≤ 100) : (bodyB l).length ≤ 104 * l.length := by
  unfold bodyB
  induction l with
  | nil => simp
  | cons x r ih =>
    have h1 := h x (by simp)
    have h2 := ih (fun y hy => h y (by simp [hy]))
    rw [List.flatMap_cons, List.length_append, sealL_length]
    simp only [List.length_cons]; omega
theorem startB_len (v : Int) (l : List SecV) (h : l.length ≤ 100) : (startB v l).length = 6 := by unfold startB; rw [shortB_one (by omega)]; rfl
theorem rb_new1 (w : World) (v : Int) (y : UInt8) (h : v = (y.toNat : Int)) : RB (w.alloc (.cells #[.int .u8 v] 5)) (some ⟨w.heap.size, 0, none⟩) [y] := by
  refine rb_block (heap_alloc_new w _) (by simp) fun j x hx => ?_
  obtain rfl : j = 0 := by have := (List.getElem?_eq_some_iff.1 hx).1; simpa using this
  simp at hx
  subst hx
  simp [h]
theorem rb_hibr (w : World) (fr : Nat × Nat) : RB (w.alloc (.cells #[.int .u8 72, .int .u8 73, .int .u8 66, .int .u8 82] 5 fr)) (some ⟨w.heap.size, 0, none⟩) [72, 73, 66, 82] := by
  refine rb_block (heap_alloc_new w _) (by simp) fun j x hx => ?_
  have hj : j < 4 := by have := (List.getElem?_eq_some_iff.1 hx).1; simpa using this
  match j, hj with
  | 0, _ => simp at hx; subst hx; rfl
  | 1, _ => simp at hx; subst hx; rfl
  | 2, _ => simp at hx; subst hx; rfl
  | 3, _ => simp at hx; subst hx; rfl
theorem below_two (w : World) (A B : Obj) : Below w.heap.size w ((w.alloc A).alloc B) := (below_alloc (Below.refl _ _) _).alloc (by simp) _
theorem wr_below {w w' : World} {p n c : Nat} {A : Option Addr} {xs : List UInt8} (h : WrB w p p A n c xs) (hm : Mod w w' p (blk A)) : Below p w w' := h.mod_below h.base_le hm

set_option maxHeartbeats 4000000 in
set_option maxRecDepth 100000 in
theorem write_any (v : Int) (l : List SecV) (A : Option Addr) (L c : Nat) (w : World) (hL : l.length = L) (hS : SE w A l) (hM : May v l) (h100 : ∀ x ∈ l, x.b.length ≤ 100) :
    Calls Try.prog 51 #[.int .i64 v, .slice A L c] w fun e w' => ∃ A' n c', e = .returned (.tuple #[.slice A' n c', .int .i64 0]) ∧ n ≤ 2000 ∧ OB w' w.heap.size A' n c' (fileB v l) ∧ Below w.heap.size w w' := by
  have HS := Lib.hid hS
  have hLh := Lib.hid hL
  have HMay := Lib.hid (may_any v l A L c w hL hS)
  rw [decide_eq_true hM] at HMay
  obtain ⟨v0, v1, hL16, hodd⟩ := hM
  have HOdd := Lib.hid (show ∀ x ∈ l, 0 ≤ x.k ∧ x.k ≤ 255 from fun x hx => by
    have : ¬ odd x := fun h => hodd ⟨x, hx, h⟩
    unfold odd at this
    omega)
  have HC := Lib.hid h100
  have L16 : (L : Int) ≤ 16 := by omega
  have hHB := Lib.hid (headB_len l h100)
  have hBB := Lib.hid (bodyB_le l h100)
  have hSB := Lib.hid (startB_len v l (by omega))
  clear hS hL hodd h100
  go_enter Try.func51, Try.ntmps51
  go_wp2_with fail
  refine HMay.out.mono ?_
  rintro e w1 ⟨rfl, hb1⟩
  have HB1 := Lib.hid hb1
  have hw0 := Lib.hid (WrB.new w1)
  have ha1 := Lib.hid (show Below w1.heap.size w1 (w1.alloc (.cells #[.slice none 0 0] 38)) from below_alloc (Below.refl _ _) _)
  have hcv : (convert 22 22 (.slice (some ⟨w1.heap.size + 1, 0, none⟩) 4 4)).run Try.prog ((w1.alloc (.cells #[.slice none 0 0] 38)).alloc (.cells #[.int .u8 72, .int .u8 73, .int .u8 66, .int .u8 82] 5)) =
      .ok (.slice (some ⟨w1.heap.size + 1, 0, none⟩) 4 4) ((w1.alloc (.cells #[.slice none 0 0] 38)).alloc (.cells #[.int .u8 72, .int .u8 73, .int .u8 66, .int .u8 82] 5 (4, 5))) := by
    have := Lib.run_convert_bytes_const (P := Try.prog) (w1.alloc (.cells #[.slice none 0 0] 38)) 22 5 #[.int .u8 72, .int .u8 73, .int .u8 66, .int .u8 82] 4 4 Try.underlying22 Try.underlying5
    have e : (w1.alloc (.cells #[.slice none 0 0] 38)).heap.size = w1.heap.size + 1 := by simp
    rw [e] at this
    exact this
  have hrb := rb_hibr (w1.alloc (.cells #[.slice none 0 0] 38)) (4, 5)
  rw [show (w1.alloc (.cells #[.slice none 0 0] 38)).heap.size = w1.heap.size + 1 by simp] at hrb
  have HRB := Lib.hid hrb
  have hws := Lib.hid (show w.heap.size ≤ w1.heap.size from hb1.size)
  clear hb1 hrb
  go_wp2_with fail
  refine (raw_any [72, 73, 66, 82] _ 4 4 w1.heap.size w1.heap.size 0 0 none [] _ (hw0.out.below (below_alloc (Below.refl _ _) _)) HRB.out rfl (by omega) (by omega)).mono ?_
  rintro e w2 ⟨A2, c2, rfl, hw2, hm2, _⟩
  have hb2 := wr_below (hw0.out.below (below_alloc (Below.refl _ _) (.cells #[.int .u8 72, .int .u8 73, .int .u8 66, .int .u8 82] 5 (4, 5)))) hm2
  have H2 := Lib.hid (And.intro hw2 (HB1.out.trans (((below_two w1 _ _).trans hb2).mono HB1.out.size)))
  clear hw2 hm2 hb2 hcv
  obtain ⟨p, hp⟩ : ∃ p, p = w1.heap.size := ⟨_, rfl⟩
  rw [← hp] at H2 ⊢
  have HP := Lib.hid (show w.heap.size ≤ p by rw [hp]; exact hws.out)
  clear hp HRB
  have H2 := Lib.hid (show WrB w2 p p A2 4 c2 [72, 73, 66, 82] ∧ Below w.heap.size w w2 from H2.out)
  obtain ⟨vb, hvb⟩ : ∃ vb : UInt8, vb = UInt8.ofNat v.toNat := ⟨_, rfl⟩
  have hvv : v = (vb.toNat : Int) := by rw [hvb, UInt8.toNat_ofNat']; omega
  have HVB := Lib.hid hvb
  subst hvv
  clear hvb
  have hvl := vb.toNat_lt
  go_wp2_with fail
  refine (raw_any [vb] _ 1 1 p p 4 c2 A2 _ _ (H2.out.1.below (below_alloc (Below.refl _ _) _)) (rb_new1 w2 _ vb (by omega)) rfl (by omega) (by omega)).mono ?_
  rintro e w3 ⟨A3, c3, rfl, hw3, hm3, _⟩
  have hb3 := wr_below (H2.out.1.below (below_alloc (Below.refl _ _) (.cells #[.int .u8 _] 5))) hm3
  have H3 := Lib.hid (show WrB w3 p p A3 5 c3 ([72, 73, 66, 82] ++ [vb]) ∧ Below w.heap.size w w3 from ⟨hw3, H2.out.2.trans ((((below_alloc (Below.refl w2.heap.size w2) _).mono H2.out.1.base_le).trans hb3).mono HP.out)⟩)
  clear hw3 hm3 hb3
  go_wp2_with fail
  refine (short_any (L : Int) L p p 5 c3 A3 _ _ H3.out.1 (by omega) (by omega) (by omega)).mono ?_
  rintro e w4 ⟨A4, c4, rfl, hw4, hm4, _⟩
  have hb4 := wr_below H3.out.1 hm4
  have hs4 : startB (vb.toNat : Int) l = [72, 73, 66, 82] ++ [vb] ++ shortB L := by unfold startB; rw [← HVB.out, hLh.out]
  have hl4 : (shortB L).length = 1 := by rw [shortB_one (by omega)]; rfl
  rw [← hs4, hl4] at hw4
  have H4 := Lib.hid (And.intro hw4 (H3.out.2.trans (hb4.mono HP.out)))
  clear hw4 hm4 hb4 hs4 hl4
  go_wp2_with fail
  go_loopw [27] (fun i wr => ∃ (k : Nat) (A5 : Option Addr) (c5 : Nat), k ≤ L ∧ i = .int .i64 k ∧ WrB wr p p A5 (6 + 2 * k) c5 (startB (vb.toNat : Int) l ++ headB (l.take k)) ∧ Below w.heap.size w wr) (fun i _ => L - (intOf i).toNat)
  case atStart => exact ⟨0, A4, c4, by omega, rfl, by simpa [headB] using H4.out.1, H4.out.2⟩
  case round =>
    obtain ⟨k, A5, c5, hk, rfl, hw, hb⟩ := hrel
    have HW := Lib.hid (And.intro hw hb)
    clear hw hb
    have k0 : (0 : Int) ≤ (k : Int) := by omega
    by_cases hlt : k < L
    · have j1 : (k : Int) < (L : Int) := by omega
      obtain ⟨x, hx⟩ : ∃ x, l[k]? = some x := ⟨_, List.getElem?_eq_getElem (by have := hLh.out; omega)⟩
      obtain ⟨ad, had, q0, q1⟩ := (HS.out.below HW.out.2).2.2 k _ hx
      subst had
      have hxk := HOdd.out x (List.mem_of_getElem? hx)
      have hxl := HC.out x (List.mem_of_getElem? hx)
      have HX := Lib.hid (headB_succ hx)
      obtain ⟨xb, hxb⟩ : ∃ xb : UInt8, xb = UInt8.ofNat x.k.toNat := ⟨_, rfl⟩
      have hxv : x.k = (xb.toNat : Int) := by rw [hxb, UInt8.toNat_ofNat']; omega
      have hXX := Lib.hid (show headX x = [xb] ++ shortB x.b.length by unfold headX; rw [← hxb]; rfl)
      have hxbl := xb.toNat_lt
      obtain ⟨m, hm⟩ : ∃ m, m = x.b.length := ⟨_, rfl⟩
      rw [hxv] at q0
      rw [← hm] at q1 hXX hxl
      clear hx hxb hxv hxk hm
      go_wp2_with fail
      have hrb := rb_new1 (wr.alloc (.cells #[.int .i64 (xb.toNat : Int), .slice x.A m x.c] 68)) (xb.toNat : Int) xb rfl
      have es : (wr.alloc (.cells #[.int .i64 (xb.toNat : Int), .slice x.A m x.c] 68)).heap.size = wr.heap.size + 1 := by simp
      rw [es] at hrb
      have hwA := HW.out.1.below (below_two wr (.cells #[.int .i64 (xb.toNat : Int), .slice x.A m x.c] 68) (.cells #[.int .u8 (xb.toNat : Int)] 5))
      refine (raw_any [xb] _ 1 1 p p _ c5 A5 _ _ hwA hrb rfl (by omega) (by omega)).mono ?_
      rintro e w5 ⟨A6, c6, rfl, hw5, hm5, _⟩
      have hrow : ((wr.alloc (.cells #[.int .i64 (xb.toNat : Int), .slice x.A m x.c] 68)).alloc (.cells #[.int .u8 (xb.toNat : Int)] 5)).heap[wr.heap.size]? = some (.cells #[.int .i64 (xb.toNat : Int), .slice x.A m x.c] 68 (0, 0)) := by
        rw [(below_alloc (Below.refl _ _) _).block _ (by simp)]; exact heap_alloc_new _ _
      have hrow5 := (hm5.block wr.heap.size (blk_lt hrow) (by have := HW.out.1.lt; omega) (by intro q; have := HW.out.1.own.blk_lt _ q.symm; omega)).trans hrow
      have d1 : w5.cell? ⟨wr.heap.size, 1, none⟩ = some (.slice x.A m x.c) := by rw [cell_of_row w5 wr.heap.size 1 _ _ _ hrow5]; rfl
      have hb5 := wr_below hwA hm5
      have H5 := Lib.hid (And.intro hw5 ((HW.out.2.trans (((below_two wr (.cells #[.int .i64 (xb.toNat : Int), .slice x.A m x.c] 68) (.cells #[.int .u8 (xb.toNat : Int)] 5)).mono HW.out.1.base_le).mono HP.out)).trans (hb5.mono HP.out)))
      clear hrb es hwA hw5 hm5 hrow hrow5 hb5
      go_wp2_with fail
      refine (short_any (m : Int) m p p _ c6 A6 _ _ H5.out.1 (by omega) (by omega) (by omega)).mono ?_
      rintro e w6 ⟨A7, c7, rfl, hw6, hm6, _⟩
      have hb6 := wr_below H5.out.1 hm6
      have hl1 : (shortB m).length = 1 := by rw [shortB_one (by omega)]; rfl
      rw [hl1, show startB (vb.toNat : Int) l ++ headB (l.take k) ++ [xb] ++ shortB m = startB (vb.toNat : Int) l ++ headB (l.take (k + 1)) by rw [HX.out, hXX.out]; simp [List.append_assoc]] at hw6
      have H6 := Lib.hid (And.intro hw6 (H5.out.2.trans (hb6.mono HP.out)))
      clear hw6 hm6 hb6 hl1
      go_wp2
      go_roundw
      case rel => exact ⟨k + 1, A7, c7, by omega, by go_num, by rw [show 6 + 2 * (k + 1) = 6 + 2 * k + 1 + 1 by omega]; exact H6.out.1, H6.out.2⟩
      case measure => simp [intOf]; omega
    · obtain rfl : k = L := by omega
      obtain ⟨L, rfl⟩ : ∃ L, L = k := ⟨_, rfl⟩
      have hwx := HW.out.1
      rw [List.take_of_length_le (by have := hLh.out; omega)] at hwx
      obtain ⟨wa, hwa⟩ : ∃ wa, wa = wr := ⟨_, rfl⟩
      obtain ⟨N, hN⟩ : ∃ N, N = 6 + 2 * L := ⟨_, rfl⟩
      rw [← hN] at hwx
      have N40 : N ≤ 40 := by omega
      have HW1 := Lib.hid (And.intro hwx HW.out.2)
      clear hwx HW hN hwa
      obtain ⟨wa, rfl⟩ : ∃ wa, wa = wr := ⟨_, rfl⟩
      go_wp2_with fail
      go_loopw [43] (fun i wr => ∃ (k n5 : Nat) (A5 : Option Addr) (c5 : Nat), k ≤ L ∧ i = .int .i64 k ∧ n5 ≤ 40 + 104 * k ∧ WrB wr p p A5 n5 c5 (startB (vb.toNat : Int) l ++ headB l ++ bodyB (l.take k)) ∧ Below w.heap.size w wr) (fun i _ => L - (intOf i).toNat)
      case atStart => exact ⟨0, N, A5, c5, by omega, rfl, by omega, by simpa [bodyB] using HW1.out.1, HW1.out.2⟩
      case round =>
        obtain ⟨k, n5, A5, c5, hk, rfl, hn5, hw, hb⟩ := hrel
        have HW := Lib.hid (And.intro hw hb)
        clear hw hb
        have k0 : (0 : Int) ≤ (k : Int) := by omega
        by_cases hlt : k < L
        · have j1 : (k : Int) < (L : Int) := by omega
          obtain ⟨x, hx⟩ : ∃ x, l[k]? = some x := ⟨_, List.getElem?_eq_getElem (by have := hLh.out; omega)⟩
          obtain ⟨ad, had, q0, q1⟩ := (HS.out.below HW.out.2).2.2 k _ hx
          subst had
          have hxl := HC.out x (List.mem_of_getElem? hx)
          have HRB := Lib.hid ((HS.out.below HW.out.2).2.1 x (List.mem_of_getElem? hx)).2
          have HX := Lib.hid (bodyB_succ hx)
          obtain ⟨m, hm⟩ : ∃ m, m = x.b.length := ⟨_, rfl⟩
          rw [← hm] at q1 hxl
          have HM := Lib.hid hm
          clear hx hm
          go_wp2_with fail
          refine (seal_any x.b x.A m x.c _ HM.out.symm (HRB.out.below (below_alloc (Below.refl _ _) _)) (by omega)).mono ?_
          rintro e w5 ⟨A6, c6, rfl, ho5, hb5⟩
          have hb5' := (below_alloc (Below.refl wr.heap.size wr) (.cells #[.int .i64 x.k, .slice x.A m x.c] 68)).trans (hb5.mono (by simp))
          have H5 := Lib.hid (And.intro ho5 (And.intro (HW.out.1.below hb5') (HW.out.2.trans (hb5'.mono HW.out.2.size))))
          clear ho5 hb5 hb5'
          go_wp2_with fail
          refine (raw_any (sealL x.b) A6 (m + 4) c6 p p n5 c5 A5 _ _ H5.out.2.1 H5.out.1.rb H5.out.1.len (by omega) (by omega)).mono ?_
          rintro e w6 ⟨A7, c7, rfl, hw6, hm6, _⟩
          have hb6 := wr_below H5.out.2.1 hm6
          rw [List.append_assoc, ← HX.out] at hw6
          have H6 := Lib.hid (And.intro hw6 (H5.out.2.2.trans (hb6.mono HP.out)))
          clear hw6 hm6 hb6
          go_wp2
          go_roundw
          case rel =>
            exact ⟨k + 1, n5 + (m + 4), A7, c7, by omega, by go_num, by omega, H6.out.1, H6.out.2⟩
          case measure => simp [intOf]; omega
        · have kn : (k : Int) = (L : Int) := by omega
          have kn' : k = L := by omega
          have hwx := HW.out.1
          rw [kn', List.take_of_length_le (by have := hLh.out; omega)] at hwx
          have HW2 := Lib.hid (And.intro hwx HW.out.2)
          clear hwx HW kn'
          go_wp2_with fail
          refine (wbytes_any p p n5 c5 A5 _ _ HW2.out.1 (by omega)).mono ?_
          rintro e w5 ⟨A6, c6, rfl, ho5, hb5⟩
          have H5 := Lib.hid (And.intro ho5 (HW2.out.2.trans (hb5.mono HW2.out.2.size)))
          clear ho5 hb5
          go_wp2_with fail
          refine (seal_any _ A6 n5 c6 _ H5.out.1.len H5.out.1.rb (by omega)).mono ?_
          rintro e w6 ⟨A7, c7, rfl, ho6, hb6⟩
          have H6 := Lib.hid (And.intro ho6 (H5.out.2.trans (hb6.mono H5.out.2.size)))
          have hsz := H5.out.2.size
          clear ho6 hb6
          go_wp2
          go_ret2
          exact ⟨A7, n5 + 4, c7, rfl, by omega, H6.out.1.lower hsz, H6.out.2⟩
end
end Go.Proofs.Ytnkbkhlbogcfaaa
