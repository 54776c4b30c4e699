/- Sections compared. -/
import Derived.Test.YtnkbkhlbogcfaaaSf
set_option linter.unusedVariables false
set_option linter.unusedSimpArgs false
namespace Go.Proofs.Ytnkbkhlbogcfaaa
open Go.RowKit Go.Proofs.YtnkbkhlbogcfaaaW.PrintWords
noncomputable section

/-- the same sections: their kinds, their bytes -/
def SameS (a b : List SecV) : Prop := a.length = b.length ∧ ∀ (i : Nat) (x y : SecV), a[i]? = some x → b[i]? = some y → x.k = y.k ∧ x.b = y.b
theorem SameS.refl (a : List SecV) : SameS a a := ⟨rfl, fun i x y h1 h2 => by rw [h1] at h2; injection h2 with h2; subst h2; exact ⟨rfl, rfl⟩⟩
theorem same_one (a : List UInt8) (A B : Option Addr) (n c d : Nat) (w : World) (hn : a.length = n) (hA : RB w A a) (hB : RB w B a) (hs : n < 100000000) :
    Calls Try.prog 38 #[.slice A n c, .slice B n d] w fun e w' => e = .returned (.bool true) ∧ Below w.heap.size w w' := by
  have h := same_any a a A B n n c d w hn hn hA hB hs
  simp only [decide_true] at h
  exact h

set_option maxHeartbeats 4000000 in
set_option maxRecDepth 100000 in
theorem rsame_true (a b : List SecV) (A B : Option Addr) (n c d : Nat) (w : World) (ha : a.length = n) (hs : SameS a b) (hA : SE w A a) (hB : SE w B b) (h100 : ∀ x ∈ a, x.b.length ≤ 1000) :
    Calls Try.prog 62 #[.slice A n c, .slice B n d] w fun e w' => e = .returned (.bool true) ∧ Below w.heap.size w w' := by
  have HA := Lib.hid hA
  have HB := Lib.hid hB
  have HN := Lib.hid ha
  have HS := Lib.hid hs
  have HC := Lib.hid h100
  have hLI : (n : Int) ≤ 9223372036854775807 := by have := hA.1; omega
  clear ha hs hA hB h100
  go_enter Try.func62, Try.ntmps62
  go_wp2
  go_loopw [5] (fun i wr => ∃ k : Nat, k ≤ n ∧ i = .int .i64 k ∧ Below w.heap.size w wr) (fun i _ => n - (intOf i).toNat)
  case atStart => exact ⟨0, by omega, rfl, Below.refl _ _⟩
  case round =>
    obtain ⟨k, hk, rfl, hb⟩ := hrel
    have HBl := Lib.hid hb
    clear hb
    have k0 : (0 : Int) ≤ (k : Int) := by omega
    by_cases hlt : k < n
    · have j1 : (k : Int) < (n : Int) := by omega
      obtain ⟨x, hx⟩ : ∃ x, a[k]? = some x := ⟨_, List.getElem?_eq_getElem (by have := HN.out; omega)⟩
      obtain ⟨y, hy⟩ : ∃ y, b[k]? = some y := ⟨_, List.getElem?_eq_getElem (by have := HN.out; have := HS.out.1; omega)⟩
      obtain ⟨hk1, hb1⟩ := HS.out.2 k x y hx hy
      have KS : ∀ w', Below w.heap.size w w' → ∃ ad bd, A = some ad ∧ B = some bd ∧ (w'.cell? (ad.add (k * 2)) = some (.int .i64 x.k) ∧ w'.cell? ⟨(ad.add (k * 2)).block, (ad.add (k * 2)).off + 1, none⟩ = some (.slice x.A x.b.length x.c) ∧
          w'.cell? (bd.add (k * 2)) = some (.int .i64 x.k) ∧ w'.cell? ⟨(bd.add (k * 2)).block, (bd.add (k * 2)).off + 1, none⟩ = some (.slice y.A x.b.length y.c)) := by
        intro w' h
        obtain ⟨ad, h1, h2, h3⟩ := (HA.out.below h).2.2 k x hx
        obtain ⟨bd, h4, h5, h6⟩ := (HB.out.below h).2.2 k y hy
        rw [← hk1] at h5
        rw [← hb1] at h6
        exact ⟨ad, bd, h1, h4, h2, h3, h5, h6⟩
      obtain ⟨ad, bd, rfl, rfl, _⟩ := KS w (Below.refl _ _)
      have KS := Lib.hid (show ∀ w', Below w.heap.size w w' → w'.cell? (ad.add (k * 2)) = some (.int .i64 x.k) ∧ w'.cell? ⟨(ad.add (k * 2)).block, (ad.add (k * 2)).off + 1, none⟩ = some (.slice x.A x.b.length x.c) ∧
          w'.cell? (bd.add (k * 2)) = some (.int .i64 x.k) ∧ w'.cell? ⟨(bd.add (k * 2)).block, (bd.add (k * 2)).off + 1, none⟩ = some (.slice y.A x.b.length y.c) from fun w' h => by
        obtain ⟨a', b', h1, h2, h3⟩ := KS w' h
        injection h1 with h1
        injection h2 with h2
        subst h1 h2
        exact h3)
      have HRx := Lib.hid ((HA.out.below HBl.out).2.1 x (List.mem_of_getElem? hx)).2
      have hRy := ((HB.out.below HBl.out).2.1 y (List.mem_of_getElem? hy)).2
      rw [← hb1] at hRy
      have HRy := Lib.hid hRy
      have hxl := HC.out x (List.mem_of_getElem? hx)
      obtain ⟨m, hm⟩ : ∃ m, m = x.b.length := ⟨_, rfl⟩
      rw [← hm] at KS hxl
      have HM := Lib.hid hm
      have hbd : Below wr.heap.size wr wr.drew := (Below.refl _ _).drew
      clear hx hy hk1 hb1 hRy hm
      go_wp2_with fail
      go_region_held3 (fun w' => w'.cell? (ad.add (k * 2)) = some (.int .i64 x.k) ∧ w'.cell? ⟨(ad.add (k * 2)).block, (ad.add (k * 2)).off + 1, none⟩ = some (.slice x.A m x.c) ∧
          w'.cell? (bd.add (k * 2)) = some (.int .i64 x.k) ∧ w'.cell? ⟨(bd.add (k * 2)).block, (bd.add (k * 2)).off + 1, none⟩ = some (.slice y.A m y.c))
        (first | exact KS.out _ HBl.out.drew | exact KS.out _ hb5)
        ((go_at_call 38; with_reducible refine (same_one x.b x.A y.A m x.c y.c _ HM.out.symm (HRx.out.below hbd) (HRy.out.below hbd) (by omega)).mono ?_; rintro e w5 ⟨rfl, hb4⟩; have hb5 := HBl.out.trans ((hbd.trans (hb4.mono (by simp))).mono HBl.out.size)))
      all_goals
        have H5 := Lib.hid hb5
        clear hb4 hb5
        go_wp2
        go_roundw
        case rel => exact ⟨k + 1, by omega, by go_num, H5.out⟩
        case measure => simp [intOf]; omega
    · have kn : (k : Int) = (n : Int) := by omega
      go_wp2
      go_ret
      exact ⟨rfl, HBl.out⟩

set_option maxHeartbeats 1000000 in
set_option maxRecDepth 100000 in
theorem same91 (x : SecV) (B : Option Addr) (d : Nat) (w : World) (hA : RB w x.A x.b) (hB : RB w B x.b) (hl : x.b.length ≤ 1000) :
    Calls Try.prog 91 #[.agg #[.int .i64 x.k, .slice x.A x.b.length x.c], .agg #[.int .i64 x.k, .slice B x.b.length d]] w fun e w' => e = .returned (.bool true) ∧ Below w.heap.size w w' := by
  obtain ⟨m, hm⟩ : ∃ m, m = x.b.length := ⟨_, rfl⟩
  have KE := fun (wx : World) (hb : Below w.heap.size w wx) => equal_any x.b x.b x.A B x.b.length x.b.length x.c d wx rfl rfl (hA.below hb) (hB.below hb) (by omega)
  simp only [decide_true] at KE
  rw [← hm] at KE hl ⊢
  have KE := Lib.hid KE
  clear hA hB hm
  go_enter Try.func91, Try.ntmps91
  go_wp2_with fail
  refine (KE.out _ ((below_alloc (Below.refl _ _) _).alloc (by simp) _)).mono ?_
  rintro e w1 ⟨rfl, hb1⟩
  have H1 := Lib.hid (((below_alloc (Below.refl w.heap.size w) (.cells #[.int .i64 x.k, .slice x.A m x.c] 68)).alloc (by simp) (.cells #[.int .i64 x.k, .slice B m d] 68)).trans (hb1.mono (by simp; omega)))
  clear hb1
  go_wp2
  go_ret
  exact ⟨rfl, H1.out⟩

set_option maxHeartbeats 4000000 in
set_option maxRecDepth 100000 in
theorem equalFunc_true (a b : List SecV) (A B : Option Addr) (n c d : Nat) (w : World) (ha : a.length = n) (hs : SameS a b) (hA : SE w A a) (hB : SE w B b) (h100 : ∀ x ∈ a, x.b.length ≤ 1000) :
    Calls Try.prog 90 #[.slice A n c, .slice B n d, .func (.func 91) #[] #[]] w fun e w' => e = .returned (.bool true) ∧ Below w.heap.size w w' := by
  have HA := Lib.hid hA
  have HB := Lib.hid hB
  have HN := Lib.hid ha
  have HS := Lib.hid hs
  have HC := Lib.hid h100
  have hLI : (n : Int) ≤ 9223372036854775807 := by have := hA.1; omega
  clear ha hs hA hB h100
  go_enter Try.func90, Try.ntmps90
  go_wp2
  go_loopw [17] (fun i wr => ∃ k : Nat, k ≤ n ∧ i = .int .i64 k ∧ Below w.heap.size w wr) (fun i _ => n - (intOf i).toNat)
  case atStart => exact ⟨0, by omega, rfl, Below.refl _ _⟩
  case round =>
    obtain ⟨k, hk, rfl, hb⟩ := hrel
    have HBl := Lib.hid hb
    clear hb
    have k0 : (0 : Int) ≤ (k : Int) := by omega
    by_cases hlt : k < n
    · have j1 : (k : Int) < (n : Int) := by omega
      obtain ⟨x, hx⟩ : ∃ x, a[k]? = some x := ⟨_, List.getElem?_eq_getElem (by have := HN.out; omega)⟩
      obtain ⟨y, hy⟩ : ∃ y, b[k]? = some y := ⟨_, List.getElem?_eq_getElem (by have := HN.out; have := HS.out.1; omega)⟩
      obtain ⟨hk1, hb1⟩ := HS.out.2 k x y hx hy
      obtain ⟨ad, rfl, p0, p1⟩ := (HA.out.below HBl.out).2.2 k x hx
      obtain ⟨bd, rfl, q0, q1⟩ := (HB.out.below HBl.out).2.2 k y hy
      rw [← hk1] at q0
      rw [← hb1] at q1
      have q0' := cell_below q0 (below_alloc (Below.refl wr.heap.size wr) (.cells #[.int .i64 x.k, .slice x.A x.b.length x.c] 68))
      have q1' := cell_below q1 (below_alloc (Below.refl wr.heap.size wr) (.cells #[.int .i64 x.k, .slice x.A x.b.length x.c] 68))
      have HRx := Lib.hid ((HA.out.below HBl.out).2.1 x (List.mem_of_getElem? hx)).2
      have hRy := ((HB.out.below HBl.out).2.1 y (List.mem_of_getElem? hy)).2
      rw [← hb1] at hRy
      have hxl := HC.out x (List.mem_of_getElem? hx)
      have hb2 : Below wr.heap.size wr ((wr.alloc (.cells #[.int .i64 x.k, .slice x.A x.b.length x.c] 68)).alloc (.cells #[.int .i64 x.k, .slice y.A x.b.length y.c] 68)) := (below_alloc (Below.refl _ _) _).alloc (by simp) _
      have K91 := Lib.hid (same91 x y.A y.c _ (HRx.out.below hb2) (hRy.below hb2) hxl)
      have HB2 := Lib.hid hb2
      obtain ⟨m, hm⟩ : ∃ m, m = x.b.length := ⟨_, rfl⟩
      rw [← hm] at p1 q1 q0' q1' K91 HB2
      clear hx hy hk1 hb1 hRy hm hxl hb2
      go_wp2_with fail
      refine K91.out.mono ?_
      rintro e w5 ⟨rfl, hb5⟩
      have H5 := Lib.hid (HBl.out.trans ((HB2.out.trans (hb5.mono HB2.out.size)).mono HBl.out.size))
      clear hb5
      go_wp2
      go_roundw
      case rel => exact ⟨k + 1, by omega, by go_num, H5.out⟩
      case measure => simp [intOf]; omega
    · have kn : (k : Int) = (n : Int) := by omega
      go_wp2
      go_ret
      exact ⟨rfl, HBl.out⟩

set_option maxHeartbeats 1000000 in
set_option maxRecDepth 100000 in
theorem ssame_true (a b : List SecV) (A B : Option Addr) (n c d : Nat) (w : World) (ha : a.length = n) (hs : SameS a b) (hA : SE w A a) (hB : SE w B b) (h100 : ∀ x ∈ a, x.b.length ≤ 1000) :
    Calls Try.prog 64 #[.slice A n c, .slice B n d] w fun e w' => e = .returned (.bool true) ∧ Below w.heap.size w w' := by
  have HE := Lib.hid (equalFunc_true a b A B n c d w ha hs hA hB h100)
  clear ha hs hA hB h100
  go_enter Try.func64, Try.ntmps64
  go_wp2_with fail
  refine HE.out.mono ?_
  rintro e w1 ⟨rfl, hb1⟩
  have H1 := Lib.hid hb1
  clear hb1
  go_wp2
  go_ret
  exact ⟨rfl, H1.out⟩
end
end Go.Proofs.Ytnkbkhlbogcfaaa
