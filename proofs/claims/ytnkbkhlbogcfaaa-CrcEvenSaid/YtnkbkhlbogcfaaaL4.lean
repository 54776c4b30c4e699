/- CrcEven: the walk. -/
import Derived.Test.YtnkbkhlbogcfaaaB
import Derived.StillTailTactics
import Derived.Deep.RegionHeld3
set_option linter.unusedVariables false
set_option linter.unusedSimpArgs false
namespace Go.Proofs.Ytnkbkhlbogcfaaa
open Go.RowKit Go.Proofs.YtnkbkhlbogcfaaaW.PrintWords
noncomputable section

set_option maxHeartbeats 1000000 in
set_option maxRecDepth 100000 in
theorem crcEven_walk (a b c : List UInt8) (A0 A1 A2 : Option Addr) (c0 c1 c2 n : Nat) (w : World) (h0 : RB w A0 a) (h1 : RB w A1 b) (h2 : RB w A2 c) (l0 : a.length ≤ c0) (l1 : b.length ≤ c1) (l2 : c.length ≤ c2)
    (hn : n = min (min (min a.length b.length) c.length) 200) :
    Calls Try.prog 4 #[.slice A0 a.length c0, .slice A1 b.length c1, .slice A2 c.length c2] w fun e w' => e = .returned (.bool true) ∧ Below w.heap.size w w' := by
  have hmin : ([(b.length : Int), c.length, 200].foldl min (a.length : Int)) = (n : Int) := by simp only [List.foldl_cons, List.foldl_nil]; omega
  have hmin := Lib.hid hmin
  have hn' := Lib.hid hn
  have n0 : n ≤ a.length := by omega
  have n1 : n ≤ b.length := by omega
  have n2 : n ≤ c.length := by omega
  have n3 : n ≤ 200 := by omega
  have H := Lib.hid (And.intro h0 (And.intro h1 h2))
  clear hn h0 h1 h2
  go_enter Try.func4, Try.ntmps4
  go_wp2_with (refine wpList_min (o := ⟨some 16, _, _, _, _, _⟩) .i64 _ _ n _ _ rfl rfl ?_ hmin.out ?_; simp [go_sem])
  go_loopw [8, 9] (fun v i wr => ∃ (k : Nat) (A : Option Addr) (cx : Nat), k ≤ n ∧ i = .int .i64 k ∧ v = .slice A k cx ∧
      wr.ownsRow w.heap.size 5 1 (.slice A k cx) k (nums .u8 (bv (Cm.xorL (Cm.xorL (a.take k) (b.take k)) (c.take k)))) ∧ Below w.heap.size w wr)
    (fun _ i _ => n - (intOf i).toNat)
  case atStart => exact ⟨0, none, 0, by omega, rfl, rfl, World.ownsRow_nil _ _ _ _, Below.refl _ _⟩
  case round =>
    obtain ⟨k, A, cx, hk, rfl, rfl, ho, hb⟩ := hrel
    have hO := Lib.hid ho
    have hB := Lib.hid hb
    clear ho hb
    by_cases hlt : k < n
    · obtain ⟨x, hx⟩ : ∃ x, a[k]? = some x := ⟨_, List.getElem?_eq_getElem (by omega)⟩
      obtain ⟨y, hy⟩ : ∃ x, b[k]? = some x := ⟨_, List.getElem?_eq_getElem (by omega)⟩
      obtain ⟨z, hz⟩ : ∃ x, c[k]? = some x := ⟨_, List.getElem?_eq_getElem (by omega)⟩
      obtain ⟨a0, hA0, e0⟩ := (H.out.1.below hB.out).at_ hx
      obtain ⟨a1, hA1, e1⟩ := (H.out.2.1.below hB.out).at_ hy
      obtain ⟨a2, hA2, e2⟩ := (H.out.2.2.below hB.out).at_ hz
      obtain ⟨s, hs⟩ : ∃ s, s = x ^^^ y := ⟨_, rfl⟩
      obtain ⟨u, hu⟩ : ∃ u, u = s ^^^ z := ⟨_, rfl⟩
      have x1 := u8x x y
      have x2 := u8x s z
      rw [← hs] at x1
      rw [← hu] at x2
      have hS := Lib.hid (And.intro hs hu)
      clear hs hu
      have hX := Lib.hid (And.intro hx (And.intro hy hz))
      clear hx hy hz
      subst hA0 hA1 hA2
      have KE : ∀ w', Below w.heap.size w w' → w'.cell? (a0.add k) = some (.int .u8 (x.toNat : Int)) ∧ w'.cell? (a1.add k) = some (.int .u8 (y.toNat : Int)) ∧ w'.cell? (a2.add k) = some (.int .u8 (z.toNat : Int)) := by
        intro w' h
        obtain ⟨_, p0, q0⟩ := (H.out.1.below h).at_ hX.out.1
        obtain ⟨_, p1, q1⟩ := (H.out.2.1.below h).at_ hX.out.2.1
        obtain ⟨_, p2, q2⟩ := (H.out.2.2.below h).at_ hX.out.2.2
        injection p0 with p0
        injection p1 with p1
        injection p2 with p2
        subst p0 p1 p2
        exact ⟨q0, q1, q2⟩
      have KE' := Lib.hid KE
      clear KE
      have i0 : (0 : Int) ≤ (k : Int) := by omega
      have i1 : (k : Int) < (a.length : Int) := by omega
      have i2 : (k : Int) < (b.length : Int) := by omega
      have i3 : (k : Int) < (c.length : Int) := by omega
      go_wp2_with fail
      go_region_held3 (fun w' => w'.cell? (a0.add k) = some (.int .u8 (x.toNat : Int)) ∧ w'.cell? (a1.add k) = some (.int .u8 (y.toNat : Int)) ∧ w'.cell? (a2.add k) = some (.int .u8 (z.toNat : Int)))
        (first | exact KE'.out _ hB.out.drew | exact KE'.out _ (hB.out.drew.alloc hB.out.size _) | exact KE'.out _ hb1)
        (first
          | (refine step_app1 w.heap.size A k cx _ rfl rfl rfl rfl hO.out.drew hB.out.size (by omega) ?_; intro A1 c1 w1 ho1 hg1 hs1; have hb1 := hB.out.drew.grown hg1 hB.out.size (own_base hO.out)))
      go_wp2
      go_roundw
      case rel =>
        refine ⟨k + 1, A1, c1, by omega, by go_num, rfl, ?_, hb1⟩
        have t1 : a.take (k + 1) = a.take k ++ [x] := by rw [List.take_add_one, hX.out.1]; rfl
        have t2 : b.take (k + 1) = b.take k ++ [y] := by rw [List.take_add_one, hX.out.2.1]; rfl
        have t3 : c.take (k + 1) = c.take k ++ [z] := by rw [List.take_add_one, hX.out.2.2]; rfl
        rw [t1, t2, t3, Cm.xorL_snoc _ _ _ _ (by simp; omega), Cm.xorL_snoc _ _ _ _ (by simp [Cm.xorL]; omega), bv_snoc]
        rw [← hS.out.1, ← hS.out.2]
        exact ho1
      case measure => simp [intOf]; omega
    · obtain rfl : k = n := by omega
      obtain ⟨X, hX⟩ : ∃ X, X = Cm.crc (Cm.xorL (Cm.xorL (a.take k) (b.take k)) (c.take k)) := ⟨_, rfl⟩
      obtain ⟨Xa, hXa⟩ : ∃ X, X = Cm.crc (a.take k) := ⟨_, rfl⟩
      obtain ⟨Xb, hXb⟩ : ∃ X, X = Cm.crc (b.take k) := ⟨_, rfl⟩
      obtain ⟨Xc, hXc⟩ : ∃ X, X = Cm.crc (c.take k) := ⟨_, rfl⟩
      obtain ⟨Y, hY⟩ : ∃ Y, Y = Xa ^^^ Xb := ⟨_, rfl⟩
      have la : Xa < 2 ^ 32 := by rw [hXa]; exact Cm.crc_lt _
      have lb : Xb < 2 ^ 32 := by rw [hXb]; exact Cm.crc_lt _
      have lc : Xc < 2 ^ 32 := by rw [hXc]; exact Cm.crc_lt _
      have lY : Y < 2 ^ 32 := by rw [hY]; exact Nat.xor_lt_two_pow la lb
      have y1 : bits BinOp.xor .u32 (Xa : Int) (Xb : Int) = (Y : Int) := by rw [hY]; exact u32_xor_nat _ _ (by omega) (by omega)
      have y2 : bits BinOp.xor .u32 (Y : Int) (Xc : Int) = (X : Int) := by
        rw [u32_xor_nat _ _ (by omega) (by omega), hX, Cm.crc_even _ _ _ (by simp; omega) (by simp; omega), hY, hXa, hXb, hXc]
      obtain ⟨hxl, hxr, _⟩ := own_rb hO.out
      obtain ⟨xs, hxs⟩ : ∃ xs, xs = Cm.xorL (Cm.xorL (a.take k) (b.take k)) (c.take k) := ⟨_, rfl⟩
      rw [← hxs] at hxl hxr hX
      have hI : Inv w (fun w' => RB w' A xs) wr := ⟨hB.out, fun w' h => hxr.below h⟩
      have KX := Lib.hid (fun (w' : World) (h : Inv w (fun w' => RB w' A xs) w') => h.of_inv (of_len xs A k cx w' hxl h.at_ (by omega)))
      have KA := Lib.hid (fun (w' : World) (h : Inv w (fun w' => RB w' A xs) w') => h.of_inv (of_len (a.take k) A0 k c0 w' (by simp; omega) ((H.out.1.below h.b).take k (by omega)) (by omega)))
      have KB := Lib.hid (fun (w' : World) (h : Inv w (fun w' => RB w' A xs) w') => h.of_inv (of_len (b.take k) A1 k c1 w' (by simp; omega) ((H.out.2.1.below h.b).take k (by omega)) (by omega)))
      have KC := Lib.hid (fun (w' : World) (h : Inv w (fun w' => RB w' A xs) w') => h.of_inv (of_len (c.take k) A2 k c2 w' (by simp; omega) ((H.out.2.2.below h.b).take k (by omega)) (by omega)))
      have KL := Lib.hid (fun (w' : World) (h : Inv w (fun w' => RB w' A xs) w') => h.of_inv (lives02_any w'))
      rw [← hX] at KX
      rw [← hXa] at KA
      rw [← hXb] at KB
      rw [← hXc] at KC
      clear la lb lc lY hX hXa hXb hXc hY hxl hxr hxs
      have i0 : (0 : Int) ≤ (k : Int) := by omega
      have i1 : (k : Int) ≤ (c0 : Int) := by omega
      have i2 : (k : Int) ≤ (c1 : Int) := by omega
      have i3 : (k : Int) ≤ (c2 : Int) := by omega
      go_wp2_with fail
      go_region_held3 (Inv w (fun w' => RB w' A xs))
        (first | assumption | exact hI.drew)
        (first
          | (go_at_call 24; with_reducible refine (KX.out _ (by assumption)).mono ?_; rintro e w1 ⟨rfl, hi⟩)
          | (go_at_call 24; with_reducible refine (KA.out _ (by assumption)).mono ?_; rintro e w1 ⟨rfl, hi⟩)
          | (go_at_call 24; with_reducible refine (KB.out _ (by assumption)).mono ?_; rintro e w1 ⟨rfl, hi⟩)
          | (go_at_call 24; with_reducible refine (KC.out _ (by assumption)).mono ?_; rintro e w1 ⟨rfl, hi⟩)
          | (go_at_call 23; with_reducible refine (KL.out _ (by assumption)).mono ?_; rintro e w1 ⟨rfl, hi⟩))
      go_wp2_with fail
      go_ret
      exact ⟨rfl, Inv.b (S := fun w' => RB w' A xs) (by assumption)⟩

theorem crcEven_row {w : World} (A0 : Option Addr) (a : List UInt8) (c0 : Nat) (h0 : RB w A0 a) (l0 : a.length ≤ c0) (A1 : Option Addr) (b : List UInt8) (c1 : Nat) (h1 : RB w A1 b) (l1 : b.length ≤ c1)
    (A2 : Option Addr) (c : List UInt8) (c2 : Nat) (h2 : RB w A2 c) (l2 : c.length ≤ c2) :
    Calls Try.prog 4 #[.slice A0 a.length c0, .slice A1 b.length c1, .slice A2 c.length c2] w fun e w' => e = .returned (.bool true) ∧ Below w.heap.size w w' :=
  crcEven_walk a b c A0 A1 A2 c0 c1 c2 _ w h0 h1 h2 l0 l1 l2 rfl
end
end Go.Proofs.Ytnkbkhlbogcfaaa
