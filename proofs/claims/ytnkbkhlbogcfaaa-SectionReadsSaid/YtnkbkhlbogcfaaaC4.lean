/- The sum of bytes: the program's, the document's. -/
import Derived.Test.YtnkbkhlbogcfaaaC3
set_option linter.unusedVariables false
set_option linter.unusedSimpArgs false
namespace Go.Proofs.Ytnkbkhlbogcfaaa
open Go.RowKit Go.Proofs.YtnkbkhlbogcfaaaW.PrintWords
noncomputable section

set_option maxHeartbeats 400000 in
set_option maxRecDepth 100000 in
theorem now_any (p r n : Nat) (w : World) (hp : w.heap[p]? = some (.cells (sumA r n) 103 (0, 0))) (hr : r < 2 ^ 32) :
    Calls Try.prog 27 #[.pointer (some ⟨p, 0, none⟩)] w fun e w' => e = .returned (.int .u32 (r ^^^ Cm.all : Nat)) ∧ w = w' := by
  have c1 := cell_of_row w p 256 _ _ _ hp
  rw [sumA_reg] at c1
  have hr' := Lib.hid hr
  clear hr hp
  go_enter Try.func27, Try.ntmps27
  go_wp2
  go_ret
  exact ⟨ret_u32 (u32_xor_nat r Cm.all hr'.out (by decide)), rfl⟩

set_option maxHeartbeats 400000 in
set_option maxRecDepth 100000 in
theorem slen_any (p r n : Nat) (w : World) (hp : w.heap[p]? = some (.cells (sumA r n) 103 (0, 0))) :
    Calls Try.prog 29 #[.pointer (some ⟨p, 0, none⟩)] w fun e w' => e = .returned (.int .i64 n) ∧ w = w' := by
  have c1 := cell_of_row w p 257 _ _ _ hp
  rw [sumA_num] at c1
  clear hp
  go_enter Try.func29, Try.ntmps29
  go_wp2
  go_ret
  exact ⟨rfl, rfl⟩

set_option maxHeartbeats 400000 in
set_option maxRecDepth 100000 in
theorem of_any (b : List UInt8) (A : Option Addr) (c : Nat) (w : World) (hR : RB w A b) (hn : b.length < 1000000) :
    Calls Try.prog 24 #[.slice A b.length c] w fun e w' => e = .returned (.int .u32 (Cm.crc b : Nat)) ∧ Below w.heap.size w w' := by
  have hn' : 0 + b.length < 1000000 := by omega
  go_enter Try.func24, Try.ntmps24
  go_wp2_with fail
  refine (new_any _).mono ?_
  rintro e w1 ⟨p, rfl, hp, hb, hbl⟩
  go_wp2_with fail
  have hR1 := hR.below hbl
  refine (add_any p _ _ b A c w1 hb (by decide) (hR.below hbl) ?_ hn').mono ?_
  · intro hpos ad e
    have := hR.lt e hpos
    omega
  rintro e w2 ⟨rfl, hb2, hm⟩
  go_wp2_with fail
  refine (now_any p _ _ _ hb2 (Cm.reg_lt (by decide) _)).mono ?_
  rintro e w3 ⟨rfl, rfl⟩
  go_wp2_with fail
  go_ret
  exact ⟨rfl, hbl.trans (hm.below hbl.size hp (by simp))⟩

set_option maxHeartbeats 400000 in
set_option maxRecDepth 100000 in
theorem fits_any (b : List UInt8) (A : Option Addr) (c : Nat) (s : Int) (w : World) (hR : RB w A b) (hn : b.length < 1000000) :
    Calls Try.prog 30 #[.slice A b.length c, .int .u32 s] w fun e w' => e = .returned (.bool (((Cm.crc b : Nat) : Int) == s)) ∧ Below w.heap.size w w' := by
  go_enter Try.func30, Try.ntmps30
  go_wp2_with fail
  refine (of_any b A c _ hR hn).mono ?_
  rintro e w1 ⟨rfl, hb⟩
  go_wp2_with fail
  go_ret
  exact ⟨rfl, hb⟩

def lives02L : List UInt8 := [49, 50, 51, 52, 53, 54, 55, 56, 57]
theorem lives02_crc : Cm.crc lives02L = 3421780262 := by decide +kernel

set_option maxHeartbeats 400000 in
set_option maxRecDepth 100000 in
theorem lives02_any (w : World) :
    Calls Try.prog 23 #[] w fun e w' => e = .returned (.bool true) ∧ Below w.heap.size w w' := by
  have kc := fun (w : World) (C : Array Value) (n c : Nat) => Lib.run_convert_bytes_const (P := Try.prog) w 22 5 C n c Try.underlying22 Try.underlying5
  go_enter Try.func23, Try.ntmps23
  go_wp2_with fail
  refine (of_any lives02L (some ⟨w.heap.size, 0, none⟩) 9 _ (rb_block (heap_alloc_new w _) (by decide) ?_) (by decide)).mono ?_
  · intro j x hx
    match j, hx with
    | 0, hx | 1, hx | 2, hx | 3, hx | 4, hx | 5, hx | 6, hx | 7, hx | 8, hx => simp [lives02L] at hx; subst hx; rfl
    | n + 9, hx => simp [lives02L] at hx
  rintro e w1 ⟨rfl, hb⟩
  rw [lives02_crc]
  go_wp2_with fail
  go_ret
  exact ⟨rfl, ((Below.refl _ _).alloc (Nat.le_refl _) _).trans (hb.mono (by simp))⟩

set_option maxHeartbeats 400000 in
set_option maxRecDepth 100000 in
theorem few_any (A : Option Addr) (n c m : Nat) (w : World) (hc : n ≤ c) (hm : m < 1000000) :
    Calls Try.prog 22 #[.slice A n c, .int .i64 m] w fun e w' => e = .returned (.slice A (min n m) c) ∧ w = w' := by
  by_cases h : m < n
  · rw [show min n m = m by omega]
    go_enter Try.func22, Try.ntmps22
    go_wp2
    go_ret
    exact ⟨rfl, rfl⟩
  · rw [show min n m = n by omega]
    go_enter Try.func22, Try.ntmps22
    go_wp2
    go_ret
    exact ⟨rfl, rfl⟩

set_option maxHeartbeats 1000000 in
set_option maxRecDepth 100000 in
theorem rof_any (b : List UInt8) (A : Option Addr) (c : Nat) (w : World) (hR : RB w A b) (hn : b.length < 1000000) :
    Calls Try.prog 28 #[.slice A b.length c] w fun e w' => e = .returned (.int .u32 (Cm.crc b : Nat)) ∧ w = w' := by
  have hR' := Lib.hid hR
  clear hR
  go_enter Try.func28, Try.ntmps28
  go_wp2
  go_loop [3, 4] (fun r i => ∃ k : Nat, k ≤ b.length ∧ i = .int .i64 k ∧ r = .int .u32 (Cm.reg Cm.all (b.take k) : Nat)) (fun _ i => b.length - (intOf i).toNat)
  case atStart => exact ⟨0, by omega, rfl, rfl⟩
  case round =>
    obtain ⟨k, hk, rfl, rfl⟩ := hrel
    obtain ⟨R, hR⟩ : ∃ R, R = Cm.reg Cm.all (b.take k) := ⟨_, rfl⟩
    have hRl : R < 2 ^ 32 := by rw [hR]; exact Cm.reg_lt (by decide) _
    rw [← hR]
    have hH := Lib.hid (And.intro hR hRl)
    by_cases hlt : k < b.length
    · obtain ⟨x, hx⟩ : ∃ x, b[k]? = some x := ⟨_, List.getElem?_eq_getElem hlt⟩
      obtain ⟨ad, hA, hc⟩ := hR'.out.at_ hx
      have hj : bits BinOp.xor .u32 (R : Int) (x.toNat : Int) = ((R ^^^ x.toNat : Nat) : Int) := u32_xor_nat _ _ (by omega) (by have := x.toNat_lt; omega)
      obtain ⟨j, hjj⟩ : ∃ j, j = R ^^^ x.toNat := ⟨_, rfl⟩
      have hjl : j < 2 ^ 32 := by rw [hjj]; exact Nat.xor_lt_two_pow (by omega) (by have := x.toNat_lt; omega)
      rw [← hjj] at hj
      have hJ := Lib.hid (And.intro hjj (And.intro hjl hx))
      have hxI : (x.toNat : Int) < 256 := by have := x.toNat_lt; omega
      subst hA
      clear hx hjj hjl hR hRl
      go_wp2
      go_loop [3, 5] (fun r i => ∃ n : Nat, n ≤ 8 ∧ i = .int .i64 n ∧ r = .int .u32 (it n j : Nat)) (fun _ i => 8 - (intOf i).toNat)
      case atStart => exact ⟨0, by omega, rfl, rfl⟩
      case round =>
        obtain ⟨n, hn, rfl, rfl⟩ := hrel
        have hil := it_lt hJ.out.2.1 n
        obtain ⟨q, hq⟩ : ∃ q, q = it n j := ⟨_, rfl⟩
        rw [← hq] at hil ⊢
        have hQ := Lib.hid (And.intro hq hil)
        have hxq := Lib.hid (xorP (q / 2) (by omega))
        have hq0 : (0 : Int) ≤ q := by omega
        clear hil hq
        by_cases hn8 : n < 8
        · by_cases hodd : q % 2 = 1
          · have hb : ((q : Int) % 2 == 1) = true := by rw [beq_iff_eq]; omega
            have hodd' := Lib.hid hodd
            clear hodd
            go_wp2
            go_round
            case rel =>
              refine ⟨n + 1, by omega, by go_num, ?_⟩
              rw [show ((q : Int) / 2 % 4294967296) = ((q / 2 : Nat) : Int) by have := hQ.out.2; omega, hxq.out, it, ← hQ.out.1]
              simp [Cm.step, hodd'.out]
            case measure => simp [intOf]; omega
          · have hb : ((q : Int) % 2 == 1) = false := by rw [beq_eq_false_iff_ne]; omega
            have hodd' := Lib.hid hodd
            clear hodd
            go_wp2
            go_round
            case rel =>
              refine ⟨n + 1, by omega, by go_num, ?_⟩
              rw [it, ← hQ.out.1, Cm.step, if_neg hodd'.out, show ((q : Int) / 2 % 4294967296) = ((q / 2 : Nat) : Int) by have := hQ.out.2; omega]
            case measure => simp [intOf]; omega
        · obtain rfl : n = 8 := by omega
          go_wp2
          go_round
          case rel =>
            refine ⟨k + 1, by omega, by go_num, ?_⟩
            have ht : b.take (k + 1) = b.take k ++ [x] := by rw [List.take_add_one, hJ.out.2.2]; rfl
            rw [ht, Cm.reg_append, ← hH.out.1, hQ.out.1, it8, hJ.out.1]
            rfl
          case measure => simp [intOf]; omega
    · obtain rfl : k = b.length := by omega
      go_wp2
      go_ret
      refine ⟨ret_u32 ?_, rfl⟩
      have h1 := Cm.reg_lt Cm.all_lt b
      have h2 := Cm.sub_all h1
      rw [Cm.crc, ← h2]
      unfold Cm.all at *
      omega

theorem of_len (b : List UInt8) (A : Option Addr) (n c : Nat) (w : World) (hl : b.length = n) (hR : RB w A b) (hn : n < 1000000) :
    Calls Try.prog 24 #[.slice A n c] w fun e w' => e = .returned (.int .u32 (Cm.crc b : Nat)) ∧ Below w.heap.size w w' := by
  subst hl; exact of_any b A c w hR hn
theorem add_len (p r n : Nat) (b : List UInt8) (A : Option Addr) (l c : Nat) (w : World) (hl : b.length = l) (hp : w.heap[p]? = some (.cells (sumA r n) 103 (0, 0))) (hr : r < 2 ^ 32) (hR : RB w A b) (hA : 0 < b.length → ∀ ad, A = some ad → ad.block ≠ p) (hn : n + l < 1000000) :
    Calls Try.prog 26 #[.pointer (some ⟨p, 0, none⟩), .slice A l c] w fun e w' => e = .returned (.tuple #[]) ∧ w'.heap[p]? = some (.cells (sumA (Cm.reg r b) (n + l)) 103 (0, 0)) ∧ Mod w w' p none := by
  subst hl; exact add_any p r n b A c w hp hr hR hA hn
theorem rof_len (b : List UInt8) (A : Option Addr) (n c : Nat) (w : World) (hl : b.length = n) (hR : RB w A b) (hn : n < 1000000) :
    Calls Try.prog 28 #[.slice A n c] w fun e w' => e = .returned (.int .u32 (Cm.crc b : Nat)) ∧ w = w' := by
  subst hl; exact rof_any b A c w hR hn
theorem fits_len (b : List UInt8) (A : Option Addr) (n c : Nat) (s : Int) (w : World) (hl : b.length = n) (hR : RB w A b) (hn : n < 1000000) :
    Calls Try.prog 30 #[.slice A n c, .int .u32 s] w fun e w' => e = .returned (.bool (((Cm.crc b : Nat) : Int) == s)) ∧ Below w.heap.size w w' := by
  subst hl; exact fits_any b A c s w hR hn
end
end Go.Proofs.Ytnkbkhlbogcfaaa
