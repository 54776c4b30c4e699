/- The sum's table, its register, a sum of bytes: what the program's functions of package crc do. -/
import Derived.Test.YtnkbkhlbogcfaaaA
import Derived.Test.YtnkbkhlbogcfaaaCm
set_option linter.unusedVariables false
set_option linter.unusedSimpArgs false
namespace Go.Proofs.Ytnkbkhlbogcfaaa
open Go.RowKit Go.Proofs.YtnkbkhlbogcfaaaW.PrintWords

noncomputable section

theorem ret_u32 {a b : Int} (h : a = b) : Ending.returned (.int .u32 a) = .returned (.int .u32 b) := by rw [h]

theorem xorP (a : Nat) (h : a < 2 ^ 32) : bits BinOp.xor .u32 (a : Int) 3988292384 = ((a ^^^ Cm.P : Nat) : Int) :=
  u32_xor_nat a Cm.P (by omega) (by decide)
theorem and1 (a : Nat) (h : a < 2 ^ 32) : bits BinOp.and .u32 (a : Int) 1 = ((a % 2 : Nat) : Int) := by
  have := u32_and_nat a 1 (by omega) (by decide)
  rw [nat_mask1] at this
  exact this

set_option maxHeartbeats 400000 in
set_option maxRecDepth 100000 in
theorem tstep_any (r : Nat) (w : World) (hr : r < 2 ^ 32) :
    Calls Try.prog 103 #[.int .u32 r] w fun e w' => e = .returned (.int .u32 (Cm.step r : Nat)) ∧ w = w' := by
  have h0 : (0 : Int) ≤ r := by omega
  have ha := and1 r hr
  have hx := Lib.hid (xorP (r / 2) (by omega))
  have hr' := Lib.hid hr
  clear hr
  by_cases h : r % 2 = 1
  · have hc : (bits BinOp.and .u32 (r : Int) 1 == 1) = true := by rw [ha, h]; rfl
    have h' := Lib.hid h
    clear h ha
    go_enter Try.func103, Try.ntmps103
    go_wp2
    go_ret
    refine ⟨ret_u32 ?_, rfl⟩
    rw [show ((r : Int) / 2) = ((r / 2 : Nat) : Int) by omega, hx.out]
    simp [Cm.step, h'.out]
  · have hc : (bits BinOp.and .u32 (r : Int) 1 == 1) = false := by rw [ha, show r % 2 = 0 by omega]; rfl
    have h' := Lib.hid h
    clear h ha
    go_enter Try.func103, Try.ntmps103
    go_wp2
    go_ret
    refine ⟨ret_u32 ?_, rfl⟩
    rw [Cm.step, if_neg h'.out]
    omega

def it : Nat → Nat → Nat
  | 0, r => r
  | n + 1, r => Cm.step (it n r)
theorem it_lt {r : Nat} (h : r < 2 ^ 32) : ∀ n, it n r < 2 ^ 32
  | 0 => h
  | n + 1 => Cm.step_lt (it_lt h n)
theorem wpList_store_row {P : Program} {ops : Array Oper} {rest : List Oper} {o : Oper} {a : Act} {w : World} {Q : Exit → Act → World → Prop} (hgd : o.guard = none) (ty : TypeId) (x y : Operand) (ho : o.op = .store ty x y)
    (g : Nat) (hx : a.eval x = .pointer (some ⟨g, 0, none⟩)) (t : TypeId) (cur cs : Array Value) (hg : w.heap[g]? = some (.cells cur t (0, 0))) (hy : a.eval y = .agg cs)
    (hs : cs.size = cur.size) (hi : (P.info? ty).map (·.size) = some cs.size) (h1 : ∀ v ∈ cs.toList, v.oneCell' = true)
    (h : ∀ v, wpList P ops Q rest (a.put o.dst v) (w.setRow g cs)) : wpList P ops Q (o :: rest) a w := by
  refine wpList_plain hgd fun K hK => ?_
  cases hq : P.info? ty with
  | none => simp [hq] at hi
  | some i =>
    have hsz : i.size = cs.size := by simpa [hq] using hi
    have hst := run_storeCells_at P g 0 t cs.toList 0 cur w hg (by simp [hs]) h1
    simp [← hs] at hst
    unfold Oper.wp execOp
    simp only [ho, hx, hy]
    simp [Instr.storeAt, Instr.sureAddr, storeVar, sizeOf, typeInfo, hq, hsz, Value.cells, hst]
    have hd : List.drop cs.size cur.toList = [] := List.drop_eq_nil_of_le (by simp [hs])
    rw [hd, List.append_nil]
    exact hK _ _ (h _)
theorem it8 (r : Nat) : it 8 r = Cm.step8 r := rfl

def tabA (i : Nat) : Array Value := Array.ofFn (n := 256) fun j => Value.int .u32 ((if j.val < i then Cm.step8 j.val else 0 : Nat) : Int)
theorem tabA_size (i : Nat) : (tabA i).size = 256 := by simp [tabA]
theorem tabA_get (i j : Nat) (h : j < 256) : (tabA i)[j]? = some (Value.int .u32 ((if j < i then Cm.step8 j else 0 : Nat) : Int)) := by
  simp [tabA, h]
theorem zc100 : Try.zeroCells100 = Array.replicate 256 (Value.int .u32 0) := by kernel_rfl
theorem tabA_zero : Try.zeroCells100 = tabA 0 := by
  have : tabA 0 = Array.replicate 256 (Value.int .u32 0) := by
    apply Array.ext
    · simp [tabA]
    · intro i h1 h2; simp [tabA]
  rw [this, zc100]
theorem tabA_set (i : Nat) (h : i < 256) : (tabA i).setIfInBounds i (.int .u32 (Cm.step8 i : Nat)) = tabA (i + 1) := by
  apply Array.ext_getElem?
  intro j
  rw [Array.getElem?_setIfInBounds, tabA_size]
  by_cases hj : j < 256
  · rw [tabA_get _ _ hj, tabA_get _ _ hj]
    by_cases hij : i = j
    · subst hij; simp [h]
    · rw [if_neg hij]
      by_cases hl : j < i
      · simp [hl, show j < i + 1 by omega]
      · simp [hl, show ¬ j < i + 1 by omega]
  · rw [if_neg (by omega), Array.getElem?_eq_none (by rw [tabA_size]; omega), Array.getElem?_eq_none (by rw [tabA_size]; omega)]
theorem tabA_one (i : Nat) : ∀ v ∈ (tabA i).toList, v.oneCell' = true := by
  intro v hv
  simp only [tabA, Array.toList_ofFn, List.mem_ofFn] at hv
  obtain ⟨j, rfl⟩ := hv
  rfl

attribute [irreducible] tabA

set_option maxHeartbeats 400000 in
set_option maxRecDepth 100000 in
theorem table_any (w : World) :
    Calls Try.prog 75 #[] w fun e w' => e = .returned (.agg (tabA 256)) ∧ Below w.heap.size w w' := by
  go_enter Try.func75, Try.ntmps75
  go_wp2_with fail
  go_loopw [4, 5] (fun r i wr => ∃ k : Nat, k ≤ 256 ∧ i = .int .i64 k ∧ wr.heap[w.heap.size + 1]? = some (.cells (tabA k) 100 (0, 0)) ∧ wr.heap[w.heap.size]? = some (.cells (tabA 0) 100 (0, 0)) ∧ Below w.heap.size w wr)
    (fun _ i _ => 256 - (intOf i).toNat)
  case atStart =>
    refine ⟨0, by omega, rfl, ?_, ?_, ?_⟩
    · rw [tabA_zero]; exact heap_alloc2_new _ _ _
    · rw [tabA_zero]; exact heap_alloc2_old _ _ _
    · exact ((Below.refl _ _).alloc (Nat.le_refl _) _).alloc (by simp) _
  case round =>
    obtain ⟨k, hk, rfl, hb1, hb0, hbl⟩ := hrel
    by_cases hlt : k < 256
    · have hH := Lib.hid (And.intro hb1 (And.intro hb0 hbl))
      have hc := cell_of_row wr (w.heap.size + 1) k _ _ _ hb1
      rw [tabA_get k k hlt] at hc
      simp only [Nat.lt_irrefl, if_false] at hc
      have hfz := frozen_of_row wr (w.heap.size + 1) k _ _ hb1
      clear hb1 hb0 hbl
      have hkI : (k : Int) < 256 := by omega
      go_wp2_with fail
      go_loop [4, 10] (fun r j => ∃ n : Nat, n ≤ 8 ∧ j = .int .i64 n ∧ r = .int .u32 (it n k : Nat)) (fun _ j => 8 - (intOf j).toNat)
      case atStart => exact ⟨0, by omega, rfl, rfl⟩
      case round =>
        obtain ⟨n, hn, rfl, rfl⟩ := hrel
        have hkl : k < 2 ^ 32 := by omega
        have hil := Lib.hid (it_lt hkl n)
        clear hkl
        by_cases hn8 : n < 8
        · go_wp2_with (go_at_call 103; refine (tstep_any _ _ hil.out).mono ?_; rintro e w' ⟨rfl, rfl⟩)
          go_round
          case rel => exact ⟨n + 1, by omega, by go_num, rfl⟩
          case measure => simp [intOf]; omega
        · obtain rfl : n = 8 := by omega
          rw [it8]
          go_wp2
          obtain ⟨hb1, hb0, hbl⟩ := hH.out
          go_roundw
          case rel =>
            refine ⟨k + 1, by omega, by go_num, ?_, ?_, hbl.setCell (by simp) _⟩
            · rw [heap_setCell_same _ _ _ _ _ _ hb1, tabA_set k hlt]
            · rw [heap_setCell_other _ _ _ _ (by simp)]; exact hb0
          case measure => simp [intOf]; omega
    · obtain rfl : k = 256 := by omega
      clear hlt hk
      go_wp2_with (first | (refine wpList_load_row rfl 100 _ rfl (w.heap.size + 1) rfl 100 (tabA 256) (0, 0) _ hb1 Try.underlying100 rfl (by rw [tabA_size]; kernel_rfl) ?_) | (refine wpList_store_row rfl 100 (.tmp 0) (.tmp 20) rfl w.heap.size rfl 100 (tabA 0) (tabA 256) hb0 rfl (by rw [tabA_size, tabA_size]) (by rw [tabA_size]; kernel_rfl) (tabA_one _) ?_; intro vd))
      refine bodyPost_ret (v := .agg (tabA 256)) (results_cell_row rfl _ _ w.heap.size 100 (tabA 256) (0, 0) _ rfl (setRow_heap wr w.heap.size (tabA 0) _ 100 (0, 0) hb0) Try.underlying100 rfl (by rw [tabA_size]; kernel_rfl)) rfl ⟨rfl, hbl.trans ⟨rfl, rfl, rfl, by simp, fun k hk => setRow_other wr w.heap.size k _ (by omega)⟩⟩
end
end Go.Proofs.Ytnkbkhlbogcfaaa
