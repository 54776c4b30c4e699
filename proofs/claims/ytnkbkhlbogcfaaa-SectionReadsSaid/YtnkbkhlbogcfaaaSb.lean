/- Whether there may be such a file: the program's answer. -/
import Derived.Test.YtnkbkhlbogcfaaaSe
set_option linter.unusedVariables false
set_option linter.unusedSimpArgs false
namespace Go.Proofs.Ytnkbkhlbogcfaaa
open Go.RowKit Go.Proofs.YtnkbkhlbogcfaaaW.PrintWords
noncomputable section

/-- a section that may not be -/
def odd (x : SecV) : Prop := x.k < 0 ∨ 255 < x.k ∨ 1048576 < x.b.length
instance (x : SecV) : Decidable (odd x) := by unfold odd; infer_instance

set_option maxHeartbeats 1000000 in
set_option maxRecDepth 100000 in
theorem may101 (x : SecV) (w : World) : Calls Try.prog 101 #[.agg #[.int .i64 x.k, .slice x.A x.b.length x.c]] w fun e w' => e = .returned (.bool (decide (odd x))) ∧ Below w.heap.size w w' := by
  obtain ⟨xk, xA, xc, xb⟩ := x
  obtain ⟨n, hn⟩ : ∃ n, n = xb.length := ⟨_, rfl⟩
  dsimp only
  rw [← hn]
  by_cases h1 : xk < 0
  · have e1 : decide (odd ⟨xk, xA, xc, xb⟩) = true := by simp [odd, h1]
    rw [e1]
    clear e1 hn
    go_enter Try.func101, Try.ntmps101
    go_wp2
    go_ret
    exact ⟨rfl, below_alloc (Below.refl _ _) _⟩
  · by_cases h2 : 255 < xk
    · have e1 : decide (odd ⟨xk, xA, xc, xb⟩) = true := by simp [odd, h2]
      rw [e1]
      clear e1 hn
      go_enter Try.func101, Try.ntmps101
      go_wp2
      go_ret
      exact ⟨rfl, below_alloc (Below.refl _ _) _⟩
    · by_cases h3 : 1048576 < n
      · have e1 : decide (odd ⟨xk, xA, xc, xb⟩) = true := decide_eq_true (Or.inr (Or.inr (by dsimp only; omega)))
        have h3' : decide ((1048576 : Int) < (n : Int)) = true := by simp; omega
        rw [e1]
        clear e1 hn h3
        go_enter Try.func101, Try.ntmps101
        go_wp2
        go_ret
        exact ⟨rfl, below_alloc (Below.refl _ _) _⟩
      · have e1 : decide (odd ⟨xk, xA, xc, xb⟩) = false := decide_eq_false (by rintro (h | h | h) <;> dsimp only at h <;> omega)
        have h3' : decide ((1048576 : Int) < (n : Int)) = false := by simp; omega
        have h1' : decide (xk < 0) = false := decide_eq_false h1
        have h2' : decide (255 < xk) = false := decide_eq_false h2
        rw [e1]
        clear e1 hn h3 h1 h2
        go_enter Try.func101, Try.ntmps101
        go_wp2
        go_ret
        exact ⟨rfl, below_alloc (Below.refl _ _) _⟩

set_option maxHeartbeats 2000000 in
set_option maxRecDepth 100000 in
theorem index101 (l : List SecV) (A : Option Addr) (L c : Nat) (w : World) (hL : l.length = L) (hS : SE w A l) :
    Calls Try.prog 104 #[.slice A L c, .func (.func 101) #[] #[]] w fun e w' => ∃ z : Int, e = .returned (.int .i64 z) ∧ (0 ≤ z ↔ ∃ x ∈ l, odd x) ∧ Below w.heap.size w w' := by
  have HS := Lib.hid hS
  have hLh := Lib.hid hL
  have hLI : (L : Int) ≤ 9223372036854775807 := by have := hS.1; omega
  clear hL hS
  go_enter Try.func104, Try.ntmps104
  go_wp2
  go_loopw [8] (fun i wr => ∃ k : Nat, k ≤ L ∧ i = .int .i64 k ∧ (∀ x ∈ l.take k, ¬ odd x) ∧ Below w.heap.size w wr) (fun i _ => L - (intOf i).toNat)
  case atStart => exact ⟨0, by omega, rfl, by simp, Below.refl _ _⟩
  case round =>
    obtain ⟨k, hk, rfl, hno, hb⟩ := hrel
    have HB := Lib.hid hb
    have HN := Lib.hid hno
    clear hb hno
    have k0 : (0 : Int) ≤ (k : Int) := by omega
    by_cases hlt : k < L
    · have j1 : (k : Int) < (L : Int) := by omega
      obtain ⟨x, hx⟩ : ∃ x, l[k]? = some x := ⟨_, List.getElem?_eq_getElem (by have := hLh.out; omega)⟩
      obtain ⟨ad, had, e0, e1⟩ := (HS.out.below HB.out).2.2 k _ hx
      subst had
      have HX := Lib.hid hx
      clear hx
      go_wp2_with fail
      refine (may101 x _).mono ?_
      rintro e w1 ⟨rfl, hb1⟩
      have HB1 := Lib.hid (HB.out.trans (hb1.mono HB.out.size))
      clear hb1
      by_cases ho : odd x
      · rw [decide_eq_true ho]
        go_wp2
        go_ret
        exact ⟨k, rfl, ⟨fun _ => ⟨x, List.mem_of_getElem? HX.out, ho⟩, fun _ => by omega⟩, HB1.out⟩
      · rw [decide_eq_false ho]
        go_wp2
        go_roundw
        case rel =>
          refine ⟨k + 1, by omega, by go_num, ?_, HB1.out⟩
          intro y hy
          rw [List.take_add_one, HX.out] at hy
          rcases List.mem_append.1 hy with h | h
          · exact HN.out y h
          · simp at h; subst h; exact ho
        case measure => simp [intOf]; omega
    · have kn : (k : Int) = (L : Int) := by omega
      go_wp2
      go_ret
      refine ⟨-1, rfl, ⟨fun h => by omega, fun ⟨x, hx, ho⟩ => ?_⟩, HB.out⟩
      have := HN.out x (by rw [List.take_of_length_le (by have := hLh.out; omega)]; exact hx)
      exact absurd ho this

set_option maxHeartbeats 2000000 in
set_option maxRecDepth 100000 in
theorem contains101 (l : List SecV) (A : Option Addr) (L c : Nat) (w : World) (hL : l.length = L) (hS : SE w A l) :
    Calls Try.prog 102 #[.slice A L c, .func (.func 101) #[] #[]] w fun e w' => e = .returned (.bool (decide (∃ x ∈ l, odd x))) ∧ Below w.heap.size w w' := by
  have HI := Lib.hid (index101 l A L c w hL hS)
  clear hL hS
  go_enter Try.func102, Try.ntmps102
  go_wp2_with fail
  refine HI.out.mono ?_
  rintro e w1 ⟨z, rfl, hz, hb⟩
  have HZ := Lib.hid (And.intro hz hb)
  clear hz hb
  have e1 := Lib.hid (show decide (∃ x ∈ l, odd x) = decide (0 ≤ z) from decide_eq_decide.2 HZ.out.1.symm)
  go_wp2
  go_ret
  rw [e1.out]
  exact ⟨rfl, HZ.out.2⟩

/-- may there be such a file? -/
def May (v : Int) (l : List SecV) : Prop := 0 ≤ v ∧ v ≤ 255 ∧ l.length ≤ 16 ∧ ¬ ∃ x ∈ l, odd x
instance (v : Int) (l : List SecV) : Decidable (May v l) := by unfold May; infer_instance

set_option maxHeartbeats 2000000 in
set_option maxRecDepth 100000 in
theorem may_any (v : Int) (l : List SecV) (A : Option Addr) (L c : Nat) (w : World) (hL : l.length = L) (hS : SE w A l) :
    Calls Try.prog 74 #[.int .i64 v, .slice A L c] w fun e w' => e = .returned (.bool (decide (May v l))) ∧ Below w.heap.size w w' := by
  have HC := Lib.hid (contains101 l A L c w hL hS)
  by_cases h1 : 0 ≤ v
  · by_cases h2 : v ≤ 255
    · by_cases h3 : L ≤ 16
      · have h3' : (L : Int) ≤ 16 := by omega
        have e1 := Lib.hid (show decide (May v l) = !decide (∃ x ∈ l, odd x) by
          by_cases h : ∃ x ∈ l, odd x
          · rw [decide_eq_true h]; exact decide_eq_false (fun q => q.2.2.2 h)
          · rw [decide_eq_false h]; exact decide_eq_true ⟨h1, h2, by omega, h⟩)
        rw [e1.out]
        obtain ⟨q, hq⟩ : ∃ q, q = decide (∃ x ∈ l, odd x) := ⟨_, rfl⟩
        rw [← hq] at HC ⊢
        clear hq e1 hL hS h3
        go_enter Try.func74, Try.ntmps74
        go_wp2_with fail
        refine HC.out.mono ?_
        rintro e w1 ⟨rfl, hb⟩
        have HB := Lib.hid hb
        clear hb
        go_wp2
        go_ret
        exact ⟨rfl, HB.out⟩
      · have h3' : (16 : Int) < (L : Int) := by omega
        have e1 : decide (May v l) = false := decide_eq_false (fun q => h3 (by have := q.2.2.1; omega))
        rw [e1]
        clear e1 hL hS h3 HC
        go_enter Try.func74, Try.ntmps74
        go_wp2
        go_ret
        exact ⟨rfl, Below.refl _ _⟩
    · have e1 : decide (May v l) = false := decide_eq_false (fun q => h2 q.2.1)
      rw [e1]
      clear e1 hL hS HC
      go_enter Try.func74, Try.ntmps74
      go_wp2
      go_ret
      exact ⟨rfl, Below.refl _ _⟩
  · have e1 : decide (May v l) = false := decide_eq_false (fun q => h1 q.1)
    rw [e1]
    clear e1 hL hS HC
    go_enter Try.func74, Try.ntmps74
    go_wp2
    go_ret
    exact ⟨rfl, Below.refl _ _⟩
end
end Go.Proofs.Ytnkbkhlbogcfaaa
