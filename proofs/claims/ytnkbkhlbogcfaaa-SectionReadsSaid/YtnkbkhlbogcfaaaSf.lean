/- Sections: found, compared. -/
import Derived.Test.YtnkbkhlbogcfaaaSe
import Derived.StillTailTactics
import Derived.Deep.RegionHeld3
set_option linter.unusedVariables false
set_option linter.unusedSimpArgs false
namespace Go.Proofs.Ytnkbkhlbogcfaaa
open Go.RowKit Go.Proofs.YtnkbkhlbogcfaaaW.PrintWords
noncomputable section

/-- the place of the first section of a kind; how many there are, if there is none -/
def fnd (K : Int) : List SecV → Nat
  | [] => 0
  | x :: r => if x.k = K then 0 else fnd K r + 1
theorem fnd_is {K : Int} : ∀ {l : List SecV} {k : Nat}, k ≤ l.length → (∀ i x, i < k → l[i]? = some x → x.k ≠ K) → (k = l.length ∨ ∃ x, l[k]? = some x ∧ x.k = K) → fnd K l = k := by
  intro l
  induction l with
  | nil => intro k hk _ _; simp at hk; simp [fnd, hk]
  | cons y r ih =>
    intro k hk hno he
    cases k with
    | zero =>
      rcases he with h | ⟨x, hx, h⟩
      · simp at h
      · simp at hx; subst hx; simp [fnd, h]
    | succ k =>
      have h0 := hno 0 y (by omega) rfl
      simp only [fnd]
      rw [if_neg h0, ih (by simpa using hk) (fun i x hi hx => hno (i + 1) x (by omega) (by simpa using hx)) ?_]
      rcases he with h | ⟨x, hx, h⟩
      · exact .inl (by simpa using h)
      · exact .inr ⟨x, by simpa using hx, h⟩
theorem fnd_le (K : Int) (l : List SecV) : fnd K l ≤ l.length := by
  induction l with
  | nil => simp [fnd]
  | cons y r ih => simp only [fnd, List.length_cons]; split <;> omega
theorem fnd_at {K : Int} {l : List SecV} (h : fnd K l < l.length) : ∃ x, l[fnd K l]? = some x ∧ x.k = K := by
  induction l with
  | nil => simp at h
  | cons y r ih =>
    by_cases hy : y.k = K
    · exact ⟨y, by simp [fnd, hy], hy⟩
    · have e : fnd K (y :: r) = fnd K r + 1 := by simp [fnd, hy]
      rw [e] at h ⊢
      obtain ⟨x, hx, hk⟩ := ih (by simpa using h)
      exact ⟨x, by simpa using hx, hk⟩
/-- .. as a number: -1, if there is none -/
def fndI (K : Int) (l : List SecV) : Int := if fnd K l < l.length then (fnd K l : Int) else -1

set_option maxHeartbeats 2000000 in
set_option maxRecDepth 100000 in
theorem rfind_any (K : Int) (l : List SecV) (A : Option Addr) (L c : Nat) (w : World) (hL : l.length = L) (hS : SE w A l) :
    Calls Try.prog 59 #[.slice A L c, .int .i64 K] w fun e w' => e = .returned (.int .i64 (fndI K l)) ∧ w' = w := by
  have HS := Lib.hid hS
  have hLh := Lib.hid hL
  have hLI : (L : Int) ≤ 9223372036854775807 := by have := hS.1; omega
  clear hL hS
  go_enter Try.func59, Try.ntmps59
  go_wp2
  go_loopw [5] (fun i wr => ∃ k : Nat, k ≤ L ∧ i = .int .i64 k ∧ (∀ i x, i < k → l[i]? = some x → x.k ≠ K) ∧ wr = w) (fun i _ => L - (intOf i).toNat)
  case atStart => exact ⟨0, by omega, rfl, fun i x h => by omega, rfl⟩
  case round =>
    obtain ⟨k, hk, rfl, hno, rfl⟩ := hrel
    have HN := Lib.hid hno
    clear hno
    have k0 : (0 : Int) ≤ (k : Int) := by omega
    by_cases hlt : k < L
    · have j1 : (k : Int) < (L : Int) := by omega
      obtain ⟨x, hx⟩ : ∃ x, l[k]? = some x := ⟨_, List.getElem?_eq_getElem (by have := hLh.out; omega)⟩
      obtain ⟨ad, had, e0, e1⟩ := HS.out.2.2 k _ hx
      subst had
      have HX := Lib.hid hx
      clear hx
      by_cases ho : x.k = K
      · have b1 : (x.k == K) = true := by simp [ho]
        have HE := Lib.hid (show fndI K l = k by
          have h := fnd_is (by have := hLh.out; omega) HN.out (.inr ⟨x, HX.out, ho⟩)
          unfold fndI
          rw [h, if_pos (by have := hLh.out; omega)])
        clear ho
        go_wp2
        go_ret
        rw [HE.out]
        exact ⟨rfl, rfl⟩
      · have b1 : (x.k == K) = false := by simp [ho]
        go_wp2
        go_roundw
        case rel =>
          refine ⟨k + 1, by omega, by go_num, ?_, trivial⟩
          intro i y hi hy
          by_cases hik : i = k
          · subst hik
            rw [HX.out] at hy
            injection hy with hy
            rw [← hy]
            exact ho
          · exact HN.out i y (by omega) hy
        case measure => simp [intOf]; omega
    · have kn : (k : Int) = (L : Int) := by omega
      have HE := Lib.hid (show fndI K l = -1 by
        have h := fnd_is (l := l) (k := k) (by have := hLh.out; omega) HN.out (.inl (by have := hLh.out; omega))
        unfold fndI
        rw [h, if_neg (by have := hLh.out; omega)])
      go_wp2
      go_ret
      rw [HE.out]
      exact ⟨rfl, rfl⟩

set_option maxHeartbeats 1000000 in
set_option maxRecDepth 100000 in
theorem of105 (K : Int) (g : Nat) (x : SecV) (w : World) (hg : w.heap[g]? = some (.cells #[.int .i64 K] 3 (0, 0))) :
    Calls Try.prog 105 #[.agg #[.int .i64 x.k, .slice x.A x.b.length x.c], .pointer (some ⟨g, 0, none⟩)] w fun e w' => e = .returned (.bool (x.k == K)) ∧ Below w.heap.size w w' := by
  have c1 := cell_of_one hg
  have c2 := cell_of_one ((below_alloc (Below.refl w.heap.size w) (.cells #[.int .i64 x.k, .slice x.A x.b.length x.c] 68)).block g (blk_lt hg) |>.trans hg)
  clear hg
  obtain ⟨n, hn⟩ : ∃ n, n = x.b.length := ⟨_, rfl⟩
  rw [← hn] at c2 ⊢
  clear hn
  go_enter Try.func105, Try.ntmps105
  go_wp2
  go_ret
  exact ⟨rfl, below_alloc (Below.refl _ _) _⟩

set_option maxHeartbeats 2000000 in
set_option maxRecDepth 100000 in
theorem index105 (K : Int) (g : Nat) (l : List SecV) (A : Option Addr) (L c : Nat) (w : World) (hL : l.length = L) (hS : SE w A l) (hg : w.heap[g]? = some (.cells #[.int .i64 K] 3 (0, 0))) :
    Calls Try.prog 104 #[.slice A L c, .func (.func 105) #[] #[.pointer (some ⟨g, 0, none⟩)]] w fun e w' => e = .returned (.int .i64 (fndI K l)) ∧ Below w.heap.size w w' := by
  have HS := Lib.hid hS
  have hLh := Lib.hid hL
  have HG := Lib.hid hg
  have hLI : (L : Int) ≤ 9223372036854775807 := by have := hS.1; omega
  clear hL hS hg
  go_enter Try.func104, Try.ntmps104
  go_wp2
  go_loopw [8] (fun i wr => ∃ k : Nat, k ≤ L ∧ i = .int .i64 k ∧ (∀ i x, i < k → l[i]? = some x → x.k ≠ K) ∧ Below w.heap.size w wr) (fun i _ => L - (intOf i).toNat)
  case atStart => exact ⟨0, by omega, rfl, fun i x h => by omega, Below.refl _ _⟩
  case round =>
    obtain ⟨k, hk, rfl, hno, hb⟩ := hrel
    have HN := Lib.hid hno
    have HB := Lib.hid hb
    clear hno hb
    have k0 : (0 : Int) ≤ (k : Int) := by omega
    by_cases hlt : k < L
    · have j1 : (k : Int) < (L : Int) := by omega
      obtain ⟨x, hx⟩ : ∃ x, l[k]? = some x := ⟨_, List.getElem?_eq_getElem (by have := hLh.out; omega)⟩
      obtain ⟨ad, had, e0, e1⟩ := (HS.out.below HB.out).2.2 k _ hx
      subst had
      have HX := Lib.hid hx
      clear hx
      go_wp2_with fail
      refine (of105 K g x _ ((HB.out.block g (blk_lt HG.out)).trans HG.out)).mono ?_
      rintro e w1 ⟨rfl, hb1⟩
      have HB1 := Lib.hid (HB.out.trans (hb1.mono HB.out.size))
      clear hb1
      by_cases ho : x.k = K
      · have b1 : (x.k == K) = true := by simp [ho]
        have HE := Lib.hid (show fndI K l = k by
          have h := fnd_is (by have := hLh.out; omega) HN.out (.inr ⟨x, HX.out, ho⟩)
          unfold fndI
          rw [h, if_pos (by have := hLh.out; omega)])
        clear ho
        rw [b1]
        go_wp2
        go_ret
        rw [HE.out]
        exact ⟨rfl, HB1.out⟩
      · have b1 : (x.k == K) = false := by simp [ho]
        rw [b1]
        go_wp2
        go_roundw
        case rel =>
          refine ⟨k + 1, by omega, by go_num, ?_, HB1.out⟩
          intro i y hi hy
          by_cases hik : i = k
          · subst hik
            rw [HX.out] at hy
            injection hy with hy
            rw [← hy]
            exact ho
          · exact HN.out i y (by omega) hy
        case measure => simp [intOf]; omega
    · have kn : (k : Int) = (L : Int) := by omega
      have HE := Lib.hid (show fndI K l = -1 by
        have h := fnd_is (l := l) (k := k) (by have := hLh.out; omega) HN.out (.inl (by have := hLh.out; omega))
        unfold fndI
        rw [h, if_neg (by have := hLh.out; omega)])
      go_wp2
      go_ret
      rw [HE.out]
      exact ⟨rfl, HB.out⟩

set_option maxHeartbeats 2000000 in
set_option maxRecDepth 100000 in
theorem secof_any (K : Int) (l : List SecV) (A : Option Addr) (L c : Nat) (w : World) (hL : l.length = L) (hS : SE w A l) :
    Calls Try.prog 89 #[.slice A L c, .int .i64 K] w fun e w' => ((fnd K l < L ∧ ∃ ad, A = some ad ∧ e = .returned (.pointer (some (ad.add (fnd K l * 2))))) ∨ (fnd K l = L ∧ e = .returned (.pointer none))) ∧ Below w.heap.size w w' := by
  have HI := Lib.hid (index105 K w.heap.size l A L c (w.alloc (.cells #[.int .i64 K] 3)) hL (hS.below (below_alloc (Below.refl _ _) _)) (heap_alloc_new _ _))
  have HS := Lib.hid hS
  have hLI : (L : Int) ≤ 9223372036854775807 := by have := hS.1; omega
  have hle := fnd_le K l
  rw [hL] at hle
  obtain ⟨k, hk⟩ : ∃ k, k = fnd K l := ⟨_, rfl⟩
  have HK := Lib.hid (And.intro hk hL)
  rw [← hk] at hle ⊢
  by_cases hf : k < L
  · obtain ⟨x, hx, hxk⟩ := fnd_at (K := K) (l := l) (by omega)
    rw [← hk] at hx
    obtain ⟨ad, had, _, _⟩ := hS.2.2 k _ hx
    have hfi : fndI K l = k := by unfold fndI; rw [← hk, if_pos (by omega)]
    rw [hfi] at HI
    have k0 : (0 : Int) ≤ (k : Int) := by omega
    have kL : (k : Int) < (L : Int) := by omega
    subst had
    clear hL hS hk hx hfi
    go_enter Try.func89, Try.ntmps89
    go_wp2_with fail
    refine HI.out.mono ?_
    rintro e w1 ⟨rfl, hb1⟩
    have H1 := Lib.hid ((below_alloc (Below.refl w.heap.size w) (.cells #[.int .i64 K] 3)).trans (hb1.mono (by simp)))
    clear hb1
    go_wp2
    go_ret
    exact ⟨.inl ⟨hf, ad, rfl, rfl⟩, H1.out⟩
  · have hfi : fndI K l = -1 := by unfold fndI; rw [← hk, if_neg (by omega)]
    have kL : k = L := by omega
    rw [hfi] at HI
    clear hL hS hk hfi
    go_enter Try.func89, Try.ntmps89
    go_wp2_with fail
    refine HI.out.mono ?_
    rintro e w1 ⟨rfl, hb1⟩
    have H1 := Lib.hid ((below_alloc (Below.refl w.heap.size w) (.cells #[.int .i64 K] 3)).trans (hb1.mono (by simp)))
    clear hb1
    go_wp2
    go_ret
    exact ⟨.inr ⟨kL, rfl⟩, H1.out⟩

set_option maxHeartbeats 2000000 in
set_option maxRecDepth 100000 in
/-- Find: what is found is memory of its own -/
theorem sfind_any (K : Int) (l : List SecV) (A : Option Addr) (L c : Nat) (w : World) (hL : l.length = L) (hS : SE w A l) (h100 : ∀ x ∈ l, x.b.length ≤ 100) :
    Calls Try.prog 60 #[.slice A L c, .int .i64 K] w fun e w' => ((∃ x A' c', l[fnd K l]? = some x ∧ e = .returned (.tuple #[.slice A' x.b.length c', .bool true]) ∧ RB w' A' x.b) ∨ (fnd K l = L ∧ e = .returned (.tuple #[.slice none 0 0, .bool false]))) ∧ Below w.heap.size w w' := by
  have HO := Lib.hid (secof_any K l A L c w hL hS)
  have HS := Lib.hid hS
  have HL := Lib.hid hL
  have HC := Lib.hid h100
  clear hL hS h100
  go_enter Try.func60, Try.ntmps60
  go_wp2_with fail
  refine HO.out.mono ?_
  rintro e w1 ⟨(⟨hf, ad, rfl, rfl⟩ | ⟨hf, rfl⟩), hb1⟩
  · obtain ⟨x, hx, hxk⟩ := fnd_at (K := K) (l := l) (by have := HL.out; omega)
    obtain ⟨ad', had, q0, q1⟩ := (HS.out.below hb1).2.2 _ _ hx
    injection had with had
    subst had
    have hx1 := HC.out x (List.mem_of_getElem? hx)
    have HX := Lib.hid (And.intro hx ((HS.out.below hb1).2.1 x (List.mem_of_getElem? hx)).2)
    have H1 := Lib.hid hb1
    obtain ⟨m, hm⟩ : ∃ m, m = x.b.length := ⟨_, rfl⟩
    rw [← hm] at q1 hx1
    have HM := Lib.hid hm
    clear hx hb1 hm
    go_wp2_with fail
    refine (clone_any x.b x.A m x.c _ HM.out.symm HX.out.2 (by omega)).mono ?_
    rintro e w2 ⟨A2, c2, rfl, ho2, hb2⟩
    have H2 := Lib.hid (And.intro ho2 (H1.out.trans (hb2.mono H1.out.size)))
    clear ho2 hb2
    go_wp2
    go_ret2
    exact ⟨.inl ⟨x, A2, c2, HX.out.1, by rw [← HM.out]; rfl, H2.out.1.rb⟩, H2.out.2⟩
  · have H1 := Lib.hid hb1
    clear hb1
    go_wp2
    go_ret2
    exact ⟨.inr ⟨hf, rfl⟩, H1.out⟩
end
end Go.Proofs.Ytnkbkhlbogcfaaa
