/- May there be such a file, as the document says; a file that is refused; where sections stand: the walks. -/
import Derived.Test.YtnkbkhlbogcfaaaRg
set_option linter.unusedVariables false
set_option linter.unusedSimpArgs false
namespace Go.Proofs.Ytnkbkhlbogcfaaa
open Go.RowKit Go.Proofs.YtnkbkhlbogcfaaaW.PrintWords
noncomputable section

set_option maxHeartbeats 2000000 in
set_option maxRecDepth 100000 in
theorem rmay_any (v : Int) (l : List SecV) (A : Option Addr) (L c : Nat) (w : World) (hL : l.length = L) (hS : SE w A l) :
    Calls Try.prog 73 #[.int .i64 v, .slice A L c] w fun e w' => e = .returned (.bool (decide (May v l))) ∧ Below w.heap.size w w' := by
  have HS := Lib.hid hS
  have HL := Lib.hid hL
  have hLI : (L : Int) ≤ 9223372036854775807 := by have := hS.1; omega
  clear hS
  by_cases h1 : v < 0
  · have e1 : decide (May v l) = false := decide_eq_false (fun q => by have := q.1; omega)
    rw [e1]
    clear e1 hL
    go_enter Try.func73, Try.ntmps73
    go_wp2
    go_ret
    exact ⟨rfl, Below.refl _ _⟩
  by_cases h2 : 255 < v
  · have e1 : decide (May v l) = false := decide_eq_false (fun q => by have := q.2.1; omega)
    rw [e1]
    clear e1 hL
    go_enter Try.func73, Try.ntmps73
    go_wp2
    go_ret
    exact ⟨rfl, Below.refl _ _⟩
  by_cases h3 : (16 : Int) < (L : Int)
  · have e1 : decide (May v l) = false := decide_eq_false (fun q => by have := q.2.2.1; omega)
    rw [e1]
    clear e1 hL
    go_enter Try.func73, Try.ntmps73
    go_wp2
    go_ret
    exact ⟨rfl, Below.refl _ _⟩
  have h16 : L ≤ 16 := by omega
  have HMT := Lib.hid (show (∀ x ∈ l, ¬ odd x) → decide (May v l) = true from fun h => decide_eq_true ⟨by omega, by omega, by omega, fun ⟨x, hx, ho⟩ => h x hx ho⟩)
  have HMF := Lib.hid (show ∀ x, x ∈ l → odd x → decide (May v l) = false from fun x hx ho => decide_eq_false (fun q => q.2.2.2 ⟨x, hx, ho⟩))
  obtain ⟨r, hr⟩ : ∃ r, r = decide (May v l) := ⟨_, rfl⟩
  rw [← hr] at HMT HMF ⊢
  clear hr hL
  go_enter Try.func73, Try.ntmps73
  go_wp2_with fail
  go_loopw [5] (fun i wr => ∃ k : Nat, k ≤ L ∧ i = .int .i64 k ∧ (∀ x ∈ l.take k, ¬ odd x) ∧ wr = w) (fun i _ => L - (intOf i).toNat)
  case atStart => exact ⟨0, by omega, rfl, by simp, rfl⟩
  case round =>
    obtain ⟨k, hk, rfl, hno, rfl⟩ := hrel
    have HNO := Lib.hid hno
    clear hno
    obtain ⟨w, rfl⟩ : ∃ u, u = wr := ⟨_, rfl⟩
    have k0 : (0 : Int) ≤ (k : Int) := by omega
    by_cases hlt : k < L
    · have j1 : (k : Int) < (L : Int) := by omega
      obtain ⟨x, hx⟩ : ∃ x, l[k]? = some x := ⟨_, List.getElem?_eq_getElem (by have := HL.out; omega)⟩
      obtain ⟨ad, had, q0, q1⟩ := HS.out.2.2 k _ hx
      subst had
      have hxm := List.mem_of_getElem? hx
      have HX := Lib.hid (And.intro hx hxm)
      have HMX := Lib.hid (HMF.out x hxm)
      obtain ⟨m, hm⟩ : ∃ m, m = x.b.length := ⟨_, rfl⟩
      obtain ⟨K, hK⟩ : ∃ K, K = x.k := ⟨_, rfl⟩
      have HOD := Lib.hid (show odd x ↔ (K < 0 ∨ 255 < K ∨ 1048576 < m) by rw [hm, hK]; rfl)
      rw [← hm] at q1
      rw [← hK] at q0
      clear hx hxm hm hK
      by_cases c1 : K < 0
      · have hr := HMX.out (HOD.out.2 (.inl c1))
        go_wp2
        go_ret
        exact ⟨by first | rfl | (rw [hr]; rfl), Below.refl _ _⟩
      by_cases c2 : 255 < K
      · have hr := HMX.out (HOD.out.2 (.inr (.inl c2)))
        go_wp2
        go_ret
        exact ⟨by first | rfl | (rw [hr]; rfl), Below.refl _ _⟩
      by_cases c3 : (1048576 : Int) < (m : Int)
      · have hr := HMX.out (HOD.out.2 (.inr (.inr (by omega))))
        go_wp2
        go_ret
        exact ⟨by first | rfl | (rw [hr]; rfl), Below.refl _ _⟩
      have HN := Lib.hid (show ∀ z ∈ l.take (k + 1), ¬ odd z by
        intro z hz
        rw [List.take_add_one, HX.out.1] at hz
        rcases List.mem_append.1 hz with hz | hz
        · exact HNO.out z hz
        · simp at hz
          subst hz
          intro q
          rcases HOD.out.1 q with q | q | q <;> omega)
      go_wp2
      go_roundw
      case rel => exact ⟨k + 1, by omega, by go_num, HN.out, trivial⟩
      case measure => simp [intOf]; omega
    · obtain rfl : k = L := by omega
      have hr := HMT.out (by have := HNO.out; rw [List.take_of_length_le (by have := HL.out; omega)] at this; exact this)
      go_wp2
      go_ret
      exact ⟨by first | rfl | (rw [hr]; rfl), Below.refl _ _⟩

set_option maxHeartbeats 1000000 in
set_option maxRecDepth 100000 in
theorem write_no (v : Int) (l : List SecV) (A : Option Addr) (L c : Nat) (w : World) (hL : l.length = L) (hS : SE w A l) (hM : ¬ May v l) :
    Calls Try.prog 51 #[.int .i64 v, .slice A L c] w fun e w' => e = .returned (.tuple #[.slice none 0 0, .int .i64 1]) ∧ Below w.heap.size w w' := by
  have HMay := may_any v l A L c w hL hS
  rw [decide_eq_false hM] at HMay
  have HMay := Lib.hid HMay
  clear hL hS hM
  go_enter Try.func51, Try.ntmps51
  go_wp2_with fail
  refine HMay.out.mono ?_
  rintro e w1 ⟨rfl, hb⟩
  have HB := Lib.hid hb
  clear hb
  go_wp2
  go_ret2
  exact ⟨rfl, HB.out⟩

set_option maxHeartbeats 2000000 in
set_option maxRecDepth 100000 in
theorem sspans_any (b : List UInt8) (A : Option Addr) (n c : Nat) (w : World) (hl : b.length = n) (hR : RB w A b) (hnc : n ≤ c) (hn : n ≤ 800000) :
    Calls Try.prog 72 #[.slice A n c] w fun e w' => ((fileE b ≠ 0 ∧ e = .returned (.tuple #[.slice none 0 0, .int .i64 (fileE b)])) ∨
      (fileE b = 0 ∧ ∃ gs, e = .returned (.tuple #[.slice (some ⟨gs, 0, none⟩) (hCnt (openB b)).1 (hCnt (openB b)).1, .int .i64 0]) ∧
        OSP w' w.heap.size (some ⟨gs, 0, none⟩) (hCnt (openB b)).1 (hCnt (openB b)).1 (spL (openB b) (hCnt (openB b)).1 (hCnt (openB b)).1))) ∧ Below w.heap.size w w' := by
  have K := Lib.hid (read_any b A n c w hl hR hnc hn)
  clear hl hR
  obtain ⟨cnt, hct⟩ : ∃ cnt, cnt = (hCnt (openB b)).1 := ⟨_, rfl⟩
  obtain ⟨vv, hvv⟩ : ∃ vv, vv = (hVer (openB b)).1 := ⟨_, rfl⟩
  obtain ⟨er, her⟩ : ∃ er, er = fileE b := ⟨_, rfl⟩
  rw [← hct, ← her] at K ⊢
  rw [← hvv] at K
  clear hct hvv her
  go_enter Try.func72, Try.ntmps72
  go_wp2_with fail
  refine K.out.mono ?_
  rintro e w1 ⟨(⟨h0, rfl⟩ | ⟨h0, gl, gs, l, rfl, ho, hg, hs⟩), hb⟩
  · have H := Lib.hid (And.intro h0 hb)
    clear h0 hb
    go_wp2
    go_ret2
    exact ⟨.inl ⟨H.out.1, rfl⟩, H.out.2⟩
  · have H := Lib.hid (And.intro h0 (And.intro hs hb))
    clear h0 ho hg hs hb
    go_wp2
    go_ret2
    exact ⟨.inr ⟨H.out.1, gs, rfl, H.out.2.1⟩, H.out.2.2⟩

/-- where the sections of a written file stand -/
theorem spL_file {v : Int} {l : List SecV} (hM : May v l) (h100 : ∀ x ∈ l, x.b.length ≤ 100) : Want l 0 (spL (fileH v l) l.length l.length) := by
  have hL := hM.2.2.1
  have h : ∀ k, k ≤ l.length → (spL (fileH v l) l.length k).length = l.length ∧ ∀ (i : Nat) (x : SecV), i < k → l[i]? = some x → (spL (fileH v l) l.length k)[i]? = some ((stB l i : Int), (stB l i + x.b.length : Int)) := by
    intro k
    induction k with
    | zero => intro _; exact ⟨by simp [spL], fun i x h => absurd h (by omega)⟩
    | succ k ih =>
      intro hk
      obtain ⟨h1, h2⟩ := ih (by omega)
      refine ⟨by simp [spL, h1], fun i x hi hx => ?_⟩
      show ((spL (fileH v l) l.length k).set k _)[i]? = _
      rw [List.getElem?_set]
      by_cases e : k = i
      · subst e
        rw [if_pos rfl, if_pos (by omega), (file_kind hM h100 hx).2, file_bst hM h100 k (by omega)]
        have hx1 := h100 x (List.mem_of_getElem? hx)
        have hs := stB_le h100 k
        have hst : 6 + 2 * l.length + (bodyB (l.take k)).length = stB l k := rfl
        rw [hst]
        dsimp only
        rw [IntWalk.wrap64_in _ ⟨by omega, by omega⟩]
      · rw [if_neg e]
        exact h2 i x (by omega) hx
  obtain ⟨h1, h2⟩ := h l.length (Nat.le_refl _)
  exact ⟨h1, fun i x _ hx => h2 i x ((List.getElem?_eq_some_iff.1 hx).1) hx⟩
/-- what is read of a written file -/
theorem got_same {v : Int} {l m : List SecV} {w : World} {G : Nat} (hM : May v l) (h100 : ∀ x ∈ l, x.b.length ≤ 100) (h : Got w G (fileH v l) l.length l.length m) : SameS m l := by
  refine ⟨h.len, fun i x y hx hy => ?_⟩
  have hi : i < l.length := (List.getElem?_eq_some_iff.1 hy).1
  have hodd : ¬ odd y := fun q => hM.2.2.2 ⟨y, List.mem_of_getElem? hy, q⟩
  unfold odd at hodd
  obtain ⟨h1, h2, _⟩ := h.all i x hx
  rw [if_pos hi] at h2
  refine ⟨?_, by rw [h2, file_body hM h100 hy]⟩
  rw [h1, (file_kind hM h100 hy).1]
  omega
theorem got_se {w : World} {G base n c : Nat} {b : List UInt8} {A : Option Addr} {m : List SecV} (ho : OSec w base A n c m) (hg : Got w G b n n m) (hn : n ≤ 1000000) : SE w A m := by
  refine ho.se hn fun x hx => ?_
  obtain ⟨i, hi, rfl⟩ := List.mem_iff_getElem.1 hx
  obtain ⟨h1, _, h3, h4, _⟩ := hg.all i _ (List.getElem?_eq_getElem hi)
  have := hKind_lt b i
  exact ⟨⟨by rw [h1]; omega, h3, trivial⟩, h4⟩
end
end Go.Proofs.Ytnkbkhlbogcfaaa
