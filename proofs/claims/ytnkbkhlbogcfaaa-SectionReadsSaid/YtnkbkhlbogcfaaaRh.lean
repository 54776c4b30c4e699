/- A file that is read without an error was written so: plain laws. -/
import Derived.Test.YtnkbkhlbogcfaaaRg
set_option linter.unusedVariables false
set_option linter.unusedSimpArgs false
set_option linter.unusedSectionVars false
namespace Go.Proofs.Ytnkbkhlbogcfaaa
open Go.RowKit
noncomputable section

theorem rRaw_err {b : List UInt8} {m : Int} {at_ : Nat} {e : Int} (h : e ≠ 0) : rRaw b m at_ e = ([], at_, e) := by unfold rRaw; rw [if_pos h]
theorem rFixed_err {b : List UInt8} {k at_ : Nat} {e : Int} (h : e ≠ 0) : (rFixed b k at_ e).2 = (at_, e) := by unfold rFixed; rw [rRaw_err h]
theorem rShort_err {b : List UInt8} {at_ : Nat} {e : Int} (h : e ≠ 0) : rShort b at_ e = (0, at_, e) := by unfold rShort; rw [if_pos h]
theorem rList_err {b : List UInt8} {m : Int} {at_ : Nat} {e : Int} (h : e ≠ 0) : rList b m at_ e = (0, at_, e) := by unfold rList; rw [rShort_err h, if_pos h]
/-- read without an error -/
theorem rRaw_back {b : List UInt8} {m at_ : Nat} {e : Int} (h : (rRaw b m at_ e).2.2 = 0) : e = 0 ∧ (rRaw b m at_ e).2.1 = at_ + m ∧ at_ + m ≤ b.length + (at_ - b.length) ∧ (rRaw b m at_ e).1 = (b.drop at_).take m ∧ m ≤ b.length - at_ := by
  unfold rRaw at h ⊢
  by_cases he : e = 0
  · subst he
    rw [if_neg (by omega)] at h ⊢
    by_cases hm : ((b.length - at_ : Nat) : Int) < (m : Int)
    · rw [if_pos hm] at h
      exact absurd h (by simp)
    · rw [if_neg hm]
      exact ⟨rfl, rfl, by omega, rfl, by omega⟩
  · rw [if_pos he] at h
    exact absurd h he
theorem one_of {l : List UInt8} (h : l.length = 1) : l = [UInt8.ofNat (numB l)] := by
  match l, h with
  | [y], _ => simp [numB]
theorem rFixed_back {b : List UInt8} {at_ : Nat} {e : Int} (h : (rFixed b 1 at_ e).2.2 = 0) : e = 0 ∧ (rFixed b 1 at_ e).2.1 = at_ + 1 ∧ (b.drop at_).take 1 = [UInt8.ofNat (rFixed b 1 at_ e).1] ∧ 1 ≤ b.length - at_ := by
  unfold rFixed at h ⊢
  obtain ⟨h1, h2, _, h4, h5⟩ := rRaw_back (m := 1) h
  refine ⟨h1, h2, ?_, h5⟩
  show _ = [UInt8.ofNat (numB (rRaw b ((1 : Nat) : Int) at_ e).1)]
  rw [h4]
  exact one_of (by rw [List.length_take, List.length_drop]; omega)
theorem rShort_back {b : List UInt8} {at_ : Nat} {e : Int} (h : (rShort b at_ e).2.2 = 0) : e = 0 ∧ ∃ k, (rShort b at_ e).2.1 = at_ + k ∧ (b.drop at_).take k = shortB (rShort b at_ e).1 ∧ k ≤ b.length - at_ := by
  unfold rShort at h ⊢
  by_cases he : e = 0
  · subst he
    rw [if_neg (by omega)] at h ⊢
    obtain ⟨x, n, er, hq⟩ : ∃ x n er, rdS 0 0 (b.drop at_) = (x, n, er) := ⟨_, _, _, rfl⟩
    rw [hq] at h ⊢
    dsimp only at h ⊢
    by_cases hz : er = 0
    · subst hz
      rw [if_pos rfl]
      obtain ⟨m, k, hx, hn, hk, ht, _, _⟩ := rdS_inv _ _ _ _ _ hq
      simp only [Nat.zero_add, Nat.pow_zero, Nat.mul_one] at hx hn
      subst hx hn
      exact ⟨rfl, n, rfl, ht, by simpa using hk⟩
    · rw [if_neg hz] at h
      exact absurd h (by simp; omega)
  · rw [if_pos he] at h
    exact absurd h he
theorem rList_back {b : List UInt8} {m : Int} {at_ : Nat} {e : Int} (h : (rList b m at_ e).2.2 = 0) : rList b m at_ e = rShort b at_ e ∧ (rShort b at_ e).2.2 = 0 := by
  unfold rList at h ⊢
  by_cases h1 : (rShort b at_ e).2.2 ≠ 0
  · rw [if_pos h1] at h
    exact absurd h h1
  · rw [if_neg h1] at h ⊢
    by_cases h2 : m < ((rShort b at_ e).1 : Int)
    · rw [if_pos h2] at h
      exact absurd h (by simp)
    · rw [if_neg h2] at h ⊢
      by_cases h3 : b.length < (rShort b at_ e).2.1 + (rShort b at_ e).1
      · rw [if_pos h3] at h
        exact absurd h (by simp)
      · rw [if_neg h3]
        have e0 : (rShort b at_ e).2.2 = 0 := by simpa using h1
        exact ⟨by rw [← e0], e0⟩

section
variable (o : List UInt8)
/-- an error stays -/
theorem hSt_err {k : Nat} {e : Int} (h : (hSt o k).2 = e) (he : e ≠ 0) : ∀ j, (hSt o (k + j)).2 = e := by
  intro j
  induction j with
  | zero => exact h
  | succ j ih =>
    show (hNext o (hSt o (k + j))).2 = e
    obtain ⟨at_, e', hq⟩ : ∃ a b, hSt o (k + j) = (a, b) := ⟨_, _, rfl⟩
    rw [hq] at ih ⊢
    dsimp only at ih
    subst ih
    have h1 : hS o (at_, e') = (0, (hF o (at_, e')).2.1, e') := by
      unfold hS hF
      dsimp only
      rw [rFixed_err he, rShort_err he]
    unfold hNext
    rw [h1]
    dsimp only
    rw [if_neg (by omega)]
theorem hd_err {e : Int} (h : (hd0 o).2 = e) (he : e ≠ 0) : (hCnt o).2.2 = e := by
  unfold hCnt hVer
  rw [h, rFixed_err he, rList_err he]
theorem bEnd_b {k : Nat} {e : Int} (h : (bSt o k).2 = e) (he : e ≠ 0) (hk : k ≤ (hCnt o).1) : bEnd o = e := by
  have h1 := bSt_err o h he ((hCnt o).1 - k)
  rw [show k + ((hCnt o).1 - k) = (hCnt o).1 by omega] at h1
  unfold bEnd
  rw [h1, if_neg (by rintro ⟨q, _⟩; exact he q)]
theorem bEnd_h {k : Nat} {e : Int} (h : (hSt o k).2 = e) (he : e ≠ 0) (hk : k ≤ (hCnt o).1) : bEnd o = e := by
  have h1 := hSt_err o h he ((hCnt o).1 - k)
  rw [show k + ((hCnt o).1 - k) = (hCnt o).1 by omega] at h1
  exact bEnd_b o (k := 0) h1 he (Nat.zero_le _)
theorem bEnd_cnt {e : Int} (h : (hCnt o).2.2 = e) (he : e ≠ 0) : bEnd o = e := bEnd_h o (k := 0) h he (Nat.zero_le _)
theorem bEnd_hd {e : Int} (h : (hd0 o).2 = e) (he : e ≠ 0) : bEnd o = e := bEnd_cnt o (hd_err o h he) he
theorem hd_short (h : o.length < 4) : (hd0 o).2 = 2 := by
  have h1 : rRaw o 4 0 0 = ([], 0, 2) := by unfold rRaw; rw [if_neg (by omega), if_pos (by omega)]
  unfold hd0
  rw [h1]
  rfl
theorem hd_raw (h : ¬ o.length < 4) : rRaw o 4 0 0 = (o.take 4, 4, 0) := by
  unfold rRaw; rw [if_neg (by omega), if_neg (by omega)]; rfl
theorem hd_form (h : ¬ o.length < 4) (h4 : o.take 4 ≠ [72, 73, 66, 82]) : (hd0 o).2 = 3 := by
  unfold hd0
  rw [hd_raw o h, if_neg h4]
  rfl
theorem hd_is (h : ¬ o.length < 4) (h4 : o.take 4 = [72, 73, 66, 82]) : hd0 o = (4, 0) := by
  unfold hd0
  rw [hd_raw o h, if_pos h4]
end

/-- sections as they are read -/
structure AsRead (o : List UInt8) (l : List SecV) : Prop where
  len : l.length = (hCnt o).1
  all : ∀ (i : Nat) (x : SecV), l[i]? = some x → x.k = hKind o i ∧ x.b = bBody o i

section
variable {o : List UInt8} (h0 : bEnd o = 0)
include h0
theorem ok_b {k : Nat} (hk : k ≤ (hCnt o).1) : (bSt o k).2 = 0 := by
  by_cases h : (bSt o k).2 = 0
  · exact h
  · have := bEnd_b o (k := k) rfl h hk
    rw [h0] at this
    exact absurd this.symm h
theorem ok_h {k : Nat} (hk : k ≤ (hCnt o).1) : (hSt o k).2 = 0 := by
  by_cases h : (hSt o k).2 = 0
  · exact h
  · have := bEnd_h o (k := k) rfl h hk
    rw [h0] at this
    exact absurd this.symm h
theorem ok_cnt : (hCnt o).2.2 = 0 := ok_h h0 (k := 0) (Nat.zero_le _)
theorem ok_hd : (hd0 o).2 = 0 := by
  by_cases h : (hd0 o).2 = 0
  · exact h
  · have := bEnd_hd o rfl h
    rw [h0] at this
    exact absurd this.symm h
theorem ok_len : ¬ o.length < 4 := fun h => by have := hd_short o h; rw [ok_hd h0] at this; omega
theorem ok_hibr : o.take 4 = [72, 73, 66, 82] := by
  by_cases h : o.take 4 = [72, 73, 66, 82]
  · exact h
  · have := hd_form o (ok_len h0) h
    rw [ok_hd h0] at this
    omega
/-- the bodies' sizes -/
theorem ok_size {k : Nat} (hk : k < (hCnt o).1) : hSize o k ≤ 1048576 ∧ (hSt o (k + 1)).1 = (hS o (hSt o k)).2.1 ∧ (hS o (hSt o k)).2.2 = 0 := by
  have h := ok_h h0 (k := k + 1) (by omega)
  have h1 : (hNext o (hSt o k)).2 = 0 := h
  unfold hNext at h1
  dsimp only at h1
  unfold hSize
  by_cases hb : 1048576 < (hS o (hSt o k)).1
  · rw [if_pos hb] at h1
    unfold noteE at h1
    split at h1
    · exact absurd h1 (by omega)
    · rename_i q; exact absurd h1 q
  · rw [if_neg hb] at h1
    exact ⟨by omega, rfl, h1⟩
theorem ok_raw {k : Nat} (hk : k < (hCnt o).1) : openE (bRaw o (bSt o k) (hSize o k)).1 = 0 ∧ (bSt o (k + 1)).1 = (bSt o k).1 + (hSize o k + 4) ∧ (bRaw o (bSt o k) (hSize o k)).1 = (o.drop (bSt o k).1).take (hSize o k + 4) ∧ hSize o k + 4 ≤ o.length - (bSt o k).1 := by
  have h := ok_b h0 (k := k + 1) (by omega)
  have hs := (ok_size h0 hk).1
  have h1 : (bNext o (bSt o k) (hSize o k)).2 = 0 := h
  have hw : RowKit.wrap64 ((hSize o k : Int) + 4) = ((hSize o k + 4 : Nat) : Int) := by rw [IntWalk.wrap64_in _ ⟨by omega, by omega⟩]; omega
  unfold bNext at h1
  dsimp only at h1
  by_cases ho : openE (bRaw o (bSt o k) (hSize o k)).1 = 0
  · rw [if_pos ho] at h1
    unfold bRaw at h1
    rw [hw] at h1
    obtain ⟨_, h2, _, h4, h5⟩ := rRaw_back h1
    refine ⟨ho, ?_, ?_, h5⟩
    · show (bRaw o (bSt o k) (hSize o k)).2.1 = _
      unfold bRaw
      rw [hw, h2]
    · unfold bRaw
      rw [hw, h4]
  · rw [if_neg ho] at h1
    unfold noteE at h1
    split at h1
    · exact absurd h1 ho
    · rename_i q; exact absurd h1 q
theorem take_next {a m : Nat} {P R : List UInt8} (h1 : o.take a = P) (h2 : (o.drop a).take m = R) : o.take (a + m) = P ++ R := by
  rw [List.take_add, h1, h2]
/-- the whole of it -/
theorem ok_start : o.take (hCnt o).2.1 = [72, 73, 66, 82] ++ [UInt8.ofNat (hVer o).1] ++ shortB (hCnt o).1 := by
  have hc := ok_cnt h0
  have hd := hd_is o (ok_len h0) (ok_hibr h0)
  unfold hCnt at hc ⊢
  obtain ⟨e1, e2⟩ := rList_back hc
  rw [e1]
  obtain ⟨e3, k, e4, e5, _⟩ := rShort_back e2
  rw [e4]
  refine take_next h0 ?_ e5
  unfold hVer at e3 ⊢
  obtain ⟨_, e6, e7, _⟩ := rFixed_back e3
  rw [e6]
  refine take_next h0 ?_ e7
  rw [hd]
  exact ok_hibr h0
variable {l : List SecV} (hl : AsRead o l)
include hl
theorem ok_body {k : Nat} {x : SecV} (hx : l[k]? = some x) : x.b.length = hSize o k ∧ (bRaw o (bSt o k) (hSize o k)).1 = sealL x.b := by
  have hk : k < (hCnt o).1 := by rw [← hl.len]; exact (List.getElem?_eq_some_iff.1 hx).1
  obtain ⟨h1, h2, h3, h4⟩ := ok_raw h0 hk
  have hb := (hl.all k x hx).2
  unfold bBody openB at hb
  rw [if_pos h1] at hb
  have hlen : (bRaw o (bSt o k) (hSize o k)).1.length = hSize o k + 4 := by rw [h3, List.length_take, List.length_drop]; omega
  have hs : x.b.length = hSize o k := by rw [hb, List.length_take, hlen]; omega
  refine ⟨hs, ?_⟩
  unfold openE at h1
  rw [if_neg (by omega)] at h1
  by_cases q : sealL ((bRaw o (bSt o k) (hSize o k)).1.take ((bRaw o (bSt o k) (hSize o k)).1.length - 4)) = (bRaw o (bSt o k) (hSize o k)).1
  · rw [hb]; exact q.symm
  · rw [if_neg q] at h1
    exact absurd h1 (by omega)
theorem ok_heads : ∀ k, k ≤ (hCnt o).1 → o.take (hSt o k).1 = startB ((hVer o).1 : Nat) l ++ headB (l.take k) := by
  intro k
  induction k with
  | zero =>
    intro _
    show o.take (hCnt o).2.1 = _
    rw [ok_start h0]
    unfold startB
    rw [hl.len, Int.toNat_natCast]
    simp [headB]
  | succ k ih =>
    intro hk
    obtain ⟨x, hx⟩ : ∃ x, l[k]? = some x := ⟨_, List.getElem?_eq_getElem (by rw [hl.len]; omega)⟩
    obtain ⟨s1, s2, s3⟩ := ok_size h0 (show k < (hCnt o).1 by omega)
    rw [s2, headB_succ hx, ← List.append_assoc]
    unfold hS at s3
    obtain ⟨e3, j, e4, e5, _⟩ := rShort_back s3
    have e4' : (hS o (hSt o k)).2.1 = (hF o (hSt o k)).2.1 + j := e4
    rw [e4']
    unfold hF at e3
    obtain ⟨_, e6, e7, _⟩ := rFixed_back e3
    have hxk := (hl.all k x hx).1
    have hhx : headX x = [UInt8.ofNat (hF o (hSt o k)).1] ++ shortB (hS o (hSt o k)).1 := by
      unfold headX
      rw [hxk, (ok_body h0 hl hx).1, Int.toNat_natCast]
      rfl
    rw [hhx, ← List.append_assoc]
    refine take_next h0 ?_ e5
    have e6' : (hF o (hSt o k)).2.1 = (hSt o k).1 + 1 := e6
    rw [e6']
    exact take_next h0 (ih (by omega)) e7
theorem ok_bodies : ∀ k, k ≤ (hCnt o).1 → o.take (bSt o k).1 = startB ((hVer o).1 : Nat) l ++ headB l ++ bodyB (l.take k) := by
  intro k
  induction k with
  | zero =>
    intro _
    show o.take (hSt o (hCnt o).1).1 = _
    rw [ok_heads h0 hl _ (Nat.le_refl _), List.take_of_length_le (by rw [hl.len]; exact Nat.le_refl _)]
    simp [bodyB]
  | succ k ih =>
    intro hk
    obtain ⟨x, hx⟩ : ∃ x, l[k]? = some x := ⟨_, List.getElem?_eq_getElem (by rw [hl.len]; omega)⟩
    obtain ⟨_, h2, h3, _⟩ := ok_raw h0 (show k < (hCnt o).1 by omega)
    rw [h2, bodyB_succ hx, ← List.append_assoc]
    refine take_next h0 (ih (by omega)) ?_
    rw [← h3]
    exact (ok_body h0 hl hx).2
/-- what was read is a file's bytes -/
theorem file_back : fileH ((hVer o).1 : Nat) l = o := by
  have h1 := ok_bodies h0 hl _ (Nat.le_refl _)
  rw [List.take_of_length_le (l := l) (by rw [hl.len]; exact Nat.le_refl _)] at h1
  have he : ¬ (bSt o (hCnt o).1).1 < o.length := by
    intro q
    have h2 := h0
    unfold bEnd at h2
    rw [if_pos ⟨ok_b h0 (Nat.le_refl _), q⟩] at h2
    omega
  rw [List.take_of_length_le (by omega)] at h1
  exact h1.symm
theorem file_may : May ((hVer o).1 : Nat) l := by
  refine ⟨by omega, by have := hVer_lt o; omega, by rw [hl.len]; exact hCnt_le o, ?_⟩
  rintro ⟨x, hx, hod⟩
  obtain ⟨i, hi, rfl⟩ := List.mem_iff_getElem.1 hx
  have hx' := List.getElem?_eq_getElem hi
  have h1 := (hl.all i _ hx').1
  have h2 := (ok_body h0 hl hx').1
  have h3 := (ok_size h0 (show i < (hCnt o).1 by rw [← hl.len]; exact hi)).1
  have h4 := hKind_lt o i
  unfold odd at hod
  omega
end
/-- a body is no longer than the file -/
theorem bBody_le (o : List UInt8) (k : Nat) : (bBody o k).length ≤ o.length := by
  have h := (rRaw_at (e := (bSt o k).2) (RowKit.wrap64 ((hSize o k : Int) + 4)) (bSt_at o k)).2.2
  unfold bBody openB
  split
  · rw [List.length_take]
    have : (bRaw o (bSt o k) (hSize o k)).1.length ≤ o.length := h
    omega
  · simp
/-- the file itself -/
theorem seal_back {b : List UInt8} (h : openE b = 0) : sealL (openB b) = b := by
  unfold openB
  rw [if_pos h]
  unfold openE at h
  split at h
  · exact absurd h (by omega)
  · by_cases q : sealL (b.take (b.length - 4)) = b
    · exact q
    · rw [if_neg q] at h
      exact absurd h (by omega)
theorem fileE_parts {b : List UInt8} (h : fileE b = 0) : openE b = 0 ∧ bEnd (openB b) = 0 := by
  unfold fileE at h
  by_cases q : openE b = 0
  · rw [if_neg (by simp [q])] at h
    exact ⟨q, h⟩
  · rw [if_pos q] at h
    exact absurd h q
end
end Go.Proofs.Ytnkbkhlbogcfaaa
