/- A file that was written is read: plain laws · Where sections of a file stand: the document's walk · A file of which the bytes behind its head are any: plain laws. -/
import Derived.Test.YtnkbkhlbogcfaaaRd
import Derived.Test.YtnkbkhlbogcfaaaRq
import Derived.Test.YtnkbkhlbogcfaaaSc
import Derived.Test.YtnkbkhlbogcfaaaSn
import Derived.Test.YtnkbkhlbogcfaaaF
set_option linter.unusedVariables false
set_option linter.unusedSimpArgs false
set_option linter.unusedSectionVars false
namespace Go.Proofs.Ytnkbkhlbogcfaaa
open Go.RowKit
noncomputable section

theorem fixedB_one (v : Nat) : fixedB v 1 = [UInt8.ofNat v] := by simp [fixedB]
theorem headB_split {l : List SecV} {k : Nat} {x : SecV} (h : l[k]? = some x) : headB l = headB (l.take k) ++ headX x ++ headB (l.drop (k + 1)) := by
  have e : l = l.take k ++ x :: l.drop (k + 1) := by
    obtain ⟨hk, hx⟩ := List.getElem?_eq_some_iff.1 h
    rw [← hx, ← List.drop_eq_getElem_cons hk, List.take_append_drop]
  conv => lhs; rw [e]
  unfold headB
  simp [List.flatMap_append]
theorem bodyB_split {l : List SecV} {k : Nat} {x : SecV} (h : l[k]? = some x) : bodyB l = bodyB (l.take k) ++ sealL x.b ++ bodyB (l.drop (k + 1)) := by
  have e : l = l.take k ++ x :: l.drop (k + 1) := by
    obtain ⟨hk, hx⟩ := List.getElem?_eq_some_iff.1 h
    rw [← hx, ← List.drop_eq_getElem_cons hk, List.take_append_drop]
  conv => lhs; rw [e]
  unfold bodyB
  simp [List.flatMap_append]

section
variable {v : Int} {l : List SecV} (hM : May v l) (h100 : ∀ x ∈ l, x.b.length ≤ 100)
include hM h100
theorem file_hd0 : hd0 (fileH v l) = (4, 0) := by
  have e : (fileH v l).drop 0 = [72, 73, 66, 82] ++ ([UInt8.ofNat v.toNat] ++ shortB l.length ++ headB l ++ bodyB l) := by
    unfold fileH startB; simp [List.append_assoc]
  have h := rRaw_w (at_ := 0) e (by omega)
  have h' : rRaw (fileH v l) 4 0 0 = ([72, 73, 66, 82], 0 + 4, 0) := h
  unfold hd0
  rw [h']
  rfl
theorem file_ver : hVer (fileH v l) = (v.toNat, 5, 0) := by
  have e : (fileH v l).drop 4 = fixedB v.toNat 1 ++ (shortB l.length ++ headB l ++ bodyB l) := by
    rw [fixedB_one]
    unfold fileH startB; simp [List.append_assoc]
  have hl : 4 ≤ (fileH v l).length := by unfold fileH startB; simp
  have h := rFixed_w (at_ := 4) e hl
  unfold hVer
  rw [file_hd0 hM h100, h]
  have := hM.1
  have := hM.2.1
  rw [Nat.mod_eq_of_lt (by omega)]
theorem file_len : (fileH v l).length = 6 + 2 * l.length + (bodyB l).length := by
  have := hM.2.2.1
  unfold fileH
  rw [List.length_append, List.length_append, startB_len v l (by omega), headB_len l h100]
theorem file_cnt : hCnt (fileH v l) = (l.length, 6, 0) := by
  have hL := hM.2.2.1
  have e : (fileH v l).drop 5 = shortB l.length ++ (headB l ++ bodyB l) := by
    unfold fileH startB; simp [List.append_assoc]
  have h := rShort_w (at_ := 5) e (by omega)
  rw [shortB_one (by omega)] at h
  have hl := file_len hM h100
  unfold hCnt rList
  rw [file_ver hM h100]
  dsimp only
  rw [h]
  dsimp only
  rw [if_neg (by omega), if_neg (by omega), if_neg (by simp; omega)]
  rfl
theorem file_step {k : Nat} {x : SecV} (hx : l[k]? = some x) : hF (fileH v l) (6 + 2 * k, 0) = (x.k.toNat, 6 + 2 * k + 1, 0) ∧ hS (fileH v l) (6 + 2 * k, 0) = (x.b.length, 6 + 2 * (k + 1), 0) := by
  have hL := hM.2.2.1
  have hm := List.mem_of_getElem? hx
  have hk : k < l.length := (List.getElem?_eq_some_iff.1 hx).1
  have hodd : ¬ odd x := fun h => hM.2.2.2 ⟨x, hm, h⟩
  unfold odd at hodd
  have h1 := h100 x hm
  have hp : (startB v l ++ headB (l.take k)).length = 6 + 2 * k := by
    rw [List.length_append, startB_len v l (by omega), headB_len _ (fun y hy => h100 y (List.mem_of_mem_take hy)), List.length_take, Nat.min_eq_left (by omega)]
  have e0 : fileH v l = (startB v l ++ headB (l.take k)) ++ (headX x ++ (headB (l.drop (k + 1)) ++ bodyB l)) := by
    unfold fileH
    rw [headB_split hx]
    simp [List.append_assoc]
  have e : (fileH v l).drop (6 + 2 * k) = headX x ++ (headB (l.drop (k + 1)) ++ bodyB l) := by rw [e0, ← hp, List.drop_left]
  have e1 : (fileH v l).drop (6 + 2 * k) = fixedB x.k.toNat 1 ++ (shortB x.b.length ++ (headB (l.drop (k + 1)) ++ bodyB l)) := by
    rw [e, fixedB_one]; unfold headX; simp
  have e2 : (fileH v l).drop (6 + 2 * k + 1) = shortB x.b.length ++ (headB (l.drop (k + 1)) ++ bodyB l) := by
    rw [← List.drop_drop, e1, fixedB_one]; rfl
  have hat : 6 + 2 * k ≤ (fileH v l).length := by rw [file_len hM h100]; omega
  have r1 : hF (fileH v l) (6 + 2 * k, 0) = (x.k.toNat, 6 + 2 * k + 1, 0) := by
    unfold hF
    dsimp only
    rw [rFixed_w e1 hat, Nat.mod_eq_of_lt (by omega)]
  refine ⟨r1, ?_⟩
  unfold hS
  rw [r1]
  dsimp only
  rw [rShort_w e2 (by omega), shortB_one (by omega)]
  rfl
theorem file_st : ∀ k, k ≤ l.length → hSt (fileH v l) k = (6 + 2 * k, 0) := by
  intro k
  induction k with
  | zero => intro _; show (hCnt (fileH v l)).2 = _; rw [file_cnt hM h100]
  | succ k ih =>
    intro hk
    obtain ⟨x, hx⟩ : ∃ x, l[k]? = some x := ⟨_, List.getElem?_eq_getElem (by omega)⟩
    have h1 := h100 x (List.mem_of_getElem? hx)
    show hNext (fileH v l) (hSt (fileH v l) k) = _
    rw [ih (by omega)]
    unfold hNext
    rw [(file_step hM h100 hx).2]
    dsimp only
    rw [if_neg (by omega)]
theorem file_kind {k : Nat} {x : SecV} (hx : l[k]? = some x) : hKind (fileH v l) k = x.k.toNat ∧ hSize (fileH v l) k = x.b.length := by
  have hk : k < l.length := (List.getElem?_eq_some_iff.1 hx).1
  unfold hKind hSize
  rw [file_st hM h100 k (by omega), (file_step hM h100 hx).1, (file_step hM h100 hx).2]
  exact ⟨rfl, rfl⟩
theorem file_bstep {k : Nat} {x : SecV} (hx : l[k]? = some x) : bRaw (fileH v l) (6 + 2 * l.length + (bodyB (l.take k)).length, 0) x.b.length = (sealL x.b, 6 + 2 * l.length + (bodyB (l.take (k + 1))).length, 0) := by
  have hL := hM.2.2.1
  have hm := List.mem_of_getElem? hx
  have h1 := h100 x hm
  have hp : (startB v l ++ headB l ++ bodyB (l.take k)).length = 6 + 2 * l.length + (bodyB (l.take k)).length := by
    rw [List.length_append, List.length_append, startB_len v l (by omega), headB_len _ h100]
  have e0 : fileH v l = (startB v l ++ headB l ++ bodyB (l.take k)) ++ (sealL x.b ++ bodyB (l.drop (k + 1))) := by
    unfold fileH
    rw [bodyB_split hx]
    simp [List.append_assoc]
  have e : (fileH v l).drop (6 + 2 * l.length + (bodyB (l.take k)).length) = sealL x.b ++ bodyB (l.drop (k + 1)) := by
    rw [e0, ← hp, List.drop_left]
  have hat : 6 + 2 * l.length + (bodyB (l.take k)).length ≤ (fileH v l).length := by
    have h := congrArg List.length e0
    rw [List.length_append] at h; omega
  unfold bRaw
  have hw : RowKit.wrap64 ((x.b.length : Int) + 4) = ((sealL x.b).length : Int) := by
    rw [sealL_length, IntWalk.wrap64_in _ ⟨by omega, by omega⟩]; omega
  rw [hw]
  dsimp only
  rw [rRaw_w e hat, bodyB_succ hx, List.length_append, Nat.add_assoc]
theorem file_bst : ∀ k, k ≤ l.length → bSt (fileH v l) k = (6 + 2 * l.length + (bodyB (l.take k)).length, 0) := by
  intro k
  induction k with
  | zero =>
    intro _
    show hSt (fileH v l) (hCnt (fileH v l)).1 = _
    rw [file_cnt hM h100]
    dsimp only
    rw [file_st hM h100 _ (Nat.le_refl _)]
    simp [bodyB]
  | succ k ih =>
    intro hk
    obtain ⟨x, hx⟩ : ∃ x, l[k]? = some x := ⟨_, List.getElem?_eq_getElem (by omega)⟩
    show bNext (fileH v l) (bSt (fileH v l) k) (hSize (fileH v l) k) = _
    rw [ih (by omega), (file_kind hM h100 hx).2]
    unfold bNext
    rw [file_bstep hM h100 hx]
    dsimp only
    rw [(openE_seal x.b).1, if_pos rfl]
theorem file_body {k : Nat} {x : SecV} (hx : l[k]? = some x) : bBody (fileH v l) k = x.b := by
  have hk : k < l.length := (List.getElem?_eq_some_iff.1 hx).1
  unfold bBody
  rw [file_bst hM h100 k (by omega), (file_kind hM h100 hx).2, file_bstep hM h100 hx]
  exact (openE_seal x.b).2
theorem file_end : bEnd (fileH v l) = 0 := by
  unfold bEnd
  rw [file_cnt hM h100]
  dsimp only
  rw [file_bst hM h100 _ (Nat.le_refl _), List.take_length, file_len hM h100]
  dsimp only
  rw [if_neg (by omega)]
/-- a file that was written is read without an error -/
theorem file_ok : fileE (fileB v l) = 0 ∧ openB (fileB v l) = fileH v l := by
  have h1 := openE_seal (fileH v l)
  have e : openB (fileB v l) = fileH v l := h1.2
  refine ⟨?_, e⟩
  unfold fileE
  rw [if_neg (by unfold fileB; simp [h1.1]), e, file_end hM h100]
end
end
end Go.Proofs.Ytnkbkhlbogcfaaa

set_option linter.unusedVariables false
set_option linter.unusedSimpArgs false
namespace Go.Proofs.Ytnkbkhlbogcfaaa
open Go.RowKit Go.Proofs.YtnkbkhlbogcfaaaW.PrintWords
noncomputable section

/-- where the Body of section k begins -/
def stB (l : List SecV) (k : Nat) : Nat := 6 + 2 * l.length + (bodyB (l.take k)).length
theorem stB_succ {l : List SecV} {k : Nat} {x : SecV} (h : l[k]? = some x) : stB l (k + 1) = stB l k + x.b.length + 4 := by
  unfold stB
  rw [bodyB_succ h, List.length_append, sealL_length]; omega
theorem stB_le {l : List SecV} (h100 : ∀ x ∈ l, x.b.length ≤ 100) (k : Nat) : stB l k ≤ 6 + 2 * l.length + 104 * l.length := by
  unfold stB
  have h := bodyB_le (l.take k) (fun x hx => h100 x (List.mem_of_mem_take hx))
  have : (l.take k).length ≤ l.length := by rw [List.length_take]; omega
  omega
/-- where sections stand -/
structure Want (l : List SecV) (k : Nat) (s : List (Int × Int)) : Prop where
  len : s.length = l.length
  at_ : ∀ (i : Nat) (x : SecV), k ≤ i → l[i]? = some x → s[i]? = some ((stB l i : Int), (stB l i + x.b.length : Int))
theorem Want.start (l : List SecV) (s : List (Int × Int)) (h : s.length = l.length) : Want l l.length s := ⟨h, fun i x hi hx => by have := (List.getElem?_eq_some_iff.1 hx).1; omega⟩
theorem Want.next {l : List SecV} {k : Nat} {s : List (Int × Int)} {x : SecV} (h : Want l (k + 1) s) (hx : l[k]? = some x) : Want l k (s.set k ((stB l k : Int), (stB l k + x.b.length : Int))) := by
  refine ⟨by rw [List.length_set, h.len], fun i y hi hy => ?_⟩
  rw [List.getElem?_set]
  by_cases e : k = i
  · subst e
    rw [hx] at hy
    injection hy with hy
    subst hy
    rw [if_pos rfl, if_pos (by rw [h.len]; exact (List.getElem?_eq_some_iff.1 hx).1)]
  · rw [if_neg e]
    exact h.at_ i y (by omega) hy
theorem Want.eq {l : List SecV} {s t : List (Int × Int)} (h : Want l 0 s) (h' : Want l 0 t) : s = t := by
  refine List.ext_getElem? fun i => ?_
  by_cases hi : i < l.length
  · have hx : l[i]? = some l[i] := List.getElem?_eq_getElem hi
    rw [h.at_ i _ (Nat.zero_le _) hx, h'.at_ i _ (Nat.zero_le _) hx]
  · rw [List.getElem?_eq_none (by rw [h.len]; omega), List.getElem?_eq_none (by rw [h'.len]; omega)]

set_option maxHeartbeats 4000000 in
set_option maxRecDepth 100000 in
theorem rspans_any (l : List SecV) (A0 : Option Addr) (N c0 : Nat) (A : Option Addr) (L c : Nat) (w : World) (hL : l.length = L) (hS : SE w A l) (h100 : ∀ x ∈ l, x.b.length ≤ 100) (h16 : L ≤ 16) (hN : N = stB l L + 4) :
    Calls Try.prog 70 #[.slice A0 N c0, .slice A L c] w fun e w' => ∃ g s, e = .returned (.slice (some ⟨g, 0, none⟩) L L) ∧ OSP w' w.heap.size (some ⟨g, 0, none⟩) L L s ∧ Want l 0 s ∧ Below w.heap.size w w' := by
  have HS := Lib.hid hS
  have HL := Lib.hid hL
  have HC := Lib.hid h100
  have hst := stB_le h100 L
  obtain ⟨sL, hsL⟩ : ∃ s, s = stB l L := ⟨_, rfl⟩
  rw [← hsL] at hN hst
  have HSL := Lib.hid hsL
  have hs2 : sL ≤ 2000 := by omega
  subst hN
  clear hS h100 hst hsL
  go_enter Try.func70, Try.ntmps70
  go_wp2_with (refine wpMakeP L rfl rfl rfl rfl (by omega) ?_; intro w1 ho1 hb1 hz1)
  have HW0 := Lib.hid (show Want l L (List.replicate L (0, 0)) by have := Want.start l (List.replicate L (0, 0)) (by rw [List.length_replicate, hL]); rw [hL] at this; exact this)
  obtain ⟨g, hg⟩ : ∃ g, g = w.heap.size := ⟨_, rfl⟩
  rw [← hg] at ho1 ⊢
  have HO := Lib.hid (And.intro ho1 (And.intro hb1 hg))
  clear ho1 hb1 hz1 hg hL
  go_wp2_with fail
  go_loopw [6, 7] (fun s i wr => ∃ (k : Nat) (t : List (Int × Int)), k ≤ L ∧ i = .int .i64 ((k : Int) - 1) ∧ s = .int .i64 (stB l k : Nat) ∧ OSP wr g (some ⟨g, 0, none⟩) L L t ∧ Want l k t ∧ Below w.heap.size w wr) (fun _ i _ => (intOf i + 1).toNat)
  case atStart => exact ⟨L, _, Nat.le_refl _, rfl, by rw [HSL.out], HO.out.1, HW0.out, HO.out.2.1⟩
  case round =>
    obtain ⟨k, t, hk, rfl, rfl, hp, hwn, hb⟩ := hrel
    have HI := Lib.hid (And.intro hp (And.intro hwn hb))
    clear hp hwn hb
    cases k with
    | zero =>
      have b1 : decide ((0 : Int) ≤ ((0 : Nat) : Int) - 1) = false := by simp
      go_wp2
      go_ret
      exact ⟨g, t, rfl, own_lower HI.out.1 (Nat.le_of_eq HO.out.2.2.symm), HI.out.2.1, HI.out.2.2⟩
    | succ k =>
      obtain ⟨x, hx⟩ : ∃ x, l[k]? = some x := ⟨_, List.getElem?_eq_getElem (by have := HL.out; omega)⟩
      have hk0 : ((k + 1 : Nat) : Int) - 1 = (k : Int) := by omega
      rw [hk0]
      rw [stB_succ hx]
      have hle := stB_le HC.out k
      obtain ⟨s, hs⟩ : ∃ s, s = stB l k := ⟨_, rfl⟩
      obtain ⟨m, hm⟩ : ∃ m, m = x.b.length := ⟨_, rfl⟩
      have hxm := HC.out x (List.mem_of_getElem? hx)
      obtain ⟨ad, had, q0, q1⟩ := (HS.out.below HI.out.2.2).2.2 k _ hx
      subst had
      obtain ⟨⟨⟨v0, p0⟩, ⟨v1, p1⟩⟩, ⟨fp0, fp1⟩, hsp⟩ := HI.out.1.store (i := k) (by omega) ((s : Int), (s : Int) + (m : Int))
      have hwx := HI.out.2.1.next hx
      have hbs : Below w.heap.size w ((wr.setCell ⟨g, k * 2, none⟩ (.int .i64 (s : Int))).setCell ⟨g, k * 2 + 1, none⟩ (.int .i64 ((s : Int) + (m : Int)))) :=
        (HI.out.2.2.setCell (by have := HO.out.2.2; dsimp only; omega) _).setCell (by have := HO.out.2.2; dsimp only; omega) _
      obtain ⟨ad', had', q2, q3⟩ := (HS.out.below hbs).2.2 k _ hx
      injection had' with had'
      subst had'
      have HBS := Lib.hid hbs
      rw [← hs] at hle hwx ⊢
      rw [← hm] at q1 q3 hxm hwx ⊢
      have HX := Lib.hid (And.intro hsp hwx)
      have HSS := Lib.hid hs
      clear hsp hwx hx hm hs hk0 hbs
      have k0 : (0 : Int) ≤ (k : Int) := by omega
      have j1 : (k : Int) < (L : Int) := by omega
      have hs3 : s ≤ 2000 := by have := HL.out; omega
      have e4 : ((s + m + 4 : Nat) : Int) - 4 = (s : Int) + (m : Int) := by omega
      have e5 : ((s : Int) + (m : Int)) - (m : Int) = (s : Int) := by omega
      clear hle
      go_wp2
      go_roundw
      case rel => exact ⟨k, _, by omega, by go_num, by rw [HSS.out], HX.out.1, HX.out.2, HBS.out⟩
      case measure => simp [intOf]
end
end Go.Proofs.Ytnkbkhlbogcfaaa

set_option linter.unusedVariables false
set_option linter.unusedSimpArgs false
set_option linter.unusedSectionVars false
namespace Go.Proofs.Ytnkbkhlbogcfaaa
open Go.RowKit
noncomputable section
/-- a head, and any bytes -/
def fileG (v : Int) (l : List SecV) (R : List UInt8) : List UInt8 := startB v l ++ headB l ++ R
/-- behind an error it stays -/
theorem bSt_err (b : List UInt8) {k : Nat} {e : Int} (h : (bSt b k).2 = e) (he : e ≠ 0) : ∀ j, (bSt b (k + j)).2 = e := by
  intro j
  induction j with
  | zero => exact h
  | succ j ih =>
    show (bNext b (bSt b (k + j)) (hSize b (k + j))).2 = e
    have h0 : bRaw b (bSt b (k + j)) (hSize b (k + j)) = ([], (bSt b (k + j)).1, (bSt b (k + j)).2) := by
      unfold bRaw rRaw
      rw [if_pos (by rw [ih]; exact he)]
    unfold bNext noteE
    rw [h0]
    dsimp only
    rw [ih, if_neg he, ite_self]
section
variable {v : Int} {l : List SecV} {R : List UInt8} (hM : May v l) (h100 : ∀ x ∈ l, x.b.length ≤ 100)
include hM h100
theorem fileG_hd0 : hd0 (fileG v l R) = (4, 0) := by
  have e : (fileG v l R).drop 0 = [72, 73, 66, 82] ++ ([UInt8.ofNat v.toNat] ++ shortB l.length ++ headB l ++ R) := by
    unfold fileG startB; simp [List.append_assoc]
  have h := rRaw_w (at_ := 0) e (by omega)
  have h' : rRaw (fileG v l R) 4 0 0 = ([72, 73, 66, 82], 0 + 4, 0) := h
  unfold hd0
  rw [h']
  rfl
theorem fileG_ver : hVer (fileG v l R) = (v.toNat, 5, 0) := by
  have e : (fileG v l R).drop 4 = fixedB v.toNat 1 ++ (shortB l.length ++ headB l ++ R) := by
    rw [fixedB_one]
    unfold fileG startB; simp [List.append_assoc]
  have hl : 4 ≤ (fileG v l R).length := by unfold fileG startB; simp
  have h := rFixed_w (at_ := 4) e hl
  unfold hVer
  rw [fileG_hd0 hM h100, h]
  have := hM.1
  have := hM.2.1
  rw [Nat.mod_eq_of_lt (by omega)]
theorem fileG_len : (fileG v l R).length = 6 + 2 * l.length + R.length := by
  have := hM.2.2.1
  unfold fileG
  rw [List.length_append, List.length_append, startB_len v l (by omega), headB_len l h100]
theorem fileG_cnt : hCnt (fileG v l R) = (l.length, 6, 0) := by
  have hL := hM.2.2.1
  have e : (fileG v l R).drop 5 = shortB l.length ++ (headB l ++ R) := by
    unfold fileG startB; simp [List.append_assoc]
  have h := rShort_w (at_ := 5) e (by omega)
  rw [shortB_one (by omega)] at h
  have hl := fileG_len (R := R) hM h100
  unfold hCnt rList
  rw [fileG_ver hM h100]
  dsimp only
  rw [h]
  dsimp only
  rw [if_neg (by omega), if_neg (by omega), if_neg (by simp; omega)]
  rfl
theorem fileG_step {k : Nat} {x : SecV} (hx : l[k]? = some x) : hF (fileG v l R) (6 + 2 * k, 0) = (x.k.toNat, 6 + 2 * k + 1, 0) ∧ hS (fileG v l R) (6 + 2 * k, 0) = (x.b.length, 6 + 2 * (k + 1), 0) := by
  have hL := hM.2.2.1
  have hm := List.mem_of_getElem? hx
  have hk : k < l.length := (List.getElem?_eq_some_iff.1 hx).1
  have hodd : ¬ odd x := fun h => hM.2.2.2 ⟨x, hm, h⟩
  unfold odd at hodd
  have h1 := h100 x hm
  have hp : (startB v l ++ headB (l.take k)).length = 6 + 2 * k := by
    rw [List.length_append, startB_len v l (by omega), headB_len _ (fun y hy => h100 y (List.mem_of_mem_take hy)), List.length_take, Nat.min_eq_left (by omega)]
  have e0 : fileG v l R = (startB v l ++ headB (l.take k)) ++ (headX x ++ (headB (l.drop (k + 1)) ++ R)) := by
    unfold fileG
    rw [headB_split hx]
    simp [List.append_assoc]
  have e : (fileG v l R).drop (6 + 2 * k) = headX x ++ (headB (l.drop (k + 1)) ++ R) := by rw [e0, ← hp, List.drop_left]
  have e1 : (fileG v l R).drop (6 + 2 * k) = fixedB x.k.toNat 1 ++ (shortB x.b.length ++ (headB (l.drop (k + 1)) ++ R)) := by
    rw [e, fixedB_one]; unfold headX; simp
  have e2 : (fileG v l R).drop (6 + 2 * k + 1) = shortB x.b.length ++ (headB (l.drop (k + 1)) ++ R) := by
    rw [← List.drop_drop, e1, fixedB_one]; rfl
  have hat : 6 + 2 * k ≤ (fileG v l R).length := by rw [fileG_len hM h100]; omega
  have r1 : hF (fileG v l R) (6 + 2 * k, 0) = (x.k.toNat, 6 + 2 * k + 1, 0) := by
    unfold hF
    dsimp only
    rw [rFixed_w e1 hat, Nat.mod_eq_of_lt (by omega)]
  refine ⟨r1, ?_⟩
  unfold hS
  rw [r1]
  dsimp only
  rw [rShort_w e2 (by omega), shortB_one (by omega)]
  rfl
theorem fileG_st : ∀ k, k ≤ l.length → hSt (fileG v l R) k = (6 + 2 * k, 0) := by
  intro k
  induction k with
  | zero => intro _; show (hCnt (fileG v l R)).2 = _; rw [fileG_cnt hM h100]
  | succ k ih =>
    intro hk
    obtain ⟨x, hx⟩ : ∃ x, l[k]? = some x := ⟨_, List.getElem?_eq_getElem (by omega)⟩
    have h1 := h100 x (List.mem_of_getElem? hx)
    show hNext (fileG v l R) (hSt (fileG v l R) k) = _
    rw [ih (by omega)]
    unfold hNext
    rw [(fileG_step hM h100 hx).2]
    dsimp only
    rw [if_neg (by omega)]
theorem fileG_kind {k : Nat} {x : SecV} (hx : l[k]? = some x) : hKind (fileG v l R) k = x.k.toNat ∧ hSize (fileG v l R) k = x.b.length := by
  have hk : k < l.length := (List.getElem?_eq_some_iff.1 hx).1
  unfold hKind hSize
  rw [fileG_st hM h100 k (by omega), (fileG_step hM h100 hx).1, (fileG_step hM h100 hx).2]
  exact ⟨rfl, rfl⟩
/-- the bytes of the bodies ahead of one are read -/
theorem fileG_bst {n : Nat} {Q : List UInt8} (hR : R = bodyB (l.take n) ++ Q) : ∀ k, k ≤ n → k ≤ l.length → bSt (fileG v l R) k = (stB l k, 0) := by
  intro k
  induction k with
  | zero =>
    intro _ _
    show hSt (fileG v l R) (hCnt (fileG v l R)).1 = _
    rw [fileG_cnt hM h100]
    dsimp only
    rw [fileG_st hM h100 _ (Nat.le_refl _)]
    simp [stB, bodyB]
  | succ k ih =>
    intro hn hk
    obtain ⟨x, hx⟩ : ∃ x, l[k]? = some x := ⟨_, List.getElem?_eq_getElem (by omega)⟩
    have hL := hM.2.2.1
    have h1 := h100 x (List.mem_of_getElem? hx)
    have hp : (startB v l ++ headB l ++ bodyB (l.take k)).length = stB l k := by
      unfold stB
      rw [List.length_append, List.length_append, startB_len v l (by omega), headB_len _ h100]
    have hx' : (l.take n)[k]? = some x := by rw [List.getElem?_take, if_pos (by omega)]; exact hx
    have e0 : fileG v l R = (startB v l ++ headB l ++ bodyB (l.take k)) ++ (sealL x.b ++ (bodyB ((l.take n).drop (k + 1)) ++ Q)) := by
      unfold fileG
      rw [hR, bodyB_split hx', List.take_take, Nat.min_eq_left (by omega)]
      simp [List.append_assoc]
    have e : (fileG v l R).drop (stB l k) = sealL x.b ++ (bodyB ((l.take n).drop (k + 1)) ++ Q) := by
      rw [e0, ← hp, List.drop_left]
    have hat : stB l k ≤ (fileG v l R).length := by
      have h := congrArg List.length e0
      rw [List.length_append] at h; omega
    have hw : RowKit.wrap64 ((x.b.length : Int) + 4) = ((sealL x.b).length : Int) := by
      rw [sealL_length, IntWalk.wrap64_in _ ⟨by omega, by omega⟩]; omega
    show bNext (fileG v l R) (bSt (fileG v l R) k) (hSize (fileG v l R) k) = _
    rw [ih (by omega) (by omega), (fileG_kind hM h100 hx).2]
    unfold bNext bRaw
    rw [hw]
    dsimp only
    rw [rRaw_w e hat]
    dsimp only
    rw [(openE_seal x.b).1, if_pos rfl, sealL_length, stB_succ hx]
    congr 1
/-- a body of which some bits are turned -/
theorem fileG_turn {n q k : Nat} {x : SecV} {y : List UInt8} (hx : l[n]? = some x) (hk : k ≤ y.length) (h4 : k ≤ 4) (hq : q + k ≤ x.b.length) (hs : some0 y k = true)
    (hR : R = bodyB (l.take n) ++ (turn (sealL x.b) q k y ++ bodyB (l.drop (n + 1)))) : bEnd (fileG v l R) = 4 := by
  have hn : n < l.length := (List.getElem?_eq_some_iff.1 hx).1
  have hL := hM.2.2.1
  have h1 := h100 x (List.mem_of_getElem? hx)
  have hp : (startB v l ++ headB l ++ bodyB (l.take n)).length = stB l n := by
    unfold stB
    rw [List.length_append, List.length_append, startB_len v l (by omega), headB_len _ h100]
  have e0 : fileG v l R = (startB v l ++ headB l ++ bodyB (l.take n)) ++ (turn (sealL x.b) q k y ++ bodyB (l.drop (n + 1))) := by
    unfold fileG
    rw [hR]
    simp [List.append_assoc]
  have e : (fileG v l R).drop (stB l n) = turn (sealL x.b) q k y ++ bodyB (l.drop (n + 1)) := by
    rw [e0, ← hp, List.drop_left]
  have hat : stB l n ≤ (fileG v l R).length := by
    have h := congrArg List.length e0
    rw [List.length_append] at h; omega
  have htl : (turn (sealL x.b) q k y).length = x.b.length + 4 := by rw [turn_length (by rw [sealL_length]; omega) hk, sealL_length]
  have hw : RowKit.wrap64 ((x.b.length : Int) + 4) = ((turn (sealL x.b) q k y).length : Int) := by
    rw [htl, IntWalk.wrap64_in _ ⟨by omega, by omega⟩]; omega
  have hne : (bSt (fileG v l R) (n + 1)).2 = 4 := by
    show (bNext (fileG v l R) (bSt (fileG v l R) n) (hSize (fileG v l R) n)).2 = 4
    rw [fileG_bst hM h100 hR n (Nat.le_refl _) (by omega), (fileG_kind hM h100 hx).2]
    unfold bNext bRaw
    rw [hw]
    dsimp only
    rw [rRaw_w e hat]
    dsimp only
    rw [(turn_open hk h4 (.inl hq) hs).1]
    rfl
  have hend := bSt_err _ hne (by omega) (l.length - (n + 1))
  rw [show n + 1 + (l.length - (n + 1)) = l.length by omega] at hend
  unfold bEnd
  rw [fileG_cnt hM h100]
  dsimp only
  rw [hend, if_neg (by omega)]
end
/-- bits of a part are turned -/
theorem turn_mid {P S Q : List UInt8} {q k : Nat} {y : List UInt8} (h : q + k ≤ S.length) (hk : k ≤ y.length) : turn (P ++ (S ++ Q)) (P.length + q) k y = P ++ (turn S q k y ++ Q) := by
  apply List.ext_getElem?
  intro j
  rw [turn_get (by simp; omega) hk]
  by_cases hj : j < P.length
  · rw [List.getElem?_append_left hj, List.getElem?_append_left hj]
    cases P[j]? with
    | none => rfl
    | some c =>
      simp only [Option.map_some]
      rw [if_neg (by omega)]
      simp
  · rw [List.getElem?_append_right (l₁ := P) (l₂ := S ++ Q) (by omega), List.getElem?_append_right (l₁ := P) (l₂ := turn S q k y ++ Q) (by omega)]
    obtain ⟨i, rfl⟩ : ∃ i, j = P.length + i := ⟨j - P.length, by omega⟩
    rw [show P.length + i - P.length = i by omega]
    by_cases hi : i < S.length
    · rw [List.getElem?_append_left (l₁ := S) hi, List.getElem?_append_left (l₁ := turn S q k y) (by rw [turn_length h hk]; exact hi), turn_get h hk]
      cases S[i]? with
      | none => rfl
      | some c =>
        simp only [Option.map_some]
        rw [show P.length + i - (P.length + q) = i - q by omega]
        congr 2
        by_cases h2 : q ≤ i ∧ i < q + k
        · rw [if_pos h2, if_pos (by omega)]
        · rw [if_neg h2, if_neg (by omega)]
    · rw [List.getElem?_append_right (l₁ := S) (by omega), List.getElem?_append_right (l₁ := turn S q k y) (by rw [turn_length h hk]; omega), turn_length h hk]
      cases Q[i - S.length]? with
      | none => rfl
      | some c =>
        simp only [Option.map_some]
        rw [if_neg (by omega)]
        simp
/-- a file of which a body is turned, and sealed anew, is refused -/
theorem file_turned {v : Int} {l : List SecV} (hM : May v l) (h100 : ∀ x ∈ l, x.b.length ≤ 100) {n p k : Nat} {x : SecV} {y : List UInt8} (hx : l[n]? = some x) (hk : k ≤ y.length) (h4 : k ≤ 4) (hp : stB l n ≤ p) (hq : p + k ≤ stB l n + x.b.length) (hs : some0 y k = true) :
    fileE (sealL (turn (fileH v l) p k y)) = 4 := by
  have hL := hM.2.2.1
  have hpl : (startB v l ++ headB l ++ bodyB (l.take n)).length = stB l n := by
    unfold stB
    rw [List.length_append, List.length_append, startB_len v l (by omega), headB_len _ h100]
  have e0 : fileH v l = (startB v l ++ headB l ++ bodyB (l.take n)) ++ (sealL x.b ++ bodyB (l.drop (n + 1))) := by
    unfold fileH
    rw [bodyB_split hx]
    simp [List.append_assoc]
  have e1 : turn (fileH v l) p k y = fileG v l (bodyB (l.take n) ++ (turn (sealL x.b) (p - stB l n) k y ++ bodyB (l.drop (n + 1)))) := by
    have h := turn_mid (P := startB v l ++ headB l ++ bodyB (l.take n)) (S := sealL x.b) (Q := bodyB (l.drop (n + 1))) (q := p - stB l n) (k := k) (y := y) (by rw [sealL_length]; omega) hk
    rw [hpl, show stB l n + (p - stB l n) = p by omega, ← e0] at h
    rw [h]
    unfold fileG
    simp [List.append_assoc]
  unfold fileE
  rw [if_neg (by simp [(openE_seal (turn (fileH v l) p k y)).1]), (openE_seal (turn (fileH v l) p k y)).2, e1]
  exact fileG_turn hM h100 hx hk h4 (by omega) hs rfl
end
end Go.Proofs.Ytnkbkhlbogcfaaa
