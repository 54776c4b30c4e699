/- A file that was written is read: plain laws. -/
import Derived.Test.YtnkbkhlbogcfaaaRd
import Derived.Test.YtnkbkhlbogcfaaaRq
import Derived.Test.YtnkbkhlbogcfaaaSc
set_option linter.unusedVariables false
set_option linter.unusedSimpArgs false
set_option linter.unusedSectionVars false
namespace Go.Proofs.Ytnkbkhlbogcfaaa
open Go.RowKit
noncomputable section

theorem fixedB_one (v : Nat) : fixedB v 1 = [UInt8.ofNat v] := by simp [fixedB]
theorem headB_split {l : List SecV} {k : Nat} {x : SecV} (h : l[k]? = some x) : headB l = headB (l.take k) ++ headX x ++ headB (l.drop (k + 1)) := by
  have e : l = l.take k ++ x :: l.drop (k + 1) := by
    obtain ⟨hk, hx⟩ := List.getElem?_eq_some_iff.1 h
    rw [← hx, ← List.drop_eq_getElem_cons hk, List.take_append_drop]
  conv => lhs; rw [e]
  unfold headB
  simp [List.flatMap_append]
theorem bodyB_split {l : List SecV} {k : Nat} {x : SecV} (h : l[k]? = some x) : bodyB l = bodyB (l.take k) ++ sealL x.b ++ bodyB (l.drop (k + 1)) := by
  have e : l = l.take k ++ x :: l.drop (k + 1) := by
    obtain ⟨hk, hx⟩ := List.getElem?_eq_some_iff.1 h
    rw [← hx, ← List.drop_eq_getElem_cons hk, List.take_append_drop]
  conv => lhs; rw [e]
  unfold bodyB
  simp [List.flatMap_append]

section
variable {v : Int} {l : List SecV} (hM : May v l) (h100 : ∀ x ∈ l, x.b.length ≤ 100)
include hM h100
theorem file_hd0 : hd0 (fileH v l) = (4, 0) := by
  have e : (fileH v l).drop 0 = [72, 73, 66, 82] ++ ([UInt8.ofNat v.toNat] ++ shortB l.length ++ headB l ++ bodyB l) := by
    unfold fileH startB; simp [List.append_assoc]
  have h := rRaw_w (at_ := 0) e (by omega)
  have h' : rRaw (fileH v l) 4 0 0 = ([72, 73, 66, 82], 0 + 4, 0) := h
  unfold hd0
  rw [h']
  rfl
theorem file_ver : hVer (fileH v l) = (v.toNat, 5, 0) := by
  have e : (fileH v l).drop 4 = fixedB v.toNat 1 ++ (shortB l.length ++ headB l ++ bodyB l) := by
    rw [fixedB_one]
    unfold fileH startB; simp [List.append_assoc]
  have hl : 4 ≤ (fileH v l).length := by unfold fileH startB; simp
  have h := rFixed_w (at_ := 4) e hl
  unfold hVer
  rw [file_hd0 hM h100, h]
  have := hM.1
  have := hM.2.1
  rw [Nat.mod_eq_of_lt (by omega)]
theorem file_len : (fileH v l).length = 6 + 2 * l.length + (bodyB l).length := by
  have := hM.2.2.1
  unfold fileH
  rw [List.length_append, List.length_append, startB_len v l (by omega), headB_len l h100]
theorem file_cnt : hCnt (fileH v l) = (l.length, 6, 0) := by
  have hL := hM.2.2.1
  have e : (fileH v l).drop 5 = shortB l.length ++ (headB l ++ bodyB l) := by
    unfold fileH startB; simp [List.append_assoc]
  have h := rShort_w (at_ := 5) e (by omega)
  rw [shortB_one (by omega)] at h
  have hl := file_len hM h100
  unfold hCnt rList
  rw [file_ver hM h100]
  dsimp only
  rw [h]
  dsimp only
  rw [if_neg (by omega), if_neg (by omega), if_neg (by simp; omega)]
  rfl
theorem file_step {k : Nat} {x : SecV} (hx : l[k]? = some x) : hF (fileH v l) (6 + 2 * k, 0) = (x.k.toNat, 6 + 2 * k + 1, 0) ∧ hS (fileH v l) (6 + 2 * k, 0) = (x.b.length, 6 + 2 * (k + 1), 0) := by
  have hL := hM.2.2.1
  have hm := List.mem_of_getElem? hx
  have hk : k < l.length := (List.getElem?_eq_some_iff.1 hx).1
  have hodd : ¬ odd x := fun h => hM.2.2.2 ⟨x, hm, h⟩
  unfold odd at hodd
  have h1 := h100 x hm
  have hp : (startB v l ++ headB (l.take k)).length = 6 + 2 * k := by
    rw [List.length_append, startB_len v l (by omega), headB_len _ (fun y hy => h100 y (List.mem_of_mem_take hy)), List.length_take, Nat.min_eq_left (by omega)]
  have e0 : fileH v l = (startB v l ++ headB (l.take k)) ++ (headX x ++ (headB (l.drop (k + 1)) ++ bodyB l)) := by
    unfold fileH
    rw [headB_split hx]
    simp [List.append_assoc]
  have e : (fileH v l).drop (6 + 2 * k) = headX x ++ (headB (l.drop (k + 1)) ++ bodyB l) := by rw [e0, ← hp, List.drop_left]
  have e1 : (fileH v l).drop (6 + 2 * k) = fixedB x.k.toNat 1 ++ (shortB x.b.length ++ (headB (l.drop (k + 1)) ++ bodyB l)) := by
    rw [e, fixedB_one]; unfold headX; simp
  have e2 : (fileH v l).drop (6 + 2 * k + 1) = shortB x.b.length ++ (headB (l.drop (k + 1)) ++ bodyB l) := by
    rw [← List.drop_drop, e1, fixedB_one]; rfl
  have hat : 6 + 2 * k ≤ (fileH v l).length := by rw [file_len hM h100]; omega
  have r1 : hF (fileH v l) (6 + 2 * k, 0) = (x.k.toNat, 6 + 2 * k + 1, 0) := by
    unfold hF
    dsimp only
    rw [rFixed_w e1 hat, Nat.mod_eq_of_lt (by omega)]
  refine ⟨r1, ?_⟩
  unfold hS
  rw [r1]
  dsimp only
  rw [rShort_w e2 (by omega), shortB_one (by omega)]
  rfl
theorem file_st : ∀ k, k ≤ l.length → hSt (fileH v l) k = (6 + 2 * k, 0) := by
  intro k
  induction k with
  | zero => intro _; show (hCnt (fileH v l)).2 = _; rw [file_cnt hM h100]
  | succ k ih =>
    intro hk
    obtain ⟨x, hx⟩ : ∃ x, l[k]? = some x := ⟨_, List.getElem?_eq_getElem (by omega)⟩
    have h1 := h100 x (List.mem_of_getElem? hx)
    show hNext (fileH v l) (hSt (fileH v l) k) = _
    rw [ih (by omega)]
    unfold hNext
    rw [(file_step hM h100 hx).2]
    dsimp only
    rw [if_neg (by omega)]
theorem file_kind {k : Nat} {x : SecV} (hx : l[k]? = some x) : hKind (fileH v l) k = x.k.toNat ∧ hSize (fileH v l) k = x.b.length := by
  have hk : k < l.length := (List.getElem?_eq_some_iff.1 hx).1
  unfold hKind hSize
  rw [file_st hM h100 k (by omega), (file_step hM h100 hx).1, (file_step hM h100 hx).2]
  exact ⟨rfl, rfl⟩
theorem file_bstep {k : Nat} {x : SecV} (hx : l[k]? = some x) : bRaw (fileH v l) (6 + 2 * l.length + (bodyB (l.take k)).length, 0) x.b.length = (sealL x.b, 6 + 2 * l.length + (bodyB (l.take (k + 1))).length, 0) := by
  have hL := hM.2.2.1
  have hm := List.mem_of_getElem? hx
  have h1 := h100 x hm
  have hp : (startB v l ++ headB l ++ bodyB (l.take k)).length = 6 + 2 * l.length + (bodyB (l.take k)).length := by
    rw [List.length_append, List.length_append, startB_len v l (by omega), headB_len _ h100]
  have e0 : fileH v l = (startB v l ++ headB l ++ bodyB (l.take k)) ++ (sealL x.b ++ bodyB (l.drop (k + 1))) := by
    unfold fileH
    rw [bodyB_split hx]
    simp [List.append_assoc]
  have e : (fileH v l).drop (6 + 2 * l.length + (bodyB (l.take k)).length) = sealL x.b ++ bodyB (l.drop (k + 1)) := by
    rw [e0, ← hp, List.drop_left]
  have hat : 6 + 2 * l.length + (bodyB (l.take k)).length ≤ (fileH v l).length := by
    have h := congrArg List.length e0
    rw [List.length_append] at h; omega
  unfold bRaw
  have hw : RowKit.wrap64 ((x.b.length : Int) + 4) = ((sealL x.b).length : Int) := by
    rw [sealL_length, IntWalk.wrap64_in _ ⟨by omega, by omega⟩]; omega
  rw [hw]
  dsimp only
  rw [rRaw_w e hat, bodyB_succ hx, List.length_append, Nat.add_assoc]
theorem file_bst : ∀ k, k ≤ l.length → bSt (fileH v l) k = (6 + 2 * l.length + (bodyB (l.take k)).length, 0) := by
  intro k
  induction k with
  | zero =>
    intro _
    show hSt (fileH v l) (hCnt (fileH v l)).1 = _
    rw [file_cnt hM h100]
    dsimp only
    rw [file_st hM h100 _ (Nat.le_refl _)]
    simp [bodyB]
  | succ k ih =>
    intro hk
    obtain ⟨x, hx⟩ : ∃ x, l[k]? = some x := ⟨_, List.getElem?_eq_getElem (by omega)⟩
    show bNext (fileH v l) (bSt (fileH v l) k) (hSize (fileH v l) k) = _
    rw [ih (by omega), (file_kind hM h100 hx).2]
    unfold bNext
    rw [file_bstep hM h100 hx]
    dsimp only
    rw [(openE_seal x.b).1, if_pos rfl]
theorem file_body {k : Nat} {x : SecV} (hx : l[k]? = some x) : bBody (fileH v l) k = x.b := by
  have hk : k < l.length := (List.getElem?_eq_some_iff.1 hx).1
  unfold bBody
  rw [file_bst hM h100 k (by omega), (file_kind hM h100 hx).2, file_bstep hM h100 hx]
  exact (openE_seal x.b).2
theorem file_end : bEnd (fileH v l) = 0 := by
  unfold bEnd
  rw [file_cnt hM h100]
  dsimp only
  rw [file_bst hM h100 _ (Nat.le_refl _), List.take_length, file_len hM h100]
  dsimp only
  rw [if_neg (by omega)]
/-- a file that was written is read without an error -/
theorem file_ok : fileE (fileB v l) = 0 ∧ openB (fileB v l) = fileH v l := by
  have h1 := openE_seal (fileH v l)
  have e : openB (fileB v l) = fileH v l := h1.2
  refine ⟨?_, e⟩
  unfold fileE
  rw [if_neg (by unfold fileB; simp [h1.1]), e, file_end hM h100]
end
end
end Go.Proofs.Ytnkbkhlbogcfaaa
