/- SectionSizes: the walk. -/
import Derived.Test.YtnkbkhlbogcfaaaSc
set_option linter.unusedVariables false
set_option linter.unusedSimpArgs false
namespace Go.Proofs.Ytnkbkhlbogcfaaa
open Go.RowKit Go.Proofs.YtnkbkhlbogcfaaaW.PrintWords
noncomputable section

theorem rb_new6 (w : World) (v0 v1 v2 v3 v4 v5 : Int) (ys : List UInt8) (h : bv ys = [v0, v1, v2, v3, v4, v5]) : RB (w.alloc (.cells #[.int .u8 v0, .int .u8 v1, .int .u8 v2, .int .u8 v3, .int .u8 v4, .int .u8 v5] 5)) (some ⟨w.heap.size, 0, none⟩) ys := by
  have hl : ys.length = 6 := by rw [← bv_length, h]; rfl
  refine rb_block (heap_alloc_new w _) (by omega) fun j x hx => ?_
  have hj : j < 6 := by have := (List.getElem?_eq_some_iff.1 hx).1; omega
  have e : (bv ys)[j]? = some (x.toNat : Int) := by simp [bv, hx]
  rw [h] at e
  match j, hj with
  | 0, _ => simp at e; subst e; rfl
  | 1, _ => simp at e; subst e; rfl
  | 2, _ => simp at e; subst e; rfl
  | 3, _ => simp at e; subst e; rfl
  | 4, _ => simp at e; subst e; rfl
  | 5, _ => simp at e; subst e; rfl
theorem fileB_nil : fileB 3 [] = sealL [72, 73, 66, 82, 3, 0] := by
  unfold fileB fileH startB headB bodyB
  rw [shortB_one (by simp)]
  rfl

set_option maxHeartbeats 2000000 in
set_option maxRecDepth 100000 in
theorem lives16_any {w0 w : World} (hb : Below w0.heap.size w0 w) : Calls Try.prog 53 #[] w fun e w' => e = .returned (.bool true) ∧ Below w0.heap.size w0 w' := by
  have HB := Lib.hid hb
  have HW := write_any 3 [] none 0 0 w rfl (SE.nil w none) ⟨by omega, by omega, by simp, by simp⟩ (by simp)
  rw [fileB_nil] at HW
  have HW := Lib.hid HW
  clear hb
  go_enter Try.func53, Try.ntmps53
  go_wp2_with fail
  refine HW.out.mono ?_
  rintro e w1 ⟨A1, n, c1, rfl, hn, ho1, hb1⟩
  have hn10 : n = 10 := by have := ho1.len; rw [sealL_length] at this; simpa using this.symm
  subst hn10
  have hc := ho1.cap
  have cI : (10 : Int) ≤ (c1 : Int) := by omega
  have H1 := Lib.hid (And.intro ho1 (HB.out.trans (hb1.mono HB.out.size)))
  clear ho1 hb1 hc
  go_wp2_with fail
  refine (same_any [72, 73, 66, 82, 3, 0] [72, 73, 66, 82, 3, 0] _ _ 6 6 _ _ _ rfl rfl ?_ ?_ (by omega)).mono ?_
  · have h := (H1.out.1.rb.below (below_alloc (Below.refl w1.heap.size w1) (.cells #[.int .u8 72, .int .u8 73, .int .u8 66, .int .u8 82, .int .u8 3, .int .u8 0] 5))).take 6 (by rw [sealL_length]; simp)
    exact h
  · exact rb_new6 w1 _ _ _ _ _ _ _ rfl
  rintro e w2 ⟨rfl, hb2⟩
  have hb2' := (below_alloc (Below.refl w1.heap.size w1) (.cells #[.int .u8 72, .int .u8 73, .int .u8 66, .int .u8 82, .int .u8 3, .int .u8 0] 5)).trans (hb2.mono (by simp))
  have H2 := Lib.hid (H1.out.2.trans (hb2'.mono H1.out.2.size))
  clear hb2 hb2'
  simp only [decide_true]
  go_wp2
  go_ret
  exact ⟨rfl, H2.out⟩

/-- how many bytes sections have in a file -/
def sizeB (l : List SecV) : Nat := (l.map fun x => 6 + x.b.length).sum
theorem sizeB_succ {l : List SecV} {k : Nat} {x : SecV} (h : l[k]? = some x) : sizeB (l.take (k + 1)) = sizeB (l.take k) + (6 + x.b.length) := by
  unfold sizeB; rw [List.take_add_one, h]; simp
theorem fileB_length (v : Int) (l : List SecV) (h16 : l.length ≤ 16) (h : ∀ x ∈ l, x.b.length ≤ 100) : (fileB v l).length = 10 + sizeB l := by
  unfold fileB fileH
  rw [sealL_length, List.length_append, List.length_append, startB_len v l (by omega), headB_len l h]
  have : 2 * l.length + (bodyB l).length = sizeB l := by
    clear h16
    unfold bodyB sizeB
    induction l with
    | nil => rfl
    | cons x r ih =>
      have := ih (fun y hy => h y (by simp [hy]))
      rw [List.flatMap_cons, List.length_append, sealL_length, List.map_cons, List.sum_cons]
      simp only [List.length_cons]; omega
  omega
theorem goodL_100 (all : Bool) (l : List SecV) : ∀ x ∈ goodL all l, x.b.length ≤ 100 := by
  intro x hx
  obtain ⟨y, _, rfl⟩ := List.mem_map.1 hx
  simp only [goodX, few_length]; omega
theorem goodL_may (v : Nat) (hv : v < 256) (l : List SecV) : May v (goodL false l) := by
  refine ⟨by omega, by omega, by simp [goodL]; omega, ?_⟩
  rintro ⟨x, hx, ho⟩
  have h100 := goodL_100 false l x hx
  obtain ⟨y, _, rfl⟩ := List.mem_map.1 hx
  have := arN_lt y.k (m := 256) (by omega)
  rcases ho with h | h | h
  · simp [goodX] at h; omega
  · simp [goodX] at h; omega
  · omega

set_option maxHeartbeats 4000000 in
set_option maxRecDepth 100000 in
theorem sectionSizes_row {w : World} (z : Int) (wz : (Lit.int .i64 z).wf = true) (A : Option Addr) (l : List SecV) (c : Nat) (hS : SE w A l) (hc : l.length ≤ c) :
    Calls Try.prog 13 #[.int .i64 z, .slice A l.length c] w fun e w' => e = .returned (.bool true) ∧ Below w.heap.size w w' := by
  obtain ⟨z1, z2⟩ := bounds_i64 wz
  have HG := Lib.hid (good_false l A l.length c w rfl hS)
  obtain ⟨L, hL⟩ : ∃ L, L = l.length := ⟨_, rfl⟩
  rw [← hL] at HG ⊢
  have v256 := arN_lt z (m := 256) (by omega)
  obtain ⟨v, hv⟩ : ∃ v, v = arN z 256 := ⟨_, rfl⟩
  have KA := Lib.hid (fun (wx : World) => around_any z 256 (by omega) (by omega) (by omega) (by omega) wx)
  rw [← hv] at KA v256
  have HM := Lib.hid (goodL_may v v256 l)
  have H100 := Lib.hid (goodL_100 false l)
  have v0 : (0 : Int) ≤ (v : Int) := by omega
  clear hL hS hc wz hv
  go_enter Try.func13, Try.ntmps13
  go_wp2_with fail
  refine HG.out.mono ?_
  rintro e w1 ⟨A1, n, c1, rfl, hn, ho1, hs1, hb1⟩
  obtain ⟨gl, hgl⟩ : ∃ gl, gl = goodL false l := ⟨_, rfl⟩
  rw [← hgl] at ho1 hs1 HM H100
  have hlen := ho1.len
  have HF := Lib.hid (fileB_length v gl (by omega) H100.out)
  have H1 := Lib.hid (And.intro hs1 (And.intro hb1 hlen))
  have H0 := Lib.hid ho1
  clear ho1 hs1 hb1 hgl hlen
  go_wp2_with fail
  refine (KA.out _).mono ?_
  rintro e w1' ⟨rfl, rfl⟩
  go_wp2_with fail
  refine (write_any v gl A1 n c1 _ H1.out.2.2 H1.out.1 HM.out H100.out).mono ?_
  rintro e w2 ⟨A2, N, c2, rfl, hN, ho2, hb2⟩
  have hNl := ho2.len
  rw [HF.out] at hNl
  have H2 := Lib.hid (And.intro (H1.out.1.below hb2) (H1.out.2.1.trans (hb2.mono H1.out.2.1.size)))
  have HNl := Lib.hid hNl
  clear ho2 hb2 hNl
  go_wp2_with fail
  go_loopw [8, 9] (fun s i wr => ∃ k : Nat, k ≤ n ∧ i = .int .i64 k ∧ s = .int .i64 ((10 + sizeB (gl.take k) : Nat) : Int) ∧ wr = w2) (fun _ i _ => n - (intOf i).toNat)
  case atStart => exact ⟨0, by omega, rfl, rfl, rfl⟩
  case round =>
    obtain ⟨k, hk, rfl, rfl, rfl⟩ := hrel
    have k0 : (0 : Int) ≤ (k : Int) := by omega
    by_cases hlt : k < n
    · have j1 : (k : Int) < (n : Int) := by omega
      obtain ⟨x, hx⟩ : ∃ x, gl[k]? = some x := ⟨_, List.getElem?_eq_getElem (by have := H1.out.2.2; omega)⟩
      obtain ⟨ad, had, q0, q1⟩ := H2.out.1.2.2 k _ hx
      subst had
      have HX := Lib.hid (sizeB_succ hx)
      have hx1 := H100.out x (List.mem_of_getElem? hx)
      obtain ⟨m, hm⟩ : ∃ m, m = x.b.length := ⟨_, rfl⟩
      rw [← hm] at q1 HX hx1
      obtain ⟨s, hs⟩ : ∃ s, s = 10 + sizeB (gl.take k) := ⟨_, rfl⟩
      have hsb : s ≤ 10000 := by
        have : sizeB (gl.take k) ≤ 106 * k := by
          clear hs HX hx hm j1 k0 q0 q1 hx1
          clear HNl HF
          induction k with
          | zero => simp [sizeB]
          | succ k ih =>
            have hkl : k < gl.length := by have := H1.out.2.2; omega
            rw [sizeB_succ (List.getElem?_eq_getElem hkl)]
            have := ih (by omega) (by omega)
            have := H100.out _ (List.getElem_mem hkl)
            omega
        omega
      rw [← hs]
      have HSs := Lib.hid hs
      clear hx hs hm
      go_wp2
      go_roundw
      case rel => exact ⟨k + 1, by omega, by go_num, by rw [HX.out, ← Nat.add_assoc, ← HSs.out]; congr 1; omega, trivial⟩
      case measure => simp [intOf]; omega
    · obtain rfl : k = n := by omega
      rw [List.take_of_length_le (by have := H1.out.2.2; omega)]
      rw [HNl.out]
      go_wp2_with fail
      refine (lives16_any H2.out.2).mono ?_
      rintro e w3 ⟨rfl, hb3⟩
      have H3 := Lib.hid hb3
      clear hb3
      go_wp2
      go_ret
      exact ⟨rfl, H3.out⟩
end
end Go.Proofs.Ytnkbkhlbogcfaaa
