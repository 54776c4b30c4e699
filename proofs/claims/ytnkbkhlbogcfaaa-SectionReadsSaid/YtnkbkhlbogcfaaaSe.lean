/- Sections in memory. -/
import Derived.Test.YtnkbkhlbogcfaaaI
import Derived.Test.YtnkbkhlbogcfaaaN
import Derived.Test.YtnkbkhlbogcfaaaL5
set_option linter.unusedVariables false
set_option linter.unusedSimpArgs false
namespace Go.Proofs.Ytnkbkhlbogcfaaa
open Go.RowKit Go.Proofs.YtnkbkhlbogcfaaaW.PrintWords
noncomputable section

/-- a section: its kind, its bytes, and where these lie -/
structure SecV where
  k : Int
  A : Option Addr
  c : Nat
  b : List UInt8
def SecV.ok (x : SecV) : Prop := (-9223372036854775808 ≤ x.k ∧ x.k ≤ 9223372036854775807) ∧ x.b.length ≤ x.c ∧ True
/-- a slice reads as sections -/
def SE (w : World) (A : Option Addr) (l : List SecV) : Prop :=
  (l.length : Int) ≤ 9223372036854775807 ∧ (∀ x ∈ l, x.ok ∧ RB w x.A x.b) ∧ ∀ (i : Nat) (x : SecV), l[i]? = some x → ∃ ad, A = some ad ∧ w.cell? (ad.add (i * 2)) = some (.int .i64 x.k) ∧
    w.cell? ⟨(ad.add (i * 2)).block, (ad.add (i * 2)).off + 1, none⟩ = some (.slice x.A x.b.length x.c)
theorem SE.below {w w1 : World} {A : Option Addr} {l : List SecV} (h : SE w A l) (hb : Below w.heap.size w w1) : SE w1 A l := by
  refine ⟨h.1, fun x hx => ⟨(h.2.1 x hx).1, (h.2.1 x hx).2.below hb⟩, fun i x hx => ?_⟩
  obtain ⟨ad, e, h0, h1⟩ := h.2.2 i x hx
  exact ⟨ad, e, cell_below h0 hb, cell_below h1 hb⟩
theorem SE.nil (w : World) (A : Option Addr) : SE w A [] := ⟨by simp, by simp, by simp⟩

/-- what Around makes of a number -/
def arN (n : Int) (m : Nat) : Nat := (if n < 0 then -(n + 1) else n).toNat % m
theorem arN_lt (n : Int) {m : Nat} (h : 0 < m) : arN n m < m := Nat.mod_lt _ h

set_option maxHeartbeats 1000000 in
set_option maxRecDepth 100000 in
theorem around_any (z : Int) (m : Nat) (hm : 0 < m) (hm2 : (m : Int) ≤ 9223372036854775807) (hz1 : -9223372036854775808 ≤ z) (hz2 : z ≤ 9223372036854775807) (w : World) :
    Calls Try.prog 52 #[.int .i64 z, .int .i64 m] w fun e w' => e = .returned (.int .i64 (arN z m)) ∧ w' = w := by
  have m0 : (0 : Int) < (m : Int) := by omega
  have mne : (m : Int) ≠ 0 := by omega
  by_cases hneg : z < 0
  · obtain ⟨y, hy⟩ : ∃ y : Nat, (y : Int) = -(z + 1) := ⟨(-(z + 1)).toNat, by omega⟩
    have e1 : (arN z m : Int) = ((y % m : Nat) : Int) := by unfold arN; rw [if_pos hneg, ← hy, Int.toNat_natCast]
    have yle : (y : Int) ≤ 9223372036854775807 := by omega
    rw [e1]
    have hzy : z = -((y : Int) + 1) := by omega
    subst hzy
    have e2 : -(-((y : Int) + 1) + 1) = (y : Int) := by omega
    have e3 : -((y : Int) + 1) + 1 = -(y : Int) := by omega
    have y0 : (0 : Int) ≤ (y : Int) := by omega
    have hmd : ((y % m : Nat) : Int) = (y : Int) % (m : Int) := by omega
    rw [hmd]
    have hml : (y : Int) % (m : Int) ≤ 9223372036854775807 := by have := Int.emod_lt_of_pos (y : Int) m0; omega
    have hm00 : 0 ≤ (y : Int) % (m : Int) := Int.emod_nonneg _ mne
    clear e1 hy hmd
    go_enter Try.func52, Try.ntmps52
    go_wp2
    go_ret
    exact ⟨rfl, rfl⟩
  · obtain ⟨y, rfl⟩ : ∃ y : Nat, z = (y : Int) := ⟨z.toNat, by omega⟩
    have e1 : (arN y m : Int) = ((y % m : Nat) : Int) := by unfold arN; rw [if_neg hneg, Int.toNat_natCast]
    have hmd : ((y % m : Nat) : Int) = (y : Int) % (m : Int) := by omega
    rw [e1, hmd]
    have y0 : (0 : Int) ≤ (y : Int) := by omega
    clear e1 hneg hmd
    go_enter Try.func52, Try.ntmps52
    go_wp2
    go_ret
    exact ⟨rfl, rfl⟩

theorem Try.info68 : (Try.prog.info? 68).map (fun i => (i.zero, i.size, i.bytes)) = some (some (.agg #[.int .i64 0, .slice none 0 0]), 2, 32) := by kernel_rfl

/-- the cells of sections -/
def secCells (l : List SecV) : List Value := l.flatMap fun x => [.int .i64 x.k, .slice x.A x.b.length x.c]
theorem secCells_length (l : List SecV) : (secCells l).length = l.length * 2 := by
  unfold secCells
  induction l with
  | nil => rfl
  | cons x r ih => simp only [List.flatMap_cons, List.length_append, List.length_cons, List.length_nil, ih]; omega
theorem secCells_at {l : List SecV} {i : Nat} {x : SecV} (h : l[i]? = some x) : (secCells l)[i * 2]? = some (.int .i64 x.k) ∧ (secCells l)[i * 2 + 1]? = some (.slice x.A x.b.length x.c) := by
  induction l generalizing i with
  | nil => simp at h
  | cons y r ih =>
    cases i with
    | zero => simp at h; subst h; exact ⟨rfl, rfl⟩
    | succ i =>
      have h' : r[i]? = some x := by simpa using h
      obtain ⟨h1, h2⟩ := ih h'
      have e : secCells (y :: r) = .int .i64 y.k :: .slice y.A y.b.length y.c :: secCells r := rfl
      rw [e, show (i + 1) * 2 = i * 2 + 1 + 1 by omega]
      exact ⟨by simpa using h1, by simpa using h2⟩
theorem secCells_snoc (l : List SecV) (x : SecV) : secCells (l ++ [x]) = secCells l ++ [.int .i64 x.k, .slice x.A x.b.length x.c] := by simp [secCells]
/-- sections of one's own -/
def OSec (w : World) (base : Nat) (A : Option Addr) (n c : Nat) (l : List SecV) : Prop := w.ownsRow base 68 2 (.slice A n c) n (secCells l)
theorem OSec.len {w : World} {base n c : Nat} {A : Option Addr} {l : List SecV} (h : OSec w base A n c l) : l.length = n := by
  have := h.1; rw [secCells_length] at this; omega
theorem OSec.nil (w : World) (base : Nat) : OSec w base none 0 0 [] := World.ownsRow_nil _ _ _ _
theorem OSec.below {w w1 : World} {base n c : Nat} {A : Option Addr} {l : List SecV} (h : OSec w base A n c l) (hb : Below w.heap.size w w1) : OSec w1 base A n c l := pw_own_below h hb
theorem OSec.cap {w : World} {base n c : Nat} {A : Option Addr} {l : List SecV} (h : OSec w base A n c l) : n ≤ c := by
  rcases h.2 with ⟨e, hn⟩ | ⟨g, cap, cur, e, _, _, hnc, _⟩
  · omega
  · injection e with _ _ e3; omega
theorem OSec.se {w : World} {base n c : Nat} {A : Option Addr} {l : List SecV} (h : OSec w base A n c l) (hn : n ≤ 1000000) (hb : ∀ x ∈ l, x.ok ∧ RB w x.A x.b) : SE w A l := by
  refine ⟨by have := h.len; omega, hb, fun i x hx => ?_⟩
  obtain ⟨h0, h1⟩ := secCells_at hx
  rcases h.2 with ⟨e, hn0⟩ | ⟨g, cap, cur, e, _⟩
  · exfalso
    have := h.len
    have := (List.getElem?_eq_some_iff.1 hx).1
    omega
  · injection e with e1 e2 e3
    subst e1
    have c0 := h.cells (g := g) rfl _ _ h0
    have c1 := h.cells (g := g) rfl _ _ h1
    refine ⟨_, rfl, c0, ?_⟩
    rw [add_plain] at c1 ⊢
    exact c1

section
variable {ops : Array Oper} {rest : List Oper} {o : Oper} {a : Act} {Q : Exit → Act → World → Prop} {W : World} {s x : Operand}
/-- append(l, section) -/
theorem appSec (y : SecV) (base : Nat) (A : Option Addr) (n c : Nat) (l : List SecV) (hgd : o.guard = none) (ho : o.op = .call { callee := .builtin .append, args := #[s, x], argTypes := #[63, 63] })
    (hs : a.eval s = .slice A n c) (hx : a.eval x = .slice (some ⟨W.heap.size, 0, none⟩) 1 1) (HO : OSec W base A n c l) (hbase : base ≤ W.heap.size) (hl : n ≤ 1000000)
    (h : ∀ A1 c1 w1, OSec w1 base A1 (n + 1) c1 (l ++ [y]) → Below base W w1 → W.grownBy w1 (Value.slice A n c).ownBlock → wpList Try.prog ops Q rest (a.put o.dst (.slice A1 (n + 1) c1)) w1) :
    wpList Try.prog ops Q (o :: rest) a (W.alloc (.cells #[.int .i64 y.k, .slice y.A y.b.length y.c] 68)) := by
  refine print_append_cells (w0 := W) base hgd s x 63 68 (.agg #[.int .i64 0, .slice none 0 0]) 2 32 ho Try.underlying63 Try.info68 rfl (by omega) (by omega) (.slice A n c) n (secCells l) [.int .i64 y.k, .slice y.A y.b.length y.c] hs hx rfl (by simp [Value.oneCell']) HO (Below.refl _ _) hbase (by omega) fun v1 w1 h1 h2 h3 h4 => ?_
  obtain ⟨A1, c1, rfl⟩ := own_slice h1
  rw [← secCells_snoc] at h1
  exact h A1 c1 w1 h1 h2 h3
end

/-- sections that may be, made of any -/
def goodX (all : Bool) (x : SecV) : SecV := ⟨if all then x.k else arN x.k 256, x.A, x.c, few x.b 100⟩
def goodL (all : Bool) (l : List SecV) : List SecV := (l.take (if all then 17 else 16)).map (goodX all)
theorem goodL_succ {all : Bool} {l : List SecV} {k : Nat} {x : SecV} (h : l[k]? = some x) : (l.take (k + 1)).map (goodX all) = (l.take k).map (goodX all) ++ [goodX all x] := by
  rw [List.take_add_one, h]; simp
theorem goodX_ok {all : Bool} {x : SecV} (h : x.ok) : (goodX all x).ok := by
  obtain ⟨⟨h1, h2⟩, h3, h4⟩ := h
  refine ⟨?_, ?_, h4⟩
  · cases all
    · have := arN_lt x.k (m := 256) (by omega)
      simp only [goodX]
      constructor <;> simp <;> omega
    · exact ⟨by simpa [goodX] using h1, by simpa [goodX] using h2⟩
  · simp only [goodX, few_length]; omega


set_option maxHeartbeats 2000000 in
set_option maxRecDepth 100000 in
theorem good_false (l : List SecV) (A : Option Addr) (L c : Nat) (w : World) (hL : l.length = L) (hS : SE w A l) :
    Calls Try.prog 50 #[.slice A L c, .bool false] w fun e w' => ∃ A' n c', e = .returned (.slice A' n c') ∧ n ≤ 16 ∧ OSec w' w.heap.size A' n c' (goodL false l) ∧ SE w' A' (goodL false l) ∧ Below w.heap.size w w' := by
  have HS := Lib.hid hS
  have hLh := Lib.hid hL
  have hLI : (L : Int) ≤ 9223372036854775807 := by have := hS.1; omega
  clear hL hS
  go_enter Try.func50, Try.ntmps50
  go_wp2
  go_loopw [5, 6] (fun v i wr => ∃ (k : Nat) (A1 : Option Addr) (c1 : Nat), k ≤ L ∧ k ≤ 16 ∧ i = .int .i64 k ∧ v = .slice A1 k c1 ∧ OSec wr w.heap.size A1 k c1 ((l.take k).map (goodX false)) ∧ Below w.heap.size w wr) (fun _ i _ => L - (intOf i).toNat)
  case atStart => exact ⟨0, none, 0, by omega, by omega, rfl, rfl, OSec.nil _ _, Below.refl _ _⟩
  case round =>
    obtain ⟨k, A1, c1, hk1, hk2, rfl, rfl, ho, hb⟩ := hrel
    have HO := Lib.hid ho
    have HB := Lib.hid hb
    clear ho hb
    have k0 : (0 : Int) ≤ (k : Int) := by omega
    by_cases hgo : k < L ∧ k < 16
    · obtain ⟨g1, g2⟩ := hgo
      have j1 : (k : Int) < (L : Int) := by omega
      have j2 : (k : Int) < 16 := by omega
      have j3 : (k : Int) < 17 := by omega
      obtain ⟨x, hx⟩ : ∃ x, l[k]? = some x := ⟨_, List.getElem?_eq_getElem (by have := hLh.out; omega)⟩
      obtain ⟨hok, hrb⟩ := HS.out.2.1 x (List.mem_of_getElem? hx)
      obtain ⟨ad, had, e0, e1⟩ := (HS.out.below HB.out).2.2 k _ hx
      subst had
      obtain ⟨⟨a1, a2⟩, a3, a4⟩ := hok
      have HX := Lib.hid (goodL_succ (all := false) hx)
      have hgl : (few x.b 100).length = min x.b.length 100 := few_length _ _
      obtain ⟨m, hm⟩ : ∃ m, m = min x.b.length 100 := ⟨_, rfl⟩
      have HM := Lib.hid (show (few x.b 100).length = m by rw [hm]; exact hgl)
      obtain ⟨y, hy⟩ : ∃ y, y = goodX false x := ⟨_, rfl⟩
      have HY := Lib.hid (show y.k = (arN x.k 256 : Int) ∧ y.A = x.A ∧ y.c = x.c ∧ y.b.length = m by rw [hy]; exact ⟨rfl, rfl, rfl, HM.out⟩)
      rw [← hy] at HX
      clear hx hrb hgl hy
      go_wp2_with fail
      refine (around_any x.k 256 (by omega) (by omega) a1 a2 _).mono ?_
      rintro e w1 ⟨rfl, rfl⟩
      go_wp2_with fail
      refine (few_any x.A x.b.length x.c 100 _ a3 (by omega)).mono ?_
      rintro e w2 ⟨rfl, rfl⟩
      rw [← hm]
      clear hm
      obtain ⟨y1, y2, y3, y4⟩ := HY.out
      rw [← y1, ← y2, ← y3, ← y4]
      clear y1 y2 y3 y4
      go_wp2_with (at_builtin; refine appSec y w.heap.size A1 k c1 _ rfl rfl rfl rfl HO.out HB.out.size (by omega) ?_; intro A2 c2 w2 ho2 hb2 _)
      go_roundw
      case rel => exact ⟨k + 1, A2, c2, by omega, by omega, by go_num, by simp, by rw [HX.out]; exact ho2, HB.out.trans hb2⟩
      case measure => simp [intOf]; omega
    · have hfin : (l.take k).map (goodX false) = goodL false l := by
        have h : k = L ∨ k = 16 := by omega
        unfold goodL
        rcases h with rfl | rfl
        · rw [List.take_of_length_le (by have := hLh.out; omega), List.take_of_length_le (by have := hLh.out; simp; omega)]
        · rfl
      have HF := Lib.hid hfin
      have hkI : (k : Int) = (L : Int) ∨ ((k : Int) < (L : Int) ∧ (k : Int) = 16) := by omega
      clear hgo hfin
      rcases hkI with hkI | ⟨hkI, hkJ⟩
      all_goals
        go_wp2
        go_ret
        refine ⟨A1, k, c1, rfl, by omega, by rw [← HF.out]; exact HO.out, ?_, HB.out⟩
        rw [← HF.out]
        refine HO.out.se (by omega) fun y hy => ?_
        obtain ⟨x, hx, rfl⟩ := List.mem_map.1 hy
        obtain ⟨q1, q2⟩ := (HS.out.below HB.out).2.1 x (List.mem_of_mem_take hx)
        exact ⟨goodX_ok q1, few_rb q2 _⟩

set_option maxHeartbeats 2000000 in
set_option maxRecDepth 100000 in
theorem good_true (l : List SecV) (A : Option Addr) (L c : Nat) (w : World) (hL : l.length = L) (hS : SE w A l) :
    Calls Try.prog 50 #[.slice A L c, .bool true] w fun e w' => ∃ A' n c', e = .returned (.slice A' n c') ∧ n ≤ 17 ∧ OSec w' w.heap.size A' n c' (goodL true l) ∧ SE w' A' (goodL true l) ∧ Below w.heap.size w w' := by
  have HS := Lib.hid hS
  have hLh := Lib.hid hL
  have hLI : (L : Int) ≤ 9223372036854775807 := by have := hS.1; omega
  clear hL hS
  go_enter Try.func50, Try.ntmps50
  go_wp2
  go_loopw [5, 6] (fun v i wr => ∃ (k : Nat) (A1 : Option Addr) (c1 : Nat), k ≤ L ∧ k ≤ 17 ∧ i = .int .i64 k ∧ v = .slice A1 k c1 ∧ OSec wr w.heap.size A1 k c1 ((l.take k).map (goodX true)) ∧ Below w.heap.size w wr) (fun _ i _ => L - (intOf i).toNat)
  case atStart => exact ⟨0, none, 0, by omega, by omega, rfl, rfl, OSec.nil _ _, Below.refl _ _⟩
  case round =>
    obtain ⟨k, A1, c1, hk1, hk2, rfl, rfl, ho, hb⟩ := hrel
    have HO := Lib.hid ho
    have HB := Lib.hid hb
    clear ho hb
    have k0 : (0 : Int) ≤ (k : Int) := by omega
    by_cases hgo : k < L ∧ k < 17
    · obtain ⟨g1, g2⟩ := hgo
      have j1 : (k : Int) < (L : Int) := by omega
      have j2 : (k : Int) < 17 := by omega
      have j3 : (k : Int) < 17 := by omega
      obtain ⟨x, hx⟩ : ∃ x, l[k]? = some x := ⟨_, List.getElem?_eq_getElem (by have := hLh.out; omega)⟩
      obtain ⟨hok, hrb⟩ := HS.out.2.1 x (List.mem_of_getElem? hx)
      obtain ⟨ad, had, e0, e1⟩ := (HS.out.below HB.out).2.2 k _ hx
      subst had
      obtain ⟨⟨a1, a2⟩, a3, a4⟩ := hok
      have HX := Lib.hid (goodL_succ (all := true) hx)
      have hgl : (few x.b 100).length = min x.b.length 100 := few_length _ _
      obtain ⟨m, hm⟩ : ∃ m, m = min x.b.length 100 := ⟨_, rfl⟩
      have HM := Lib.hid (show (few x.b 100).length = m by rw [hm]; exact hgl)
      obtain ⟨y, hy⟩ : ∃ y, y = goodX true x := ⟨_, rfl⟩
      have HY := Lib.hid (show y.k = x.k ∧ y.A = x.A ∧ y.c = x.c ∧ y.b.length = m by rw [hy]; exact ⟨rfl, rfl, rfl, HM.out⟩)
      rw [← hy] at HX
      clear hx hrb hgl hy
      go_wp2_with fail
      refine (few_any x.A x.b.length x.c 100 _ a3 (by omega)).mono ?_
      rintro e w2 ⟨rfl, rfl⟩
      rw [← hm]
      clear hm
      obtain ⟨y1, y2, y3, y4⟩ := HY.out
      rw [← y1, ← y2, ← y3, ← y4]
      clear y1 y2 y3 y4
      go_wp2_with (at_builtin; refine appSec y w.heap.size A1 k c1 _ rfl rfl rfl rfl HO.out HB.out.size (by omega) ?_; intro A2 c2 w2 ho2 hb2 _)
      go_roundw
      case rel => exact ⟨k + 1, A2, c2, by omega, by omega, by go_num, by simp, by rw [HX.out]; exact ho2, HB.out.trans hb2⟩
      case measure => simp [intOf]; omega
    · have hfin : (l.take k).map (goodX true) = goodL true l := by
        have h : k = L ∨ k = 17 := by omega
        unfold goodL
        rcases h with rfl | rfl
        · rw [List.take_of_length_le (by have := hLh.out; omega), List.take_of_length_le (by have := hLh.out; simp; omega)]
        · rfl
      have HF := Lib.hid hfin
      have hkI : (k : Int) = (L : Int) ∨ ((k : Int) < (L : Int) ∧ (k : Int) = 17) := by omega
      clear hgo hfin
      rcases hkI with hkI | ⟨hkI, hkJ⟩
      all_goals
        go_wp2
        go_ret
        refine ⟨A1, k, c1, rfl, by omega, by rw [← HF.out]; exact HO.out, ?_, HB.out⟩
        rw [← HF.out]
        refine HO.out.se (by omega) fun y hy => ?_
        obtain ⟨x, hx, rfl⟩ := List.mem_map.1 hy
        obtain ⟨q1, q2⟩ := (HS.out.below HB.out).2.1 x (List.mem_of_mem_take hx)
        exact ⟨goodX_ok q1, few_rb q2 _⟩
end
end Go.Proofs.Ytnkbkhlbogcfaaa
