/- Bytes: cloned, compared, appended. -/
import Derived.Test.YtnkbkhlbogcfaaaB
import Derived.BigQuiet
set_option linter.unusedVariables false
set_option linter.unusedSimpArgs false
namespace Go.Proofs.Ytnkbkhlbogcfaaa
open Go.RowKit Go.Proofs.YtnkbkhlbogcfaaaW.PrintWords
noncomputable section

/-- bytes of one's own, in blocks from base on -/
def OB (w : World) (base : Nat) (A : Option Addr) (n c : Nat) (b : List UInt8) : Prop := w.ownsRow base 5 1 (.slice A n c) n (nums .u8 (bv b))
theorem OB.len {w : World} {base n c : Nat} {A : Option Addr} {b : List UInt8} (h : OB w base A n c b) : b.length = n := (own_rb h).1
theorem OB.rb {w : World} {base n c : Nat} {A : Option Addr} {b : List UInt8} (h : OB w base A n c b) : RB w A b := (own_rb h).2.1
theorem OB.cap {w : World} {base n c : Nat} {A : Option Addr} {b : List UInt8} (h : OB w base A n c b) : n ≤ c := (own_rb h).2.2
theorem OB.below {w w1 : World} {base n c : Nat} {A : Option Addr} {b : List UInt8} (h : OB w base A n c b) (hb : Below w.heap.size w w1) : OB w1 base A n c b := pw_own_below h hb
theorem OB.lower {w : World} {base base' n c : Nat} {A : Option Addr} {b : List UInt8} (h : OB w base A n c b) (hb : base' ≤ base) : OB w base' A n c b := by
  refine ⟨h.1, ?_⟩
  rcases h.2 with h2 | ⟨g, cap, cur, hv, hg, r⟩
  · exact .inl h2
  · exact .inr ⟨g, cap, cur, hv, by omega, r⟩
theorem OB.nil (w : World) (base : Nat) : OB w base none 0 0 [] := World.ownsRow_nil _ _ _ _
theorem OB.base {w : World} {base n c : Nat} {A : Option Addr} {b : List UInt8} (h : OB w base A n c b) : ∀ k, (Value.slice A n c).ownBlock = some k → base ≤ k := own_base h

section
variable {ops : Array Oper} {rest : List Oper} {o : Oper} {a : Act} {Q : Exit → Act → World → Prop} {W : World} {s x : Operand}
/-- append(v, ys...) of bytes, v owned, ys whatever is read -/
theorem appB (base : Nat) (A : Option Addr) (n c : Nat) (xs : List UInt8) (A2 : Option Addr) (m c2 : Nat) (ys : List UInt8) (hgd : o.guard = none) (ho : o.op = .call { callee := .builtin .append, args := #[s, x], argTypes := #[22, 22] })
    (hs : a.eval s = .slice A n c) (hx : a.eval x = .slice A2 m c2) (HO : OB W base A n c xs) (HR : RB W A2 ys) (hm : ys.length = m) (hbase : base ≤ W.heap.size) (hl : n + m ≤ 140737488355328)
    (h : ∀ A1 c1 w1, OB w1 base A1 (n + m) c1 (xs ++ ys) → W.grownBy w1 (Value.slice A n c).ownBlock → Succ W (Value.slice A n c).ownBlock (Value.slice A1 (n + m) c1).ownBlock →
      wpList Try.prog ops Q rest (a.put o.dst (.slice A1 (n + m) c1)) w1) :
    wpList Try.prog ops Q (o :: rest) a W := by
  have hn := HO.len
  subst hn hm
  refine print_append_row (w0 := W) base hgd s x 22 5 .u8 1 ho Try.underlying22 Try.info5 (by omega) _ (bv xs) (bv ys) A2 ys.length c2 hs hx (by rw [bv_length]; exact HO) HR (Below.refl _ _) hbase (by rw [bv_length]; omega) fun v1 w1 h1 _ h3 h4 => ?_
  rw [← bv_append, bv_length] at h1
  obtain ⟨A1, c1, rfl⟩ := own_slice h1
  rw [List.length_append] at h1 h4 ⊢
  exact h A1 c1 w1 h1 h3 h4
end

set_option maxHeartbeats 400000 in
set_option maxRecDepth 100000 in
theorem clone_any (b : List UInt8) (A : Option Addr) (n c : Nat) (w : World) (hl : b.length = n) (hR : RB w A b) (hn : n < 100000000) :
    Calls Try.prog 81 #[.slice A n c] w fun e w' => ∃ A' c', e = .returned (.slice A' n c') ∧ OB w' w.heap.size A' n c' b ∧ Below w.heap.size w w' := by
  have hq := fun w => Lib.run_eql_slice_nil (P := Try.prog) w 22 5 A n c 0 0 Try.underlying22
  cases A with
  | none =>
    have h0 : n = 0 := by
      rcases Nat.eq_zero_or_pos n with h | h
      · exact h
      · obtain ⟨ad, e, _⟩ := hR.2.2 (by omega)
        cases e
    subst h0
    obtain rfl : b = [] := List.eq_nil_of_length_eq_zero hl
    clear hR hl
    go_enter Try.func81, Try.ntmps81
    go_wp2
    go_ret
    exact ⟨none, 0, rfl, OB.nil _ _, Below.refl _ _⟩
  | some ad =>
    have hR' := Lib.hid hR
    have hl' := Lib.hid hl
    clear hR hl
    go_enter Try.func81, Try.ntmps81
    go_wp2_with (at_builtin; refine appB w.heap.size (some ⟨w.heap.size, 0, none⟩) 0 0 [] (some ad) n c b rfl rfl rfl rfl (World.ownsRow_made _ #[] 0 (by omega) (by unfold maxLen; omega) rfl) (hR'.out.below (below_alloc (Below.refl _ _) _)) hl'.out (by simp) (by omega) ?_; intro A1 c1 w1 ho hg hs)
    go_ret
    exact ⟨A1, c1, rfl, by simpa using ho, (below_alloc (Below.refl w.heap.size w) _).grown hg (by simp) (by intro k hk; simp [Value.ownBlock] at hk; omega)⟩

/-- two readings of one length, cell by cell: what '!=' of two bytes tells -/
theorem ne_byte (x y : UInt8) : ((x.toNat : Int) != (y.toNat : Int)) = decide (x ≠ y) := by
  by_cases h : x = y
  · subst h; simp
  · have : x.toNat ≠ y.toNat := fun e => h (UInt8.toNat_inj.1 e)
    rw [bne_iff_ne.2 (by omega)]
    simp [h]
theorem take_eq_of {a b : List UInt8} {k : Nat} (hp : a.take k = b.take k) {x : UInt8} (hx : a[k]? = some x) (hy : b[k]? = some x) : a.take (k + 1) = b.take (k + 1) := by
  rw [List.take_add_one, List.take_add_one, hp, hx, hy]
theorem ne_of_at {a b : List UInt8} {k : Nat} {x y : UInt8} (hx : a[k]? = some x) (hy : b[k]? = some y) (h : x ≠ y) : a ≠ b := by
  intro e
  subst e
  rw [hx] at hy
  exact h (by injection hy)

set_option maxHeartbeats 1000000 in
set_option maxRecDepth 100000 in
theorem same_any (a b : List UInt8) (A B : Option Addr) (n m c d : Nat) (w : World) (hn : a.length = n) (hm : b.length = m) (hA : RB w A a) (hB : RB w B b) (hs : n < 100000000) :
    Calls Try.prog 38 #[.slice A n c, .slice B m d] w fun e w' => e = .returned (.bool (decide (a = b))) ∧ Below w.heap.size w w' := by
  have H := Lib.hid (And.intro hn (And.intro hm (And.intro hA hB)))
  clear hA hB
  by_cases hnm : n = m
  · subst hnm
    clear hn hm
    go_enter Try.func38, Try.ntmps38
    go_wp2
    go_loopw [5] (fun i wr => ∃ k : Nat, k ≤ n ∧ i = .int .i64 k ∧ a.take k = b.take k ∧ Below w.heap.size w wr) (fun i _ => n - (intOf i).toNat)
    case atStart => exact ⟨0, by omega, rfl, rfl, Below.refl _ _⟩
    case round =>
      obtain ⟨k, hk, rfl, hp, hb⟩ := hrel
      have hP := Lib.hid hp
      have hBl := Lib.hid hb
      clear hp hb
      have hsI : (n : Int) < 100000000 := by omega
      by_cases hlt : k < n
      · obtain ⟨x, hx⟩ : ∃ x, a[k]? = some x := ⟨_, List.getElem?_eq_getElem (by have := H.out.1; omega)⟩
        obtain ⟨y, hy⟩ : ∃ x, b[k]? = some x := ⟨_, List.getElem?_eq_getElem (by have := H.out.2.1; omega)⟩
        obtain ⟨a0, hA0, e0⟩ := (H.out.2.2.1.below hBl.out).at_ hx
        obtain ⟨a1, hA1, e1⟩ := (H.out.2.2.2.below hBl.out).at_ hy
        have hX := Lib.hid (And.intro hx hy)
        clear hx hy
        subst hA0 hA1
        have i0 : (0 : Int) ≤ (k : Int) := by omega
        have i1 : (k : Int) < (n : Int) := by omega
        by_cases hxy : x = y
        · have hne : ((x.toNat : Int) != (y.toNat : Int)) = false := by rw [ne_byte]; simp [hxy]
          have hXY := Lib.hid hxy
          clear hxy
          go_wp2_with fail
          go_quiet (fail)
          go_wp2
          go_roundw
          case rel => exact ⟨k + 1, by omega, by go_num, take_eq_of hP.out hX.out.1 (by rw [hXY.out]; exact hX.out.2), pw_below_drewN hBl.out _⟩
          case measure => simp [intOf]; omega
        · have hne : ((x.toNat : Int) != (y.toNat : Int)) = true := by rw [ne_byte]; simp [hxy]
          have hXY := Lib.hid hxy
          clear hxy
          go_wp2_with fail
          go_quiet (fail)
          go_wp2
          go_ret
          refine ⟨?_, pw_below_drewN hBl.out _⟩
          rw [decide_eq_false (ne_of_at hX.out.1 hX.out.2 hXY.out)]; rfl
      · obtain rfl : k = n := by omega
        go_wp2
        go_ret
        have h1 := H.out.1
        have h2 := H.out.2.1
        have hab : a = b := by
          have := hP.out
          rw [List.take_of_length_le (by omega), List.take_of_length_le (by omega)] at this
          exact this
        exact ⟨by rw [decide_eq_true hab]; rfl, hBl.out⟩
  · have hne : ((n : Int) != (m : Int)) = true := by rw [bne_iff_ne]; omega
    have hab : a ≠ b := by intro e; subst e; omega
    have hab' := Lib.hid hab
    clear hab hn hm hnm
    go_enter Try.func38, Try.ntmps38
    go_wp2
    go_ret
    exact ⟨by rw [decide_eq_false hab'.out]; rfl, Below.refl _ _⟩

set_option maxHeartbeats 1000000 in
set_option maxRecDepth 100000 in
theorem equal_any (a b : List UInt8) (A B : Option Addr) (n m c d : Nat) (w : World) (hn : a.length = n) (hm : b.length = m) (hA : RB w A a) (hB : RB w B b) (hs : n < 100000000) :
    Calls Try.prog 84 #[.slice A n c, .slice B m d] w fun e w' => e = .returned (.bool (decide (a = b))) ∧ Below w.heap.size w w' := by
  have H := Lib.hid (And.intro hn (And.intro hm (And.intro hA hB)))
  clear hA hB
  by_cases hnm : n = m
  · subst hnm
    clear hn hm
    go_enter Try.func84, Try.ntmps84
    go_wp2
    go_loopw [5, 13] (fun _ i wr => ∃ k : Nat, k ≤ n ∧ i = .int .i64 k ∧ a.take k = b.take k ∧ Below w.heap.size w wr) (fun _ i _ => n - (intOf i).toNat)
    case atStart => exact ⟨0, by omega, rfl, rfl, Below.refl _ _⟩
    case round =>
      obtain ⟨k, hk, rfl, hp, hb⟩ := hrel
      have hP := Lib.hid hp
      have hBl := Lib.hid hb
      clear hp hb
      have hsI : (n : Int) < 100000000 := by omega
      by_cases hlt : k < n
      · obtain ⟨x, hx⟩ : ∃ x, a[k]? = some x := ⟨_, List.getElem?_eq_getElem (by have := H.out.1; omega)⟩
        obtain ⟨y, hy⟩ : ∃ x, b[k]? = some x := ⟨_, List.getElem?_eq_getElem (by have := H.out.2.1; omega)⟩
        obtain ⟨a0, hA0, e0⟩ := (H.out.2.2.1.below hBl.out).at_ hx
        obtain ⟨a1, hA1, e1⟩ := (H.out.2.2.2.below hBl.out).at_ hy
        have hX := Lib.hid (And.intro hx hy)
        clear hx hy
        subst hA0 hA1
        have i0 : (0 : Int) ≤ (k : Int) := by omega
        have i1 : (k : Int) < (n : Int) := by omega
        by_cases hxy : x = y
        · have hne : ((x.toNat : Int) != (y.toNat : Int)) = false := by rw [ne_byte]; simp [hxy]
          have hXY := Lib.hid hxy
          clear hxy
          go_wp2_with fail
          go_quiet (fail)
          go_wp2
          go_roundw
          case rel => exact ⟨k + 1, by omega, by go_num, take_eq_of hP.out hX.out.1 (by rw [hXY.out]; exact hX.out.2), pw_below_drewN hBl.out _⟩
          case measure => simp [intOf]; omega
        · have hne : ((x.toNat : Int) != (y.toNat : Int)) = true := by rw [ne_byte]; simp [hxy]
          have hXY := Lib.hid hxy
          clear hxy
          go_wp2_with fail
          go_quiet (fail)
          go_wp2
          go_ret
          refine ⟨?_, pw_below_drewN hBl.out _⟩
          rw [decide_eq_false (ne_of_at hX.out.1 hX.out.2 hXY.out)]; rfl
      · obtain rfl : k = n := by omega
        go_wp2
        go_ret
        have h1 := H.out.1
        have h2 := H.out.2.1
        have hab : a = b := by
          have := hP.out
          rw [List.take_of_length_le (by omega), List.take_of_length_le (by omega)] at this
          exact this
        exact ⟨by rw [decide_eq_true hab]; rfl, hBl.out⟩
  · have hne : ((n : Int) != (m : Int)) = true := by rw [bne_iff_ne]; omega
    have hab : a ≠ b := by intro e; subst e; omega
    have hab' := Lib.hid hab
    clear hab hn hm hnm
    go_enter Try.func84, Try.ntmps84
    go_wp2
    go_ret
    exact ⟨by rw [decide_eq_false hab'.out]; rfl, Below.refl _ _⟩
end
end Go.Proofs.Ytnkbkhlbogcfaaa
