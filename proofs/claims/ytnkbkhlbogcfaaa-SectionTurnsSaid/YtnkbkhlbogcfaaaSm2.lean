/- A file is read: the walk. -/
import Derived.Test.YtnkbkhlbogcfaaaSk
import Derived.Test.YtnkbkhlbogcfaaaSl
set_option linter.unusedVariables false
set_option linter.unusedSimpArgs false
namespace Go.Proofs.Ytnkbkhlbogcfaaa
open Go.RowKit Go.Proofs.YtnkbkhlbogcfaaaW.PrintWords
noncomputable section

/-- sections of which k bodies were read: their bytes lie in blocks from G on -/
structure Got (wr : World) (G : Nat) (b : List UInt8) (n k : Nat) (l : List SecV) : Prop where
  len : l.length = n
  all : ∀ (i : Nat) (x : SecV), l[i]? = some x → x.k = hKind b i ∧ x.b = (if i < k then bBody b i else []) ∧ x.b.length ≤ x.c ∧ RB wr x.A x.b ∧ ∀ ad, x.A = some ad → 0 < x.b.length → G ≤ ad.block
/-- where sections stand: k are stored -/
def spL (b : List UInt8) (n : Nat) : Nat → List (Int × Int)
  | 0 => List.replicate n (0, 0)
  | k + 1 => (spL b n k).set k (((bSt b k).1 : Int), RowKit.wrap64 (((bSt b k).1 : Int) + (hSize b k : Int)))
theorem Got.keep {w w' : World} {G : Nat} {b : List UInt8} {n k : Nat} {l : List SecV} (h : Got w G b n k l) (hk : ∀ q, G ≤ q → q < w.heap.size → w'.heap[q]? = w.heap[q]?) : Got w' G b n k l :=
  ⟨h.len, fun i x hx => by
    obtain ⟨h1, h2, h3, h4, h5⟩ := h.all i x hx
    exact ⟨h1, h2, h3, h4.keep fun ad e hn => hk _ (h5 ad e hn) (h4.lt e hn), h5⟩⟩
theorem Got.mod {w w' : World} {G p : Nat} {b : List UInt8} {n k : Nat} {l : List SecV} (h : Got w G b n k l) (hm : Mod w w' p none) (hp : p < G) : Got w' G b n k l :=
  h.keep fun q hq hl => hm.block q hl (by omega) (by simp)
theorem Got.below {w w' : World} {G : Nat} {b : List UInt8} {n k : Nat} {l : List SecV} (h : Got w G b n k l) (hb : Below w.heap.size w w') : Got w' G b n k l :=
  h.keep fun q hq hl => hb.block q hl
theorem Got.store {w : World} {G g : Nat} {b : List UInt8} {n k : Nat} {l : List SecV} (h : Got w G b n k l) (hg : g < G) (j : Nat) (v : Value) : Got (w.setCell ⟨g, j, none⟩ v) G b n k l :=
  h.keep fun q hq hl => Below.heap_setCell _ _ _ _ (by dsimp only; omega)
theorem Got.next {w : World} {G : Nat} {b : List UInt8} {n k : Nat} {l : List SecV} {y : SecV} (h : Got w G b n k l) (hk : k < n) (h1 : y.k = hKind b k) (h2 : y.b = bBody b k) (h3 : y.b.length ≤ y.c) (h4 : RB w y.A y.b) (h5 : ∀ ad, y.A = some ad → 0 < y.b.length → G ≤ ad.block) : Got w G b n (k + 1) (l.set k y) := by
  refine ⟨by rw [List.length_set, h.len], fun i x hx => ?_⟩
  rw [List.getElem?_set, h.len] at hx
  by_cases hki : k = i
  · subst hki
    rw [if_pos rfl, if_pos hk] at hx
    injection hx with hx
    subst hx
    exact ⟨h1, by rw [if_pos (by omega)]; exact h2, h3, h4, h5⟩
  · rw [if_neg hki] at hx
    obtain ⟨q1, q2, q3, q4, q5⟩ := h.all i x hx
    refine ⟨q1, ?_, q3, q4, q5⟩
    rw [q2]
    by_cases h : i < k
    · rw [if_pos h, if_pos (by omega)]
    · rw [if_neg h, if_neg (by omega)]
theorem own_lower {w : World} {base base' n : Nat} {e : TypeId} {size : Nat} {v : Value} {xs : List Value} (h : w.ownsRow base e size v n xs) (hb : base' ≤ base) : w.ownsRow base' e size v n xs := by
  refine ⟨h.1, ?_⟩
  rcases h.2 with h2 | ⟨g, cap, cur, hv, hg, r⟩
  · exact .inl h2
  · exact .inr ⟨g, cap, cur, hv, by omega, r⟩
theorem Got.lower {w : World} {G G' : Nat} {b : List UInt8} {n k : Nat} {l : List SecV} (h : Got w G b n k l) (hG : G' ≤ G) : Got w G' b n k l :=
  ⟨h.len, fun i x hx => by
    obtain ⟨h1, h2, h3, h4, h5⟩ := h.all i x hx
    exact ⟨h1, h2, h3, h4, fun ad e hn => Nat.le_trans hG (h5 ad e hn)⟩⟩
theorem results_tmp4 {fn : Func} {t u v x : Tmp} (h : fn.results = #[.tmp t, .tmp u, .tmp v, .tmp x]) (tmps : Array Value) (P : Program) (w : World) :
    (results fn tmps).run P w = .ok (.tuple #[tmps.getD t undef, tmps.getD u undef, tmps.getD v undef, tmps.getD x undef]) w := by
  simp [results, h]
theorem post4 {fn : Func} {t u v x : Tmp} {R : Ending → World → Prop} {a : Act} {w : World} (h : fn.results = #[.tmp t, .tmp u, .tmp v, .tmp x]) (hd : a.defers = [])
    (hR : R (.returned (.tuple #[a.tmps.getD t undef, a.tmps.getD u undef, a.tmps.getD v undef, a.tmps.getD x undef])) w) : bodyPost Try.prog fn R .ret a w := bodyPost_ret (results_tmp4 h _ _ _) hd hR
theorem ob_ge {w : World} {base n c : Nat} {A : Option Addr} {b : List UInt8} (h : OB w base A n c b) : ∀ ad, A = some ad → base ≤ ad.block := fun ad e => h.base ad.block (by rw [e]; rfl)

set_option maxHeartbeats 8000000 in
set_option maxRecDepth 100000 in
theorem read_any (b : List UInt8) (A : Option Addr) (n c : Nat) (w : World) (hl : b.length = n) (hR : RB w A b) (hnc : n ≤ c) (hn : n ≤ 800000) :
    Calls Try.prog 99 #[.slice A n c] w fun e w' => ((fileE b ≠ 0 ∧ e = .returned (.tuple #[.int .i64 0, .slice none 0 0, .slice none 0 0, .int .i64 (fileE b)])) ∨
      (fileE b = 0 ∧ ∃ gl gs l, e = .returned (.tuple #[.int .i64 ((hVer (openB b)).1 : Nat), .slice (some ⟨gl, 0, none⟩) (hCnt (openB b)).1 (hCnt (openB b)).1, .slice (some ⟨gs, 0, none⟩) (hCnt (openB b)).1 (hCnt (openB b)).1, .int .i64 0]) ∧
        OSec w' w.heap.size (some ⟨gl, 0, none⟩) (hCnt (openB b)).1 (hCnt (openB b)).1 l ∧ Got w' w.heap.size (openB b) (hCnt (openB b)).1 (hCnt (openB b)).1 l ∧ OSP w' w.heap.size (some ⟨gs, 0, none⟩) (hCnt (openB b)).1 (hCnt (openB b)).1 (spL (openB b) (hCnt (openB b)).1 (hCnt (openB b)).1))) ∧ Below w.heap.size w w' := by
  have KO := Lib.hid (open_any b A n c w hl hR (by omega) hnc)
  have hol : (openB b).length ≤ n := by unfold openB; split <;> simp <;> omega
  clear hl hR
  by_cases ho : openE b = 0
  · have hfe : fileE b = bEnd (openB b) := by unfold fileE; rw [if_neg (by simp [ho])]
    rw [hfe]
    rw [ho] at KO
    obtain ⟨o, hoe⟩ : ∃ o, o = openB b := ⟨_, rfl⟩
    rw [← hoe] at KO hol ⊢
    have hcnt := hCnt_le o
    obtain ⟨cnt, hct⟩ : ∃ cnt, cnt = (hCnt o).1 := ⟨_, rfl⟩
    rw [← hct] at hcnt ⊢
    have HCT := Lib.hid hct
    obtain ⟨vv, hvv⟩ : ∃ vv, vv = (hVer o).1 := ⟨_, rfl⟩
    rw [← hvv] at ⊢
    have HVV := Lib.hid hvv
    clear hfe hoe ho hct hvv
    go_enter Try.func99, Try.ntmps99
    go_wp2_with fail
    refine KO.out.mono ?_
    rintro e w1 ⟨A1, n1, c1, rfl, ho1, hb1⟩
    have hn1 := ho1.len
    subst hn1
    have H1 := Lib.hid (And.intro ho1 hb1)
    clear ho1 hb1
    go_wp2_with fail
    refine (newReader_any o A1 o.length c1 _ rfl H1.out.1.rb (by omega)).mono ?_
    rintro e w2 ⟨A2, c2, p, rfl, hr2, hb2⟩
    have H2 := Lib.hid (And.intro hr2 (H1.out.2.trans (hb2.mono H1.out.2.size)))
    clear hr2 hb2
    have KH := head_any p w1.heap.size o.length c2 A2 o w2 H2.out.1 (by omega)
    rw [← HCT.out, ← HVV.out] at KH
    have KH := Lib.hid KH
    go_wp2_with fail
    refine KH.out.mono ?_
    rintro e w3 ⟨gl, gz, rfl, hos3, hoi3, hr3, hm3, hglz⟩
    have H3 := Lib.hid (And.intro hos3 (And.intro hoi3 (And.intro hr3 (H2.out.2.trans ((hm3.below H2.out.1.base_le H2.out.1.base_p (fun k hk => by cases hk)).mono H1.out.2.size)))))
    have HPG := Lib.hid hglz
    have HPP := Lib.hid (And.intro H2.out.1.lt (And.intro (own_lt hos3 gl rfl) (show w2.heap.size ≤ gl ∧ w2.heap.size ≤ gz ∧ gz < w3.heap.size by
      refine ⟨own_base hos3 gl rfl, own_base hoi3 gz rfl, own_lt hoi3 gz rfl⟩)))
    have HAb := Lib.hid (show ∀ k, Ytnkbkhlbogcfaaa.blk A2 = some k → k < w2.heap.size from H2.out.1.own.blk_lt)
    clear hos3 hoi3 hr3 hm3
    go_wp2_with (refine wpMakeP cnt rfl rfl rfl rfl (by omega) ?_; intro w4 hp4 hb4 hz4)
    obtain ⟨gs, hgs⟩ : ∃ gs, gs = w3.heap.size := ⟨_, rfl⟩
    rw [← hgs] at hp4 hz4 ⊢
    have H4 := Lib.hid (And.intro (H3.out.1.below hb4) (And.intro (H3.out.2.1.below hb4) (And.intro (H3.out.2.2.1.below hb4) (And.intro (H3.out.2.2.2.trans (hb4.mono H3.out.2.2.2.size)) hp4))))
    have hpg : p < w2.heap.size := HPP.out.1
    have hgl1 : w2.heap.size ≤ gl := HPP.out.2.2.1
    have hgz1 : w2.heap.size ≤ gz := HPP.out.2.2.2.1
    have hgl2 : gl < gs := by have := HPP.out.2.1; omega
    have hgz2 : gz < gs := by have := HPP.out.2.2.2.2; omega
    obtain ⟨G, hG⟩ : ∃ G, G = gs + 1 := ⟨_, rfl⟩
    have hpG : p < G := by omega
    have hpgs : p < gs := by omega
    have glG : gl < G := by omega
    have gsG : gs < G := by omega
    have HG4 := Lib.hid (show w4.heap.size = G by omega)
    have HW2 := Lib.hid (show w.heap.size ≤ w2.heap.size from H2.out.2.size)
    have hws : w.heap.size ≤ gs := by have := HW2.out; omega
    have hzl : gl ≠ gz := by have := HPG.out; omega
    have hgot : Got w4 G o cnt 0 (hL o cnt cnt) := by
      refine ⟨hL_length o cnt cnt, fun i x hx => ?_⟩
      have hi : i < cnt := by have := (List.getElem?_eq_some_iff.1 hx).1; rw [hL_length] at this; exact this
      rw [hL_at o cnt cnt i hi, if_pos hi] at hx
      injection hx with hx
      subst hx
      exact ⟨rfl, rfl, by simp, ⟨by simp [bv], by simp, fun h => absurd h (by simp)⟩, fun ad e => by cases e⟩
    have HGOT := Lib.hid hgot
    clear hp4 hb4 hz4 hgs hgot hG
    have cI : (cnt : Int) ≤ 16 := by omega
    go_wp2_with fail
    go_loopw [39] (fun i wr => ∃ (k : Nat) (l : List SecV), k ≤ cnt ∧ i = .int .i64 k ∧ OSec wr w2.heap.size (some ⟨gl, 0, none⟩) cnt cnt l ∧ Got wr G o cnt k l ∧ OI wr w2.heap.size (some ⟨gz, 0, none⟩) cnt cnt (hZ o cnt cnt) ∧
      OSP wr gs (some ⟨gs, 0, none⟩) cnt cnt (spL o cnt k) ∧ RdB wr w1.heap.size p A2 o.length c2 o (bSt o k).1 (bSt o k).2 ∧ Below w.heap.size w wr ∧ G ≤ wr.heap.size) (fun i _ => cnt - (intOf i).toNat)
    case atStart => exact ⟨0, hL o cnt cnt, by omega, rfl, H4.out.1, HGOT.out, H4.out.2.1, H4.out.2.2.2.2, by show RdB _ _ _ _ _ _ _ (hSt o (hCnt o).1).1 (hSt o (hCnt o).1).2; rw [← HCT.out]; exact H4.out.2.2.1, H4.out.2.2.2.1, by rw [HG4.out]; exact Nat.le_refl _⟩
    case round =>
      obtain ⟨k, l, hk, rfl, hos, hgo, hoi, hsp, hrd, hbl, hGw⟩ := hrel
      have HI := Lib.hid (And.intro hos (And.intro hgo (And.intro hoi (And.intro hsp (And.intro hrd (And.intro hbl hGw))))))
      clear hos hgo hoi hsp hrd hbl hGw
      have k0 : (0 : Int) ≤ (k : Int) := by omega
      by_cases hlt : k < cnt
      · have j1 : (k : Int) < (cnt : Int) := by omega
        obtain ⟨sz, hsz⟩ : ∃ sz, sz = hSize o k := ⟨_, rfl⟩
        have HSZ := Lib.hid hsz
        have zc : wr.cell? ⟨gz, k, none⟩ = some (.int .i64 sz) := by
          obtain ⟨g', hg', hc'⟩ := HI.out.2.2.1.form (by omega)
          injection hg' with hg'
          injection hg' with hg'
          subst hg'
          exact hc' k _ (by rw [hZ_at o cnt cnt k hlt, if_pos hlt, hsz])
        have sz0 : (0 : Int) ≤ (sz : Int) := by omega
        clear hsz
        go_wp2_with fail
        refine (rat_any p w1.heap.size o.length c2 (bSt o k).1 (bSt o k).2 A2 o _ HI.out.2.2.2.2.1).mono ?_
        rintro e w5 ⟨rfl, rfl⟩
        have hlx : ∃ x, l[k]? = some x := ⟨_, List.getElem?_eq_getElem (by rw [HI.out.2.1.len]; exact hlt)⟩
        obtain ⟨x, hx⟩ := hlx
        have hxk := (HI.out.2.1.all k x hx).1
        have KR := rawR_any (RowKit.wrap64 ((hSize o k : Int) + 4)) p w1.heap.size o.length c2 (bSt o k).1 (bSt o k).2 A2 o _ HI.out.2.2.2.2.1 (bSt_at o k) (by omega)
        have hrl := (rRaw_at (e := (bSt o k).2) (RowKit.wrap64 ((hSize o k : Int) + 4)) (bSt_at o k)).2.2
        have hrb : rRaw o (RowKit.wrap64 ((hSize o k : Int) + 4)) (bSt o k).1 (bSt o k).2 = bRaw o (bSt o k) (hSize o k) := rfl
        rw [hrb] at KR hrl
        obtain ⟨r, at', e', hq⟩ : ∃ r at' e', bRaw o (bSt o k) (hSize o k) = (r, at', e') := ⟨_, _, _, rfl⟩
        have HN := Lib.hid (show bSt o (k + 1) = (at', if openE r = 0 then e' else noteE e' (openE r)) ∧ bBody o k = openB r by
          refine ⟨?_, by unfold bBody; rw [hq]⟩
          show bNext o (bSt o k) (hSize o k) = _
          unfold bNext
          rw [hq])
        rw [hq] at KR hrl
        dsimp only at KR hrl
        rw [← HSZ.out] at KR
        have KR := Lib.hid KR
        have HX := Lib.hid (And.intro hx hxk)
        obtain ⟨at_, hat_⟩ : ∃ a, a = (bSt o k).1 := ⟨_, rfl⟩
        have HAT := Lib.hid hat_
        rw [← hat_]
        have at0 : (0 : Int) ≤ (at_ : Int) := by omega
        clear hx hxk hrb hq hat_
        go_wp2_with fail
        refine KR.out.mono ?_
        rintro e w6 ⟨A6, c6, rfl, ho6, hr6, hm6⟩
        have hp2 : p < w2.heap.size := hpg
        have H6 := Lib.hid (And.intro ho6 (And.intro hr6 (And.intro (HI.out.1.mod hm6 hp2) (And.intro (HI.out.2.1.mod hm6 (by omega)) (And.intro (HI.out.2.2.1.mod hm6 hp2) (And.intro (HI.out.2.2.2.1.mod hm6 (by omega)) (And.intro (HI.out.2.2.2.2.2.1.trans ((hm6.below HI.out.2.2.2.2.1.base_le HI.out.2.2.2.2.1.base_p (fun q hq => by cases hq)).mono H1.out.2.size)) (Nat.le_trans HI.out.2.2.2.2.2.2 hm6.size))))))))
        clear ho6 hr6 hm6
        go_wp2_with fail
        refine (open_any r A6 r.length c6 _ rfl H6.out.1.rb (by omega) H6.out.1.cap).mono ?_
        rintro e w7 ⟨A7, n7, c7, rfl, ho7, hb7⟩
        have HN7 := Lib.hid (And.intro ho7.len ho7.cap)
        have H7 := Lib.hid (And.intro (ho7.lower H6.out.2.2.2.2.2.2.2) (And.intro (H6.out.2.1.below hb7) (And.intro (H6.out.2.2.1.below hb7) (And.intro (H6.out.2.2.2.1.below hb7) (And.intro (H6.out.2.2.2.2.1.below hb7) (And.intro (H6.out.2.2.2.2.2.1.below hb7) (And.intro (H6.out.2.2.2.2.2.2.1.trans (hb7.mono H6.out.2.2.2.2.2.2.1.size)) (Nat.le_trans H6.out.2.2.2.2.2.2.2 hb7.size))))))))
        clear ho7 hb7 zc
        obtain ⟨er, her⟩ : ∃ er, er = openE r := ⟨_, rfl⟩
        rw [← her] at HN ⊢
        clear her
        by_cases hf : er = 0
        all_goals
          first
            | (have b1 : (er == 0) = true := by simp [hf]
               have HN := Lib.hid (show bSt o (k + 1) = (at', e') ∧ bBody o k = openB r by have := HN.out; rw [if_pos hf] at this; exact this)
               subst hf
               obtain ⟨w8, hw8⟩ : ∃ w8, w8 = w7 := ⟨_, rfl⟩
               rw [← hw8]
               have H8 := Lib.hid (show OB w8 G A7 n7 c7 (openB r) ∧ RdB w8 w1.heap.size p A2 o.length c2 o (bSt o (k + 1)).1 (bSt o (k + 1)).2 ∧ OSec w8 w2.heap.size (some ⟨gl, 0, none⟩) cnt cnt l ∧ Got w8 G o cnt k l ∧ OI w8 w2.heap.size (some ⟨gz, 0, none⟩) cnt cnt (hZ o cnt cnt) ∧ OSP w8 gs (some ⟨gs, 0, none⟩) cnt cnt (spL o cnt k) ∧ Below w.heap.size w w8 ∧ G ≤ w8.heap.size by
                 rw [hw8, HN.out.1]; exact H7.out)
               clear hw8)
            | (have b1 : (er == 0) = false := by simp [hf]
               have HN := Lib.hid (show bSt o (k + 1) = (at', noteE e' er) ∧ bBody o k = openB r by have := HN.out; rw [if_neg hf] at this; exact this)
               go_wp2_with fail
               refine (rfail_any er p w1.heap.size o.length c2 at' e' A2 o _ H7.out.2.1).mono ?_
               rintro e w8 ⟨rfl, hr8, hm8⟩
               have H8 := Lib.hid (show OB w8 G A7 n7 c7 (openB r) ∧ RdB w8 w1.heap.size p A2 o.length c2 o (bSt o (k + 1)).1 (bSt o (k + 1)).2 ∧ OSec w8 w2.heap.size (some ⟨gl, 0, none⟩) cnt cnt l ∧ Got w8 G o cnt k l ∧ OI w8 w2.heap.size (some ⟨gz, 0, none⟩) cnt cnt (hZ o cnt cnt) ∧ OSP w8 gs (some ⟨gs, 0, none⟩) cnt cnt (spL o cnt k) ∧ Below w.heap.size w w8 ∧ G ≤ w8.heap.size by
                 rw [HN.out.1]
                 exact ⟨own_move H7.out.1 fun q hq => hm8.block q (own_lt H7.out.1 q hq) (by have := own_base H7.out.1 q hq; omega) (by simp), hr8, H7.out.2.2.1.mod hm8 hp2, H7.out.2.2.2.1.mod hm8 (by omega), H7.out.2.2.2.2.1.mod hm8 hp2, H7.out.2.2.2.2.2.1.mod hm8 (by omega),
                   H7.out.2.2.2.2.2.2.1.trans ((hm8.below H7.out.2.1.base_le H7.out.2.1.base_p (fun q hq => by cases hq)).mono H1.out.2.size), Nat.le_trans H7.out.2.2.2.2.2.2.2 hm8.size⟩)
               clear hr8 hm8)
          obtain ⟨y, hy⟩ : ∃ y : SecV, y = ⟨hKind o k, A7, c7, openB r⟩ := ⟨_, rfl⟩
          have HY := Lib.hid (show y.k = hKind o k ∧ y.A = A7 ∧ y.c = c7 ∧ y.b = openB r by rw [hy]; exact ⟨rfl, rfl, rfl, rfl⟩)
          have hyl : y.b.length = n7 := by rw [HY.out.2.2.2]; exact HN7.out.1
          obtain ⟨s0, f0, hst⟩ := H8.out.2.2.1.store (y := y) HX.out.1 (by rw [HY.out.1, HX.out.2])
          rw [hyl, HY.out.2.1, HY.out.2.2.1] at hst
          have hsp1 := H8.out.2.2.2.2.2.1.other (g := gl) (by rintro ad h; injection h with h; subst h; dsimp only; omega) (k * 2 + 1) (.slice A7 n7 c7)
          obtain ⟨⟨⟨v0, p0⟩, ⟨v1, p1⟩⟩, ⟨fp0, fp1⟩, hsp2⟩ := hsp1.store hlt ((at_ : Int), RowKit.wrap64 ((at_ : Int) + (sz : Int)))
          have zc8 : w8.cell? ⟨gz, k, none⟩ = some (.int .i64 sz) := by
            obtain ⟨g', hg', hc'⟩ := H8.out.2.2.2.2.1.form (by omega)
            injection hg' with hg'
            injection hg' with hg'
            subst hg'
            exact hc' k _ (by rw [hZ_at o cnt cnt k hlt, if_pos hlt, HSZ.out])
          have HST := Lib.hid (And.intro hst hsp2)
          have hlen := HN7.out.2
          clear hst hsp1 hsp2 hy
          go_wp2
          go_roundw
          case rel =>
            have hne1 : ∀ ad : Addr, some (⟨gl, 0, none⟩ : Addr) = some ad → ad.block ≠ gs := by rintro ad h; injection h with h; subst h; dsimp only; omega
            have hob : OB (((w8.setCell ⟨gl, k * 2 + 1, none⟩ (.slice A7 n7 c7)).setCell ⟨gs, k * 2, none⟩ (.int .i64 (at_ : Int))).setCell ⟨gs, k * 2 + 1, none⟩ (.int .i64 (RowKit.wrap64 ((at_ : Int) + (sz : Int))))) G A7 n7 c7 (openB r) := by
              have hne : ∀ g, g < G → (Value.slice A7 n7 c7).ownBlock ≠ some g := fun g hg q => by have := own_base H8.out.1 g q; omega
              exact ownsRow_setCell_other (ownsRow_setCell_other (ownsRow_setCell_other H8.out.1 (hne gl glG) _) (hne gs gsG) _) (hne gs gsG) _
            refine ⟨k + 1, l.set k y, by omega, by go_num, (HST.out.1.other hne1 _ _).other hne1 _ _, ?_, ?_, ?_, ?_, ?_, ?_⟩
            · refine (((H8.out.2.2.2.1.store glG (k * 2 + 1) (.slice A7 n7 c7)).store gsG (k * 2) (.int .i64 (at_ : Int))).store gsG (k * 2 + 1) _).next hlt HY.out.1 (by rw [HY.out.2.2.2, HN.out.2]) (by rw [hyl, HY.out.2.2.1]; exact hlen) ?_ ?_
              · rw [HY.out.2.1, HY.out.2.2.2]; exact hob.rb
              · rw [HY.out.2.1]; intro ad e _; exact ob_ge hob ad e
            · have hz1 : ∀ ad : Addr, some (⟨gz, 0, none⟩ : Addr) = some ad → ad.block ≠ gl := by rintro ad h; injection h with h; subst h; exact hzl.symm
              have hz2 : ∀ ad : Addr, some (⟨gz, 0, none⟩ : Addr) = some ad → ad.block ≠ gs := by rintro ad h; injection h with h; subst h; dsimp only; omega
              exact ((H8.out.2.2.2.2.1.other hz1 _ _).other hz2 _ _).other hz2 _ _
            · show OSP _ gs (some ⟨gs, 0, none⟩) cnt cnt ((spL o cnt k).set k (((bSt o k).1 : Int), RowKit.wrap64 (((bSt o k).1 : Int) + (hSize o k : Int))))
              rw [← HAT.out, ← HSZ.out]
              exact HST.out.2
            · have hb1 : Ytnkbkhlbogcfaaa.blk A2 ≠ some gl := by intro q; have := HAb.out gl q; omega
              have hb2 : Ytnkbkhlbogcfaaa.blk A2 ≠ some gs := by intro q; have := HAb.out gs q; omega
              exact ((H8.out.2.1.store1 (by omega) hb1 _ _).store1 (by omega) hb2 _ _).store1 (by omega) hb2 _ _
            · have hwl : w.heap.size ≤ gl := by have := HW2.out; omega
              exact ((H8.out.2.2.2.2.2.2.1.setCell hwl _).setCell hws _).setCell hws _
            · simpa using H8.out.2.2.2.2.2.2.2
          case measure => simp [intOf]; omega
      · obtain rfl : k = cnt := by omega
        have KE := rend_any p w1.heap.size o.length c2 (bSt o k).1 (bSt o k).2 A2 o _ HI.out.2.2.2.2.1 (bSt_at o k) (by omega)
        have hbe : (if (bSt o k).2 = 0 ∧ (bSt o k).1 < o.length then 3 else (bSt o k).2) = bEnd o := by unfold bEnd; rw [← HCT.out]
        rw [hbe] at KE
        obtain ⟨er, her⟩ : ∃ er, er = bEnd o := ⟨_, rfl⟩
        rw [← her] at KE
        have HER := Lib.hid her
        have KE := Lib.hid KE
        clear hbe her
        by_cases hz : er = 0
        · subst hz
          go_wp2_with fail
          refine KE.out.mono ?_
          rintro e w5 ⟨rfl, hr5, hm5⟩
          have H5 := Lib.hid (And.intro (HI.out.1.mod hm5 hpg) (And.intro (HI.out.2.1.mod hm5 hpG) (And.intro (HI.out.2.2.2.1.mod hm5 hpgs) (HI.out.2.2.2.2.2.1.trans ((hm5.below HI.out.2.2.2.2.1.base_le HI.out.2.2.2.2.1.base_p (fun q hq => by cases hq)).mono H1.out.2.size)))))
          clear hr5 hm5
          go_wp2
          refine post4 rfl rfl ?_
          rw [← HER.out]
          exact ⟨.inr ⟨rfl, gl, gs, l, rfl, own_lower H5.out.1 HW2.out, H5.out.2.1.lower (by omega), own_lower H5.out.2.2.1 hws⟩, H5.out.2.2.2⟩
        · have b1 : (er == 0) = false := by simp [hz]
          go_wp2_with fail
          refine KE.out.mono ?_
          rintro e w5 ⟨rfl, hr5, hm5⟩
          have H5 := Lib.hid (HI.out.2.2.2.2.2.1.trans ((hm5.below HI.out.2.2.2.2.1.base_le HI.out.2.2.2.2.1.base_p (fun q hq => by cases hq)).mono H1.out.2.size))
          clear hr5 hm5
          go_wp2
          refine post4 rfl rfl ?_
          rw [← HER.out]
          exact ⟨.inl ⟨hz, rfl⟩, H5.out⟩
  · have hfe : fileE b = openE b := by unfold fileE; rw [if_pos ho]
    rw [hfe]
    obtain ⟨er, her⟩ : ∃ er, er = openE b := ⟨_, rfl⟩
    rw [← her] at KO ho ⊢
    have g1 : (er == 0) = false := by simp [ho]
    clear hfe her
    go_enter Try.func99, Try.ntmps99
    go_wp2_with fail
    refine KO.out.mono ?_
    rintro e w1 ⟨A1, n1, c1, rfl, ho1, hb1⟩
    have H1 := Lib.hid hb1
    clear ho1 hb1
    go_wp2
    refine post4 rfl rfl ?_
    exact ⟨.inl ⟨ho, rfl⟩, H1.out⟩
end
end Go.Proofs.Ytnkbkhlbogcfaaa
