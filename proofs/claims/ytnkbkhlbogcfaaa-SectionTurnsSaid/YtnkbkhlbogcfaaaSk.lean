/- The head of a file: the walk. -/
import Derived.Test.YtnkbkhlbogcfaaaSj
import Derived.Test.YtnkbkhlbogcfaaaRd
import Derived.Test.YtnkbkhlbogcfaaaRv
set_option linter.unusedVariables false
set_option linter.unusedSimpArgs false
namespace Go.Proofs.Ytnkbkhlbogcfaaa
open Go.RowKit Go.Proofs.YtnkbkhlbogcfaaaW.PrintWords
noncomputable section

/-- sections of which k Kinds are stored -/
def hL (b : List UInt8) (n : Nat) : Nat → List SecV
  | 0 => List.replicate n sec0
  | k + 1 => (hL b n k).set k ⟨hKind b k, none, 0, []⟩
def hZ (b : List UInt8) (n : Nat) : Nat → List Int
  | 0 => List.replicate n 0
  | k + 1 => (hZ b n k).set k (hSize b k)
theorem hL_length (b : List UInt8) (n : Nat) : ∀ k, (hL b n k).length = n := by intro k; induction k with | zero => simp [hL] | succ k ih => simp [hL, ih]
theorem hZ_length (b : List UInt8) (n : Nat) : ∀ k, (hZ b n k).length = n := by intro k; induction k with | zero => simp [hZ] | succ k ih => simp [hZ, ih]
theorem hL_at (b : List UInt8) (n : Nat) : ∀ k i, i < n → (hL b n k)[i]? = some (if i < k then ⟨hKind b i, none, 0, []⟩ else sec0) := by
  intro k
  induction k with
  | zero => intro i hi; simp [hL, hi]
  | succ k ih =>
    intro i hi
    simp only [hL]
    rw [List.getElem?_set, hL_length]
    by_cases h : k = i
    · subst h; rw [if_pos rfl, if_pos hi, if_pos (by omega)]
    · rw [if_neg h, ih i hi]
      by_cases h2 : i < k
      · rw [if_pos h2, if_pos (by omega)]
      · rw [if_neg h2, if_neg (by omega)]
theorem hZ_at (b : List UInt8) (n : Nat) : ∀ k i, i < n → (hZ b n k)[i]? = some (if i < k then (hSize b i : Int) else 0) := by
  intro k
  induction k with
  | zero => intro i hi; simp [hZ, hi]
  | succ k ih =>
    intro i hi
    simp only [hZ]
    rw [List.getElem?_set, hZ_length]
    by_cases h : k = i
    · subst h; rw [if_pos rfl, if_pos hi, if_pos (by omega)]
    · rw [if_neg h, ih i hi]
      by_cases h2 : i < k
      · rw [if_pos h2, if_pos (by omega)]
      · rw [if_neg h2, if_neg (by omega)]

theorem bs_eq (a b : List UInt8) : (bs a = bs b) ↔ a = b := ⟨fun h => by have := congrArg sb h; rwa [sb_bs, sb_bs] at this, fun h => by rw [h]⟩
theorem bs_toL (a : List UInt8) : (bs a).toList = a := by
  show ByteArray.toList _ = _
  simp [bs]
theorem hibr : (⟨#[72, 73, 66, 82]⟩ : ByteArray) = bs [72, 73, 66, 82] := rfl

set_option maxHeartbeats 4000000 in
set_option maxRecDepth 100000 in
theorem head_any (p base n c : Nat) (A : Option Addr) (b : List UInt8) (w : World) (h : RdB w base p A n c b 0 0) (hn : n ≤ 900000) :
    Calls Try.prog 108 #[.pointer (some ⟨p, 0, none⟩)] w fun e w' => ∃ gl gz, e = .returned (.tuple #[.int .i64 ((hVer b).1 : Nat), .slice (some ⟨gl, 0, none⟩) (hCnt b).1 (hCnt b).1, .slice (some ⟨gz, 0, none⟩) (hCnt b).1 (hCnt b).1]) ∧
      OSec w' w.heap.size (some ⟨gl, 0, none⟩) (hCnt b).1 (hCnt b).1 (hL b (hCnt b).1 (hCnt b).1) ∧ OI w' w.heap.size (some ⟨gz, 0, none⟩) (hCnt b).1 (hCnt b).1 (hZ b (hCnt b).1 (hCnt b).1) ∧
      RdB w' base p A n c b (hSt b (hCnt b).1).1 (hSt b (hCnt b).1).2 ∧ Mod w w' p none ∧ gl < gz := by
  have hl := h.own.len
  subst hl
  have HR := Lib.hid h
  have HP := Lib.hid h.lt
  have HA := Lib.hid (show ∀ k, Ytnkbkhlbogcfaaa.blk A = some k → k < w.heap.size from h.own.blk_lt)
  have hcnt := hCnt_le b
  have hv256 := hVer_lt b
  obtain ⟨vv, hvv⟩ : ∃ vv, vv = (hVer b).1 := ⟨_, rfl⟩
  rw [← hvv] at hv256 ⊢
  have HV := Lib.hid hvv
  obtain ⟨n, hnc⟩ : ∃ n, n = (hCnt b).1 := ⟨_, rfl⟩
  rw [← hnc] at hcnt ⊢
  have HNC := Lib.hid hnc
  clear h hvv hnc
  have K42 := Lib.hid (rawR_any 4 p base b.length c 0 0 A b w HR.out (by omega) hn)
  obtain ⟨r0, at0, e0, hr0⟩ : ∃ r0 at0 e0, rRaw b 4 0 0 = (r0, at0, e0) := ⟨_, _, _, rfl⟩
  have ha0 : at0 ≤ b.length := by have := (rRaw_at (b := b) (at_ := 0) (e := 0) 4 (by omega)).2.1; rw [hr0] at this; exact this
  rw [hr0] at K42
  dsimp only at K42
  have hh0 : hd0 b = (at0, if r0 = [72, 73, 66, 82] then e0 else noteE e0 3) := by unfold hd0; rw [hr0]
  have HH0 := Lib.hid hh0
  clear hr0 hh0
  go_enter Try.func108, Try.ntmps108
  go_wp2_with fail
  refine K42.out.mono ?_
  rintro e w1 ⟨A1, c1, rfl, ho1, hr1, hm1⟩
  have H1 := Lib.hid (And.intro ho1 (And.intro hr1 hm1))
  clear ho1 hr1 hm1
  -- behind the four bytes
  obtain ⟨e1, he1⟩ : ∃ e1, e1 = if r0 = [72, 73, 66, 82] then e0 else noteE e0 3 := ⟨_, rfl⟩
  have HH1 := Lib.hid (show hd0 b = (at0, e1) by rw [HH0.out, he1])
  by_cases hmg : r0 = [72, 73, 66, 82]
  all_goals
    first
      | (rw [if_pos hmg] at he1
         subst he1
         have hcmp : ((bs r0).toList == [72, 73, 66, 82]) = true := by rw [bs_toL, hmg]; rfl
         have H2 := Lib.hid (show RdB w1 base p A b.length c b at0 e1 ∧ Mod w w1 p none from ⟨H1.out.2.1, H1.out.2.2⟩)
         clear hmg
         go_wp2_with (refine convB A1 r0.length c1 r0 rfl rfl rfl H1.out.1.rb rfl ?_)
         obtain ⟨w2, hw2⟩ : ∃ w2, w2 = w1 := ⟨_, rfl⟩
         rw [← hw2]
         have H2 := Lib.hid (show RdB w2 base p A b.length c b at0 e1 ∧ Mod w w2 p none by rw [hw2]; exact H2.out)
         clear hw2)
      | (rw [if_neg hmg] at he1
         have hcmp : ((bs r0).toList == [72, 73, 66, 82]) = false := by
           rw [beq_eq_false_iff_ne]
           intro q
           rw [bs_toL] at q
           exact hmg q
         go_wp2_with (refine convB A1 r0.length c1 r0 rfl rfl rfl H1.out.1.rb rfl ?_)
         refine (rfail_any 3 p base b.length c at0 e0 A b _ H1.out.2.1).mono ?_
         rintro e w2 ⟨rfl, hr2, hm2⟩
         have H2 := Lib.hid (show RdB w2 base p A b.length c b at0 e1 ∧ Mod w w2 p none from ⟨by rw [he1]; exact hr2, Mod.trans H1.out.2.2 (Succ.refl _ _) hm2⟩)
         clear hr2 hm2 he1 hmg
         go_wp2_with fail)
    have KV := Lib.hid (fixedR_any 1 p base b.length c at0 e1 A b w2 (by omega) H2.out.1 ha0 hn)
    have hve : hVer b = rFixed b 1 at0 e1 := by unfold hVer; rw [HH1.out]
    rw [← hve, ← HV.out] at KV
    refine KV.out.mono ?_
    rintro e w3 ⟨rfl, hr3, hm3⟩
    have H3 := Lib.hid (And.intro hr3 (Mod.trans H2.out.2 (Succ.refl _ _) hm3))
    have KL := Lib.hid (listR_any 16 p base b.length c (hVer b).2.1 (hVer b).2.2 A b w3 H3.out.1 (hVer_at b) hn)
    have hce : hCnt b = rList b 16 (hVer b).2.1 (hVer b).2.2 := rfl
    rw [← hce] at KL
    have v0 : (0 : Int) ≤ (vv : Int) := by omega
    have v1 : (vv : Int) < 256 := by omega
    rw [← HNC.out] at KL
    clear hr3 hm3 hve hce
    go_wp2_with fail
    refine KL.out.mono ?_
    rintro e w4 ⟨rfl, hr4, hm4⟩
    have H4 := Lib.hid (show RdB w4 base p A b.length c b (hSt b 0).1 (hSt b 0).2 ∧ Mod w w4 p none from ⟨hr4, Mod.trans H3.out.2 (Succ.refl _ _) hm4⟩)
    clear hr4 hm4
    go_wp2_with (first
      | (refine wpMakeS n rfl rfl rfl rfl (by omega) ?_; intro w5 hs5 hb5 hz5)
      | (refine wpMakeI n rfl rfl rfl rfl (by omega) ?_; intro w6 hi6 hb6 hz6))
    obtain ⟨gl, hgl⟩ : ∃ gl, gl = w4.heap.size := ⟨_, rfl⟩
    obtain ⟨gz, hgz⟩ : ∃ gz, gz = w4.heap.size + 1 := ⟨_, rfl⟩
    have hzz : w5.heap.size = gz := by rw [hgz]; exact hz5
    rw [hzz] at hi6 hz6
    have hlz : gl < gz := by omega
    have hsz4 := H4.out.2.size
    have hglw : w.heap.size ≤ gl := by omega
    have hgzw : w.heap.size ≤ gz := by omega
    have H6 := Lib.hid (show OSec w6 w.heap.size (some ⟨gl, 0, none⟩) n n (hL b n 0) ∧ OI w6 w.heap.size (some ⟨gz, 0, none⟩) n n (hZ b n 0) ∧ RdB w6 base p A b.length c b (hSt b 0).1 (hSt b 0).2 ∧ Mod w w6 p none by
      have hb46 := hb5.trans (hb6.mono hb5.size)
      refine ⟨?_, ?_, H4.out.1.below hb46, Mod.trans H4.out.2 (Succ.refl _ _) (mod_of_below hb46 p none)⟩
      · rw [hgl]
        exact ⟨(hs5.below hb6).1, by
          rcases (hs5.below hb6).2 with ⟨e, _⟩ | ⟨g, cap, cur, e, hg, r⟩
          · injection e with e1; cases e1
          · exact .inr ⟨g, cap, cur, e, by omega, r⟩⟩
      · exact ⟨hi6.1, by
          rcases hi6.2 with ⟨e, _⟩ | ⟨g, cap, cur, e, hg, r⟩
          · injection e with e1; cases e1
          · exact .inr ⟨g, cap, cur, e, by omega, r⟩⟩)
    rw [← hgz, ← hgl]
    clear hzz hs5 hb5 hz5 hi6 hb6 hz6 hgl hgz hsz4
    have nI : (n : Int) ≤ 16 := by omega
    have hpl : p < w.heap.size := HP.out
    have hAl : Ytnkbkhlbogcfaaa.blk A ≠ some gl := by intro q; have := HA.out gl q; omega
    have hAz : Ytnkbkhlbogcfaaa.blk A ≠ some gz := by intro q; have := HA.out gz q; omega
    have HA2 := Lib.hid (And.intro hAl hAz)
    clear hAl hAz
    go_wp2_with fail
    go_loopw [26] (fun i wr => ∃ k : Nat, k ≤ n ∧ i = .int .i64 k ∧ OSec wr w.heap.size (some ⟨gl, 0, none⟩) n n (hL b n k) ∧ OI wr w.heap.size (some ⟨gz, 0, none⟩) n n (hZ b n k) ∧ RdB wr base p A b.length c b (hSt b k).1 (hSt b k).2 ∧ Mod w wr p none) (fun i _ => n - (intOf i).toNat)
    case atStart => exact ⟨0, by omega, rfl, H6.out⟩
    case round =>
      obtain ⟨k, hk, rfl, hos, hoi, hrd, hmd⟩ := hrel
      have HI := Lib.hid (And.intro hos (And.intro hoi (And.intro hrd hmd)))
      have k0 : (0 : Int) ≤ (k : Int) := by omega
      by_cases hlt : k < n
      · have j1 : (k : Int) < (n : Int) := by omega
        have KF := Lib.hid (fixedR_any 1 p base b.length c (hSt b k).1 (hSt b k).2 A b wr (by omega) hrd (hSt_at b k) hn)
        have kk256 := hKind_lt b k
        have hfe : rFixed b 1 (hSt b k).1 (hSt b k).2 = hF b (hSt b k) := rfl
        rw [hfe] at KF
        have hke : (hF b (hSt b k)).1 = hKind b k := rfl
        rw [hke] at KF
        obtain ⟨kk, hkk⟩ : ∃ kk, kk = hKind b k := ⟨_, rfl⟩
        rw [← hkk] at KF kk256
        have HKK := Lib.hid hkk
        have kk0 : (0 : Int) ≤ (kk : Int) := by omega
        have kk1 : (kk : Int) < 256 := by omega
        clear hos hoi hrd hmd hfe hke hkk
        go_wp2_with fail
        refine KF.out.mono ?_
        rintro e w7 ⟨rfl, hr7, hm7⟩
        have KS := Lib.hid (shortR_any p base b.length c (hF b (hSt b k)).2.1 (hF b (hSt b k)).2.2 A b w7 hr7 (hF_at (hSt_at b k)) hn)
        have hse : rShort b (hF b (hSt b k)).2.1 (hF b (hSt b k)).2.2 = hS b (hSt b k) := rfl
        rw [hse] at KS
        have hze : (hS b (hSt b k)).1 = hSize b k := rfl
        rw [hze] at KS
        have hsz := (hS_at (hSt_at b k)).2
        rw [hze] at hsz
        have H7 := Lib.hid (And.intro (HI.out.1.mod hm7 hpl) (And.intro (HI.out.2.1.mod hm7 hpl) (Mod.trans HI.out.2.2.2 (Succ.refl _ _) hm7)))
        obtain ⟨sz, hsze⟩ : ∃ sz, sz = hSize b k := ⟨_, rfl⟩
        rw [← hsze] at KS hsz
        have HSZ := Lib.hid hsze
        have sz0 : (0 : Int) ≤ (sz : Int) := by omega
        clear hr7 hm7 hse hze hsze
        go_wp2_with fail
        refine KS.out.mono ?_
        rintro e w8 ⟨rfl, hr8, hm8⟩
        have hos8 := H7.out.1.mod hm8 hpl
        have hoi8 := H7.out.2.1.mod hm8 hpl
        have hx : (hL b n k)[k]? = some sec0 := by rw [hL_at b n k k hlt, if_neg (by omega)]
        obtain ⟨c0, f0, hos9⟩ := hos8.storeK (y := ⟨kk, none, 0, []⟩) hx rfl rfl rfl
        obtain ⟨⟨z0, cz⟩, fz, hoi9⟩ := (hoi8.other (g := gl) (by rintro ad h; injection h with h; subst h; dsimp only; omega) (k * 2) (.int .i64 (kk : Int))).store k sz hlt
        have hos10 := hos9.other (g := gz) (by rintro ad h; injection h with h; subst h; dsimp only; omega) k (.int .i64 (sz : Int))
        have hr10 := (hr8.store1 (g := gl) (by omega) HA2.out.1 (k * 2) (.int .i64 (kk : Int))).store1 (g := gz) (by omega) HA2.out.2 k (.int .i64 (sz : Int))
        have hm10 := mod_store1 (mod_store1 (Mod.trans H7.out.2.2 (Succ.refl _ _) hm8) hglw (k * 2) (.int .i64 (kk : Int))) hgzw k (.int .i64 (sz : Int))
        have cz10 : ((w8.setCell ⟨gl, k * 2, none⟩ (.int .i64 (kk : Int))).setCell ⟨gz, k, none⟩ (.int .i64 (sz : Int))).cell? ⟨gz, k, none⟩ = some (.int .i64 (sz : Int)) := by
          obtain ⟨g', hg', hc'⟩ := hoi9.form (by omega)
          injection hg' with hg'
          injection hg' with hg'
          subst hg'
          exact hc' k _ (by rw [List.getElem?_set_self (by rw [hZ_length]; exact hlt)])
        have H10 := Lib.hid (And.intro hos10 (And.intro hoi9 (And.intro hr10 hm10)))
        clear hos8 hoi8 hx hos9 hoi9 hos10 hr10 hm10 hr8 hm8
        obtain ⟨w10, hw10⟩ : ∃ w10, w10 = (w8.setCell ⟨gl, k * 2, none⟩ (.int .i64 (kk : Int))).setCell ⟨gz, k, none⟩ (.int .i64 (sz : Int)) := ⟨_, rfl⟩
        rw [← hw10] at H10 cz10
        have hLs := Lib.hid (show hL b n (k + 1) = (hL b n k).set k ⟨kk, none, 0, []⟩ by rw [HKK.out]; rfl)
        have hZs := Lib.hid (show hZ b n (k + 1) = (hZ b n k).set k (sz : Int) by rw [HSZ.out]; rfl)
        by_cases hbig : 1048576 < sz
        · have hbI : (1048576 : Int) < (sz : Int) := by omega
          have hst := Lib.hid (show hSt b (k + 1) = ((hS b (hSt b k)).2.1, noteE (hS b (hSt b k)).2.2 3) by
            show hNext b (hSt b k) = _
            unfold hNext
            rw [if_pos (by rw [HSZ.out] at hbig; exact hbig)])
          rw [hw10] at cz10
          go_wp2_with fail
          rw [← hw10]
          clear hw10 cz10
          refine (rfail_any 3 p base b.length c (hS b (hSt b k)).2.1 (hS b (hSt b k)).2.2 A b _ H10.out.2.2.1).mono ?_
          rintro e w11 ⟨rfl, hr11, hm11⟩
          have H11 := Lib.hid (And.intro (H10.out.1.mod hm11 hpl) (And.intro (H10.out.2.1.mod hm11 hpl) (And.intro hr11 (Mod.trans H10.out.2.2.2 (Succ.refl _ _) hm11))))
          clear hr11 hm11
          go_wp2
          go_roundw
          case rel =>
            refine ⟨k + 1, by omega, by go_num, ?_⟩
            rw [hLs.out, hZs.out, hst.out]
            exact H11.out
          case measure => simp [intOf]; omega
        · have hbI : (sz : Int) ≤ 1048576 := by omega
          have hst := Lib.hid (show hSt b (k + 1) = ((hS b (hSt b k)).2.1, (hS b (hSt b k)).2.2) by
            show hNext b (hSt b k) = _
            unfold hNext
            rw [if_neg (by rw [HSZ.out] at hbig; exact hbig)])
          rw [hw10] at cz10 H10
          clear hw10
          go_wp2
          go_roundw
          case rel =>
            refine ⟨k + 1, by omega, by go_num, ?_⟩
            rw [hLs.out, hZs.out, hst.out]
            exact H10.out
          case measure => simp [intOf]; omega
      · obtain rfl : k = n := by omega
        clear hos hoi hrd hmd
        go_wp2
        go_ret3
        exact ⟨gl, gz, rfl, HI.out.1, HI.out.2.1, HI.out.2.2.1, HI.out.2.2.2, hlz⟩
end
end Go.Proofs.Ytnkbkhlbogcfaaa
