/- What is written, by the program, and by the document: the walk of puts. -/
import Derived.Test.YtnkbkhlbogcfaaaN
import Derived.StillTailTactics
import Derived.Deep.RegionHeld3
set_option linter.unusedVariables false
set_option linter.unusedSimpArgs false
namespace Go.Proofs.Ytnkbkhlbogcfaaa
open Go.RowKit Go.Proofs.YtnkbkhlbogcfaaaW.PrintWords
noncomputable section

set_option maxHeartbeats 8000000 in
set_option maxRecDepth 100000 in
theorem puts_any (l : List PutV) (A : Option Addr) (L c : Nat) (w : World) (hL : l.length = L) (hP : PU w A l) :
    Calls Try.prog 37 #[.slice A L c] w fun e w' => ∃ A' n c' B d, e = .returned (.tuple #[.slice A' n c', .slice B n d, .int .i64 n]) ∧ OB w' w.heap.size A' n c' (putsB (l.take 20)) ∧ OB w' w.heap.size B n d (putsB (l.take 20)) ∧
      n ≤ 4180 ∧ Below w.heap.size w w' := by
  have hP' := Lib.hid hP
  have hLI : (L : Int) ≤ 9223372036854775807 := by have := hP.1; omega
  have hLh := Lib.hid hL
  have hw0 := Lib.hid (WrB.new w)
  clear hP hL
  go_enter Try.func37, Try.ntmps37
  go_wp2
  go_loopw [6, 7] (fun v i wr => ∃ (k : Nat) (A1 : Option Addr) (n c1 : Nat) (B : Option Addr) (d : Nat), k ≤ L ∧ k ≤ 20 ∧ i = .int .i64 k ∧ v = .slice B n d ∧ n ≤ 209 * k ∧
      Two wr w.heap.size w.heap.size A1 n c1 (putsB (l.take k)) B n d (putsB (l.take k)) ∧ Below w.heap.size w wr)
    (fun _ i _ => L - (intOf i).toNat)
  case atStart =>
    exact ⟨0, none, 0, 0, none, 0, by omega, by omega, rfl, rfl, by omega, ⟨hw0.out, OB.nil _ _, by simp [blk], fun k hk => by cases hk⟩, below_alloc (Below.refl _ _) _⟩
  case round =>
    obtain ⟨k, A1, n, c1, B, d, hk1, hk2, rfl, rfl, hn, hT, hb⟩ := hrel
    have HT := Lib.hid hT
    have HB := Lib.hid hb
    clear hT hb
    have k0 : (0 : Int) ≤ (k : Int) := by omega
    by_cases hgo : k < L ∧ k < 20
    · obtain ⟨g1, g2⟩ := hgo
      have j1 : (k : Int) < (L : Int) := by omega
      have j2 : (k : Int) < 20 := by omega
      obtain ⟨⟨xk, xn, xv, xs⟩, hx⟩ : ∃ x, l[k]? = some x := ⟨_, List.getElem?_eq_getElem (by have := hLh.out; omega)⟩
      have hxok := hP'.out.2.1 _ (List.mem_of_getElem? hx)
      have hlen := putB_len hxok
      obtain ⟨ad, had, e0, e1, e2, e3⟩ := (hP'.out.below HB.out).2.2 k _ hx
      obtain ⟨⟨a1, a2⟩, ⟨a3, a4⟩, ⟨a5, a6⟩, hsI⟩ := hxok
      dsimp only at e0 e1 e2 e3 a1 a2 a3 a4 a5 a6 hsI
      have hX := Lib.hid (putsB_succ hx)
      have KE : ∀ w', Below w.heap.size w w' → w'.cell? ⟨(ad.add (k * 4)).block, (ad.add (k * 4)).off + 1, none⟩ = some (.int .i64 xn) ∧ w'.cell? ⟨(ad.add (k * 4)).block, (ad.add (k * 4)).off + 2, none⟩ = some (.int .i64 xv) := by
        intro w' h
        obtain ⟨ad', had', q0, q1, q2, q3⟩ := (hP'.out.below h).2.2 k _ hx
        have he : ad = ad' := by rw [had] at had'; injection had'
        subst he
        exact ⟨q1, q2⟩
      have KE := Lib.hid KE
      subst had
      clear hx
      have HTd := Lib.hid (HT.out.below (Below.refl _ _).drew)
      have HBd := Lib.hid HB.out.drew
      have hn2 : n ≤ 4180 := by omega
      obtain ⟨hV1, hV2⟩ := u64N_eq xv
      have KF := Lib.hid (fun (w' : World) (h : WrB w' w.heap.size w.heap.size A1 n c1 (putsB (l.take k))) => fixed_any (u64N xv) (wideN xn) w.heap.size w.heap.size n c1 A1 _ w' h (wideN_le xn) (by omega))
      have KR := Lib.hid (fun (w' : World) => rfixed_any (u64N xv) (wideN xn) (wideN_le xn) hV2 w')
      rw [← hV1] at KF KR
      have hwn := wideN_le xn
      clear hV1 hV2
      have hc : ((xs.size : Int) ≤ 200 ∧ cutS xs 200 = xs) ∨ (¬ (xs.size : Int) ≤ 200 ∧ cutS xs 200 = xs.extract 0 200) := by
        by_cases hsz : (xs.size : Int) ≤ 200
        · exact .inl ⟨hsz, by unfold cutS; rw [Nat.min_eq_left (by omega)]; exact ByteArray.extract_zero_size⟩
        · exact .inr ⟨hsz, by unfold cutS; rw [Nat.min_eq_right (by omega)]⟩
      have hl9 := shortB_le9 (m := (cutS xs 200).size) (by have := cutS_size xs 200; omega)
      have hys := cutS_size xs 200
      rcases hc with ⟨hsz, hyc⟩ | ⟨hsz, hyc⟩
      all_goals
        rw [hyc] at hys hl9
        have HY := Lib.hid (And.intro hyc (And.intro hys hl9))
        clear hyc hys hl9
        go_wp2
        go_region
        first
          | (obtain ⟨y, hyg⟩ : ∃ y, y = xs.extract 0 200 := ⟨_, rfl⟩
             rw [← hyg] at HY ⊢
             clear hyg)
          | (obtain ⟨y, hyg⟩ : ∃ y, xs = y := ⟨_, rfl⟩
             have HY := Lib.hid (show cutS xs 200 = y ∧ y.size = min xs.size 200 ∧ (shortB y.size).length ≤ 9 by rw [← hyg]; exact HY.out)
             rw [hyg]
             clear hyg)
        have HY100 := Lib.hid (show y.size ≤ 100000 by have := HY.out.2; omega)
        by_cases h0 : xk = 0
        · subst h0
          have hpb := Lib.hid (show putB ⟨0, xn, xv, xs⟩ = fixedB (u64N xv) (wideN xn) by simp [putB])
          go_wp2_with fail
          go_region_held3 (fun w' => w'.cell? ⟨(ad.add (k * 4)).block, (ad.add (k * 4)).off + 1, none⟩ = some (.int .i64 xn) ∧ w'.cell? ⟨(ad.add (k * 4)).block, (ad.add (k * 4)).off + 2, none⟩ = some (.int .i64 xv))
            (first | exact KE.out _ HBd.out.drew | exact KE.out _ hb1 | exact KE.out _ hb2.2)
            (first
              | (go_at_call 32; with_reducible refine (wide_any xn a3 a4 _).mono ?_; rintro e w1 ⟨rfl, hq1⟩; have hb1 := HBd.out.drew.trans (hq1.mono HBd.out.drew.size); have hT1 := (HTd.out.below (Below.refl _ _).drew).below hq1)
              | (go_at_call 31; with_reducible refine (KF.out _ hT1.wr).mono ?_; rintro e w2 ⟨A2, c2, rfl, hw2, hm2, hs2⟩; have hT2 := hT1.write hw2 hm2 hs2; have hb2 := And.intro hT2.2 (hb1.trans hT2.2)))
          have H2 := Lib.hid (And.intro hT2.1 hb2.2)
          clear hw2 hm2 hs2 hT2 hb2 hT1 hq1 hb1
          go_wp2_with fail
          go_region_held3 (fun w' => w'.cell? ⟨(ad.add (k * 4)).block, (ad.add (k * 4)).off + 1, none⟩ = some (.int .i64 xn) ∧ w'.cell? ⟨(ad.add (k * 4)).block, (ad.add (k * 4)).off + 2, none⟩ = some (.int .i64 xv))
            (first | exact KE.out _ H2.out.2.drew | exact KE.out _ hb3 | exact KE.out _ hb4 | exact KE.out _ hb5)
            (first
              | (go_at_call 32; with_reducible refine (wide_any xn a3 a4 _).mono ?_; rintro e w3 ⟨rfl, hq3⟩; have hb3 := H2.out.2.drew.trans (hq3.mono H2.out.2.drew.size); have hT3 := (H2.out.1.below (Below.refl _ _).drew).below hq3)
              | (go_at_call 77; with_reducible refine (KR.out _).mono ?_; rintro e w4 ⟨A4, c4, rfl, ho4, hq4⟩; have hb4 := hb3.trans (hq4.mono hb3.size); have hT4 := hT3.below hq4)
              | (refine step_appB w.heap.size B n d (putsB (l.take k)) A4 (wideN xn) c4 _ rfl rfl rfl rfl hT4.own ho4.rb ho4.len hT4.wr.base_le (by omega) ?_; intro A5 c5 w5 ho5 hg5 hs5; have hT5 := hT4.grow ho5 hg5 hs5; have hb5 := hb4.trans hT5.2))
          go_wp2
          go_roundw
          case rel =>
            refine ⟨k + 1, A2, n + wideN xn, c2, A5, c5, by omega, by omega, by go_num, rfl, by omega, ?_, hb5⟩
            rw [hX.out, hpb.out]
            exact hT5.1
          case measure => simp [intOf]; omega
        by_cases h1 : xk = 1
        · subst h1
          have hpb := Lib.hid (show putB ⟨1, xn, xv, xs⟩ = shortB (max xv 0).toNat by simp [putB])
          have hlw := Lib.hid (show (shortB (max xv 0).toNat).length ≤ 9 from shortB_le9 (by omega))
          go_wp2_with fail
          refine (short_any xv (max xv 0).toNat w.heap.size w.heap.size n c1 A1 _ _ HTd.out.wr (by omega) a6 (by omega)).mono ?_
          rintro e w2 ⟨A2, c2, rfl, hw2, hm2, hs2⟩
          have hT2 := HTd.out.write hw2 hm2 hs2
          have hb2 := HBd.out.trans hT2.2
          have H2 := Lib.hid (And.intro hT2.1 hb2)
          have q2 := (KE.out _ hb2).2
          clear hw2 hm2 hs2 hT2 hb2
          go_wp2_with fail
          refine (rshort_any xv (max xv 0).toNat (by omega) a6 _).mono ?_
          rintro e w3 ⟨A3, c3, rfl, ho3, hq3⟩
          have H3 := Lib.hid (And.intro ho3 (And.intro (H2.out.1.below hq3) (H2.out.2.trans (hq3.mono H2.out.2.size))))
          clear ho3 hq3
          go_wp2_with (at_builtin; refine appB w.heap.size B n d (putsB (l.take k)) A3 (shortB (max xv 0).toNat).length c3 (shortB (max xv 0).toNat) rfl rfl rfl rfl H3.out.2.1.own H3.out.1.rb rfl H3.out.2.2.size (by have := hlw.out; omega) ?_; intro A5 c5 w5 ho5 hg5 hs5; rw [own_blk] at hg5 hs5; rw [own_blk] at hs5; have hT5 := H3.out.2.1.grow ho5 hg5 hs5; have hb5 := H3.out.2.2.trans hT5.2)
          have hlw' := hlw.out
          go_wp2
          go_roundw
          case rel =>
            refine ⟨k + 1, A2, n + (shortB (max xv 0).toNat).length, c2, A5, c5, by omega, by omega, by go_num, rfl, by omega, ?_, hb5⟩
            rw [hX.out, hpb.out]
            exact hT5.1
          case measure => simp [intOf]; omega
        by_cases h2 : xk = 2
        · subst h2
          have hpb := Lib.hid (show putB ⟨2, xn, xv, xs⟩ = shortB (signN xv) by simp [putB])
          have hlw := Lib.hid (show (shortB (signN xv)).length ≤ 9 from shortB_le9 (by have := signN_le xv; omega))
          go_wp2_with fail
          refine (signed_any xv w.heap.size w.heap.size n c1 A1 _ _ HTd.out.wr (by omega)).mono ?_
          rintro e w2 ⟨A2, c2, rfl, hw2, hm2, hs2⟩
          have hT2 := HTd.out.write hw2 hm2 hs2
          have hb2 := HBd.out.trans hT2.2
          have H2 := Lib.hid (And.intro hT2.1 hb2)
          have q2 := (KE.out _ hb2).2
          clear hw2 hm2 hs2 hT2 hb2
          go_wp2_with fail
          refine (rsigned_any xv _).mono ?_
          rintro e w3 ⟨A3, c3, rfl, ho3, hq3⟩
          have H3 := Lib.hid (And.intro ho3 (And.intro (H2.out.1.below hq3) (H2.out.2.trans (hq3.mono H2.out.2.size))))
          clear ho3 hq3
          go_wp2_with (at_builtin; refine appB w.heap.size B n d (putsB (l.take k)) A3 (shortB (signN xv)).length c3 (shortB (signN xv)) rfl rfl rfl rfl H3.out.2.1.own H3.out.1.rb rfl H3.out.2.2.size (by have := hlw.out; omega) ?_; intro A5 c5 w5 ho5 hg5 hs5; rw [own_blk] at hg5 hs5; rw [own_blk] at hs5; have hT5 := H3.out.2.1.grow ho5 hg5 hs5; have hb5 := H3.out.2.2.trans hT5.2)
          have hlw' := hlw.out
          go_wp2
          go_roundw
          case rel =>
            refine ⟨k + 1, A2, n + (shortB (signN xv)).length, c2, A5, c5, by omega, by omega, by go_num, rfl, by omega, ?_, hb5⟩
            rw [hX.out, hpb.out]
            exact hT5.1
          case measure => simp [intOf]; omega
        by_cases h3 : xk = 3
        · subst h3
          have hpb := Lib.hid (show putB ⟨3, xn, xv, xs⟩ = shortB (cutS xs 200).size ++ sb (cutS xs 200) by simp [putB])
          rw [HY.out.1] at hpb
          go_wp2_with fail
          refine (text_any y w.heap.size w.heap.size n c1 A1 _ _ HTd.out.wr (by have := HY.out.2; omega) (by omega)).mono ?_
          rintro e w2 ⟨A2, c2, rfl, hw2, hm2, hs2⟩
          have hT2 := HTd.out.write hw2 hm2 hs2
          have hb2 := HBd.out.trans hT2.2
          have H2 := Lib.hid (And.intro hT2.1 hb2)
          clear hw2 hm2 hs2 hT2 hb2
          go_wp2_with fail
          refine (rtext_any y (by have := HY.out.2; omega) _).mono ?_
          rintro e w3 ⟨A3, c3, rfl, ho3, hq3⟩
          have H3 := Lib.hid (And.intro ho3 (And.intro (H2.out.1.below hq3) (H2.out.2.trans (hq3.mono H2.out.2.size))))
          clear ho3 hq3
          go_wp2_with (at_builtin; refine appB w.heap.size B n d (putsB (l.take k)) A3 ((shortB y.size).length + y.size) c3 (shortB y.size ++ sb y) rfl rfl rfl rfl H3.out.2.1.own H3.out.1.rb H3.out.1.len H3.out.2.2.size (by have := HY.out.2; omega) ?_; intro A5 c5 w5 ho5 hg5 hs5; rw [own_blk] at hg5 hs5; rw [own_blk] at hs5; have hT5 := H3.out.2.1.grow ho5 hg5 hs5; have hb5 := H3.out.2.2.trans hT5.2)
          have hys := HY.out.2
          rw [Nat.add_assoc, List.append_assoc] at hT5
          go_wp2
          go_roundw
          case rel =>
            refine ⟨k + 1, A2, n + ((shortB y.size).length + y.size), c2, A5, c5, by omega, by omega, by go_num, rfl, by omega, ?_, hb5⟩
            rw [hX.out, hpb.out]
            exact hT5.1
          case measure => simp [intOf]; omega
        · have hpb := Lib.hid (show putB ⟨xk, xn, xv, xs⟩ = sb (cutS xs 200) by simp [putB, h0, h1, h2, h3])
          rw [HY.out.1] at hpb
          go_wp2_with (refine convS y rfl rfl rfl HY100.out ?_; intro c2 w2 hr2 hq2)
          have HT2 := Lib.hid (And.intro (HTd.out.below hq2) (And.intro (HBd.out.trans (hq2.mono HBd.out.size)) hr2))
          clear hr2 hq2
          refine (raw_any (sb y) _ y.size _ w.heap.size w.heap.size n c1 A1 _ _ HT2.out.1.wr HT2.out.2.2 (sb_length _) (by have := HY.out.2; omega) (by omega)).mono ?_
          rintro e w3 ⟨A3, c3, rfl, hw3, hm3, hs3⟩
          have hT3 := HT2.out.1.write hw3 hm3 hs3
          have H3 := Lib.hid (And.intro hT3.1 (HT2.out.2.1.trans hT3.2))
          clear hw3 hm3 hs3 hT3
          go_wp2_with (at_builtin; refine appS w.heap.size B n d (putsB (l.take k)) y rfl rfl rfl rfl H3.out.1.own H3.out.2.size (by have := HY.out.2; omega) ?_; intro A5 c5 w5 ho5 hg5 hs5; have hT5 := H3.out.1.grow ho5 hg5 hs5; have hb5 := H3.out.2.trans hT5.2)
          have hys := HY.out.2
          go_wp2
          go_roundw
          case rel =>
            refine ⟨k + 1, A3, n + y.size, c3, A5, c5, by omega, by omega, by go_num, rfl, by omega, ?_, hb5⟩
            rw [hX.out, hpb.out]
            exact hT5.1
          case measure => simp [intOf]; omega
    · have htake : l.take k = l.take 20 := by
        rcases Nat.lt_or_ge k L with h | h
        · obtain rfl : k = 20 := by omega
          rfl
        · rw [List.take_of_length_le (by have := hLh.out; omega), List.take_of_length_le (by have := hLh.out; omega)]
      rw [htake] at HT
      have hcase : (k : Int) = (L : Int) ∨ ((k : Int) < (L : Int) ∧ (k : Int) = 20) := by omega
      have hn2 : n ≤ 4180 := by omega
      clear htake hgo
      rcases hcase with hc | ⟨hc, hc'⟩
      all_goals
        first
          | have j1 : ¬ (k : Int) < (L : Int) := by omega
          | have j1 : ¬ (k : Int) < 20 := by omega
        go_wp2_with fail
        refine (wbytes_any w.heap.size w.heap.size n c1 A1 _ _ HT.out.wr (by omega)).mono ?_
        rintro e w2 ⟨A2, c2, rfl, ho2, hq2⟩
        have H2 := Lib.hid (And.intro ho2 (And.intro (HT.out.below hq2) (HB.out.trans (hq2.mono HB.out.size))))
        clear ho2 hq2
        go_wp2_with fail
        refine (wlen_any w.heap.size w.heap.size n c1 A1 _ _ H2.out.2.1.wr).mono ?_
        rintro e w3 ⟨rfl, rfl⟩
        go_wp2
        go_ret3
        exact ⟨A2, n, c2, B, d, rfl, H2.out.1.lower HB.out.size, H2.out.2.1.own, hn2, H2.out.2.2⟩
end
end Go.Proofs.Ytnkbkhlbogcfaaa
