/- WireRound: the walk. -/
import Derived.Test.YtnkbkhlbogcfaaaQ
import Derived.Test.YtnkbkhlbogcfaaaRv
import Derived.Test.YtnkbkhlbogcfaaaRq
set_option linter.unusedVariables false
set_option linter.unusedSimpArgs false
namespace Go.Proofs.Ytnkbkhlbogcfaaa
open Go.RowKit Go.Proofs.YtnkbkhlbogcfaaaW.PrintWords
noncomputable section

theorem putsB_at {l : List PutV} {k : Nat} {x : PutV} (h : l[k]? = some x) (hk : k < 20) : ∃ r, (putsB (l.take 20)).drop (putsB (l.take k)).length = putB x ++ r ∧
    (putsB (l.take (k + 1))).length = (putsB (l.take k)).length + (putB x).length ∧ (putsB (l.take (k + 1))).length ≤ (putsB (l.take 20)).length := by
  have e : putsB (l.take 20) = putsB (l.take (k + 1)) ++ putsB ((l.take 20).drop (k + 1)) := by
    have h1 : l.take (k + 1) = (l.take 20).take (k + 1) := by rw [List.take_take, Nat.min_eq_left (by omega)]
    rw [h1]
    unfold putsB
    rw [← List.flatMap_append, List.take_append_drop]
  have h2 := putsB_succ h
  refine ⟨putsB ((l.take 20).drop (k + 1)), ?_, ?_, ?_⟩
  · rw [e, h2, List.append_assoc, List.drop_left]
  · rw [h2, List.length_append]
  · rw [e, List.length_append]; omega
theorem cut_eq (s : ByteArray) : ((s.size : Int) ≤ 200 ∧ cutS s 200 = s) ∨ (¬ (s.size : Int) ≤ 200 ∧ cutS s 200 = s.extract 0 200) := by
  by_cases hsz : (s.size : Int) ≤ 200
  · exact .inl ⟨hsz, by unfold cutS; rw [Nat.min_eq_left (by omega)]; exact ByteArray.extract_zero_size⟩
  · exact .inr ⟨hsz, by unfold cutS; rw [Nat.min_eq_right (by omega)]⟩

section
variable {ops : Array Oper} {rest : List Oper} {o : Oper} {a : Act} {Q : Exit → Act → World → Prop} {W : World} {s x : Operand}
/-- string(b), b a string's bytes -/
theorem convY (A : Option Addr) (n c : Nat) (y : ByteArray) (hgd : o.guard = none) (ho : o.op = .convert 22 9 x) (hx : a.eval x = .slice A n c) (hR : RB W A (sb y)) (hl : y.size = n)
    (h : wpList Try.prog ops Q rest (a.put o.dst (.string y)) W) : wpList Try.prog ops Q (o :: rest) a W := by
  refine convB A n c (sb y) hgd ho hx hR (by rw [sb_length]; exact hl) ?_
  rw [bs_sb]
  exact h
end
theorem tmod_nat (V k : Nat) : (V : Int).tmod (k : Int) = ((V % k : Nat) : Int) := rfl
theorem round_fixed (M : Int) (kk V p base n c at_ : Nat) (A : Option Addr) (b r : List UInt8) (w : World) (hM : ((V % 256 ^ kk : Nat) : Int) = M) (hkk : kk ≤ 8) (h : RdB w base p A n c b at_ 0) (hat : at_ ≤ n) (hn : n ≤ 900000) (hd : b.drop at_ = fixedB V kk ++ r) :
    Calls Try.prog 54 #[.pointer (some ⟨p, 0, none⟩), .int .i64 kk] w fun e w' => e = .returned (.int .u64 M) ∧ RdB w' base p A n c b (at_ + kk) 0 ∧ Mod w w' p none := by
  have h1 := fixedR_any kk p base n c at_ 0 A b w hkk h hat hn
  rw [rFixed_w hd (by rw [h.own.len]; exact hat)] at h1
  dsimp only at h1
  rw [hM] at h1
  exact h1
theorem round_short (M : Int) (m p base n c at_ : Nat) (A : Option Addr) (b r : List UInt8) (w : World) (hM : (m : Int) = M) (hm : (m : Int) ≤ 9223372036854775807) (h : RdB w base p A n c b at_ 0) (hat : at_ ≤ n) (hn : n ≤ 900000) (hd : b.drop at_ = shortB m ++ r) :
    Calls Try.prog 47 #[.pointer (some ⟨p, 0, none⟩)] w fun e w' => e = .returned (.int .i64 M) ∧ RdB w' base p A n c b (at_ + (shortB m).length) 0 ∧ Mod w w' p none := by
  have h1 := shortR_any p base n c at_ 0 A b w h hat hn
  rw [rShort_w hd hm] at h1
  dsimp only at h1
  rw [hM] at h1
  exact h1
theorem round_signed (M v : Int) (p base n c at_ : Nat) (A : Option Addr) (b r : List UInt8) (w : World) (hM : clampI v = M) (h : RdB w base p A n c b at_ 0) (hat : at_ ≤ n) (hn : n ≤ 900000) (hd : b.drop at_ = shortB (signN v) ++ r) :
    Calls Try.prog 55 #[.pointer (some ⟨p, 0, none⟩)] w fun e w' => e = .returned (.int .i64 M) ∧ RdB w' base p A n c b (at_ + (shortB (signN v)).length) 0 ∧ Mod w w' p none := by
  have h1 := signedR_any p base n c at_ 0 A b w h hat hn
  rw [rSigned_w hd] at h1
  dsimp only at h1
  rw [hM] at h1
  exact h1
theorem round_text (y : ByteArray) (p base n c at_ : Nat) (A : Option Addr) (b r : List UInt8) (w : World) (hy : y.size ≤ 1000) (h : RdB w base p A n c b at_ 0) (hat : at_ ≤ n) (hn : n ≤ 900000) (hd : b.drop at_ = shortB y.size ++ sb y ++ r) :
    Calls Try.prog 56 #[.pointer (some ⟨p, 0, none⟩)] w fun e w' => e = .returned (.string y) ∧ RdB w' base p A n c b (at_ + ((shortB y.size).length + y.size)) 0 ∧ Mod w w' p none := by
  have h1 := textR_any p base n c at_ 0 A b w h hat hn
  rw [← sb_length y] at hd
  rw [rText_w hd (by rw [sb_length]; omega)] at h1
  dsimp only at h1
  rw [bs_sb, sb_length, Nat.add_assoc] at h1
  exact h1
theorem round_raw (y : ByteArray) (p base n c at_ : Nat) (A : Option Addr) (b r : List UInt8) (w : World) (h : RdB w base p A n c b at_ 0) (hat : at_ ≤ n) (hn : n ≤ 900000) (hd : b.drop at_ = sb y ++ r) :
    Calls Try.prog 42 #[.pointer (some ⟨p, 0, none⟩), .int .i64 y.size] w fun e w' => ∃ A' c', e = .returned (.slice A' y.size c') ∧ RB w' A' (sb y) ∧ RdB w' base p A n c b (at_ + y.size) 0 ∧ Mod w w' p none := by
  have h1 := rawR_any ((sb y).length : Nat) p base n c at_ 0 A b w h hat hn
  rw [rRaw_w hd (by rw [h.own.len]; exact hat)] at h1
  dsimp only at h1
  rw [sb_length] at h1
  refine h1.mono ?_
  rintro e w' ⟨A', c', rfl, ho, hr, hm⟩
  exact ⟨A', c', rfl, ho.rb, hr, hm⟩

set_option maxHeartbeats 8000000 in
set_option maxRecDepth 100000 in
theorem wireRound_row {w : World} (A : Option Addr) (l : List PutV) (c : Nat) (hP : PU w A l) (hc : l.length ≤ c) :
    Calls Try.prog 14 #[.slice A l.length c] w fun e w' => e = .returned (.bool true) ∧ Below w.heap.size w w' := by
  have hP' := Lib.hid hP
  obtain ⟨L, hL⟩ : ∃ L, L = l.length := ⟨_, rfl⟩
  have hLI : (L : Int) ≤ 9223372036854775807 := by have := hP.1; omega
  rw [← hL]
  have hLh := Lib.hid hL
  clear hP hL hc
  go_enter Try.func14, Try.ntmps14
  go_wp2_with fail
  refine (puts_any l A L c _ hLh.out.symm hP'.out).mono ?_
  rintro e w1 ⟨A1, n, c1, B, d, rfl, ho1, ho2, hn, hb1⟩
  have H1 := Lib.hid (And.intro ho1 hb1)
  clear ho1 ho2 hb1
  go_wp2_with fail
  refine (newReader_any _ A1 n c1 _ H1.out.1.len H1.out.1.rb (by omega)).mono ?_
  rintro e w2 ⟨A3, c3, p, rfl, hr2, hb2⟩
  have H2 := Lib.hid (And.intro hr2 (H1.out.2.trans (hb2.mono H1.out.2.size)))
  clear hr2 hb2
  go_wp2_with fail
  go_loopw [7] (fun i wr => ∃ k : Nat, k ≤ L ∧ k ≤ 20 ∧ i = .int .i64 k ∧ RdB wr w1.heap.size p A3 n c3 (putsB (l.take 20)) (putsB (l.take k)).length 0 ∧ Below w.heap.size w wr)
    (fun i _ => L - (intOf i).toNat)
  case atStart => exact ⟨0, by omega, by omega, rfl, H2.out.1, H2.out.2⟩
  case round =>
    obtain ⟨k, hk1, hk2, rfl, hrd, hb⟩ := hrel
    have HR := Lib.hid hrd
    have HB := Lib.hid hb
    clear hrd hb
    have k0 : (0 : Int) ≤ (k : Int) := by omega
    by_cases hgo : k < L ∧ k < 20
    · obtain ⟨g1, g2⟩ := hgo
      have j1 : (k : Int) < (L : Int) := by omega
      have j2 : (k : Int) < 20 := by omega
      obtain ⟨⟨xk, xn, xv, xs⟩, hx⟩ : ∃ x, l[k]? = some x := ⟨_, List.getElem?_eq_getElem (by have := hLh.out; omega)⟩
      have hxok := hP'.out.2.1 _ (List.mem_of_getElem? hx)
      obtain ⟨ad, had, e0, e1, e2, e3⟩ := (hP'.out.below HB.out).2.2 k _ hx
      obtain ⟨⟨a1, a2⟩, ⟨a3, a4⟩, ⟨a5, a6⟩, hsI⟩ := hxok
      dsimp only at e0 e1 e2 e3 a1 a2 a3 a4 a5 a6 hsI
      have KE : ∀ w', Below w.heap.size w w' → w'.cell? ⟨(ad.add (k * 4)).block, (ad.add (k * 4)).off + 1, none⟩ = some (.int .i64 xn) ∧ w'.cell? ⟨(ad.add (k * 4)).block, (ad.add (k * 4)).off + 2, none⟩ = some (.int .i64 xv) := by
        intro w' h
        obtain ⟨ad', had', q0, q1, q2, q3⟩ := (hP'.out.below h).2.2 k _ hx
        have he : ad = ad' := by rw [had] at had'; injection had'
        subst he
        exact ⟨q1, q2⟩
      have KE := Lib.hid KE
      subst had
      obtain ⟨rest, hd, hl1, hl2⟩ := putsB_at hx g2
      have hat : (putsB (l.take k)).length ≤ (putsB (l.take 20)).length := by omega
      have hNn := HR.out.own.len
      obtain ⟨at_, hat_⟩ : ∃ a, a = (putsB (l.take k)).length := ⟨_, rfl⟩
      rw [← hat_] at hd hl1 hat
      have HR := Lib.hid (show RdB wr w1.heap.size p A3 n c3 (putsB (l.take 20)) at_ 0 by rw [hat_]; exact HR.out)
      have MB := Lib.hid (fun (wa wb : World) (ba : Below w.heap.size w wa) (sa : w1.heap.size ≤ wa.heap.size) (pa : w1.heap.size ≤ p) (hm : Mod wa wb p none) => (ba.trans ((hm.below sa pa (fun k hk => by cases hk)).mono H1.out.2.size) : Below w.heap.size w wb))
      have HD := Lib.hid (And.intro hd (And.intro hl1 (And.intro hat hx)))
      have hatn : at_ ≤ n := by omega
      have HL2 := Lib.hid hl2
      clear hx hd hl1 hl2 hat hat_ hNn
      rcases cut_eq xs with ⟨hsz, hyc⟩ | ⟨hsz, hyc⟩
      all_goals
        have hys := cutS_size xs 200
        rw [hyc] at hys
        have HY := Lib.hid (And.intro hyc hys)
        clear hyc hys
        go_wp2
        go_region
        first
          | (obtain ⟨y, hyg⟩ : ∃ y, y = xs.extract 0 200 := ⟨_, rfl⟩
             rw [← hyg] at HY ⊢
             clear hyg)
          | (obtain ⟨y, hyg⟩ : ∃ y, xs = y := ⟨_, rfl⟩
             have HY := Lib.hid (show cutS xs 200 = y ∧ y.size = min xs.size 200 by rw [← hyg]; exact HY.out)
             rw [hyg]
             clear hyg)
        have HRd := Lib.hid (HR.out.below (Below.refl _ _).drew)
        have HBd := Lib.hid HB.out.drew
        have HS1 := Lib.hid (HR.out.base_le)
        have HBP := Lib.hid (HR.out.base_p)
        have HS2 := Lib.hid (show w1.heap.size ≤ wr.drew.drew.heap.size by rw [heap_drew, heap_drew]; exact HS1.out)
        by_cases h0 : xk = 0
        · subst h0
          have hpb := Lib.hid (show putB ⟨0, xn, xv, xs⟩ = fixedB (u64N xv) (wideN xn) by simp [putB])
          obtain ⟨hV1, hV2⟩ := u64N_eq xv
          have HV := Lib.hid hV1
          have HV2 := Lib.hid hV2
          clear hV1 hV2
          go_wp2_with fail
          refine (wide_any xn a3 a4 _).mono ?_
          rintro e w3 ⟨rfl, hq3⟩
          have hb3 := HBd.out.trans (hq3.mono HBd.out.size)
          have hr3 := HRd.out.below hq3
          have q3 := (KE.out _ hb3).2
          have H3 := Lib.hid (And.intro hr3 hb3)
          clear hr3 hb3 hq3
          rcases wideN_cases xn with hw | hw | hw | hw
          · have M1 := Lib.hid (show ((u64N xv % 256 ^ 1 : Nat) : Int) = (IntKind.u64.wrap xv).tmod 256 by rw [HV.out]; rfl)
            rw [hw] at hpb ⊢
            clear hw
            go_wp2_with fail
            refine (round_fixed _ 1 (u64N xv) p w1.heap.size n c3 at_ A3 _ rest _ M1.out (by omega) H3.out.1 hatn (by omega) (by rw [← hpb.out]; exact HD.out.1)).mono ?_
            rintro e w4 ⟨rfl, hr4, hm4⟩
            have H4 := Lib.hid (And.intro hr4 (MB.out _ _ H3.out.2 H3.out.1.base_le HBP.out hm4))
            clear hr4 hm4
            go_wp2
            go_roundw
            case rel =>
              refine ⟨k + 1, by omega, by omega, by go_num, ?_, H4.out.2⟩
              rw [HD.out.2.1, hpb.out, fixedB_length]
              exact H4.out.1
            case measure => simp [intOf]; omega
          · have M1 := Lib.hid (show ((u64N xv % 256 ^ 2 : Nat) : Int) = (IntKind.u64.wrap xv).tmod 65536 by rw [HV.out]; rfl)
            rw [hw] at hpb ⊢
            clear hw
            go_wp2_with fail
            refine (round_fixed _ 2 (u64N xv) p w1.heap.size n c3 at_ A3 _ rest _ M1.out (by omega) H3.out.1 hatn (by omega) (by rw [← hpb.out]; exact HD.out.1)).mono ?_
            rintro e w4 ⟨rfl, hr4, hm4⟩
            have H4 := Lib.hid (And.intro hr4 (MB.out _ _ H3.out.2 H3.out.1.base_le HBP.out hm4))
            clear hr4 hm4
            go_wp2
            go_roundw
            case rel =>
              refine ⟨k + 1, by omega, by omega, by go_num, ?_, H4.out.2⟩
              rw [HD.out.2.1, hpb.out, fixedB_length]
              exact H4.out.1
            case measure => simp [intOf]; omega
          · have M1 := Lib.hid (show ((u64N xv % 256 ^ 4 : Nat) : Int) = (IntKind.u64.wrap xv).tmod 4294967296 by rw [HV.out]; rfl)
            rw [hw] at hpb ⊢
            clear hw
            go_wp2_with fail
            refine (round_fixed _ 4 (u64N xv) p w1.heap.size n c3 at_ A3 _ rest _ M1.out (by omega) H3.out.1 hatn (by omega) (by rw [← hpb.out]; exact HD.out.1)).mono ?_
            rintro e w4 ⟨rfl, hr4, hm4⟩
            have H4 := Lib.hid (And.intro hr4 (MB.out _ _ H3.out.2 H3.out.1.base_le HBP.out hm4))
            clear hr4 hm4
            go_wp2
            go_roundw
            case rel =>
              refine ⟨k + 1, by omega, by omega, by go_num, ?_, H4.out.2⟩
              rw [HD.out.2.1, hpb.out, fixedB_length]
              exact H4.out.1
            case measure => simp [intOf]; omega
          · have M1 := Lib.hid (show ((u64N xv % 256 ^ 8 : Nat) : Int) = IntKind.u64.wrap xv by
              rw [HV.out]
              have e8 : ((256 ^ 8 : Nat) : Int) = 18446744073709551616 := by kernel_rfl
              rw [Nat.mod_eq_of_lt (Int.ofNat_lt.1 (by rw [e8]; exact HV2.out))])
            rw [hw] at hpb ⊢
            clear hw
            go_wp2_with fail
            refine (round_fixed _ 8 (u64N xv) p w1.heap.size n c3 at_ A3 _ rest _ M1.out (by omega) H3.out.1 hatn (by omega) (by rw [← hpb.out]; exact HD.out.1)).mono ?_
            rintro e w4 ⟨rfl, hr4, hm4⟩
            have H4 := Lib.hid (And.intro hr4 (MB.out _ _ H3.out.2 H3.out.1.base_le HBP.out hm4))
            clear hr4 hm4
            go_wp2
            go_roundw
            case rel =>
              refine ⟨k + 1, by omega, by omega, by go_num, ?_, H4.out.2⟩
              rw [HD.out.2.1, hpb.out, fixedB_length]
              exact H4.out.1
            case measure => simp [intOf]; omega
        by_cases h1 : xk = 1
        · subst h1
          have hpb := Lib.hid (show putB ⟨1, xn, xv, xs⟩ = shortB (max xv 0).toNat by simp [putB])
          by_cases hneg : xv < 0
          · have M1 := Lib.hid (show (((max xv 0).toNat : Nat) : Int) = 0 by omega)
            go_wp2_with fail
            go_region_held3 (fun w' => w'.cell? ⟨(ad.add (k * 4)).block, (ad.add (k * 4)).off + 2, none⟩ = some (.int .i64 xv))
              (first | exact (KE.out _ HBd.out.drew).2 | exact (KE.out _ hb4).2)
              ((go_at_call 47; with_reducible refine (round_short 0 (max xv 0).toNat p w1.heap.size n c3 at_ A3 _ rest _ M1.out (by omega) (HRd.out.below (Below.refl _ _).drew) hatn (by omega) (by rw [← hpb.out]; exact HD.out.1)).mono ?_; rintro e w4 ⟨rfl, hr4, hm4⟩; have hb4 := MB.out _ _ HBd.out.drew HS2.out HBP.out hm4))
            all_goals
              have H4 := Lib.hid (And.intro hr4 hb4)
              clear hr4 hm4 hb4
              go_wp2
              go_roundw
              case rel =>
                refine ⟨k + 1, by omega, by omega, by go_num, ?_, H4.out.2⟩
                rw [HD.out.2.1, hpb.out]
                exact H4.out.1
              case measure => simp [intOf]; omega
          · have hneg' : 0 ≤ xv := by omega
            have M1 := Lib.hid (show (((max xv 0).toNat : Nat) : Int) = xv by omega)
            go_wp2_with fail
            go_region_held3 (fun w' => w'.cell? ⟨(ad.add (k * 4)).block, (ad.add (k * 4)).off + 2, none⟩ = some (.int .i64 xv))
              (first | exact (KE.out _ HBd.out.drew).2 | exact (KE.out _ hb4).2)
              ((go_at_call 47; with_reducible refine (round_short xv (max xv 0).toNat p w1.heap.size n c3 at_ A3 _ rest _ M1.out (by omega) (HRd.out.below (Below.refl _ _).drew) hatn (by omega) (by rw [← hpb.out]; exact HD.out.1)).mono ?_; rintro e w4 ⟨rfl, hr4, hm4⟩; have hb4 := MB.out _ _ HBd.out.drew HS2.out HBP.out hm4))
            all_goals
              have H4 := Lib.hid (And.intro hr4 hb4)
              clear hr4 hm4 hb4
              go_wp2
              go_roundw
              case rel =>
                refine ⟨k + 1, by omega, by omega, by go_num, ?_, H4.out.2⟩
                rw [HD.out.2.1, hpb.out]
                exact H4.out.1
              case measure => simp [intOf]; omega
        by_cases h2 : xk = 2
        · subst h2
          have hpb := Lib.hid (show putB ⟨2, xn, xv, xs⟩ = shortB (signN xv) by simp [putB])
          by_cases hlo : xv < -2305843009213693952
          · have M1 := Lib.hid (show clampI xv = (-2305843009213693952) by unfold clampI; omega)
            go_wp2_with fail
            go_region_held3 (fun w' => w'.cell? ⟨(ad.add (k * 4)).block, (ad.add (k * 4)).off + 2, none⟩ = some (.int .i64 xv))
              (first | exact (KE.out _ HBd.out.drew).2 | exact (KE.out _ hb4).2)
              ((go_at_call 55; with_reducible refine (round_signed (-2305843009213693952) xv p w1.heap.size n c3 at_ A3 _ rest _ M1.out (HRd.out.below (Below.refl _ _).drew) hatn (by omega) (by rw [← hpb.out]; exact HD.out.1)).mono ?_; rintro e w4 ⟨rfl, hr4, hm4⟩; have hb4 := MB.out _ _ HBd.out.drew HS2.out HBP.out hm4))
            all_goals
              have H4 := Lib.hid (And.intro hr4 hb4)
              clear hr4 hm4 hb4
              go_wp2
              go_roundw
              case rel =>
                refine ⟨k + 1, by omega, by omega, by go_num, ?_, H4.out.2⟩
                rw [HD.out.2.1, hpb.out]
                exact H4.out.1
              case measure => simp [intOf]; omega
          · by_cases hhi : 2305843009213693951 < xv
            · have hlo' : -2305843009213693952 ≤ xv := by omega
              have M1 := Lib.hid (show clampI xv = 2305843009213693951 by unfold clampI; omega)
              go_wp2_with fail
              go_region_held3 (fun w' => w'.cell? ⟨(ad.add (k * 4)).block, (ad.add (k * 4)).off + 2, none⟩ = some (.int .i64 xv))
                (first | exact (KE.out _ HBd.out.drew).2 | exact (KE.out _ hb4).2)
                ((go_at_call 55; with_reducible refine (round_signed 2305843009213693951 xv p w1.heap.size n c3 at_ A3 _ rest _ M1.out (HRd.out.below (Below.refl _ _).drew) hatn (by omega) (by rw [← hpb.out]; exact HD.out.1)).mono ?_; rintro e w4 ⟨rfl, hr4, hm4⟩; have hb4 := MB.out _ _ HBd.out.drew HS2.out HBP.out hm4))
              all_goals
                have H4 := Lib.hid (And.intro hr4 hb4)
                clear hr4 hm4 hb4
                go_wp2
                go_roundw
                case rel =>
                  refine ⟨k + 1, by omega, by omega, by go_num, ?_, H4.out.2⟩
                  rw [HD.out.2.1, hpb.out]
                  exact H4.out.1
                case measure => simp [intOf]; omega
            · have hlo' : -2305843009213693952 ≤ xv := by omega
              have hhi' : xv ≤ 2305843009213693951 := by omega
              have M1 := Lib.hid (show clampI xv = xv by unfold clampI; omega)
              go_wp2_with fail
              go_region_held3 (fun w' => w'.cell? ⟨(ad.add (k * 4)).block, (ad.add (k * 4)).off + 2, none⟩ = some (.int .i64 xv))
                (first | exact (KE.out _ HBd.out.drew).2 | exact (KE.out _ hb4).2)
                ((go_at_call 55; with_reducible refine (round_signed xv xv p w1.heap.size n c3 at_ A3 _ rest _ M1.out (HRd.out.below (Below.refl _ _).drew) hatn (by omega) (by rw [← hpb.out]; exact HD.out.1)).mono ?_; rintro e w4 ⟨rfl, hr4, hm4⟩; have hb4 := MB.out _ _ HBd.out.drew HS2.out HBP.out hm4))
              all_goals
                have H4 := Lib.hid (And.intro hr4 hb4)
                clear hr4 hm4 hb4
                go_wp2
                go_roundw
                case rel =>
                  refine ⟨k + 1, by omega, by omega, by go_num, ?_, H4.out.2⟩
                  rw [HD.out.2.1, hpb.out]
                  exact H4.out.1
                case measure => simp [intOf]; omega
        by_cases h3 : xk = 3
        · subst h3
          have hpb := Lib.hid (show putB ⟨3, xn, xv, xs⟩ = shortB (cutS xs 200).size ++ sb (cutS xs 200) by simp [putB])
          rw [HY.out.1] at hpb
          go_wp2_with fail
          refine (round_text y p w1.heap.size n c3 at_ A3 _ rest _ (by have := HY.out.2; omega) HRd.out hatn (by omega) (by rw [← hpb.out]; exact HD.out.1)).mono ?_
          rintro e w4 ⟨rfl, hr4, hm4⟩
          have H4 := Lib.hid (And.intro hr4 (MB.out _ _ HBd.out HS1.out HBP.out hm4))
          clear hr4 hm4
          go_wp2
          go_roundw
          case rel =>
            refine ⟨k + 1, by omega, by omega, by go_num, ?_, H4.out.2⟩
            rw [HD.out.2.1, hpb.out, List.length_append, sb_length]
            exact H4.out.1
          case measure => simp [intOf]; omega
        · have hpb := Lib.hid (show putB ⟨xk, xn, xv, xs⟩ = sb (cutS xs 200) by simp [putB, h0, h1, h2, h3])
          rw [HY.out.1] at hpb
          go_wp2_with fail
          refine (round_raw y p w1.heap.size n c3 at_ A3 _ rest _ HRd.out hatn (by omega) (by rw [← hpb.out]; exact HD.out.1)).mono ?_
          rintro e w4 ⟨A4, c4, rfl, hrb4, hr4, hm4⟩
          have H4 := Lib.hid (And.intro hr4 (And.intro (MB.out _ _ HBd.out HS1.out HBP.out hm4) hrb4))
          clear hr4 hm4 hrb4
          go_wp2_with (refine convY _ y.size _ y rfl rfl rfl H4.out.2.2 rfl ?_)
          go_roundw
          case rel =>
            refine ⟨k + 1, by omega, by omega, by go_num, ?_, H4.out.2.1⟩
            rw [HD.out.2.1, hpb.out, sb_length]
            exact H4.out.1
          case measure => simp [intOf]; omega
    · have hk : k = L ∨ k = 20 := by omega
      have HN := Lib.hid (show (putsB (l.take k)).length = n by
        have h1 := HR.out.own.len
        rw [← h1]
        rcases hk with rfl | rfl
        · rw [List.take_of_length_le (by have := hLh.out; omega), List.take_of_length_le (by have := hLh.out; omega)]
        · rfl)
      have HR := Lib.hid (show RdB wr w1.heap.size p A3 n c3 (putsB (l.take 20)) n 0 by have := HR.out; rw [HN.out] at this; exact this)
      have hkI : (k : Int) = (L : Int) ∨ ((k : Int) < (L : Int) ∧ (k : Int) = 20) := by omega
      have MB := Lib.hid (fun (wa wb : World) (ba : Below w.heap.size w wa) (sa : w1.heap.size ≤ wa.heap.size) (pa : w1.heap.size ≤ p) (hm : Mod wa wb p none) => (ba.trans ((hm.below sa pa (fun k hk => by cases hk)).mono H1.out.2.size) : Below w.heap.size w wb))
      have HEnd := Lib.hid (rend_any p w1.heap.size n c3 n 0 A3 _ wr HR.out (Nat.le_refl _) (by omega))
      rw [if_neg (by omega)] at HEnd
      clear hgo hk
      rcases hkI with hkI | ⟨hkI, hkJ⟩
      all_goals
        go_wp2_with fail
        refine HEnd.out.mono ?_
        rintro e w5 ⟨rfl, hr5, hm5⟩
        have H5 := Lib.hid (And.intro hr5 (MB.out _ _ HB.out HR.out.base_le HR.out.base_p hm5))
        clear hr5 hm5
        go_wp2_with fail
        refine (rleft_any p w1.heap.size n c3 n 0 A3 _ _ H5.out.1 (Nat.le_refl _) (by omega)).mono ?_
        rintro e w6 ⟨rfl, hb6⟩
        have H6 := Lib.hid (H5.out.2.trans (hb6.mono H5.out.2.size))
        clear hb6
        rw [Nat.sub_self]
        go_wp2_with fail
        refine ((lives01_any _).mono (fun e w9 h => And.intro h.1 (H6.out.trans (h.2.mono H6.out.size)))).mono ?_
        rintro e w7 ⟨rfl, hb7⟩
        have H7 := Lib.hid hb7
        clear hb7
        go_wp2
        go_ret
        exact ⟨rfl, H7.out⟩
end
end Go.Proofs.Ytnkbkhlbogcfaaa
