/- What is written is read: plain laws. -/
import Derived.Test.YtnkbkhlbogcfaaaRp
import Derived.Test.YtnkbkhlbogcfaaaN
set_option linter.unusedVariables false
set_option linter.unusedSimpArgs false
namespace Go.Proofs.Ytnkbkhlbogcfaaa
noncomputable section

theorem rShort_w {b r : List UInt8} {at_ m : Nat} (h : b.drop at_ = shortB m ++ r) (hm : (m : Int) ≤ 9223372036854775807) : rShort b at_ 0 = (m, at_ + (shortB m).length, 0) := by
  have h9 := shortB_le9 hm
  have := rdS_shortB r _ m 0 0 rfl (by omega) (fun h => by omega)
  unfold rShort
  rw [if_neg (by omega), h, this]
  simp
theorem sgnR_signN (v : Int) : sgnR (signN v) = clampI v ∧ ((signN v / 2 : Nat) : Int) < 2305843009213693952 := by
  unfold sgnR signN clampI
  split
  · constructor
    · rw [if_pos (by omega)]; omega
    · omega
  · constructor
    · rw [if_neg (by omega)]; omega
    · omega
theorem rSigned_w {b r : List UInt8} {at_ : Nat} {v : Int} (h : b.drop at_ = shortB (signN v) ++ r) : rSigned b at_ 0 = (clampI v, at_ + (shortB (signN v)).length, 0) := by
  have hs := signN_le v
  obtain ⟨h1, h2⟩ := sgnR_signN v
  unfold rSigned
  rw [rShort_w h (by omega)]
  simp only
  rw [if_neg (by omega), if_neg (by omega), h1]
theorem rText_w {b r s : List UInt8} {at_ : Nat} (h : b.drop at_ = shortB s.length ++ s ++ r) (hs : (s.length : Int) ≤ 9223372036854775807) : rText b at_ 0 = (s, at_ + (shortB s.length).length + s.length, 0) := by
  unfold rText
  rw [List.append_assoc] at h
  rw [rShort_w h hs]
  have hl := congrArg List.length h
  have hp := shortB_pos s.length
  simp only [List.length_drop, List.length_append] at hl
  simp only
  rw [if_neg (by omega), if_neg (by omega), ← List.drop_drop, h, List.drop_left, List.take_left]
theorem rRaw_w {b r s : List UInt8} {at_ : Nat} (h : b.drop at_ = s ++ r) (hat : at_ ≤ b.length) : rRaw b s.length at_ 0 = (s, at_ + s.length, 0) := by
  unfold rRaw
  have hl := congrArg List.length h
  simp only [List.length_drop, List.length_append] at hl
  rw [if_neg (by omega), if_neg (by omega), h, Int.toNat_natCast, List.take_left]
theorem rFixed_w {b r : List UInt8} {at_ v k : Nat} (h : b.drop at_ = fixedB v k ++ r) (hat : at_ ≤ b.length) : rFixed b k at_ 0 = (v % 256 ^ k, at_ + k, 0) := by
  unfold rFixed
  have := rRaw_w h hat
  rw [fixedB_length] at this
  rw [this, numB_fixedB]
end
end Go.Proofs.Ytnkbkhlbogcfaaa
