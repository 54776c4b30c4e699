/- A file, read: plain words. -/
import Derived.Test.YtnkbkhlbogcfaaaRp
import Derived.Test.YtnkbkhlbogcfaaaE
set_option linter.unusedVariables false
set_option linter.unusedSimpArgs false
namespace Go.Proofs.Ytnkbkhlbogcfaaa
open Go.RowKit
noncomputable section

/-- an error is noted -/
def noteE (e er : Int) : Int := if e = 0 then er else e
/-- place and error behind the four bytes -/
def hd0 (b : List UInt8) : Nat × Int := ((rRaw b 4 0 0).2.1, if (rRaw b 4 0 0).1 = [72, 73, 66, 82] then (rRaw b 4 0 0).2.2 else noteE (rRaw b 4 0 0).2.2 3)
def hVer (b : List UInt8) : Nat × Nat × Int := rFixed b 1 (hd0 b).1 (hd0 b).2
def hCnt (b : List UInt8) : Nat × Nat × Int := rList b 16 (hVer b).2.1 (hVer b).2.2
def hF (b : List UInt8) (s : Nat × Int) : Nat × Nat × Int := rFixed b 1 s.1 s.2
def hS (b : List UInt8) (s : Nat × Int) : Nat × Nat × Int := rShort b (hF b s).2.1 (hF b s).2.2
def hNext (b : List UInt8) (s : Nat × Int) : Nat × Int := ((hS b s).2.1, if 1048576 < (hS b s).1 then noteE (hS b s).2.2 3 else (hS b s).2.2)
def hSt (b : List UInt8) : Nat → Nat × Int
  | 0 => (hCnt b).2
  | k + 1 => hNext b (hSt b k)
/-- kind and size of a section -/
def hKind (b : List UInt8) (k : Nat) : Nat := (hF b (hSt b k)).1
def hSize (b : List UInt8) (k : Nat) : Nat := (hS b (hSt b k)).1
/-- the bytes of a section, with their sum -/
def bRaw (b : List UInt8) (s : Nat × Int) (size : Nat) : List UInt8 × Nat × Int := rRaw b (RowKit.wrap64 ((size : Int) + 4)) s.1 s.2
def bNext (b : List UInt8) (s : Nat × Int) (size : Nat) : Nat × Int := ((bRaw b s size).2.1, if openE (bRaw b s size).1 = 0 then (bRaw b s size).2.2 else noteE (bRaw b s size).2.2 (openE (bRaw b s size).1))
def bSt (b : List UInt8) : Nat → Nat × Int
  | 0 => hSt b (hCnt b).1
  | k + 1 => bNext b (bSt b k) (hSize b k)
def bBody (b : List UInt8) (k : Nat) : List UInt8 := openB (bRaw b (bSt b k) (hSize b k)).1
/-- the error at the end -/
def bEnd (b : List UInt8) : Int := if (bSt b (hCnt b).1).2 = 0 ∧ (bSt b (hCnt b).1).1 < b.length then 3 else (bSt b (hCnt b).1).2
/-- the error of a file -/
def fileE (b : List UInt8) : Int := if openE b ≠ 0 then openE b else bEnd (openB b)

theorem rFixed_at {b : List UInt8} {k at_ : Nat} {e : Int} (h : at_ ≤ b.length) : (rFixed b k at_ e).2.1 ≤ b.length := (rRaw_at (e := e) (k : Int) h).2.1
theorem hd0_at (b : List UInt8) : (hd0 b).1 ≤ b.length := (rRaw_at 4 (Nat.zero_le _)).2.1
theorem hVer_at (b : List UInt8) : (hVer b).2.1 ≤ b.length := rFixed_at (hd0_at b)
theorem hCnt_at (b : List UInt8) : (hCnt b).2.1 ≤ b.length := rList_at _ (hVer_at b)
theorem hCnt_le (b : List UInt8) : (hCnt b).1 ≤ 16 := by
  unfold hCnt rList
  split
  · simp
  · split
    · simp
    · split
      · simp
      · rename_i h _; simp only; omega
theorem hF_at {b : List UInt8} {s : Nat × Int} (h : s.1 ≤ b.length) : (hF b s).2.1 ≤ b.length := rFixed_at h
theorem hS_at {b : List UInt8} {s : Nat × Int} (h : s.1 ≤ b.length) : (hS b s).2.1 ≤ b.length ∧ ((hS b s).1 : Int) ≤ 9223372036854775807 := ⟨(rShort_at (hF_at h)).2.1, (rShort_at (hF_at h)).2.2⟩
theorem hSt_at (b : List UInt8) : ∀ k, (hSt b k).1 ≤ b.length := by
  intro k
  induction k with
  | zero => exact hCnt_at b
  | succ k ih => exact (hS_at ih).1
theorem bSt_at (b : List UInt8) : ∀ k, (bSt b k).1 ≤ b.length := by
  intro k
  induction k with
  | zero => exact hSt_at b _
  | succ k ih => exact (rRaw_at _ ih).2.1
theorem hKind_lt (b : List UInt8) (k : Nat) : hKind b k < 256 := by
  unfold hKind hF rFixed rRaw
  split
  · simp [numB]
  · split
    · simp [numB]
    · have := numB_lt ((b.drop (hSt b k).1).take ((1 : Nat) : Int).toNat)
      have h2 : ((b.drop (hSt b k).1).take ((1 : Nat) : Int).toNat).length ≤ 1 := by simp; omega
      have h3 : 256 ^ ((b.drop (hSt b k).1).take ((1 : Nat) : Int).toNat).length ≤ 256 ^ 1 := Nat.pow_le_pow_right (by omega) h2
      simp only
      omega
theorem hVer_lt (b : List UInt8) : (hVer b).1 < 256 := by
  unfold hVer rFixed rRaw
  split
  · simp [numB]
  · split
    · simp [numB]
    · have := numB_lt ((b.drop (hd0 b).1).take ((1 : Nat) : Int).toNat)
      have h2 : ((b.drop (hd0 b).1).take ((1 : Nat) : Int).toNat).length ≤ 1 := by simp; omega
      have h3 : 256 ^ ((b.drop (hd0 b).1).take ((1 : Nat) : Int).toNat).length ≤ 256 ^ 1 := Nat.pow_le_pow_right (by omega) h2
      simp only
      omega
end
end Go.Proofs.Ytnkbkhlbogcfaaa
