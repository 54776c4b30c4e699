/- The head of the translation, letter by letter: three closed facts of it that every row asks. -/
import Derived.Test.YtnkbkhlbogcfaaaProg
import Derived.JoinedOf
import Derived.KernelRfl
set_option linter.unusedVariables false
set_option linter.unusedSimpArgs false
namespace Go.Proofs.Ytnkbkhlbogcfaaa

def initL : List Char := [
  Char.ofNat 104, Char.ofNat 97, Char.ofNat 114, Char.ofNat 110, Char.ofNat 101, Char.ofNat 115, Char.ofNat 115, Char.ofNat 32, Char.ofNat 102, Char.ofNat 52, Char.ofNat 57, Char.ofNat 49, Char.ofNat 50, Char.ofNat 49, Char.ofNat 51, Char.ofNat 101,
  Char.ofNat 102, Char.ofNat 53, Char.ofNat 57, Char.ofNat 102, Char.ofNat 56, Char.ofNat 57, Char.ofNat 57, Char.ofNat 101, Char.ofNat 99, Char.ofNat 53, Char.ofNat 56, Char.ofNat 49, Char.ofNat 97, Char.ofNat 99, Char.ofNat 51, Char.ofNat 50,
  Char.ofNat 53, Char.ofNat 49, Char.ofNat 51, Char.ofNat 98, Char.ofNat 98, Char.ofNat 57, Char.ofNat 57, Char.ofNat 57, Char.ofNat 51, Char.ofNat 98, Char.ofNat 102, Char.ofNat 98, Char.ofNat 98, Char.ofNat 55, Char.ofNat 56, Char.ofNat 48,
  Char.ofNat 99, Char.ofNat 53, Char.ofNat 57, Char.ofNat 98, Char.ofNat 101, Char.ofNat 100, Char.ofNat 48, Char.ofNat 56, Char.ofNat 98, Char.ofNat 57, Char.ofNat 99, Char.ofNat 55, Char.ofNat 56, Char.ofNat 49, Char.ofNat 102, Char.ofNat 100,
  Char.ofNat 57, Char.ofNat 51, Char.ofNat 100, Char.ofNat 99, Char.ofNat 57, Char.ofNat 55, Char.ofNat 51, Char.ofNat 57, Char.ofNat 32, Char.ofNat 99, Char.ofNat 117, Char.ofNat 116, Char.ofNat 32, Char.ofNat 97, Char.ofNat 116, Char.ofNat 32,
  Char.ofNat 104, Char.ofNat 105, Char.ofNat 98, Char.ofNat 101, Char.ofNat 114, Char.ofNat 110, Char.ofNat 97, Char.ofNat 99, Char.ofNat 108, Char.ofNat 101, Char.ofNat 47, Char.ofNat 104, Char.ofNat 105, Char.ofNat 98, Char.ofNat 101, Char.ofNat 114,
  Char.ofNat 110, Char.ofNat 97, Char.ofNat 99, Char.ofNat 108, Char.ofNat 101, Char.ofNat 108, Char.ofNat 97, Char.ofNat 119, Char.ofNat 48, Char.ofNat 50, Char.ofNat 46, Char.ofNat 67, Char.ofNat 114, Char.ofNat 99, Char.ofNat 66, Char.ofNat 117,
  Char.ofNat 114, Char.ofNat 115, Char.ofNat 116, Char.ofNat 115, Char.ofNat 32, Char.ofNat 104, Char.ofNat 105, Char.ofNat 98, Char.ofNat 101, Char.ofNat 114, Char.ofNat 110, Char.ofNat 97, Char.ofNat 99, Char.ofNat 108, Char.ofNat 101, Char.ofNat 47,
  Char.ofNat 104, Char.ofNat 105, Char.ofNat 98, Char.ofNat 101, Char.ofNat 114, Char.ofNat 110, Char.ofNat 97, Char.ofNat 99, Char.ofNat 108, Char.ofNat 101, Char.ofNat 108, Char.ofNat 97, Char.ofNat 119, Char.ofNat 48, Char.ofNat 50, Char.ofNat 46,
  Char.ofNat 67, Char.ofNat 114, Char.ofNat 99, Char.ofNat 69, Char.ofNat 118, Char.ofNat 101, Char.ofNat 110, Char.ofNat 32, Char.ofNat 104, Char.ofNat 105, Char.ofNat 98, Char.ofNat 101, Char.ofNat 114, Char.ofNat 110, Char.ofNat 97, Char.ofNat 99,
  Char.ofNat 108, Char.ofNat 101, Char.ofNat 47, Char.ofNat 104, Char.ofNat 105, Char.ofNat 98, Char.ofNat 101, Char.ofNat 114, Char.ofNat 110, Char.ofNat 97, Char.ofNat 99, Char.ofNat 108, Char.ofNat 101, Char.ofNat 108, Char.ofNat 97, Char.ofNat 119,
  Char.ofNat 48, Char.ofNat 50, Char.ofNat 46, Char.ofNat 67, Char.ofNat 114, Char.ofNat 99, Char.ofNat 83, Char.ofNat 117, Char.ofNat 109, Char.ofNat 115, Char.ofNat 32, Char.ofNat 104, Char.ofNat 105, Char.ofNat 98, Char.ofNat 101, Char.ofNat 114,
  Char.ofNat 110, Char.ofNat 97, Char.ofNat 99, Char.ofNat 108, Char.ofNat 101, Char.ofNat 47, Char.ofNat 104, Char.ofNat 105, Char.ofNat 98, Char.ofNat 101, Char.ofNat 114, Char.ofNat 110, Char.ofNat 97, Char.ofNat 99, Char.ofNat 108, Char.ofNat 101,
  Char.ofNat 108, Char.ofNat 97, Char.ofNat 119, Char.ofNat 48, Char.ofNat 49, Char.ofNat 46, Char.ofNat 87, Char.ofNat 105, Char.ofNat 114, Char.ofNat 101, Char.ofNat 83, Char.ofNat 105, Char.ofNat 122, Char.ofNat 101, Char.ofNat 115, Char.ofNat 32,
  Char.ofNat 104, Char.ofNat 105, Char.ofNat 98, Char.ofNat 101, Char.ofNat 114, Char.ofNat 110, Char.ofNat 97, Char.ofNat 99, Char.ofNat 108, Char.ofNat 101, Char.ofNat 47, Char.ofNat 104, Char.ofNat 105, Char.ofNat 98, Char.ofNat 101, Char.ofNat 114,
  Char.ofNat 110, Char.ofNat 97, Char.ofNat 99, Char.ofNat 108, Char.ofNat 101, Char.ofNat 108, Char.ofNat 97, Char.ofNat 119, Char.ofNat 48, Char.ofNat 49, Char.ofNat 46, Char.ofNat 87, Char.ofNat 105, Char.ofNat 114, Char.ofNat 101, Char.ofNat 87,
  Char.ofNat 114, Char.ofNat 105, Char.ofNat 116, Char.ofNat 101, Char.ofNat 115, Char.ofNat 32, Char.ofNat 104, Char.ofNat 105, Char.ofNat 98, Char.ofNat 101, Char.ofNat 114, Char.ofNat 110, Char.ofNat 97, Char.ofNat 99, Char.ofNat 108, Char.ofNat 101,
  Char.ofNat 47, Char.ofNat 104, Char.ofNat 105, Char.ofNat 98, Char.ofNat 101, Char.ofNat 114, Char.ofNat 110, Char.ofNat 97, Char.ofNat 99, Char.ofNat 108, Char.ofNat 101, Char.ofNat 108, Char.ofNat 97, Char.ofNat 119, Char.ofNat 48, Char.ofNat 49,
  Char.ofNat 46, Char.ofNat 87, Char.ofNat 105, Char.ofNat 114, Char.ofNat 101, Char.ofNat 67, Char.ofNat 108, Char.ofNat 111, Char.ofNat 110, Char.ofNat 101, Char.ofNat 115, Char.ofNat 32, Char.ofNat 104, Char.ofNat 105, Char.ofNat 98, Char.ofNat 101,
  Char.ofNat 114, Char.ofNat 110, Char.ofNat 97, Char.ofNat 99, Char.ofNat 108, Char.ofNat 101, Char.ofNat 47, Char.ofNat 104, Char.ofNat 105, Char.ofNat 98, Char.ofNat 101, Char.ofNat 114, Char.ofNat 110, Char.ofNat 97, Char.ofNat 99, Char.ofNat 108,
  Char.ofNat 101, Char.ofNat 108, Char.ofNat 97, Char.ofNat 119, Char.ofNat 48, Char.ofNat 50, Char.ofNat 46, Char.ofNat 67, Char.ofNat 114, Char.ofNat 99, Char.ofNat 83, Char.ofNat 101, Char.ofNat 97, Char.ofNat 108, Char.ofNat 115, Char.ofNat 32,
  Char.ofNat 104, Char.ofNat 105, Char.ofNat 98, Char.ofNat 101, Char.ofNat 114, Char.ofNat 110, Char.ofNat 97, Char.ofNat 99, Char.ofNat 108, Char.ofNat 101, Char.ofNat 47, Char.ofNat 104, Char.ofNat 105, Char.ofNat 98, Char.ofNat 101, Char.ofNat 114,
  Char.ofNat 110, Char.ofNat 97, Char.ofNat 99, Char.ofNat 108, Char.ofNat 101, Char.ofNat 108, Char.ofNat 97, Char.ofNat 119, Char.ofNat 48, Char.ofNat 50, Char.ofNat 46, Char.ofNat 67, Char.ofNat 114, Char.ofNat 99, Char.ofNat 84, Char.ofNat 117,
  Char.ofNat 114, Char.ofNat 110, Char.ofNat 115, Char.ofNat 32, Char.ofNat 104, Char.ofNat 105, Char.ofNat 98, Char.ofNat 101, Char.ofNat 114, Char.ofNat 110, Char.ofNat 97, Char.ofNat 99, Char.ofNat 108, Char.ofNat 101, Char.ofNat 47, Char.ofNat 104,
  Char.ofNat 105, Char.ofNat 98, Char.ofNat 101, Char.ofNat 114, Char.ofNat 110, Char.ofNat 97, Char.ofNat 99, Char.ofNat 108, Char.ofNat 101, Char.ofNat 108, Char.ofNat 97, Char.ofNat 119, Char.ofNat 48, Char.ofNat 50, Char.ofNat 46, Char.ofNat 67,
  Char.ofNat 114, Char.ofNat 99, Char.ofNat 76, Char.ofNat 111, Char.ofNat 110, Char.ofNat 103, Char.ofNat 101, Char.ofNat 114, Char.ofNat 32, Char.ofNat 104, Char.ofNat 105, Char.ofNat 98, Char.ofNat 101, Char.ofNat 114, Char.ofNat 110, Char.ofNat 97,
  Char.ofNat 99, Char.ofNat 108, Char.ofNat 101, Char.ofNat 47, Char.ofNat 104, Char.ofNat 105, Char.ofNat 98, Char.ofNat 101, Char.ofNat 114, Char.ofNat 110, Char.ofNat 97, Char.ofNat 99, Char.ofNat 108, Char.ofNat 101, Char.ofNat 108, Char.ofNat 97,
  Char.ofNat 119, Char.ofNat 48, Char.ofNat 49, Char.ofNat 46, Char.ofNat 87, Char.ofNat 105, Char.ofNat 114, Char.ofNat 101, Char.ofNat 79, Char.ofNat 110, Char.ofNat 101, Char.ofNat 32, Char.ofNat 104, Char.ofNat 105, Char.ofNat 98, Char.ofNat 101,
  Char.ofNat 114, Char.ofNat 110, Char.ofNat 97, Char.ofNat 99, Char.ofNat 108, Char.ofNat 101, Char.ofNat 47, Char.ofNat 104, Char.ofNat 105, Char.ofNat 98, Char.ofNat 101, Char.ofNat 114, Char.ofNat 110, Char.ofNat 97, Char.ofNat 99, Char.ofNat 108,
  Char.ofNat 101, Char.ofNat 108, Char.ofNat 97, Char.ofNat 119, Char.ofNat 49, Char.ofNat 54, Char.ofNat 46, Char.ofNat 83, Char.ofNat 101, Char.ofNat 99, Char.ofNat 116, Char.ofNat 105, Char.ofNat 111, Char.ofNat 110, Char.ofNat 83, Char.ofNat 105,
  Char.ofNat 122, Char.ofNat 101, Char.ofNat 115, Char.ofNat 32, Char.ofNat 104, Char.ofNat 105, Char.ofNat 98, Char.ofNat 101, Char.ofNat 114, Char.ofNat 110, Char.ofNat 97, Char.ofNat 99, Char.ofNat 108, Char.ofNat 101, Char.ofNat 47, Char.ofNat 104,
  Char.ofNat 105, Char.ofNat 98, Char.ofNat 101, Char.ofNat 114, Char.ofNat 110, Char.ofNat 97, Char.ofNat 99, Char.ofNat 108, Char.ofNat 101, Char.ofNat 108, Char.ofNat 97, Char.ofNat 119, Char.ofNat 48, Char.ofNat 49, Char.ofNat 46, Char.ofNat 87,
  Char.ofNat 105, Char.ofNat 114, Char.ofNat 101, Char.ofNat 82, Char.ofNat 111, Char.ofNat 117, Char.ofNat 110, Char.ofNat 100, Char.ofNat 32, Char.ofNat 104, Char.ofNat 105, Char.ofNat 98, Char.ofNat 101, Char.ofNat 114, Char.ofNat 110, Char.ofNat 97,
  Char.ofNat 99, Char.ofNat 108, Char.ofNat 101, Char.ofNat 47, Char.ofNat 104, Char.ofNat 105, Char.ofNat 98, Char.ofNat 101, Char.ofNat 114, Char.ofNat 110, Char.ofNat 97, Char.ofNat 99, Char.ofNat 108, Char.ofNat 101, Char.ofNat 108, Char.ofNat 97,
  Char.ofNat 119, Char.ofNat 49, Char.ofNat 54, Char.ofNat 46, Char.ofNat 83, Char.ofNat 101, Char.ofNat 99, Char.ofNat 116, Char.ofNat 105, Char.ofNat 111, Char.ofNat 110, Char.ofNat 70, Char.ofNat 105, Char.ofNat 110, Char.ofNat 100, Char.ofNat 115,
  Char.ofNat 32, Char.ofNat 104, Char.ofNat 105, Char.ofNat 98, Char.ofNat 101, Char.ofNat 114, Char.ofNat 110, Char.ofNat 97, Char.ofNat 99, Char.ofNat 108, Char.ofNat 101, Char.ofNat 47, Char.ofNat 104, Char.ofNat 105, Char.ofNat 98, Char.ofNat 101,
  Char.ofNat 114, Char.ofNat 110, Char.ofNat 97, Char.ofNat 99, Char.ofNat 108, Char.ofNat 101, Char.ofNat 108, Char.ofNat 97, Char.ofNat 119, Char.ofNat 48, Char.ofNat 49, Char.ofNat 46, Char.ofNat 87, Char.ofNat 105, Char.ofNat 114, Char.ofNat 101,
  Char.ofNat 82, Char.ofNat 101, Char.ofNat 97, Char.ofNat 100, Char.ofNat 115, Char.ofNat 32, Char.ofNat 104, Char.ofNat 105, Char.ofNat 98, Char.ofNat 101, Char.ofNat 114, Char.ofNat 110, Char.ofNat 97, Char.ofNat 99, Char.ofNat 108, Char.ofNat 101,
  Char.ofNat 47, Char.ofNat 104, Char.ofNat 105, Char.ofNat 98, Char.ofNat 101, Char.ofNat 114, Char.ofNat 110, Char.ofNat 97, Char.ofNat 99, Char.ofNat 108, Char.ofNat 101, Char.ofNat 108, Char.ofNat 97, Char.ofNat 119, Char.ofNat 48, Char.ofNat 49,
  Char.ofNat 46, Char.ofNat 87, Char.ofNat 105, Char.ofNat 114, Char.ofNat 101, Char.ofNat 83, Char.ofNat 116, Char.ofNat 111, Char.ofNat 112, Char.ofNat 115, Char.ofNat 32, Char.ofNat 104, Char.ofNat 105, Char.ofNat 98, Char.ofNat 101, Char.ofNat 114,
  Char.ofNat 110, Char.ofNat 97, Char.ofNat 99, Char.ofNat 108, Char.ofNat 101, Char.ofNat 47, Char.ofNat 104, Char.ofNat 105, Char.ofNat 98, Char.ofNat 101, Char.ofNat 114, Char.ofNat 110, Char.ofNat 97, Char.ofNat 99, Char.ofNat 108, Char.ofNat 101,
  Char.ofNat 108, Char.ofNat 97, Char.ofNat 119, Char.ofNat 49, Char.ofNat 54, Char.ofNat 46, Char.ofNat 83, Char.ofNat 101, Char.ofNat 99, Char.ofNat 116, Char.ofNat 105, Char.ofNat 111, Char.ofNat 110, Char.ofNat 84, Char.ofNat 117, Char.ofNat 114,
  Char.ofNat 110, Char.ofNat 115, Char.ofNat 32, Char.ofNat 104, Char.ofNat 105, Char.ofNat 98, Char.ofNat 101, Char.ofNat 114, Char.ofNat 110, Char.ofNat 97, Char.ofNat 99, Char.ofNat 108, Char.ofNat 101, Char.ofNat 47, Char.ofNat 104, Char.ofNat 105,
  Char.ofNat 98, Char.ofNat 101, Char.ofNat 114, Char.ofNat 110, Char.ofNat 97, Char.ofNat 99, Char.ofNat 108, Char.ofNat 101, Char.ofNat 108, Char.ofNat 97, Char.ofNat 119, Char.ofNat 49, Char.ofNat 54, Char.ofNat 46, Char.ofNat 83, Char.ofNat 101,
  Char.ofNat 99, Char.ofNat 116, Char.ofNat 105, Char.ofNat 111, Char.ofNat 110, Char.ofNat 66, Char.ofNat 111, Char.ofNat 100, Char.ofNat 105, Char.ofNat 101, Char.ofNat 115, Char.ofNat 32, Char.ofNat 104, Char.ofNat 105, Char.ofNat 98, Char.ofNat 101,
  Char.ofNat 114, Char.ofNat 110, Char.ofNat 97, Char.ofNat 99, Char.ofNat 108, Char.ofNat 101, Char.ofNat 47, Char.ofNat 104, Char.ofNat 105, Char.ofNat 98, Char.ofNat 101, Char.ofNat 114, Char.ofNat 110, Char.ofNat 97, Char.ofNat 99, Char.ofNat 108,
  Char.ofNat 101, Char.ofNat 108, Char.ofNat 97, Char.ofNat 119, Char.ofNat 49, Char.ofNat 54, Char.ofNat 46, Char.ofNat 83, Char.ofNat 101, Char.ofNat 99, Char.ofNat 116, Char.ofNat 105, Char.ofNat 111, Char.ofNat 110, Char.ofNat 82, Char.ofNat 101,
  Char.ofNat 97, Char.ofNat 100, Char.ofNat 115, Char.ofNat 32, Char.ofNat 104, Char.ofNat 105, Char.ofNat 98, Char.ofNat 101, Char.ofNat 114, Char.ofNat 110, Char.ofNat 97, Char.ofNat 99, Char.ofNat 108, Char.ofNat 101, Char.ofNat 47, Char.ofNat 104,
  Char.ofNat 105, Char.ofNat 98, Char.ofNat 101, Char.ofNat 114, Char.ofNat 110, Char.ofNat 97, Char.ofNat 99, Char.ofNat 108, Char.ofNat 101, Char.ofNat 108, Char.ofNat 97, Char.ofNat 119, Char.ofNat 49, Char.ofNat 54, Char.ofNat 46, Char.ofNat 83,
  Char.ofNat 101, Char.ofNat 99, Char.ofNat 116, Char.ofNat 105, Char.ofNat 111, Char.ofNat 110, Char.ofNat 87, Char.ofNat 114, Char.ofNat 105, Char.ofNat 116, Char.ofNat 101, Char.ofNat 115]
theorem initS : Try.prog.initOrder = "harness f491213ef59f899ec581ac32513bb9993bfbb780c59bed08b9c781fd93dc9739 cut at hibernacle/hibernaclelaw02.CrcBursts hibernacle/hibernaclelaw02.CrcEven hibernacle/hibernaclelaw02.CrcSums hibernacle/hibernaclelaw01.WireSizes hibernacle/hibernaclelaw01.WireWrites hibernacle/hibernaclelaw01.WireClones hibernacle/hibernaclelaw02.CrcSeals hibernacle/hibernaclelaw02.CrcTurns hibernacle/hibernaclelaw02.CrcLonger hibernacle/hibernaclelaw01.WireOne hibernacle/hibernaclelaw16.SectionSizes hibernacle/hibernaclelaw01.WireRound hibernacle/hibernaclelaw16.SectionFinds hibernacle/hibernaclelaw01.WireReads hibernacle/hibernaclelaw01.WireStops hibernacle/hibernaclelaw16.SectionTurns hibernacle/hibernaclelaw16.SectionBodies hibernacle/hibernaclelaw16.SectionReads hibernacle/hibernaclelaw16.SectionWrites" := by kernel_rfl
theorem initR : "harness f491213ef59f899ec581ac32513bb9993bfbb780c59bed08b9c781fd93dc9739 cut at hibernacle/hibernaclelaw02.CrcBursts hibernacle/hibernaclelaw02.CrcEven hibernacle/hibernaclelaw02.CrcSums hibernacle/hibernaclelaw01.WireSizes hibernacle/hibernaclelaw01.WireWrites hibernacle/hibernaclelaw01.WireClones hibernacle/hibernaclelaw02.CrcSeals hibernacle/hibernaclelaw02.CrcTurns hibernacle/hibernaclelaw02.CrcLonger hibernacle/hibernaclelaw01.WireOne hibernacle/hibernaclelaw16.SectionSizes hibernacle/hibernaclelaw01.WireRound hibernacle/hibernaclelaw16.SectionFinds hibernacle/hibernaclelaw01.WireReads hibernacle/hibernaclelaw01.WireStops hibernacle/hibernaclelaw16.SectionTurns hibernacle/hibernaclelaw16.SectionBodies hibernacle/hibernaclelaw16.SectionReads hibernacle/hibernaclelaw16.SectionWrites" = String.ofList initL := by kernel_rfl
theorem initT : Try.prog.initOrder.toList = initL := by rw [initS, initR, String.toList_ofList]

/-- a translation's head whose word behind the main's is cut: over whatever program -/
theorem strip_cut (r : List (List Char)) : stripLifts liftWords ("cut".toList :: r) = ([], "cut".toList :: r) := by
  simp [stripLifts, liftWords]
theorem headLifts_of (P : Program) (r : List (List Char)) (hb : behindMainWord (wordsSigns P.initOrder.toList) = "cut".toList :: r) : P.headLifts = [] := by
  unfold Program.headLifts
  rw [hb, strip_cut]
  simp
theorem mayEnter_of (P : Program) (r : List (List Char)) (hb : behindMainWord (wordsSigns P.initOrder.toList) = "cut".toList :: r) (h1 : P.laysLater = false) (h2 : P.bearsReflect = false) (h3 : P.doorFits [] = true) : P.mayEnter = true := by
  unfold Program.mayEnter
  rw [hb]
  simp only [strip_cut, h1, h2, h3, List.head?_cons, Bool.not_false, Bool.or_true, Bool.and_true, Bool.true_and, List.contains_nil, beq_self_eq_true, Bool.or_self]
theorem liftsFinal_of (P : Program) (r : List (List Char)) (hb : behindMainWord (wordsSigns P.initOrder.toList) = "cut".toList :: r) : P.liftsFinal = false := by
  unfold Program.liftsFinal
  rw [hb, headLifts_of P r hb]
  simp
theorem make_of (P : Program) (r : List (List Char)) (hb : behindMainWord (wordsSigns P.initOrder.toList) = "cut".toList :: r) : P.make = some .cut := by
  unfold Program.make
  rw [hb]
  simp

theorem behind_ok : behindMainWord (wordsSigns Try.prog.initOrder.toList) = "cut".toList :: (behindMainWord (wordsSigns initL)).tail := by
  rw [initT]
  kernel_rfl
theorem laysLater_ok : Try.prog.laysLater = false := by kernel_rfl
theorem bearsReflect_ok : Try.prog.bearsReflect = false := by kernel_rfl
theorem doorFits_ok : Try.prog.doorFits [] = true := by kernel_rfl
theorem mayEnter_ok : Try.prog.mayEnter = true := mayEnter_of _ _ behind_ok laysLater_ok bearsReflect_ok doorFits_ok
theorem liftsFinal_ok : Try.prog.liftsFinal = false := liftsFinal_of _ _ behind_ok
theorem make_ok : Try.prog.make = some .cut := make_of _ _ behind_ok
end Go.Proofs.Ytnkbkhlbogcfaaa
