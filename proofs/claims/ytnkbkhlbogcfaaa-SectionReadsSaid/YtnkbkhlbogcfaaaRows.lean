/-
  No cell of these rows narrows 'for every input' (looked for: loops, veiled, ifaces, maps, wideKeys, modest, calm, conditions, laid).
  DERIVED. THE GIVEN ROWS OF THIS SEAT. 19 by the template 'for every input the law returns true; each argument reads behind the call as it read before'; 0 by the template 'total and deterministic' (their statements: YtnkbkhlbogcfaaaTotals.lean).
  GIVEN WITH THE SEED: the statements are not yours to turn. If you find one false, say at which input.
  Laid BY PROGRAM, IN A SANDBOX (cutbox-rows.mjs): the forced cells as the released guide's own fill.sh prints them over the translation 593d93698f2bca41… (all of the seat's roots in one cut). By AI agents, Wed Nov 11 2026. No macro, syntax, notation, axiom, sorry.
-/
import Derived.Test.YtnkbkhlbogcfaaaChecked
import GoSem.Claim
import GoSem.ClaimJoined
import GoSem.ClaimMapViews
import Derived.JoinedTies
import Derived.KernelRfl
namespace Go.Proofs.Ytnkbkhlbogcfaaa
/- THE CELL 'sum', in the pinned program and in every row, IS THE sha256 OF THE DUMP (.gsa) THAT YtnkbkhlbogcfaaaProg.lean LOADS. Nothing in Lean hashes anything: it is a label: what it is worth is what the hold of that sum in a sandbox is worth. -/
noncomputable def Try.pinned : Pinned := { name := "ytnkbkhlbogcfaaa", sum := "593d93698f2bca41c45734e240846a8e2035a0cc23d09b20d8a1fdfc2fefcc61", checked := Try.checked }
namespace Rows
def none {H : Type} : Left H := { results := [], args := [] }

/-- 'hibernaclelaw02.CrcBursts': WHATEVER THE INPUT: true; the input reads as it did. -/
def crcBurstsSpec : ChangeSpec := { name := "crcBursts", fn := fun _ => fun
  | [d1, d2, d3] => { results := [.lit (.bool true)], args := [d1, d2, d3] }
  | _ => none }
def crcBurstsRow : OpenClaim := { program := "ytnkbkhlbogcfaaa", sum := "593d93698f2bca41c45734e240846a8e2035a0cc23d09b20d8a1fdfc2fefcc61", func := "hibernacle/hibernaclelaw02.CrcBursts", spec := "crcBursts", unfollowed := true, recurses := true, apart := false }
def CrcBurstsSaid : Prop := crcBurstsRow.holds Try.pinned (OpenSpec.ofChange crcBurstsSpec)

/-- ITS FALSE NEIGHBOUR: 'it returns false'. Refute it at one input. -/
def crcBurstsWrong : ChangeSpec := { name := "crcBursts", fn := fun _ => fun
  | [d1, d2, d3] => { results := [.lit (.bool false)], args := [d1, d2, d3] }
  | _ => none }
def CrcBurstsWrongFalsely : Prop := crcBurstsRow.holds Try.pinned (OpenSpec.ofChange crcBurstsWrong)

/-- 'hibernaclelaw02.CrcEven': WHATEVER THE INPUT: true; the input reads as it did. -/
def crcEvenSpec : ChangeSpec := { name := "crcEven", fn := fun _ => fun
  | [d1, d2, d3] => { results := [.lit (.bool true)], args := [d1, d2, d3] }
  | _ => none }
def crcEvenRow : OpenClaim := { program := "ytnkbkhlbogcfaaa", sum := "593d93698f2bca41c45734e240846a8e2035a0cc23d09b20d8a1fdfc2fefcc61", func := "hibernacle/hibernaclelaw02.CrcEven", spec := "crcEven", unfollowed := true, recurses := true, apart := false }
def CrcEvenSaid : Prop := crcEvenRow.holds Try.pinned (OpenSpec.ofChange crcEvenSpec)

/-- ITS FALSE NEIGHBOUR: 'it returns false'. Refute it at one input. -/
def crcEvenWrong : ChangeSpec := { name := "crcEven", fn := fun _ => fun
  | [d1, d2, d3] => { results := [.lit (.bool false)], args := [d1, d2, d3] }
  | _ => none }
def CrcEvenWrongFalsely : Prop := crcEvenRow.holds Try.pinned (OpenSpec.ofChange crcEvenWrong)

/-- 'hibernaclelaw02.CrcSums': WHATEVER THE INPUT: true; the input reads as it did. -/
def crcSumsSpec : ChangeSpec := { name := "crcSums", fn := fun _ => fun
  | [d1, d2] => { results := [.lit (.bool true)], args := [d1, d2] }
  | _ => none }
def crcSumsRow : OpenClaim := { program := "ytnkbkhlbogcfaaa", sum := "593d93698f2bca41c45734e240846a8e2035a0cc23d09b20d8a1fdfc2fefcc61", func := "hibernacle/hibernaclelaw02.CrcSums", spec := "crcSums", unfollowed := true, recurses := true, apart := false }
def CrcSumsSaid : Prop := crcSumsRow.holds Try.pinned (OpenSpec.ofChange crcSumsSpec)

/-- ITS FALSE NEIGHBOUR: 'it returns false'. Refute it at one input. -/
def crcSumsWrong : ChangeSpec := { name := "crcSums", fn := fun _ => fun
  | [d1, d2] => { results := [.lit (.bool false)], args := [d1, d2] }
  | _ => none }
def CrcSumsWrongFalsely : Prop := crcSumsRow.holds Try.pinned (OpenSpec.ofChange crcSumsWrong)

/-- 'hibernaclelaw01.WireSizes': WHATEVER THE INPUT: true; the input reads as it did. -/
def wireSizesSpec : ChangeSpec := { name := "wireSizes", fn := fun _ => fun
  | [d1, d2, d3] => { results := [.lit (.bool true)], args := [d1, d2, d3] }
  | _ => none }
def wireSizesRow : OpenClaim := { program := "ytnkbkhlbogcfaaa", sum := "593d93698f2bca41c45734e240846a8e2035a0cc23d09b20d8a1fdfc2fefcc61", func := "hibernacle/hibernaclelaw01.WireSizes", spec := "wireSizes", apart := false }
def WireSizesSaid : Prop := wireSizesRow.holds Try.pinned (OpenSpec.ofChange wireSizesSpec)

/-- ITS FALSE NEIGHBOUR: 'it returns false'. Refute it at one input. -/
def wireSizesWrong : ChangeSpec := { name := "wireSizes", fn := fun _ => fun
  | [d1, d2, d3] => { results := [.lit (.bool false)], args := [d1, d2, d3] }
  | _ => none }
def WireSizesWrongFalsely : Prop := wireSizesRow.holds Try.pinned (OpenSpec.ofChange wireSizesWrong)

/-- 'hibernaclelaw01.WireWrites': WHATEVER THE INPUT: true; the input reads as it did. -/
def wireWritesSpec : ChangeSpec := { name := "wireWrites", fn := fun _ => fun
  | [d] => { results := [.lit (.bool true)], args := [d] }
  | _ => none }
def wireWritesRow : OpenClaim := { program := "ytnkbkhlbogcfaaa", sum := "593d93698f2bca41c45734e240846a8e2035a0cc23d09b20d8a1fdfc2fefcc61", func := "hibernacle/hibernaclelaw01.WireWrites", spec := "wireWrites", apart := false }
def WireWritesSaid : Prop := wireWritesRow.holds Try.pinned (OpenSpec.ofChange wireWritesSpec)

/-- ITS FALSE NEIGHBOUR: 'it returns false'. Refute it at one input. -/
def wireWritesWrong : ChangeSpec := { name := "wireWrites", fn := fun _ => fun
  | [d] => { results := [.lit (.bool false)], args := [d] }
  | _ => none }
def WireWritesWrongFalsely : Prop := wireWritesRow.holds Try.pinned (OpenSpec.ofChange wireWritesWrong)

/-- 'hibernaclelaw01.WireClones': WHATEVER THE INPUT: true; the input reads as it did. -/
def wireClonesSpec : ChangeSpec := { name := "wireClones", fn := fun _ => fun
  | [d1, d2] => { results := [.lit (.bool true)], args := [d1, d2] }
  | _ => none }
def wireClonesRow : OpenClaim := { program := "ytnkbkhlbogcfaaa", sum := "593d93698f2bca41c45734e240846a8e2035a0cc23d09b20d8a1fdfc2fefcc61", func := "hibernacle/hibernaclelaw01.WireClones", spec := "wireClones", unfollowed := true, recurses := true, apart := false }
def WireClonesSaid : Prop := wireClonesRow.holds Try.pinned (OpenSpec.ofChange wireClonesSpec)

/-- ITS FALSE NEIGHBOUR: 'it returns false'. Refute it at one input. -/
def wireClonesWrong : ChangeSpec := { name := "wireClones", fn := fun _ => fun
  | [d1, d2] => { results := [.lit (.bool false)], args := [d1, d2] }
  | _ => none }
def WireClonesWrongFalsely : Prop := wireClonesRow.holds Try.pinned (OpenSpec.ofChange wireClonesWrong)

/-- 'hibernaclelaw02.CrcSeals': WHATEVER THE INPUT: true; the input reads as it did. -/
def crcSealsSpec : ChangeSpec := { name := "crcSeals", fn := fun _ => fun
  | [d] => { results := [.lit (.bool true)], args := [d] }
  | _ => none }
def crcSealsRow : OpenClaim := { program := "ytnkbkhlbogcfaaa", sum := "593d93698f2bca41c45734e240846a8e2035a0cc23d09b20d8a1fdfc2fefcc61", func := "hibernacle/hibernaclelaw02.CrcSeals", spec := "crcSeals", unfollowed := true, recurses := true, apart := false }
def CrcSealsSaid : Prop := crcSealsRow.holds Try.pinned (OpenSpec.ofChange crcSealsSpec)

/-- ITS FALSE NEIGHBOUR: 'it returns false'. Refute it at one input. -/
def crcSealsWrong : ChangeSpec := { name := "crcSeals", fn := fun _ => fun
  | [d] => { results := [.lit (.bool false)], args := [d] }
  | _ => none }
def CrcSealsWrongFalsely : Prop := crcSealsRow.holds Try.pinned (OpenSpec.ofChange crcSealsWrong)

/-- 'hibernaclelaw02.CrcTurns': WHATEVER THE INPUT: true; the input reads as it did. -/
def crcTurnsSpec : ChangeSpec := { name := "crcTurns", fn := fun _ => fun
  | [d1, d2, d3] => { results := [.lit (.bool true)], args := [d1, d2, d3] }
  | _ => none }
def crcTurnsRow : OpenClaim := { program := "ytnkbkhlbogcfaaa", sum := "593d93698f2bca41c45734e240846a8e2035a0cc23d09b20d8a1fdfc2fefcc61", func := "hibernacle/hibernaclelaw02.CrcTurns", spec := "crcTurns", unfollowed := true, recurses := true, apart := false }
def CrcTurnsSaid : Prop := crcTurnsRow.holds Try.pinned (OpenSpec.ofChange crcTurnsSpec)

/-- ITS FALSE NEIGHBOUR: 'it returns false'. Refute it at one input. -/
def crcTurnsWrong : ChangeSpec := { name := "crcTurns", fn := fun _ => fun
  | [d1, d2, d3] => { results := [.lit (.bool false)], args := [d1, d2, d3] }
  | _ => none }
def CrcTurnsWrongFalsely : Prop := crcTurnsRow.holds Try.pinned (OpenSpec.ofChange crcTurnsWrong)

/-- 'hibernaclelaw02.CrcLonger': WHATEVER THE INPUT: true; the input reads as it did. -/
def crcLongerSpec : ChangeSpec := { name := "crcLonger", fn := fun _ => fun
  | [d1, d2, d3] => { results := [.lit (.bool true)], args := [d1, d2, d3] }
  | _ => none }
def crcLongerRow : OpenClaim := { program := "ytnkbkhlbogcfaaa", sum := "593d93698f2bca41c45734e240846a8e2035a0cc23d09b20d8a1fdfc2fefcc61", func := "hibernacle/hibernaclelaw02.CrcLonger", spec := "crcLonger", unfollowed := true, recurses := true, apart := false }
def CrcLongerSaid : Prop := crcLongerRow.holds Try.pinned (OpenSpec.ofChange crcLongerSpec)

/-- ITS FALSE NEIGHBOUR: 'it returns false'. Refute it at one input. -/
def crcLongerWrong : ChangeSpec := { name := "crcLonger", fn := fun _ => fun
  | [d1, d2, d3] => { results := [.lit (.bool false)], args := [d1, d2, d3] }
  | _ => none }
def CrcLongerWrongFalsely : Prop := crcLongerRow.holds Try.pinned (OpenSpec.ofChange crcLongerWrong)

/-- 'hibernaclelaw01.WireOne': WHATEVER THE INPUT: true; the input reads as it did. -/
def wireOneSpec : ChangeSpec := { name := "wireOne", fn := fun _ => fun
  | [d] => { results := [.lit (.bool true)], args := [d] }
  | _ => none }
def wireOneRow : OpenClaim := { program := "ytnkbkhlbogcfaaa", sum := "593d93698f2bca41c45734e240846a8e2035a0cc23d09b20d8a1fdfc2fefcc61", func := "hibernacle/hibernaclelaw01.WireOne", spec := "wireOne", unfollowed := true, recurses := true, apart := false }
def WireOneSaid : Prop := wireOneRow.holds Try.pinned (OpenSpec.ofChange wireOneSpec)

/-- ITS FALSE NEIGHBOUR: 'it returns false'. Refute it at one input. -/
def wireOneWrong : ChangeSpec := { name := "wireOne", fn := fun _ => fun
  | [d] => { results := [.lit (.bool false)], args := [d] }
  | _ => none }
def WireOneWrongFalsely : Prop := wireOneRow.holds Try.pinned (OpenSpec.ofChange wireOneWrong)

/-- 'hibernaclelaw16.SectionSizes': WHATEVER THE INPUT: true; the input reads as it did. -/
def sectionSizesSpec : ChangeSpec := { name := "sectionSizes", fn := fun _ => fun
  | [d1, d2] => { results := [.lit (.bool true)], args := [d1, d2] }
  | _ => none }
def sectionSizesRow : OpenClaim := { program := "ytnkbkhlbogcfaaa", sum := "593d93698f2bca41c45734e240846a8e2035a0cc23d09b20d8a1fdfc2fefcc61", func := "hibernacle/hibernaclelaw16.SectionSizes", spec := "sectionSizes", unfollowed := true, recurses := true, apart := false }
def SectionSizesSaid : Prop := sectionSizesRow.holds Try.pinned (OpenSpec.ofChange sectionSizesSpec)

/-- ITS FALSE NEIGHBOUR: 'it returns false'. Refute it at one input. -/
def sectionSizesWrong : ChangeSpec := { name := "sectionSizes", fn := fun _ => fun
  | [d1, d2] => { results := [.lit (.bool false)], args := [d1, d2] }
  | _ => none }
def SectionSizesWrongFalsely : Prop := sectionSizesRow.holds Try.pinned (OpenSpec.ofChange sectionSizesWrong)

/-- 'hibernaclelaw01.WireRound': WHATEVER THE INPUT: true; the input reads as it did. -/
def wireRoundSpec : ChangeSpec := { name := "wireRound", fn := fun _ => fun
  | [d] => { results := [.lit (.bool true)], args := [d] }
  | _ => none }
def wireRoundRow : OpenClaim := { program := "ytnkbkhlbogcfaaa", sum := "593d93698f2bca41c45734e240846a8e2035a0cc23d09b20d8a1fdfc2fefcc61", func := "hibernacle/hibernaclelaw01.WireRound", spec := "wireRound", unfollowed := true, recurses := true, apart := false }
def WireRoundSaid : Prop := wireRoundRow.holds Try.pinned (OpenSpec.ofChange wireRoundSpec)

/-- ITS FALSE NEIGHBOUR: 'it returns false'. Refute it at one input. -/
def wireRoundWrong : ChangeSpec := { name := "wireRound", fn := fun _ => fun
  | [d] => { results := [.lit (.bool false)], args := [d] }
  | _ => none }
def WireRoundWrongFalsely : Prop := wireRoundRow.holds Try.pinned (OpenSpec.ofChange wireRoundWrong)

/-- 'hibernaclelaw16.SectionFinds': WHATEVER THE INPUT: true; the input reads as it did. -/
def sectionFindsSpec : ChangeSpec := { name := "sectionFinds", fn := fun _ => fun
  | [d1, d2, d3, d4] => { results := [.lit (.bool true)], args := [d1, d2, d3, d4] }
  | _ => none }
def sectionFindsRow : OpenClaim := { program := "ytnkbkhlbogcfaaa", sum := "593d93698f2bca41c45734e240846a8e2035a0cc23d09b20d8a1fdfc2fefcc61", func := "hibernacle/hibernaclelaw16.SectionFinds", spec := "sectionFinds", unfollowed := true, recurses := true, apart := false }
def SectionFindsSaid : Prop := sectionFindsRow.holds Try.pinned (OpenSpec.ofChange sectionFindsSpec)

/-- ITS FALSE NEIGHBOUR: 'it returns false'. Refute it at one input. -/
def sectionFindsWrong : ChangeSpec := { name := "sectionFinds", fn := fun _ => fun
  | [d1, d2, d3, d4] => { results := [.lit (.bool false)], args := [d1, d2, d3, d4] }
  | _ => none }
def SectionFindsWrongFalsely : Prop := sectionFindsRow.holds Try.pinned (OpenSpec.ofChange sectionFindsWrong)

/-- 'hibernaclelaw01.WireReads': WHATEVER THE INPUT: true; the input reads as it did. -/
def wireReadsSpec : ChangeSpec := { name := "wireReads", fn := fun _ => fun
  | [d1, d2] => { results := [.lit (.bool true)], args := [d1, d2] }
  | _ => none }
def wireReadsRow : OpenClaim := { program := "ytnkbkhlbogcfaaa", sum := "593d93698f2bca41c45734e240846a8e2035a0cc23d09b20d8a1fdfc2fefcc61", func := "hibernacle/hibernaclelaw01.WireReads", spec := "wireReads", unfollowed := true, recurses := true, apart := false }
def WireReadsSaid : Prop := wireReadsRow.holds Try.pinned (OpenSpec.ofChange wireReadsSpec)

/-- ITS FALSE NEIGHBOUR: 'it returns false'. Refute it at one input. -/
def wireReadsWrong : ChangeSpec := { name := "wireReads", fn := fun _ => fun
  | [d1, d2] => { results := [.lit (.bool false)], args := [d1, d2] }
  | _ => none }
def WireReadsWrongFalsely : Prop := wireReadsRow.holds Try.pinned (OpenSpec.ofChange wireReadsWrong)

/-- 'hibernaclelaw01.WireStops': WHATEVER THE INPUT: true; the input reads as it did. -/
def wireStopsSpec : ChangeSpec := { name := "wireStops", fn := fun _ => fun
  | [d1, d2, d3] => { results := [.lit (.bool true)], args := [d1, d2, d3] }
  | _ => none }
def wireStopsRow : OpenClaim := { program := "ytnkbkhlbogcfaaa", sum := "593d93698f2bca41c45734e240846a8e2035a0cc23d09b20d8a1fdfc2fefcc61", func := "hibernacle/hibernaclelaw01.WireStops", spec := "wireStops", unfollowed := true, recurses := true, apart := false }
def WireStopsSaid : Prop := wireStopsRow.holds Try.pinned (OpenSpec.ofChange wireStopsSpec)

/-- ITS FALSE NEIGHBOUR: 'it returns false'. Refute it at one input. -/
def wireStopsWrong : ChangeSpec := { name := "wireStops", fn := fun _ => fun
  | [d1, d2, d3] => { results := [.lit (.bool false)], args := [d1, d2, d3] }
  | _ => none }
def WireStopsWrongFalsely : Prop := wireStopsRow.holds Try.pinned (OpenSpec.ofChange wireStopsWrong)

/-- 'hibernaclelaw16.SectionTurns': WHATEVER THE INPUT: true; the input reads as it did. -/
def sectionTurnsSpec : ChangeSpec := { name := "sectionTurns", fn := fun _ => fun
  | [d1, d2, d3] => { results := [.lit (.bool true)], args := [d1, d2, d3] }
  | _ => none }
def sectionTurnsRow : OpenClaim := { program := "ytnkbkhlbogcfaaa", sum := "593d93698f2bca41c45734e240846a8e2035a0cc23d09b20d8a1fdfc2fefcc61", func := "hibernacle/hibernaclelaw16.SectionTurns", spec := "sectionTurns", unfollowed := true, recurses := true, apart := false }
def SectionTurnsSaid : Prop := sectionTurnsRow.holds Try.pinned (OpenSpec.ofChange sectionTurnsSpec)

/-- ITS FALSE NEIGHBOUR: 'it returns false'. Refute it at one input. -/
def sectionTurnsWrong : ChangeSpec := { name := "sectionTurns", fn := fun _ => fun
  | [d1, d2, d3] => { results := [.lit (.bool false)], args := [d1, d2, d3] }
  | _ => none }
def SectionTurnsWrongFalsely : Prop := sectionTurnsRow.holds Try.pinned (OpenSpec.ofChange sectionTurnsWrong)

/-- 'hibernaclelaw16.SectionBodies': WHATEVER THE INPUT: true; the input reads as it did. -/
def sectionBodiesSpec : ChangeSpec := { name := "sectionBodies", fn := fun _ => fun
  | [d1, d2, d3, d4] => { results := [.lit (.bool true)], args := [d1, d2, d3, d4] }
  | _ => none }
def sectionBodiesRow : OpenClaim := { program := "ytnkbkhlbogcfaaa", sum := "593d93698f2bca41c45734e240846a8e2035a0cc23d09b20d8a1fdfc2fefcc61", func := "hibernacle/hibernaclelaw16.SectionBodies", spec := "sectionBodies", unfollowed := true, recurses := true, apart := false }
def SectionBodiesSaid : Prop := sectionBodiesRow.holds Try.pinned (OpenSpec.ofChange sectionBodiesSpec)

/-- ITS FALSE NEIGHBOUR: 'it returns false'. Refute it at one input. -/
def sectionBodiesWrong : ChangeSpec := { name := "sectionBodies", fn := fun _ => fun
  | [d1, d2, d3, d4] => { results := [.lit (.bool false)], args := [d1, d2, d3, d4] }
  | _ => none }
def SectionBodiesWrongFalsely : Prop := sectionBodiesRow.holds Try.pinned (OpenSpec.ofChange sectionBodiesWrong)

/-- 'hibernaclelaw16.SectionReads': WHATEVER THE INPUT: true; the input reads as it did. -/
def sectionReadsSpec : ChangeSpec := { name := "sectionReads", fn := fun _ => fun
  | [d1, d2, d3, d4, d5] => { results := [.lit (.bool true)], args := [d1, d2, d3, d4, d5] }
  | _ => none }
def sectionReadsRow : OpenClaim := { program := "ytnkbkhlbogcfaaa", sum := "593d93698f2bca41c45734e240846a8e2035a0cc23d09b20d8a1fdfc2fefcc61", func := "hibernacle/hibernaclelaw16.SectionReads", spec := "sectionReads", unfollowed := true, recurses := true, apart := false }
def SectionReadsSaid : Prop := sectionReadsRow.holds Try.pinned (OpenSpec.ofChange sectionReadsSpec)

/-- ITS FALSE NEIGHBOUR: 'it returns false'. Refute it at one input. -/
def sectionReadsWrong : ChangeSpec := { name := "sectionReads", fn := fun _ => fun
  | [d1, d2, d3, d4, d5] => { results := [.lit (.bool false)], args := [d1, d2, d3, d4, d5] }
  | _ => none }
def SectionReadsWrongFalsely : Prop := sectionReadsRow.holds Try.pinned (OpenSpec.ofChange sectionReadsWrong)

/-- 'hibernaclelaw16.SectionWrites': WHATEVER THE INPUT: true; the input reads as it did. -/
def sectionWritesSpec : ChangeSpec := { name := "sectionWrites", fn := fun _ => fun
  | [d1, d2] => { results := [.lit (.bool true)], args := [d1, d2] }
  | _ => none }
def sectionWritesRow : OpenClaim := { program := "ytnkbkhlbogcfaaa", sum := "593d93698f2bca41c45734e240846a8e2035a0cc23d09b20d8a1fdfc2fefcc61", func := "hibernacle/hibernaclelaw16.SectionWrites", spec := "sectionWrites", unfollowed := true, recurses := true, apart := false }
def SectionWritesSaid : Prop := sectionWritesRow.holds Try.pinned (OpenSpec.ofChange sectionWritesSpec)

/-- ITS FALSE NEIGHBOUR: 'it returns false'. Refute it at one input. -/
def sectionWritesWrong : ChangeSpec := { name := "sectionWrites", fn := fun _ => fun
  | [d1, d2] => { results := [.lit (.bool false)], args := [d1, d2] }
  | _ => none }
def SectionWritesWrongFalsely : Prop := sectionWritesRow.holds Try.pinned (OpenSpec.ofChange sectionWritesWrong)

/- THE SECOND FORM. 'bulk': how many values and letters a reading holds, each counted each time it is reached (what is shared counts as often as it is met; a slice's spare places count too). A statement '..UptoSaid' is the law's where the arguments, and the package variables that the reading takes, are together of bulk at most 1048576: NARROWER than '..Said'. Prove '..Said' where nothing that the law and all that it calls make is longer than what came in: it says more and counts as full. Else prove '..UptoSaid'. A law counts once. -/
mutual
def uptoBulk {H : Type} : DataW H → Nat
  | .lit (.string bytes) => bytes.length + 1
  | .lit _ => 1
  | .nil => 1
  | .ptr d => uptoBulk d + 1
  | .slice elems spare => uptoBulkAll elems + uptoBulkAll spare + 1
  | .agg parts => uptoBulkAll parts + 1
  | .iface _ d => uptoBulk d + 1
  | .map entries => uptoBulkEntries entries + 1
  | .held _ => 1
def uptoBulkAll {H : Type} : List (DataW H) → Nat
  | [] => 0
  | d :: r => uptoBulk d + uptoBulkAll r
def uptoBulkEntries {H : Type} : List (Lit × DataW H) → Nat
  | [] => 0
  | x :: r => uptoBulkEntry x + uptoBulkEntries r
def uptoBulkEntry {H : Type} : Lit × DataW H → Nat
  | (.string bytes, d) => bytes.length + uptoBulk d + 1
  | (_, d) => uptoBulk d + 1
 end
def uptoSmall : (H : Type) → List (DataW H) → Bool := fun _ ds => decide (uptoBulkAll ds ≤ 1048576)
def OpenSpec.upto (s : _root_.Go.ChangeSpec) : _root_.Go.OpenSpec := { _root_.Go.OpenSpec.ofChange s with cond := some uptoSmall }

/-- 'hibernaclelaw02.CrcBursts', WHERE WHAT IT READS IS OF BULK AT MOST 1048576: true; the input reads as it did. -/
def crcBurstsUptoRow : OpenClaim := { program := "ytnkbkhlbogcfaaa", sum := "593d93698f2bca41c45734e240846a8e2035a0cc23d09b20d8a1fdfc2fefcc61", func := "hibernacle/hibernaclelaw02.CrcBursts", spec := "crcBursts", unfollowed := true, recurses := true, apart := false, narrowed := true }
def CrcBurstsUptoSaid : Prop := crcBurstsUptoRow.holds Try.pinned (OpenSpec.upto crcBurstsSpec)

/-- 'hibernaclelaw02.CrcEven', WHERE WHAT IT READS IS OF BULK AT MOST 1048576: true; the input reads as it did. -/
def crcEvenUptoRow : OpenClaim := { program := "ytnkbkhlbogcfaaa", sum := "593d93698f2bca41c45734e240846a8e2035a0cc23d09b20d8a1fdfc2fefcc61", func := "hibernacle/hibernaclelaw02.CrcEven", spec := "crcEven", unfollowed := true, recurses := true, apart := false, narrowed := true }
def CrcEvenUptoSaid : Prop := crcEvenUptoRow.holds Try.pinned (OpenSpec.upto crcEvenSpec)

/-- 'hibernaclelaw02.CrcSums', WHERE WHAT IT READS IS OF BULK AT MOST 1048576: true; the input reads as it did. -/
def crcSumsUptoRow : OpenClaim := { program := "ytnkbkhlbogcfaaa", sum := "593d93698f2bca41c45734e240846a8e2035a0cc23d09b20d8a1fdfc2fefcc61", func := "hibernacle/hibernaclelaw02.CrcSums", spec := "crcSums", unfollowed := true, recurses := true, apart := false, narrowed := true }
def CrcSumsUptoSaid : Prop := crcSumsUptoRow.holds Try.pinned (OpenSpec.upto crcSumsSpec)

/-- 'hibernaclelaw01.WireSizes', WHERE WHAT IT READS IS OF BULK AT MOST 1048576: true; the input reads as it did. -/
def wireSizesUptoRow : OpenClaim := { program := "ytnkbkhlbogcfaaa", sum := "593d93698f2bca41c45734e240846a8e2035a0cc23d09b20d8a1fdfc2fefcc61", func := "hibernacle/hibernaclelaw01.WireSizes", spec := "wireSizes", apart := false, narrowed := true }
def WireSizesUptoSaid : Prop := wireSizesUptoRow.holds Try.pinned (OpenSpec.upto wireSizesSpec)

/-- 'hibernaclelaw01.WireWrites', WHERE WHAT IT READS IS OF BULK AT MOST 1048576: true; the input reads as it did. -/
def wireWritesUptoRow : OpenClaim := { program := "ytnkbkhlbogcfaaa", sum := "593d93698f2bca41c45734e240846a8e2035a0cc23d09b20d8a1fdfc2fefcc61", func := "hibernacle/hibernaclelaw01.WireWrites", spec := "wireWrites", apart := false, narrowed := true }
def WireWritesUptoSaid : Prop := wireWritesUptoRow.holds Try.pinned (OpenSpec.upto wireWritesSpec)

/-- 'hibernaclelaw01.WireClones', WHERE WHAT IT READS IS OF BULK AT MOST 1048576: true; the input reads as it did. -/
def wireClonesUptoRow : OpenClaim := { program := "ytnkbkhlbogcfaaa", sum := "593d93698f2bca41c45734e240846a8e2035a0cc23d09b20d8a1fdfc2fefcc61", func := "hibernacle/hibernaclelaw01.WireClones", spec := "wireClones", unfollowed := true, recurses := true, apart := false, narrowed := true }
def WireClonesUptoSaid : Prop := wireClonesUptoRow.holds Try.pinned (OpenSpec.upto wireClonesSpec)

/-- 'hibernaclelaw02.CrcSeals', WHERE WHAT IT READS IS OF BULK AT MOST 1048576: true; the input reads as it did. -/
def crcSealsUptoRow : OpenClaim := { program := "ytnkbkhlbogcfaaa", sum := "593d93698f2bca41c45734e240846a8e2035a0cc23d09b20d8a1fdfc2fefcc61", func := "hibernacle/hibernaclelaw02.CrcSeals", spec := "crcSeals", unfollowed := true, recurses := true, apart := false, narrowed := true }
def CrcSealsUptoSaid : Prop := crcSealsUptoRow.holds Try.pinned (OpenSpec.upto crcSealsSpec)

/-- 'hibernaclelaw02.CrcTurns', WHERE WHAT IT READS IS OF BULK AT MOST 1048576: true; the input reads as it did. -/
def crcTurnsUptoRow : OpenClaim := { program := "ytnkbkhlbogcfaaa", sum := "593d93698f2bca41c45734e240846a8e2035a0cc23d09b20d8a1fdfc2fefcc61", func := "hibernacle/hibernaclelaw02.CrcTurns", spec := "crcTurns", unfollowed := true, recurses := true, apart := false, narrowed := true }
def CrcTurnsUptoSaid : Prop := crcTurnsUptoRow.holds Try.pinned (OpenSpec.upto crcTurnsSpec)

/-- 'hibernaclelaw02.CrcLonger', WHERE WHAT IT READS IS OF BULK AT MOST 1048576: true; the input reads as it did. -/
def crcLongerUptoRow : OpenClaim := { program := "ytnkbkhlbogcfaaa", sum := "593d93698f2bca41c45734e240846a8e2035a0cc23d09b20d8a1fdfc2fefcc61", func := "hibernacle/hibernaclelaw02.CrcLonger", spec := "crcLonger", unfollowed := true, recurses := true, apart := false, narrowed := true }
def CrcLongerUptoSaid : Prop := crcLongerUptoRow.holds Try.pinned (OpenSpec.upto crcLongerSpec)

/-- 'hibernaclelaw01.WireOne', WHERE WHAT IT READS IS OF BULK AT MOST 1048576: true; the input reads as it did. -/
def wireOneUptoRow : OpenClaim := { program := "ytnkbkhlbogcfaaa", sum := "593d93698f2bca41c45734e240846a8e2035a0cc23d09b20d8a1fdfc2fefcc61", func := "hibernacle/hibernaclelaw01.WireOne", spec := "wireOne", unfollowed := true, recurses := true, apart := false, narrowed := true }
def WireOneUptoSaid : Prop := wireOneUptoRow.holds Try.pinned (OpenSpec.upto wireOneSpec)

/-- 'hibernaclelaw16.SectionSizes', WHERE WHAT IT READS IS OF BULK AT MOST 1048576: true; the input reads as it did. -/
def sectionSizesUptoRow : OpenClaim := { program := "ytnkbkhlbogcfaaa", sum := "593d93698f2bca41c45734e240846a8e2035a0cc23d09b20d8a1fdfc2fefcc61", func := "hibernacle/hibernaclelaw16.SectionSizes", spec := "sectionSizes", unfollowed := true, recurses := true, apart := false, narrowed := true }
def SectionSizesUptoSaid : Prop := sectionSizesUptoRow.holds Try.pinned (OpenSpec.upto sectionSizesSpec)

/-- 'hibernaclelaw01.WireRound', WHERE WHAT IT READS IS OF BULK AT MOST 1048576: true; the input reads as it did. -/
def wireRoundUptoRow : OpenClaim := { program := "ytnkbkhlbogcfaaa", sum := "593d93698f2bca41c45734e240846a8e2035a0cc23d09b20d8a1fdfc2fefcc61", func := "hibernacle/hibernaclelaw01.WireRound", spec := "wireRound", unfollowed := true, recurses := true, apart := false, narrowed := true }
def WireRoundUptoSaid : Prop := wireRoundUptoRow.holds Try.pinned (OpenSpec.upto wireRoundSpec)

/-- 'hibernaclelaw16.SectionFinds', WHERE WHAT IT READS IS OF BULK AT MOST 1048576: true; the input reads as it did. -/
def sectionFindsUptoRow : OpenClaim := { program := "ytnkbkhlbogcfaaa", sum := "593d93698f2bca41c45734e240846a8e2035a0cc23d09b20d8a1fdfc2fefcc61", func := "hibernacle/hibernaclelaw16.SectionFinds", spec := "sectionFinds", unfollowed := true, recurses := true, apart := false, narrowed := true }
def SectionFindsUptoSaid : Prop := sectionFindsUptoRow.holds Try.pinned (OpenSpec.upto sectionFindsSpec)

/-- 'hibernaclelaw01.WireReads', WHERE WHAT IT READS IS OF BULK AT MOST 1048576: true; the input reads as it did. -/
def wireReadsUptoRow : OpenClaim := { program := "ytnkbkhlbogcfaaa", sum := "593d93698f2bca41c45734e240846a8e2035a0cc23d09b20d8a1fdfc2fefcc61", func := "hibernacle/hibernaclelaw01.WireReads", spec := "wireReads", unfollowed := true, recurses := true, apart := false, narrowed := true }
def WireReadsUptoSaid : Prop := wireReadsUptoRow.holds Try.pinned (OpenSpec.upto wireReadsSpec)

/-- 'hibernaclelaw01.WireStops', WHERE WHAT IT READS IS OF BULK AT MOST 1048576: true; the input reads as it did. -/
def wireStopsUptoRow : OpenClaim := { program := "ytnkbkhlbogcfaaa", sum := "593d93698f2bca41c45734e240846a8e2035a0cc23d09b20d8a1fdfc2fefcc61", func := "hibernacle/hibernaclelaw01.WireStops", spec := "wireStops", unfollowed := true, recurses := true, apart := false, narrowed := true }
def WireStopsUptoSaid : Prop := wireStopsUptoRow.holds Try.pinned (OpenSpec.upto wireStopsSpec)

/-- 'hibernaclelaw16.SectionTurns', WHERE WHAT IT READS IS OF BULK AT MOST 1048576: true; the input reads as it did. -/
def sectionTurnsUptoRow : OpenClaim := { program := "ytnkbkhlbogcfaaa", sum := "593d93698f2bca41c45734e240846a8e2035a0cc23d09b20d8a1fdfc2fefcc61", func := "hibernacle/hibernaclelaw16.SectionTurns", spec := "sectionTurns", unfollowed := true, recurses := true, apart := false, narrowed := true }
def SectionTurnsUptoSaid : Prop := sectionTurnsUptoRow.holds Try.pinned (OpenSpec.upto sectionTurnsSpec)

/-- 'hibernaclelaw16.SectionBodies', WHERE WHAT IT READS IS OF BULK AT MOST 1048576: true; the input reads as it did. -/
def sectionBodiesUptoRow : OpenClaim := { program := "ytnkbkhlbogcfaaa", sum := "593d93698f2bca41c45734e240846a8e2035a0cc23d09b20d8a1fdfc2fefcc61", func := "hibernacle/hibernaclelaw16.SectionBodies", spec := "sectionBodies", unfollowed := true, recurses := true, apart := false, narrowed := true }
def SectionBodiesUptoSaid : Prop := sectionBodiesUptoRow.holds Try.pinned (OpenSpec.upto sectionBodiesSpec)

/-- 'hibernaclelaw16.SectionReads', WHERE WHAT IT READS IS OF BULK AT MOST 1048576: true; the input reads as it did. -/
def sectionReadsUptoRow : OpenClaim := { program := "ytnkbkhlbogcfaaa", sum := "593d93698f2bca41c45734e240846a8e2035a0cc23d09b20d8a1fdfc2fefcc61", func := "hibernacle/hibernaclelaw16.SectionReads", spec := "sectionReads", unfollowed := true, recurses := true, apart := false, narrowed := true }
def SectionReadsUptoSaid : Prop := sectionReadsUptoRow.holds Try.pinned (OpenSpec.upto sectionReadsSpec)

/-- 'hibernaclelaw16.SectionWrites', WHERE WHAT IT READS IS OF BULK AT MOST 1048576: true; the input reads as it did. -/
def sectionWritesUptoRow : OpenClaim := { program := "ytnkbkhlbogcfaaa", sum := "593d93698f2bca41c45734e240846a8e2035a0cc23d09b20d8a1fdfc2fefcc61", func := "hibernacle/hibernaclelaw16.SectionWrites", spec := "sectionWrites", unfollowed := true, recurses := true, apart := false, narrowed := true }
def SectionWritesUptoSaid : Prop := sectionWritesUptoRow.holds Try.pinned (OpenSpec.upto sectionWritesSpec)

end Rows
end Go.Proofs.Ytnkbkhlbogcfaaa
