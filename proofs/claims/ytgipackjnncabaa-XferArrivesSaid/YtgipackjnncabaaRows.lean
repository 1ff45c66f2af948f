/-
  No cell of these rows narrows 'for every input' (looked for: loops, veiled, ifaces, maps, wideKeys, modest, calm, conditions, laid).
  DERIVED. THE GIVEN ROWS OF THIS SEAT. 37 by the template 'for every input the law returns true; each argument reads behind the call as it read before'; 0 by the template 'total and deterministic' (their statements: YtgipackjnncabaaTotals.lean).
  GIVEN WITH THE SEED: the statements are not yours to turn. If you find one false, say at which input.
  Laid BY PROGRAM, IN A SANDBOX (cutbox-rows.mjs): the forced cells as the released guide's own fill.sh prints them over the translation 374a7f0ecb8339c7… (all of the seat's roots in one cut). By AI agents, Wed Nov 11 2026. No macro, syntax, notation, axiom, sorry.
-/
import Derived.Test.YtgipackjnncabaaChecked
import GoSem.Claim
import GoSem.ClaimJoined
import GoSem.ClaimMapViews
import Derived.JoinedTies
import Derived.KernelRfl
namespace Go.Proofs.Ytgipackjnncabaa
/- THE CELL 'sum', in the pinned program and in every row, IS THE sha256 OF THE DUMP (.gsa) THAT YtgipackjnncabaaProg.lean LOADS. Nothing in Lean hashes anything: it is a label: what it is worth is what the hold of that sum in a sandbox is worth. -/
noncomputable def Try.pinned : Pinned := { name := "ytgipackjnncabaa", sum := "374a7f0ecb8339c7e9d6405ca39f66a490b9dc5fb827029c13a399b675ccb4c4", checked := Try.checked }
namespace Rows
def none {H : Type} : Left H := { results := [], args := [] }

/-- 'midstreamlaw02.OctetPuts': WHATEVER THE INPUT: true; the input reads as it did. -/
def octetPutsSpec : ChangeSpec := { name := "octetPuts", fn := fun _ => fun
  | [d1, d2, d3] => { results := [.lit (.bool true)], args := [d1, d2, d3] }
  | _ => none }
def octetPutsRow : OpenClaim := { program := "ytgipackjnncabaa", sum := "374a7f0ecb8339c7e9d6405ca39f66a490b9dc5fb827029c13a399b675ccb4c4", func := "midstream/midstreamlaw02.OctetPuts", spec := "octetPuts", apart := false }
def OctetPutsSaid : Prop := octetPutsRow.holds Try.pinned (OpenSpec.ofChange octetPutsSpec)

/-- ITS FALSE NEIGHBOUR: 'it returns false'. Refute it at one input. -/
def octetPutsWrong : ChangeSpec := { name := "octetPuts", fn := fun _ => fun
  | [d1, d2, d3] => { results := [.lit (.bool false)], args := [d1, d2, d3] }
  | _ => none }
def OctetPutsWrongFalsely : Prop := octetPutsRow.holds Try.pinned (OpenSpec.ofChange octetPutsWrong)

/-- 'midstreamlaw02.OctetGets': WHATEVER THE INPUT: true; the input reads as it did. -/
def octetGetsSpec : ChangeSpec := { name := "octetGets", fn := fun _ => fun
  | [d1, d2, d3] => { results := [.lit (.bool true)], args := [d1, d2, d3] }
  | _ => none }
def octetGetsRow : OpenClaim := { program := "ytgipackjnncabaa", sum := "374a7f0ecb8339c7e9d6405ca39f66a490b9dc5fb827029c13a399b675ccb4c4", func := "midstream/midstreamlaw02.OctetGets", spec := "octetGets", apart := false }
def OctetGetsSaid : Prop := octetGetsRow.holds Try.pinned (OpenSpec.ofChange octetGetsSpec)

/-- ITS FALSE NEIGHBOUR: 'it returns false'. Refute it at one input. -/
def octetGetsWrong : ChangeSpec := { name := "octetGets", fn := fun _ => fun
  | [d1, d2, d3] => { results := [.lit (.bool false)], args := [d1, d2, d3] }
  | _ => none }
def OctetGetsWrongFalsely : Prop := octetGetsRow.holds Try.pinned (OpenSpec.ofChange octetGetsWrong)

/-- 'midstreamlaw02.OctetBack': WHATEVER THE INPUT: true; the input reads as it did. -/
def octetBackSpec : ChangeSpec := { name := "octetBack", fn := fun _ => fun
  | [d1, d2, d3] => { results := [.lit (.bool true)], args := [d1, d2, d3] }
  | _ => none }
def octetBackRow : OpenClaim := { program := "ytgipackjnncabaa", sum := "374a7f0ecb8339c7e9d6405ca39f66a490b9dc5fb827029c13a399b675ccb4c4", func := "midstream/midstreamlaw02.OctetBack", spec := "octetBack", apart := false }
def OctetBackSaid : Prop := octetBackRow.holds Try.pinned (OpenSpec.ofChange octetBackSpec)

/-- ITS FALSE NEIGHBOUR: 'it returns false'. Refute it at one input. -/
def octetBackWrong : ChangeSpec := { name := "octetBack", fn := fun _ => fun
  | [d1, d2, d3] => { results := [.lit (.bool false)], args := [d1, d2, d3] }
  | _ => none }
def OctetBackWrongFalsely : Prop := octetBackRow.holds Try.pinned (OpenSpec.ofChange octetBackWrong)

/-- 'midstreamlaw02.OctetWhole': WHATEVER THE INPUT: true; the input reads as it did. -/
def octetWholeSpec : ChangeSpec := { name := "octetWhole", fn := fun _ => fun
  | [d1, d2] => { results := [.lit (.bool true)], args := [d1, d2] }
  | _ => none }
def octetWholeRow : OpenClaim := { program := "ytgipackjnncabaa", sum := "374a7f0ecb8339c7e9d6405ca39f66a490b9dc5fb827029c13a399b675ccb4c4", func := "midstream/midstreamlaw02.OctetWhole", spec := "octetWhole", apart := false }
def OctetWholeSaid : Prop := octetWholeRow.holds Try.pinned (OpenSpec.ofChange octetWholeSpec)

/-- ITS FALSE NEIGHBOUR: 'it returns false'. Refute it at one input. -/
def octetWholeWrong : ChangeSpec := { name := "octetWhole", fn := fun _ => fun
  | [d1, d2] => { results := [.lit (.bool false)], args := [d1, d2] }
  | _ => none }
def OctetWholeWrongFalsely : Prop := octetWholeRow.holds Try.pinned (OpenSpec.ofChange octetWholeWrong)

/-- 'midstreamlaw02.OctetWords': WHATEVER THE INPUT: true; the input reads as it did. -/
def octetWordsSpec : ChangeSpec := { name := "octetWords", fn := fun _ => fun
  | [d1, d2, d3] => { results := [.lit (.bool true)], args := [d1, d2, d3] }
  | _ => none }
def octetWordsRow : OpenClaim := { program := "ytgipackjnncabaa", sum := "374a7f0ecb8339c7e9d6405ca39f66a490b9dc5fb827029c13a399b675ccb4c4", func := "midstream/midstreamlaw02.OctetWords", spec := "octetWords", apart := false }
def OctetWordsSaid : Prop := octetWordsRow.holds Try.pinned (OpenSpec.ofChange octetWordsSpec)

/-- ITS FALSE NEIGHBOUR: 'it returns false'. Refute it at one input. -/
def octetWordsWrong : ChangeSpec := { name := "octetWords", fn := fun _ => fun
  | [d1, d2, d3] => { results := [.lit (.bool false)], args := [d1, d2, d3] }
  | _ => none }
def OctetWordsWrongFalsely : Prop := octetWordsRow.holds Try.pinned (OpenSpec.ofChange octetWordsWrong)

/-- 'midstreamlaw02.OctetRuns': WHATEVER THE INPUT: true; the input reads as it did. -/
def octetRunsSpec : ChangeSpec := { name := "octetRuns", fn := fun _ => fun
  | [d1, d2, d3] => { results := [.lit (.bool true)], args := [d1, d2, d3] }
  | _ => none }
def octetRunsRow : OpenClaim := { program := "ytgipackjnncabaa", sum := "374a7f0ecb8339c7e9d6405ca39f66a490b9dc5fb827029c13a399b675ccb4c4", func := "midstream/midstreamlaw02.OctetRuns", spec := "octetRuns", apart := false }
def OctetRunsSaid : Prop := octetRunsRow.holds Try.pinned (OpenSpec.ofChange octetRunsSpec)

/-- ITS FALSE NEIGHBOUR: 'it returns false'. Refute it at one input. -/
def octetRunsWrong : ChangeSpec := { name := "octetRuns", fn := fun _ => fun
  | [d1, d2, d3] => { results := [.lit (.bool false)], args := [d1, d2, d3] }
  | _ => none }
def OctetRunsWrongFalsely : Prop := octetRunsRow.holds Try.pinned (OpenSpec.ofChange octetRunsWrong)

/-- 'midstreamlaw02.OctetRow': WHATEVER THE INPUT: true; the input reads as it did. -/
def octetRowSpec : ChangeSpec := { name := "octetRow", fn := fun _ => fun
  | [d] => { results := [.lit (.bool true)], args := [d] }
  | _ => none }
def octetRowRow : OpenClaim := { program := "ytgipackjnncabaa", sum := "374a7f0ecb8339c7e9d6405ca39f66a490b9dc5fb827029c13a399b675ccb4c4", func := "midstream/midstreamlaw02.OctetRow", spec := "octetRow", apart := false }
def OctetRowSaid : Prop := octetRowRow.holds Try.pinned (OpenSpec.ofChange octetRowSpec)

/-- ITS FALSE NEIGHBOUR: 'it returns false'. Refute it at one input. -/
def octetRowWrong : ChangeSpec := { name := "octetRow", fn := fun _ => fun
  | [d] => { results := [.lit (.bool false)], args := [d] }
  | _ => none }
def OctetRowWrongFalsely : Prop := octetRowRow.holds Try.pinned (OpenSpec.ofChange octetRowWrong)

/-- 'midstreamlaw03.CrcSums': WHATEVER THE INPUT: true; the input reads as it did. -/
def crcSumsSpec : ChangeSpec := { name := "crcSums", fn := fun _ => fun
  | [d1, d2] => { results := [.lit (.bool true)], args := [d1, d2] }
  | _ => none }
def crcSumsRow : OpenClaim := { program := "ytgipackjnncabaa", sum := "374a7f0ecb8339c7e9d6405ca39f66a490b9dc5fb827029c13a399b675ccb4c4", func := "midstream/midstreamlaw03.CrcSums", spec := "crcSums", unfollowed := true, recurses := true, apart := false }
def CrcSumsSaid : Prop := crcSumsRow.holds Try.pinned (OpenSpec.ofChange crcSumsSpec)

/-- ITS FALSE NEIGHBOUR: 'it returns false'. Refute it at one input. -/
def crcSumsWrong : ChangeSpec := { name := "crcSums", fn := fun _ => fun
  | [d1, d2] => { results := [.lit (.bool false)], args := [d1, d2] }
  | _ => none }
def CrcSumsWrongFalsely : Prop := crcSumsRow.holds Try.pinned (OpenSpec.ofChange crcSumsWrong)

/-- 'midstreamlaw03.CrcSeals': WHATEVER THE INPUT: true; the input reads as it did. -/
def crcSealsSpec : ChangeSpec := { name := "crcSeals", fn := fun _ => fun
  | [d] => { results := [.lit (.bool true)], args := [d] }
  | _ => none }
def crcSealsRow : OpenClaim := { program := "ytgipackjnncabaa", sum := "374a7f0ecb8339c7e9d6405ca39f66a490b9dc5fb827029c13a399b675ccb4c4", func := "midstream/midstreamlaw03.CrcSeals", spec := "crcSeals", unfollowed := true, recurses := true, apart := false }
def CrcSealsSaid : Prop := crcSealsRow.holds Try.pinned (OpenSpec.ofChange crcSealsSpec)

/-- ITS FALSE NEIGHBOUR: 'it returns false'. Refute it at one input. -/
def crcSealsWrong : ChangeSpec := { name := "crcSeals", fn := fun _ => fun
  | [d] => { results := [.lit (.bool false)], args := [d] }
  | _ => none }
def CrcSealsWrongFalsely : Prop := crcSealsRow.holds Try.pinned (OpenSpec.ofChange crcSealsWrong)

/-- 'midstreamlaw23.XferReceives': WHATEVER THE INPUT: true; the input reads as it did. -/
def xferReceivesSpec : ChangeSpec := { name := "xferReceives", fn := fun _ => fun
  | [d] => { results := [.lit (.bool true)], args := [d] }
  | _ => none }
def xferReceivesRow : OpenClaim := { program := "ytgipackjnncabaa", sum := "374a7f0ecb8339c7e9d6405ca39f66a490b9dc5fb827029c13a399b675ccb4c4", func := "midstream/midstreamlaw23.XferReceives", spec := "xferReceives", unfollowed := true, recurses := true, apart := false }
def XferReceivesSaid : Prop := xferReceivesRow.holds Try.pinned (OpenSpec.ofChange xferReceivesSpec)

/-- ITS FALSE NEIGHBOUR: 'it returns false'. Refute it at one input. -/
def xferReceivesWrong : ChangeSpec := { name := "xferReceives", fn := fun _ => fun
  | [d] => { results := [.lit (.bool false)], args := [d] }
  | _ => none }
def XferReceivesWrongFalsely : Prop := xferReceivesRow.holds Try.pinned (OpenSpec.ofChange xferReceivesWrong)

/-- 'midstreamlaw03.CrcBack': WHATEVER THE INPUT: true; the input reads as it did. -/
def crcBackSpec : ChangeSpec := { name := "crcBack", fn := fun _ => fun
  | [d1, d2, d3] => { results := [.lit (.bool true)], args := [d1, d2, d3] }
  | _ => none }
def crcBackRow : OpenClaim := { program := "ytgipackjnncabaa", sum := "374a7f0ecb8339c7e9d6405ca39f66a490b9dc5fb827029c13a399b675ccb4c4", func := "midstream/midstreamlaw03.CrcBack", spec := "crcBack", unfollowed := true, recurses := true, apart := false }
def CrcBackSaid : Prop := crcBackRow.holds Try.pinned (OpenSpec.ofChange crcBackSpec)

/-- ITS FALSE NEIGHBOUR: 'it returns false'. Refute it at one input. -/
def crcBackWrong : ChangeSpec := { name := "crcBack", fn := fun _ => fun
  | [d1, d2, d3] => { results := [.lit (.bool false)], args := [d1, d2, d3] }
  | _ => none }
def CrcBackWrongFalsely : Prop := crcBackRow.holds Try.pinned (OpenSpec.ofChange crcBackWrong)

/-- 'midstreamlaw03.CrcTurned': WHATEVER THE INPUT: true; the input reads as it did. -/
def crcTurnedSpec : ChangeSpec := { name := "crcTurned", fn := fun _ => fun
  | [d1, d2, d3] => { results := [.lit (.bool true)], args := [d1, d2, d3] }
  | _ => none }
def crcTurnedRow : OpenClaim := { program := "ytgipackjnncabaa", sum := "374a7f0ecb8339c7e9d6405ca39f66a490b9dc5fb827029c13a399b675ccb4c4", func := "midstream/midstreamlaw03.CrcTurned", spec := "crcTurned", unfollowed := true, recurses := true, apart := false }
def CrcTurnedSaid : Prop := crcTurnedRow.holds Try.pinned (OpenSpec.ofChange crcTurnedSpec)

/-- ITS FALSE NEIGHBOUR: 'it returns false'. Refute it at one input. -/
def crcTurnedWrong : ChangeSpec := { name := "crcTurned", fn := fun _ => fun
  | [d1, d2, d3] => { results := [.lit (.bool false)], args := [d1, d2, d3] }
  | _ => none }
def CrcTurnedWrongFalsely : Prop := crcTurnedRow.holds Try.pinned (OpenSpec.ofChange crcTurnedWrong)

/-- 'midstreamlaw03.CrcLinear': WHATEVER THE INPUT: true; the input reads as it did. -/
def crcLinearSpec : ChangeSpec := { name := "crcLinear", fn := fun _ => fun
  | [d1, d2, d3] => { results := [.lit (.bool true)], args := [d1, d2, d3] }
  | _ => none }
def crcLinearRow : OpenClaim := { program := "ytgipackjnncabaa", sum := "374a7f0ecb8339c7e9d6405ca39f66a490b9dc5fb827029c13a399b675ccb4c4", func := "midstream/midstreamlaw03.CrcLinear", spec := "crcLinear", unfollowed := true, recurses := true, apart := false }
def CrcLinearSaid : Prop := crcLinearRow.holds Try.pinned (OpenSpec.ofChange crcLinearSpec)

/-- ITS FALSE NEIGHBOUR: 'it returns false'. Refute it at one input. -/
def crcLinearWrong : ChangeSpec := { name := "crcLinear", fn := fun _ => fun
  | [d1, d2, d3] => { results := [.lit (.bool false)], args := [d1, d2, d3] }
  | _ => none }
def CrcLinearWrongFalsely : Prop := crcLinearRow.holds Try.pinned (OpenSpec.ofChange crcLinearWrong)

/-- 'midstreamlaw23.XferArrives': WHATEVER THE INPUT: true; the input reads as it did. -/
def xferArrivesSpec : ChangeSpec := { name := "xferArrives", fn := fun _ => fun
  | [d1, d2, d3] => { results := [.lit (.bool true)], args := [d1, d2, d3] }
  | _ => none }
def xferArrivesRow : OpenClaim := { program := "ytgipackjnncabaa", sum := "374a7f0ecb8339c7e9d6405ca39f66a490b9dc5fb827029c13a399b675ccb4c4", func := "midstream/midstreamlaw23.XferArrives", spec := "xferArrives", unfollowed := true, recurses := true, apart := false }
def XferArrivesSaid : Prop := xferArrivesRow.holds Try.pinned (OpenSpec.ofChange xferArrivesSpec)

/-- ITS FALSE NEIGHBOUR: 'it returns false'. Refute it at one input. -/
def xferArrivesWrong : ChangeSpec := { name := "xferArrives", fn := fun _ => fun
  | [d1, d2, d3] => { results := [.lit (.bool false)], args := [d1, d2, d3] }
  | _ => none }
def XferArrivesWrongFalsely : Prop := xferArrivesRow.holds Try.pinned (OpenSpec.ofChange xferArrivesWrong)

/-- 'midstreamlaw03.CrcStarts': WHATEVER THE INPUT: true; the input reads as it did. -/
def crcStartsSpec : ChangeSpec := { name := "crcStarts", fn := fun _ => fun
  | [d1, d2, d3] => { results := [.lit (.bool true)], args := [d1, d2, d3] }
  | _ => none }
def crcStartsRow : OpenClaim := { program := "ytgipackjnncabaa", sum := "374a7f0ecb8339c7e9d6405ca39f66a490b9dc5fb827029c13a399b675ccb4c4", func := "midstream/midstreamlaw03.CrcStarts", spec := "crcStarts", unfollowed := true, recurses := true, apart := false }
def CrcStartsSaid : Prop := crcStartsRow.holds Try.pinned (OpenSpec.ofChange crcStartsSpec)

/-- ITS FALSE NEIGHBOUR: 'it returns false'. Refute it at one input. -/
def crcStartsWrong : ChangeSpec := { name := "crcStarts", fn := fun _ => fun
  | [d1, d2, d3] => { results := [.lit (.bool false)], args := [d1, d2, d3] }
  | _ => none }
def CrcStartsWrongFalsely : Prop := crcStartsRow.holds Try.pinned (OpenSpec.ofChange crcStartsWrong)

/-- 'midstreamlaw06.FlashOf': WHATEVER THE INPUT: true; the input reads as it did. -/
def flashOfSpec : ChangeSpec := { name := "flashOf", fn := fun _ => fun
  | [d] => { results := [.lit (.bool true)], args := [d] }
  | _ => none }
def flashOfRow : OpenClaim := { program := "ytgipackjnncabaa", sum := "374a7f0ecb8339c7e9d6405ca39f66a490b9dc5fb827029c13a399b675ccb4c4", func := "midstream/midstreamlaw06.FlashOf", spec := "flashOf", unfollowed := true, recurses := true, apart := false }
def FlashOfSaid : Prop := flashOfRow.holds Try.pinned (OpenSpec.ofChange flashOfSpec)

/-- ITS FALSE NEIGHBOUR: 'it returns false'. Refute it at one input. -/
def flashOfWrong : ChangeSpec := { name := "flashOf", fn := fun _ => fun
  | [d] => { results := [.lit (.bool false)], args := [d] }
  | _ => none }
def FlashOfWrongFalsely : Prop := flashOfRow.holds Try.pinned (OpenSpec.ofChange flashOfWrong)

/-- 'midstreamlaw06.FlashClears': WHATEVER THE INPUT: true; the input reads as it did. -/
def flashClearsSpec : ChangeSpec := { name := "flashClears", fn := fun _ => fun
  | [d1, d2, d3] => { results := [.lit (.bool true)], args := [d1, d2, d3] }
  | _ => none }
def flashClearsRow : OpenClaim := { program := "ytgipackjnncabaa", sum := "374a7f0ecb8339c7e9d6405ca39f66a490b9dc5fb827029c13a399b675ccb4c4", func := "midstream/midstreamlaw06.FlashClears", spec := "flashClears", unfollowed := true, recurses := true, apart := false }
def FlashClearsSaid : Prop := flashClearsRow.holds Try.pinned (OpenSpec.ofChange flashClearsSpec)

/-- ITS FALSE NEIGHBOUR: 'it returns false'. Refute it at one input. -/
def flashClearsWrong : ChangeSpec := { name := "flashClears", fn := fun _ => fun
  | [d1, d2, d3] => { results := [.lit (.bool false)], args := [d1, d2, d3] }
  | _ => none }
def FlashClearsWrongFalsely : Prop := flashClearsRow.holds Try.pinned (OpenSpec.ofChange flashClearsWrong)

/-- 'midstreamlaw06.FlashTorn': WHATEVER THE INPUT: true; the input reads as it did. -/
def flashTornSpec : ChangeSpec := { name := "flashTorn", fn := fun _ => fun
  | [d1, d2, d3] => { results := [.lit (.bool true)], args := [d1, d2, d3] }
  | _ => none }
def flashTornRow : OpenClaim := { program := "ytgipackjnncabaa", sum := "374a7f0ecb8339c7e9d6405ca39f66a490b9dc5fb827029c13a399b675ccb4c4", func := "midstream/midstreamlaw06.FlashTorn", spec := "flashTorn", unfollowed := true, recurses := true, apart := false }
def FlashTornSaid : Prop := flashTornRow.holds Try.pinned (OpenSpec.ofChange flashTornSpec)

/-- ITS FALSE NEIGHBOUR: 'it returns false'. Refute it at one input. -/
def flashTornWrong : ChangeSpec := { name := "flashTorn", fn := fun _ => fun
  | [d1, d2, d3] => { results := [.lit (.bool false)], args := [d1, d2, d3] }
  | _ => none }
def FlashTornWrongFalsely : Prop := flashTornRow.holds Try.pinned (OpenSpec.ofChange flashTornWrong)

/-- 'midstreamlaw06.FlashPlays': WHATEVER THE INPUT: true; the input reads as it did. -/
def flashPlaysSpec : ChangeSpec := { name := "flashPlays", fn := fun _ => fun
  | [d1, d2] => { results := [.lit (.bool true)], args := [d1, d2] }
  | _ => none }
def flashPlaysRow : OpenClaim := { program := "ytgipackjnncabaa", sum := "374a7f0ecb8339c7e9d6405ca39f66a490b9dc5fb827029c13a399b675ccb4c4", func := "midstream/midstreamlaw06.FlashPlays", spec := "flashPlays", unfollowed := true, recurses := true, apart := false }
def FlashPlaysSaid : Prop := flashPlaysRow.holds Try.pinned (OpenSpec.ofChange flashPlaysSpec)

/-- ITS FALSE NEIGHBOUR: 'it returns false'. Refute it at one input. -/
def flashPlaysWrong : ChangeSpec := { name := "flashPlays", fn := fun _ => fun
  | [d1, d2] => { results := [.lit (.bool false)], args := [d1, d2] }
  | _ => none }
def FlashPlaysWrongFalsely : Prop := flashPlaysRow.holds Try.pinned (OpenSpec.ofChange flashPlaysWrong)

/-- 'midstreamlaw06.FlashNil': WHATEVER THE INPUT: true; the input reads as it did. -/
def flashNilSpec : ChangeSpec := { name := "flashNil", fn := fun _ => fun
  | [d1, d2] => { results := [.lit (.bool true)], args := [d1, d2] }
  | _ => none }
def flashNilRow : OpenClaim := { program := "ytgipackjnncabaa", sum := "374a7f0ecb8339c7e9d6405ca39f66a490b9dc5fb827029c13a399b675ccb4c4", func := "midstream/midstreamlaw06.FlashNil", spec := "flashNil", unfollowed := true, recurses := true, apart := false }
def FlashNilSaid : Prop := flashNilRow.holds Try.pinned (OpenSpec.ofChange flashNilSpec)

/-- ITS FALSE NEIGHBOUR: 'it returns false'. Refute it at one input. -/
def flashNilWrong : ChangeSpec := { name := "flashNil", fn := fun _ => fun
  | [d1, d2] => { results := [.lit (.bool false)], args := [d1, d2] }
  | _ => none }
def FlashNilWrongFalsely : Prop := flashNilRow.holds Try.pinned (OpenSpec.ofChange flashNilWrong)

/-- 'midstreamlaw06.FlashApart': WHATEVER THE INPUT: true; the input reads as it did. -/
def flashApartSpec : ChangeSpec := { name := "flashApart", fn := fun _ => fun
  | [d1, d2, d3] => { results := [.lit (.bool true)], args := [d1, d2, d3] }
  | _ => none }
def flashApartRow : OpenClaim := { program := "ytgipackjnncabaa", sum := "374a7f0ecb8339c7e9d6405ca39f66a490b9dc5fb827029c13a399b675ccb4c4", func := "midstream/midstreamlaw06.FlashApart", spec := "flashApart", unfollowed := true, recurses := true, apart := false }
def FlashApartSaid : Prop := flashApartRow.holds Try.pinned (OpenSpec.ofChange flashApartSpec)

/-- ITS FALSE NEIGHBOUR: 'it returns false'. Refute it at one input. -/
def flashApartWrong : ChangeSpec := { name := "flashApart", fn := fun _ => fun
  | [d1, d2, d3] => { results := [.lit (.bool false)], args := [d1, d2, d3] }
  | _ => none }
def FlashApartWrongFalsely : Prop := flashApartRow.holds Try.pinned (OpenSpec.ofChange flashApartWrong)

/-- 'midstreamlaw23.XferPacks': WHATEVER THE INPUT: true; the input reads as it did. -/
def xferPacksSpec : ChangeSpec := { name := "xferPacks", fn := fun _ => fun
  | [d1, d2] => { results := [.lit (.bool true)], args := [d1, d2] }
  | _ => none }
def xferPacksRow : OpenClaim := { program := "ytgipackjnncabaa", sum := "374a7f0ecb8339c7e9d6405ca39f66a490b9dc5fb827029c13a399b675ccb4c4", func := "midstream/midstreamlaw23.XferPacks", spec := "xferPacks", unfollowed := true, recurses := true, apart := false }
def XferPacksSaid : Prop := xferPacksRow.holds Try.pinned (OpenSpec.ofChange xferPacksSpec)

/-- ITS FALSE NEIGHBOUR: 'it returns false'. Refute it at one input. -/
def xferPacksWrong : ChangeSpec := { name := "xferPacks", fn := fun _ => fun
  | [d1, d2] => { results := [.lit (.bool false)], args := [d1, d2] }
  | _ => none }
def XferPacksWrongFalsely : Prop := xferPacksRow.holds Try.pinned (OpenSpec.ofChange xferPacksWrong)

/-- 'midstreamlaw23.XferBack': WHATEVER THE INPUT: true; the input reads as it did. -/
def xferBackSpec : ChangeSpec := { name := "xferBack", fn := fun _ => fun
  | [d1, d2] => { results := [.lit (.bool true)], args := [d1, d2] }
  | _ => none }
def xferBackRow : OpenClaim := { program := "ytgipackjnncabaa", sum := "374a7f0ecb8339c7e9d6405ca39f66a490b9dc5fb827029c13a399b675ccb4c4", func := "midstream/midstreamlaw23.XferBack", spec := "xferBack", unfollowed := true, recurses := true, apart := false }
def XferBackSaid : Prop := xferBackRow.holds Try.pinned (OpenSpec.ofChange xferBackSpec)

/-- ITS FALSE NEIGHBOUR: 'it returns false'. Refute it at one input. -/
def xferBackWrong : ChangeSpec := { name := "xferBack", fn := fun _ => fun
  | [d1, d2] => { results := [.lit (.bool false)], args := [d1, d2] }
  | _ => none }
def XferBackWrongFalsely : Prop := xferBackRow.holds Try.pinned (OpenSpec.ofChange xferBackWrong)

/-- 'midstreamlaw07.JournalNil': WHATEVER THE INPUT: true; the input reads as it did. -/
def journalNilSpec : ChangeSpec := { name := "journalNil", fn := fun _ => fun
  | [d1, d2] => { results := [.lit (.bool true)], args := [d1, d2] }
  | _ => none }
def journalNilRow : OpenClaim := { program := "ytgipackjnncabaa", sum := "374a7f0ecb8339c7e9d6405ca39f66a490b9dc5fb827029c13a399b675ccb4c4", func := "midstream/midstreamlaw07.JournalNil", spec := "journalNil", unfollowed := true, recurses := true, apart := false }
def JournalNilSaid : Prop := journalNilRow.holds Try.pinned (OpenSpec.ofChange journalNilSpec)

/-- ITS FALSE NEIGHBOUR: 'it returns false'. Refute it at one input. -/
def journalNilWrong : ChangeSpec := { name := "journalNil", fn := fun _ => fun
  | [d1, d2] => { results := [.lit (.bool false)], args := [d1, d2] }
  | _ => none }
def JournalNilWrongFalsely : Prop := journalNilRow.holds Try.pinned (OpenSpec.ofChange journalNilWrong)

/-- 'midstreamlaw23.XferSenders': WHATEVER THE INPUT: true; the input reads as it did. -/
def xferSendersSpec : ChangeSpec := { name := "xferSenders", fn := fun _ => fun
  | [d1, d2, d3] => { results := [.lit (.bool true)], args := [d1, d2, d3] }
  | _ => none }
def xferSendersRow : OpenClaim := { program := "ytgipackjnncabaa", sum := "374a7f0ecb8339c7e9d6405ca39f66a490b9dc5fb827029c13a399b675ccb4c4", func := "midstream/midstreamlaw23.XferSenders", spec := "xferSenders", unfollowed := true, recurses := true, apart := false }
def XferSendersSaid : Prop := xferSendersRow.holds Try.pinned (OpenSpec.ofChange xferSendersSpec)

/-- ITS FALSE NEIGHBOUR: 'it returns false'. Refute it at one input. -/
def xferSendersWrong : ChangeSpec := { name := "xferSenders", fn := fun _ => fun
  | [d1, d2, d3] => { results := [.lit (.bool false)], args := [d1, d2, d3] }
  | _ => none }
def XferSendersWrongFalsely : Prop := xferSendersRow.holds Try.pinned (OpenSpec.ofChange xferSendersWrong)

/-- 'midstreamlaw07.JournalRoom': WHATEVER THE INPUT: true; the input reads as it did. -/
def journalRoomSpec : ChangeSpec := { name := "journalRoom", fn := fun _ => fun
  | [d1, d2] => { results := [.lit (.bool true)], args := [d1, d2] }
  | _ => none }
def journalRoomRow : OpenClaim := { program := "ytgipackjnncabaa", sum := "374a7f0ecb8339c7e9d6405ca39f66a490b9dc5fb827029c13a399b675ccb4c4", func := "midstream/midstreamlaw07.JournalRoom", spec := "journalRoom", unfollowed := true, recurses := true, apart := false }
def JournalRoomSaid : Prop := journalRoomRow.holds Try.pinned (OpenSpec.ofChange journalRoomSpec)

/-- ITS FALSE NEIGHBOUR: 'it returns false'. Refute it at one input. -/
def journalRoomWrong : ChangeSpec := { name := "journalRoom", fn := fun _ => fun
  | [d1, d2] => { results := [.lit (.bool false)], args := [d1, d2] }
  | _ => none }
def JournalRoomWrongFalsely : Prop := journalRoomRow.holds Try.pinned (OpenSpec.ofChange journalRoomWrong)

/-- 'midstreamlaw07.JournalAny': WHATEVER THE INPUT: true; the input reads as it did. -/
def journalAnySpec : ChangeSpec := { name := "journalAny", fn := fun _ => fun
  | [d1, d2] => { results := [.lit (.bool true)], args := [d1, d2] }
  | _ => none }
def journalAnyRow : OpenClaim := { program := "ytgipackjnncabaa", sum := "374a7f0ecb8339c7e9d6405ca39f66a490b9dc5fb827029c13a399b675ccb4c4", func := "midstream/midstreamlaw07.JournalAny", spec := "journalAny", unfollowed := true, recurses := true, apart := false }
def JournalAnySaid : Prop := journalAnyRow.holds Try.pinned (OpenSpec.ofChange journalAnySpec)

/-- ITS FALSE NEIGHBOUR: 'it returns false'. Refute it at one input. -/
def journalAnyWrong : ChangeSpec := { name := "journalAny", fn := fun _ => fun
  | [d1, d2] => { results := [.lit (.bool false)], args := [d1, d2] }
  | _ => none }
def JournalAnyWrongFalsely : Prop := journalAnyRow.holds Try.pinned (OpenSpec.ofChange journalAnyWrong)

/-- 'midstreamlaw07.JournalPlays': WHATEVER THE INPUT: true; the input reads as it did. -/
def journalPlaysSpec : ChangeSpec := { name := "journalPlays", fn := fun _ => fun
  | [d1, d2] => { results := [.lit (.bool true)], args := [d1, d2] }
  | _ => none }
def journalPlaysRow : OpenClaim := { program := "ytgipackjnncabaa", sum := "374a7f0ecb8339c7e9d6405ca39f66a490b9dc5fb827029c13a399b675ccb4c4", func := "midstream/midstreamlaw07.JournalPlays", spec := "journalPlays", unfollowed := true, recurses := true, apart := false }
def JournalPlaysSaid : Prop := journalPlaysRow.holds Try.pinned (OpenSpec.ofChange journalPlaysSpec)

/-- ITS FALSE NEIGHBOUR: 'it returns false'. Refute it at one input. -/
def journalPlaysWrong : ChangeSpec := { name := "journalPlays", fn := fun _ => fun
  | [d1, d2] => { results := [.lit (.bool false)], args := [d1, d2] }
  | _ => none }
def JournalPlaysWrongFalsely : Prop := journalPlaysRow.holds Try.pinned (OpenSpec.ofChange journalPlaysWrong)

/-- 'midstreamlaw07.JournalCrashes': WHATEVER THE INPUT: true; the input reads as it did. -/
def journalCrashesSpec : ChangeSpec := { name := "journalCrashes", fn := fun _ => fun
  | [d] => { results := [.lit (.bool true)], args := [d] }
  | _ => none }
def journalCrashesRow : OpenClaim := { program := "ytgipackjnncabaa", sum := "374a7f0ecb8339c7e9d6405ca39f66a490b9dc5fb827029c13a399b675ccb4c4", func := "midstream/midstreamlaw07.JournalCrashes", spec := "journalCrashes", unfollowed := true, recurses := true, apart := false }
def JournalCrashesSaid : Prop := journalCrashesRow.holds Try.pinned (OpenSpec.ofChange journalCrashesSpec)

/-- ITS FALSE NEIGHBOUR: 'it returns false'. Refute it at one input. -/
def journalCrashesWrong : ChangeSpec := { name := "journalCrashes", fn := fun _ => fun
  | [d] => { results := [.lit (.bool false)], args := [d] }
  | _ => none }
def JournalCrashesWrongFalsely : Prop := journalCrashesRow.holds Try.pinned (OpenSpec.ofChange journalCrashesWrong)

/-- 'midstreamlaw07.JournalApart': WHATEVER THE INPUT: true; the input reads as it did. -/
def journalApartSpec : ChangeSpec := { name := "journalApart", fn := fun _ => fun
  | [d1, d2] => { results := [.lit (.bool true)], args := [d1, d2] }
  | _ => none }
def journalApartRow : OpenClaim := { program := "ytgipackjnncabaa", sum := "374a7f0ecb8339c7e9d6405ca39f66a490b9dc5fb827029c13a399b675ccb4c4", func := "midstream/midstreamlaw07.JournalApart", spec := "journalApart", unfollowed := true, recurses := true, apart := false }
def JournalApartSaid : Prop := journalApartRow.holds Try.pinned (OpenSpec.ofChange journalApartSpec)

/-- ITS FALSE NEIGHBOUR: 'it returns false'. Refute it at one input. -/
def journalApartWrong : ChangeSpec := { name := "journalApart", fn := fun _ => fun
  | [d1, d2] => { results := [.lit (.bool false)], args := [d1, d2] }
  | _ => none }
def JournalApartWrongFalsely : Prop := journalApartRow.holds Try.pinned (OpenSpec.ofChange journalApartWrong)

/-- 'midstreamlaw22.SlotsBack': WHATEVER THE INPUT: true; the input reads as it did. -/
def slotsBackSpec : ChangeSpec := { name := "slotsBack", fn := fun _ => fun
  | [d1, d2, d3] => { results := [.lit (.bool true)], args := [d1, d2, d3] }
  | _ => none }
def slotsBackRow : OpenClaim := { program := "ytgipackjnncabaa", sum := "374a7f0ecb8339c7e9d6405ca39f66a490b9dc5fb827029c13a399b675ccb4c4", func := "midstream/midstreamlaw22.SlotsBack", spec := "slotsBack", unfollowed := true, recurses := true, apart := false }
def SlotsBackSaid : Prop := slotsBackRow.holds Try.pinned (OpenSpec.ofChange slotsBackSpec)

/-- ITS FALSE NEIGHBOUR: 'it returns false'. Refute it at one input. -/
def slotsBackWrong : ChangeSpec := { name := "slotsBack", fn := fun _ => fun
  | [d1, d2, d3] => { results := [.lit (.bool false)], args := [d1, d2, d3] }
  | _ => none }
def SlotsBackWrongFalsely : Prop := slotsBackRow.holds Try.pinned (OpenSpec.ofChange slotsBackWrong)

/-- 'midstreamlaw22.SlotsNil': WHATEVER THE INPUT: true; the input reads as it did. -/
def slotsNilSpec : ChangeSpec := { name := "slotsNil", fn := fun _ => fun
  | [d1, d2, d3] => { results := [.lit (.bool true)], args := [d1, d2, d3] }
  | _ => none }
def slotsNilRow : OpenClaim := { program := "ytgipackjnncabaa", sum := "374a7f0ecb8339c7e9d6405ca39f66a490b9dc5fb827029c13a399b675ccb4c4", func := "midstream/midstreamlaw22.SlotsNil", spec := "slotsNil", unfollowed := true, recurses := true, apart := false }
def SlotsNilSaid : Prop := slotsNilRow.holds Try.pinned (OpenSpec.ofChange slotsNilSpec)

/-- ITS FALSE NEIGHBOUR: 'it returns false'. Refute it at one input. -/
def slotsNilWrong : ChangeSpec := { name := "slotsNil", fn := fun _ => fun
  | [d1, d2, d3] => { results := [.lit (.bool false)], args := [d1, d2, d3] }
  | _ => none }
def SlotsNilWrongFalsely : Prop := slotsNilRow.holds Try.pinned (OpenSpec.ofChange slotsNilWrong)

/-- 'midstreamlaw22.SlotsCrashes': WHATEVER THE INPUT: true; the input reads as it did. -/
def slotsCrashesSpec : ChangeSpec := { name := "slotsCrashes", fn := fun _ => fun
  | [d1, d2, d3] => { results := [.lit (.bool true)], args := [d1, d2, d3] }
  | _ => none }
def slotsCrashesRow : OpenClaim := { program := "ytgipackjnncabaa", sum := "374a7f0ecb8339c7e9d6405ca39f66a490b9dc5fb827029c13a399b675ccb4c4", func := "midstream/midstreamlaw22.SlotsCrashes", spec := "slotsCrashes", unfollowed := true, recurses := true, apart := false }
def SlotsCrashesSaid : Prop := slotsCrashesRow.holds Try.pinned (OpenSpec.ofChange slotsCrashesSpec)

/-- ITS FALSE NEIGHBOUR: 'it returns false'. Refute it at one input. -/
def slotsCrashesWrong : ChangeSpec := { name := "slotsCrashes", fn := fun _ => fun
  | [d1, d2, d3] => { results := [.lit (.bool false)], args := [d1, d2, d3] }
  | _ => none }
def SlotsCrashesWrongFalsely : Prop := slotsCrashesRow.holds Try.pinned (OpenSpec.ofChange slotsCrashesWrong)

/-- 'midstreamlaw22.SlotsBegun': WHATEVER THE INPUT: true; the input reads as it did. -/
def slotsBegunSpec : ChangeSpec := { name := "slotsBegun", fn := fun _ => fun
  | [d1, d2, d3] => { results := [.lit (.bool true)], args := [d1, d2, d3] }
  | _ => none }
def slotsBegunRow : OpenClaim := { program := "ytgipackjnncabaa", sum := "374a7f0ecb8339c7e9d6405ca39f66a490b9dc5fb827029c13a399b675ccb4c4", func := "midstream/midstreamlaw22.SlotsBegun", spec := "slotsBegun", unfollowed := true, recurses := true, apart := false }
def SlotsBegunSaid : Prop := slotsBegunRow.holds Try.pinned (OpenSpec.ofChange slotsBegunSpec)

/-- ITS FALSE NEIGHBOUR: 'it returns false'. Refute it at one input. -/
def slotsBegunWrong : ChangeSpec := { name := "slotsBegun", fn := fun _ => fun
  | [d1, d2, d3] => { results := [.lit (.bool false)], args := [d1, d2, d3] }
  | _ => none }
def SlotsBegunWrongFalsely : Prop := slotsBegunRow.holds Try.pinned (OpenSpec.ofChange slotsBegunWrong)

/-- 'midstreamlaw22.SlotsPlays': WHATEVER THE INPUT: true; the input reads as it did. -/
def slotsPlaysSpec : ChangeSpec := { name := "slotsPlays", fn := fun _ => fun
  | [d1, d2] => { results := [.lit (.bool true)], args := [d1, d2] }
  | _ => none }
def slotsPlaysRow : OpenClaim := { program := "ytgipackjnncabaa", sum := "374a7f0ecb8339c7e9d6405ca39f66a490b9dc5fb827029c13a399b675ccb4c4", func := "midstream/midstreamlaw22.SlotsPlays", spec := "slotsPlays", unfollowed := true, recurses := true, apart := false }
def SlotsPlaysSaid : Prop := slotsPlaysRow.holds Try.pinned (OpenSpec.ofChange slotsPlaysSpec)

/-- ITS FALSE NEIGHBOUR: 'it returns false'. Refute it at one input. -/
def slotsPlaysWrong : ChangeSpec := { name := "slotsPlays", fn := fun _ => fun
  | [d1, d2] => { results := [.lit (.bool false)], args := [d1, d2] }
  | _ => none }
def SlotsPlaysWrongFalsely : Prop := slotsPlaysRow.holds Try.pinned (OpenSpec.ofChange slotsPlaysWrong)

/-- 'midstreamlaw22.SlotsApart': WHATEVER THE INPUT: true; the input reads as it did. -/
def slotsApartSpec : ChangeSpec := { name := "slotsApart", fn := fun _ => fun
  | [d1, d2, d3] => { results := [.lit (.bool true)], args := [d1, d2, d3] }
  | _ => none }
def slotsApartRow : OpenClaim := { program := "ytgipackjnncabaa", sum := "374a7f0ecb8339c7e9d6405ca39f66a490b9dc5fb827029c13a399b675ccb4c4", func := "midstream/midstreamlaw22.SlotsApart", spec := "slotsApart", unfollowed := true, recurses := true, apart := false }
def SlotsApartSaid : Prop := slotsApartRow.holds Try.pinned (OpenSpec.ofChange slotsApartSpec)

/-- ITS FALSE NEIGHBOUR: 'it returns false'. Refute it at one input. -/
def slotsApartWrong : ChangeSpec := { name := "slotsApart", fn := fun _ => fun
  | [d1, d2, d3] => { results := [.lit (.bool false)], args := [d1, d2, d3] }
  | _ => none }
def SlotsApartWrongFalsely : Prop := slotsApartRow.holds Try.pinned (OpenSpec.ofChange slotsApartWrong)

/-- 'midstreamlaw23.XferRefuses': WHATEVER THE INPUT: true; the input reads as it did. -/
def xferRefusesSpec : ChangeSpec := { name := "xferRefuses", fn := fun _ => fun
  | [d1, d2] => { results := [.lit (.bool true)], args := [d1, d2] }
  | _ => none }
def xferRefusesRow : OpenClaim := { program := "ytgipackjnncabaa", sum := "374a7f0ecb8339c7e9d6405ca39f66a490b9dc5fb827029c13a399b675ccb4c4", func := "midstream/midstreamlaw23.XferRefuses", spec := "xferRefuses", unfollowed := true, recurses := true, apart := false }
def XferRefusesSaid : Prop := xferRefusesRow.holds Try.pinned (OpenSpec.ofChange xferRefusesSpec)

/-- ITS FALSE NEIGHBOUR: 'it returns false'. Refute it at one input. -/
def xferRefusesWrong : ChangeSpec := { name := "xferRefuses", fn := fun _ => fun
  | [d1, d2] => { results := [.lit (.bool false)], args := [d1, d2] }
  | _ => none }
def XferRefusesWrongFalsely : Prop := xferRefusesRow.holds Try.pinned (OpenSpec.ofChange xferRefusesWrong)

/- THE SECOND FORM. 'bulk': how many values and letters a reading holds, each counted each time it is reached (what is shared counts as often as it is met; a slice's spare places count too). A statement '..UptoSaid' is the law's where the arguments, and the package variables that the reading takes, are together of bulk at most 1048576: NARROWER than '..Said'. Prove '..Said' where nothing that the law and all that it calls make is longer than what came in: it says more and counts as full. Else prove '..UptoSaid'. A law counts once. -/
mutual
def uptoBulk {H : Type} : DataW H → Nat
  | .lit (.string bytes) => bytes.length + 1
  | .lit _ => 1
  | .nil => 1
  | .ptr d => uptoBulk d + 1
  | .slice elems spare => uptoBulkAll elems + uptoBulkAll spare + 1
  | .agg parts => uptoBulkAll parts + 1
  | .iface _ d => uptoBulk d + 1
  | .map entries => uptoBulkEntries entries + 1
  | .held _ => 1
def uptoBulkAll {H : Type} : List (DataW H) → Nat
  | [] => 0
  | d :: r => uptoBulk d + uptoBulkAll r
def uptoBulkEntries {H : Type} : List (Lit × DataW H) → Nat
  | [] => 0
  | x :: r => uptoBulkEntry x + uptoBulkEntries r
def uptoBulkEntry {H : Type} : Lit × DataW H → Nat
  | (.string bytes, d) => bytes.length + uptoBulk d + 1
  | (_, d) => uptoBulk d + 1
 end
def uptoSmall : (H : Type) → List (DataW H) → Bool := fun _ ds => decide (uptoBulkAll ds ≤ 1048576)
def OpenSpec.upto (s : _root_.Go.ChangeSpec) : _root_.Go.OpenSpec := { _root_.Go.OpenSpec.ofChange s with cond := some uptoSmall }

/-- 'midstreamlaw02.OctetPuts', WHERE WHAT IT READS IS OF BULK AT MOST 1048576: true; the input reads as it did. -/
def octetPutsUptoRow : OpenClaim := { program := "ytgipackjnncabaa", sum := "374a7f0ecb8339c7e9d6405ca39f66a490b9dc5fb827029c13a399b675ccb4c4", func := "midstream/midstreamlaw02.OctetPuts", spec := "octetPuts", apart := false, narrowed := true }
def OctetPutsUptoSaid : Prop := octetPutsUptoRow.holds Try.pinned (OpenSpec.upto octetPutsSpec)

/-- 'midstreamlaw02.OctetGets', WHERE WHAT IT READS IS OF BULK AT MOST 1048576: true; the input reads as it did. -/
def octetGetsUptoRow : OpenClaim := { program := "ytgipackjnncabaa", sum := "374a7f0ecb8339c7e9d6405ca39f66a490b9dc5fb827029c13a399b675ccb4c4", func := "midstream/midstreamlaw02.OctetGets", spec := "octetGets", apart := false, narrowed := true }
def OctetGetsUptoSaid : Prop := octetGetsUptoRow.holds Try.pinned (OpenSpec.upto octetGetsSpec)

/-- 'midstreamlaw02.OctetBack', WHERE WHAT IT READS IS OF BULK AT MOST 1048576: true; the input reads as it did. -/
def octetBackUptoRow : OpenClaim := { program := "ytgipackjnncabaa", sum := "374a7f0ecb8339c7e9d6405ca39f66a490b9dc5fb827029c13a399b675ccb4c4", func := "midstream/midstreamlaw02.OctetBack", spec := "octetBack", apart := false, narrowed := true }
def OctetBackUptoSaid : Prop := octetBackUptoRow.holds Try.pinned (OpenSpec.upto octetBackSpec)

/-- 'midstreamlaw02.OctetWhole', WHERE WHAT IT READS IS OF BULK AT MOST 1048576: true; the input reads as it did. -/
def octetWholeUptoRow : OpenClaim := { program := "ytgipackjnncabaa", sum := "374a7f0ecb8339c7e9d6405ca39f66a490b9dc5fb827029c13a399b675ccb4c4", func := "midstream/midstreamlaw02.OctetWhole", spec := "octetWhole", apart := false, narrowed := true }
def OctetWholeUptoSaid : Prop := octetWholeUptoRow.holds Try.pinned (OpenSpec.upto octetWholeSpec)

/-- 'midstreamlaw02.OctetWords', WHERE WHAT IT READS IS OF BULK AT MOST 1048576: true; the input reads as it did. -/
def octetWordsUptoRow : OpenClaim := { program := "ytgipackjnncabaa", sum := "374a7f0ecb8339c7e9d6405ca39f66a490b9dc5fb827029c13a399b675ccb4c4", func := "midstream/midstreamlaw02.OctetWords", spec := "octetWords", apart := false, narrowed := true }
def OctetWordsUptoSaid : Prop := octetWordsUptoRow.holds Try.pinned (OpenSpec.upto octetWordsSpec)

/-- 'midstreamlaw02.OctetRuns', WHERE WHAT IT READS IS OF BULK AT MOST 1048576: true; the input reads as it did. -/
def octetRunsUptoRow : OpenClaim := { program := "ytgipackjnncabaa", sum := "374a7f0ecb8339c7e9d6405ca39f66a490b9dc5fb827029c13a399b675ccb4c4", func := "midstream/midstreamlaw02.OctetRuns", spec := "octetRuns", apart := false, narrowed := true }
def OctetRunsUptoSaid : Prop := octetRunsUptoRow.holds Try.pinned (OpenSpec.upto octetRunsSpec)

/-- 'midstreamlaw02.OctetRow', WHERE WHAT IT READS IS OF BULK AT MOST 1048576: true; the input reads as it did. -/
def octetRowUptoRow : OpenClaim := { program := "ytgipackjnncabaa", sum := "374a7f0ecb8339c7e9d6405ca39f66a490b9dc5fb827029c13a399b675ccb4c4", func := "midstream/midstreamlaw02.OctetRow", spec := "octetRow", apart := false, narrowed := true }
def OctetRowUptoSaid : Prop := octetRowUptoRow.holds Try.pinned (OpenSpec.upto octetRowSpec)

/-- 'midstreamlaw03.CrcSums', WHERE WHAT IT READS IS OF BULK AT MOST 1048576: true; the input reads as it did. -/
def crcSumsUptoRow : OpenClaim := { program := "ytgipackjnncabaa", sum := "374a7f0ecb8339c7e9d6405ca39f66a490b9dc5fb827029c13a399b675ccb4c4", func := "midstream/midstreamlaw03.CrcSums", spec := "crcSums", unfollowed := true, recurses := true, apart := false, narrowed := true }
def CrcSumsUptoSaid : Prop := crcSumsUptoRow.holds Try.pinned (OpenSpec.upto crcSumsSpec)

/-- 'midstreamlaw03.CrcSeals', WHERE WHAT IT READS IS OF BULK AT MOST 1048576: true; the input reads as it did. -/
def crcSealsUptoRow : OpenClaim := { program := "ytgipackjnncabaa", sum := "374a7f0ecb8339c7e9d6405ca39f66a490b9dc5fb827029c13a399b675ccb4c4", func := "midstream/midstreamlaw03.CrcSeals", spec := "crcSeals", unfollowed := true, recurses := true, apart := false, narrowed := true }
def CrcSealsUptoSaid : Prop := crcSealsUptoRow.holds Try.pinned (OpenSpec.upto crcSealsSpec)

/-- 'midstreamlaw23.XferReceives', WHERE WHAT IT READS IS OF BULK AT MOST 1048576: true; the input reads as it did. -/
def xferReceivesUptoRow : OpenClaim := { program := "ytgipackjnncabaa", sum := "374a7f0ecb8339c7e9d6405ca39f66a490b9dc5fb827029c13a399b675ccb4c4", func := "midstream/midstreamlaw23.XferReceives", spec := "xferReceives", unfollowed := true, recurses := true, apart := false, narrowed := true }
def XferReceivesUptoSaid : Prop := xferReceivesUptoRow.holds Try.pinned (OpenSpec.upto xferReceivesSpec)

/-- 'midstreamlaw03.CrcBack', WHERE WHAT IT READS IS OF BULK AT MOST 1048576: true; the input reads as it did. -/
def crcBackUptoRow : OpenClaim := { program := "ytgipackjnncabaa", sum := "374a7f0ecb8339c7e9d6405ca39f66a490b9dc5fb827029c13a399b675ccb4c4", func := "midstream/midstreamlaw03.CrcBack", spec := "crcBack", unfollowed := true, recurses := true, apart := false, narrowed := true }
def CrcBackUptoSaid : Prop := crcBackUptoRow.holds Try.pinned (OpenSpec.upto crcBackSpec)

/-- 'midstreamlaw03.CrcTurned', WHERE WHAT IT READS IS OF BULK AT MOST 1048576: true; the input reads as it did. -/
def crcTurnedUptoRow : OpenClaim := { program := "ytgipackjnncabaa", sum := "374a7f0ecb8339c7e9d6405ca39f66a490b9dc5fb827029c13a399b675ccb4c4", func := "midstream/midstreamlaw03.CrcTurned", spec := "crcTurned", unfollowed := true, recurses := true, apart := false, narrowed := true }
def CrcTurnedUptoSaid : Prop := crcTurnedUptoRow.holds Try.pinned (OpenSpec.upto crcTurnedSpec)

/-- 'midstreamlaw03.CrcLinear', WHERE WHAT IT READS IS OF BULK AT MOST 1048576: true; the input reads as it did. -/
def crcLinearUptoRow : OpenClaim := { program := "ytgipackjnncabaa", sum := "374a7f0ecb8339c7e9d6405ca39f66a490b9dc5fb827029c13a399b675ccb4c4", func := "midstream/midstreamlaw03.CrcLinear", spec := "crcLinear", unfollowed := true, recurses := true, apart := false, narrowed := true }
def CrcLinearUptoSaid : Prop := crcLinearUptoRow.holds Try.pinned (OpenSpec.upto crcLinearSpec)

/-- 'midstreamlaw23.XferArrives', WHERE WHAT IT READS IS OF BULK AT MOST 1048576: true; the input reads as it did. -/
def xferArrivesUptoRow : OpenClaim := { program := "ytgipackjnncabaa", sum := "374a7f0ecb8339c7e9d6405ca39f66a490b9dc5fb827029c13a399b675ccb4c4", func := "midstream/midstreamlaw23.XferArrives", spec := "xferArrives", unfollowed := true, recurses := true, apart := false, narrowed := true }
def XferArrivesUptoSaid : Prop := xferArrivesUptoRow.holds Try.pinned (OpenSpec.upto xferArrivesSpec)

/-- 'midstreamlaw03.CrcStarts', WHERE WHAT IT READS IS OF BULK AT MOST 1048576: true; the input reads as it did. -/
def crcStartsUptoRow : OpenClaim := { program := "ytgipackjnncabaa", sum := "374a7f0ecb8339c7e9d6405ca39f66a490b9dc5fb827029c13a399b675ccb4c4", func := "midstream/midstreamlaw03.CrcStarts", spec := "crcStarts", unfollowed := true, recurses := true, apart := false, narrowed := true }
def CrcStartsUptoSaid : Prop := crcStartsUptoRow.holds Try.pinned (OpenSpec.upto crcStartsSpec)

/-- 'midstreamlaw06.FlashOf', WHERE WHAT IT READS IS OF BULK AT MOST 1048576: true; the input reads as it did. -/
def flashOfUptoRow : OpenClaim := { program := "ytgipackjnncabaa", sum := "374a7f0ecb8339c7e9d6405ca39f66a490b9dc5fb827029c13a399b675ccb4c4", func := "midstream/midstreamlaw06.FlashOf", spec := "flashOf", unfollowed := true, recurses := true, apart := false, narrowed := true }
def FlashOfUptoSaid : Prop := flashOfUptoRow.holds Try.pinned (OpenSpec.upto flashOfSpec)

/-- 'midstreamlaw06.FlashClears', WHERE WHAT IT READS IS OF BULK AT MOST 1048576: true; the input reads as it did. -/
def flashClearsUptoRow : OpenClaim := { program := "ytgipackjnncabaa", sum := "374a7f0ecb8339c7e9d6405ca39f66a490b9dc5fb827029c13a399b675ccb4c4", func := "midstream/midstreamlaw06.FlashClears", spec := "flashClears", unfollowed := true, recurses := true, apart := false, narrowed := true }
def FlashClearsUptoSaid : Prop := flashClearsUptoRow.holds Try.pinned (OpenSpec.upto flashClearsSpec)

/-- 'midstreamlaw06.FlashTorn', WHERE WHAT IT READS IS OF BULK AT MOST 1048576: true; the input reads as it did. -/
def flashTornUptoRow : OpenClaim := { program := "ytgipackjnncabaa", sum := "374a7f0ecb8339c7e9d6405ca39f66a490b9dc5fb827029c13a399b675ccb4c4", func := "midstream/midstreamlaw06.FlashTorn", spec := "flashTorn", unfollowed := true, recurses := true, apart := false, narrowed := true }
def FlashTornUptoSaid : Prop := flashTornUptoRow.holds Try.pinned (OpenSpec.upto flashTornSpec)

/-- 'midstreamlaw06.FlashPlays', WHERE WHAT IT READS IS OF BULK AT MOST 1048576: true; the input reads as it did. -/
def flashPlaysUptoRow : OpenClaim := { program := "ytgipackjnncabaa", sum := "374a7f0ecb8339c7e9d6405ca39f66a490b9dc5fb827029c13a399b675ccb4c4", func := "midstream/midstreamlaw06.FlashPlays", spec := "flashPlays", unfollowed := true, recurses := true, apart := false, narrowed := true }
def FlashPlaysUptoSaid : Prop := flashPlaysUptoRow.holds Try.pinned (OpenSpec.upto flashPlaysSpec)

/-- 'midstreamlaw06.FlashNil', WHERE WHAT IT READS IS OF BULK AT MOST 1048576: true; the input reads as it did. -/
def flashNilUptoRow : OpenClaim := { program := "ytgipackjnncabaa", sum := "374a7f0ecb8339c7e9d6405ca39f66a490b9dc5fb827029c13a399b675ccb4c4", func := "midstream/midstreamlaw06.FlashNil", spec := "flashNil", unfollowed := true, recurses := true, apart := false, narrowed := true }
def FlashNilUptoSaid : Prop := flashNilUptoRow.holds Try.pinned (OpenSpec.upto flashNilSpec)

/-- 'midstreamlaw06.FlashApart', WHERE WHAT IT READS IS OF BULK AT MOST 1048576: true; the input reads as it did. -/
def flashApartUptoRow : OpenClaim := { program := "ytgipackjnncabaa", sum := "374a7f0ecb8339c7e9d6405ca39f66a490b9dc5fb827029c13a399b675ccb4c4", func := "midstream/midstreamlaw06.FlashApart", spec := "flashApart", unfollowed := true, recurses := true, apart := false, narrowed := true }
def FlashApartUptoSaid : Prop := flashApartUptoRow.holds Try.pinned (OpenSpec.upto flashApartSpec)

/-- 'midstreamlaw23.XferPacks', WHERE WHAT IT READS IS OF BULK AT MOST 1048576: true; the input reads as it did. -/
def xferPacksUptoRow : OpenClaim := { program := "ytgipackjnncabaa", sum := "374a7f0ecb8339c7e9d6405ca39f66a490b9dc5fb827029c13a399b675ccb4c4", func := "midstream/midstreamlaw23.XferPacks", spec := "xferPacks", unfollowed := true, recurses := true, apart := false, narrowed := true }
def XferPacksUptoSaid : Prop := xferPacksUptoRow.holds Try.pinned (OpenSpec.upto xferPacksSpec)

/-- 'midstreamlaw23.XferBack', WHERE WHAT IT READS IS OF BULK AT MOST 1048576: true; the input reads as it did. -/
def xferBackUptoRow : OpenClaim := { program := "ytgipackjnncabaa", sum := "374a7f0ecb8339c7e9d6405ca39f66a490b9dc5fb827029c13a399b675ccb4c4", func := "midstream/midstreamlaw23.XferBack", spec := "xferBack", unfollowed := true, recurses := true, apart := false, narrowed := true }
def XferBackUptoSaid : Prop := xferBackUptoRow.holds Try.pinned (OpenSpec.upto xferBackSpec)

/-- 'midstreamlaw07.JournalNil', WHERE WHAT IT READS IS OF BULK AT MOST 1048576: true; the input reads as it did. -/
def journalNilUptoRow : OpenClaim := { program := "ytgipackjnncabaa", sum := "374a7f0ecb8339c7e9d6405ca39f66a490b9dc5fb827029c13a399b675ccb4c4", func := "midstream/midstreamlaw07.JournalNil", spec := "journalNil", unfollowed := true, recurses := true, apart := false, narrowed := true }
def JournalNilUptoSaid : Prop := journalNilUptoRow.holds Try.pinned (OpenSpec.upto journalNilSpec)

/-- 'midstreamlaw23.XferSenders', WHERE WHAT IT READS IS OF BULK AT MOST 1048576: true; the input reads as it did. -/
def xferSendersUptoRow : OpenClaim := { program := "ytgipackjnncabaa", sum := "374a7f0ecb8339c7e9d6405ca39f66a490b9dc5fb827029c13a399b675ccb4c4", func := "midstream/midstreamlaw23.XferSenders", spec := "xferSenders", unfollowed := true, recurses := true, apart := false, narrowed := true }
def XferSendersUptoSaid : Prop := xferSendersUptoRow.holds Try.pinned (OpenSpec.upto xferSendersSpec)

/-- 'midstreamlaw07.JournalRoom', WHERE WHAT IT READS IS OF BULK AT MOST 1048576: true; the input reads as it did. -/
def journalRoomUptoRow : OpenClaim := { program := "ytgipackjnncabaa", sum := "374a7f0ecb8339c7e9d6405ca39f66a490b9dc5fb827029c13a399b675ccb4c4", func := "midstream/midstreamlaw07.JournalRoom", spec := "journalRoom", unfollowed := true, recurses := true, apart := false, narrowed := true }
def JournalRoomUptoSaid : Prop := journalRoomUptoRow.holds Try.pinned (OpenSpec.upto journalRoomSpec)

/-- 'midstreamlaw07.JournalAny', WHERE WHAT IT READS IS OF BULK AT MOST 1048576: true; the input reads as it did. -/
def journalAnyUptoRow : OpenClaim := { program := "ytgipackjnncabaa", sum := "374a7f0ecb8339c7e9d6405ca39f66a490b9dc5fb827029c13a399b675ccb4c4", func := "midstream/midstreamlaw07.JournalAny", spec := "journalAny", unfollowed := true, recurses := true, apart := false, narrowed := true }
def JournalAnyUptoSaid : Prop := journalAnyUptoRow.holds Try.pinned (OpenSpec.upto journalAnySpec)

/-- 'midstreamlaw07.JournalPlays', WHERE WHAT IT READS IS OF BULK AT MOST 1048576: true; the input reads as it did. -/
def journalPlaysUptoRow : OpenClaim := { program := "ytgipackjnncabaa", sum := "374a7f0ecb8339c7e9d6405ca39f66a490b9dc5fb827029c13a399b675ccb4c4", func := "midstream/midstreamlaw07.JournalPlays", spec := "journalPlays", unfollowed := true, recurses := true, apart := false, narrowed := true }
def JournalPlaysUptoSaid : Prop := journalPlaysUptoRow.holds Try.pinned (OpenSpec.upto journalPlaysSpec)

/-- 'midstreamlaw07.JournalCrashes', WHERE WHAT IT READS IS OF BULK AT MOST 1048576: true; the input reads as it did. -/
def journalCrashesUptoRow : OpenClaim := { program := "ytgipackjnncabaa", sum := "374a7f0ecb8339c7e9d6405ca39f66a490b9dc5fb827029c13a399b675ccb4c4", func := "midstream/midstreamlaw07.JournalCrashes", spec := "journalCrashes", unfollowed := true, recurses := true, apart := false, narrowed := true }
def JournalCrashesUptoSaid : Prop := journalCrashesUptoRow.holds Try.pinned (OpenSpec.upto journalCrashesSpec)

/-- 'midstreamlaw07.JournalApart', WHERE WHAT IT READS IS OF BULK AT MOST 1048576: true; the input reads as it did. -/
def journalApartUptoRow : OpenClaim := { program := "ytgipackjnncabaa", sum := "374a7f0ecb8339c7e9d6405ca39f66a490b9dc5fb827029c13a399b675ccb4c4", func := "midstream/midstreamlaw07.JournalApart", spec := "journalApart", unfollowed := true, recurses := true, apart := false, narrowed := true }
def JournalApartUptoSaid : Prop := journalApartUptoRow.holds Try.pinned (OpenSpec.upto journalApartSpec)

/-- 'midstreamlaw22.SlotsBack', WHERE WHAT IT READS IS OF BULK AT MOST 1048576: true; the input reads as it did. -/
def slotsBackUptoRow : OpenClaim := { program := "ytgipackjnncabaa", sum := "374a7f0ecb8339c7e9d6405ca39f66a490b9dc5fb827029c13a399b675ccb4c4", func := "midstream/midstreamlaw22.SlotsBack", spec := "slotsBack", unfollowed := true, recurses := true, apart := false, narrowed := true }
def SlotsBackUptoSaid : Prop := slotsBackUptoRow.holds Try.pinned (OpenSpec.upto slotsBackSpec)

/-- 'midstreamlaw22.SlotsNil', WHERE WHAT IT READS IS OF BULK AT MOST 1048576: true; the input reads as it did. -/
def slotsNilUptoRow : OpenClaim := { program := "ytgipackjnncabaa", sum := "374a7f0ecb8339c7e9d6405ca39f66a490b9dc5fb827029c13a399b675ccb4c4", func := "midstream/midstreamlaw22.SlotsNil", spec := "slotsNil", unfollowed := true, recurses := true, apart := false, narrowed := true }
def SlotsNilUptoSaid : Prop := slotsNilUptoRow.holds Try.pinned (OpenSpec.upto slotsNilSpec)

/-- 'midstreamlaw22.SlotsCrashes', WHERE WHAT IT READS IS OF BULK AT MOST 1048576: true; the input reads as it did. -/
def slotsCrashesUptoRow : OpenClaim := { program := "ytgipackjnncabaa", sum := "374a7f0ecb8339c7e9d6405ca39f66a490b9dc5fb827029c13a399b675ccb4c4", func := "midstream/midstreamlaw22.SlotsCrashes", spec := "slotsCrashes", unfollowed := true, recurses := true, apart := false, narrowed := true }
def SlotsCrashesUptoSaid : Prop := slotsCrashesUptoRow.holds Try.pinned (OpenSpec.upto slotsCrashesSpec)

/-- 'midstreamlaw22.SlotsBegun', WHERE WHAT IT READS IS OF BULK AT MOST 1048576: true; the input reads as it did. -/
def slotsBegunUptoRow : OpenClaim := { program := "ytgipackjnncabaa", sum := "374a7f0ecb8339c7e9d6405ca39f66a490b9dc5fb827029c13a399b675ccb4c4", func := "midstream/midstreamlaw22.SlotsBegun", spec := "slotsBegun", unfollowed := true, recurses := true, apart := false, narrowed := true }
def SlotsBegunUptoSaid : Prop := slotsBegunUptoRow.holds Try.pinned (OpenSpec.upto slotsBegunSpec)

/-- 'midstreamlaw22.SlotsPlays', WHERE WHAT IT READS IS OF BULK AT MOST 1048576: true; the input reads as it did. -/
def slotsPlaysUptoRow : OpenClaim := { program := "ytgipackjnncabaa", sum := "374a7f0ecb8339c7e9d6405ca39f66a490b9dc5fb827029c13a399b675ccb4c4", func := "midstream/midstreamlaw22.SlotsPlays", spec := "slotsPlays", unfollowed := true, recurses := true, apart := false, narrowed := true }
def SlotsPlaysUptoSaid : Prop := slotsPlaysUptoRow.holds Try.pinned (OpenSpec.upto slotsPlaysSpec)

/-- 'midstreamlaw22.SlotsApart', WHERE WHAT IT READS IS OF BULK AT MOST 1048576: true; the input reads as it did. -/
def slotsApartUptoRow : OpenClaim := { program := "ytgipackjnncabaa", sum := "374a7f0ecb8339c7e9d6405ca39f66a490b9dc5fb827029c13a399b675ccb4c4", func := "midstream/midstreamlaw22.SlotsApart", spec := "slotsApart", unfollowed := true, recurses := true, apart := false, narrowed := true }
def SlotsApartUptoSaid : Prop := slotsApartUptoRow.holds Try.pinned (OpenSpec.upto slotsApartSpec)

/-- 'midstreamlaw23.XferRefuses', WHERE WHAT IT READS IS OF BULK AT MOST 1048576: true; the input reads as it did. -/
def xferRefusesUptoRow : OpenClaim := { program := "ytgipackjnncabaa", sum := "374a7f0ecb8339c7e9d6405ca39f66a490b9dc5fb827029c13a399b675ccb4c4", func := "midstream/midstreamlaw23.XferRefuses", spec := "xferRefuses", unfollowed := true, recurses := true, apart := false, narrowed := true }
def XferRefusesUptoSaid : Prop := xferRefusesUptoRow.holds Try.pinned (OpenSpec.upto xferRefusesSpec)

end Rows
end Go.Proofs.Ytgipackjnncabaa
