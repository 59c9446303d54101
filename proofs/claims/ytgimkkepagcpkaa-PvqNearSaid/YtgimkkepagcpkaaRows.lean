/-
  No cell of these rows narrows 'for every input' (looked for: loops, veiled, ifaces, maps, wideKeys, modest, calm, conditions, laid).
  DERIVED. THE GIVEN ROWS OF THIS SEAT. 22 by the template 'for every input the law returns true; each argument reads behind the call as it read before'; 0 by the template 'total and deterministic' (their statements: YtgimkkepagcpkaaTotals.lean).
  GIVEN WITH THE SEED: the statements are not yours to turn. If you find one false, say at which input.
  Laid BY PROGRAM, IN A SANDBOX (cutbox-rows.mjs): the forced cells as the released guide's own fill.sh prints them over the translation 5907ce5082ab9115… (all of the seat's roots in one cut). By AI agents, Wed Nov 11 2026. No macro, syntax, notation, axiom, sorry.
-/
import Derived.Test.YtgimkkepagcpkaaChecked
import GoSem.Claim
import GoSem.ClaimJoined
import GoSem.ClaimMapViews
import Derived.JoinedTies
import Derived.KernelRfl
namespace Go.Proofs.Ytgimkkepagcpkaa
/- THE CELL 'sum', in the pinned program and in every row, IS THE sha256 OF THE DUMP (.gsa) THAT YtgimkkepagcpkaaProg.lean LOADS. Nothing in Lean hashes anything: it is a label: what it is worth is what the hold of that sum in a sandbox is worth. -/
noncomputable def Try.pinned : Pinned := { name := "ytgimkkepagcpkaa", sum := "5907ce5082ab9115ba5dfc1b89194a1424ff0432bc27ebb047ed6ea9dc2fe0f5", checked := Try.checked }
namespace Rows
def none {H : Type} : Left H := { results := [], args := [] }

/-- 'madrigallaw4.RencRaw': WHATEVER THE INPUT: true; the input reads as it did. -/
def rencRawSpec : ChangeSpec := { name := "rencRaw", fn := fun _ => fun
  | [d1, d2] => { results := [.lit (.bool true)], args := [d1, d2] }
  | _ => none }
def rencRawRow : OpenClaim := { program := "ytgimkkepagcpkaa", sum := "5907ce5082ab9115ba5dfc1b89194a1424ff0432bc27ebb047ed6ea9dc2fe0f5", func := "madrigal/madrigallaw4.RencRaw", spec := "rencRaw", unfollowed := true, recurses := true, apart := false }
def RencRawSaid : Prop := rencRawRow.holds Try.pinned (OpenSpec.ofChange rencRawSpec)

/-- ITS FALSE NEIGHBOUR: 'it returns false'. Refute it at one input. -/
def rencRawWrong : ChangeSpec := { name := "rencRaw", fn := fun _ => fun
  | [d1, d2] => { results := [.lit (.bool false)], args := [d1, d2] }
  | _ => none }
def RencRawWrongFalsely : Prop := rencRawRow.holds Try.pinned (OpenSpec.ofChange rencRawWrong)

/-- 'madrigallaw4.RencBack': WHATEVER THE INPUT: true; the input reads as it did. -/
def rencBackSpec : ChangeSpec := { name := "rencBack", fn := fun _ => fun
  | [d1, d2] => { results := [.lit (.bool true)], args := [d1, d2] }
  | _ => none }
def rencBackRow : OpenClaim := { program := "ytgimkkepagcpkaa", sum := "5907ce5082ab9115ba5dfc1b89194a1424ff0432bc27ebb047ed6ea9dc2fe0f5", func := "madrigal/madrigallaw4.RencBack", spec := "rencBack", unfollowed := true, recurses := true, apart := false }
def RencBackSaid : Prop := rencBackRow.holds Try.pinned (OpenSpec.ofChange rencBackSpec)

/-- ITS FALSE NEIGHBOUR: 'it returns false'. Refute it at one input. -/
def rencBackWrong : ChangeSpec := { name := "rencBack", fn := fun _ => fun
  | [d1, d2] => { results := [.lit (.bool false)], args := [d1, d2] }
  | _ => none }
def RencBackWrongFalsely : Prop := rencBackRow.holds Try.pinned (OpenSpec.ofChange rencBackWrong)

/-- 'madrigallaw4.RencTight': WHATEVER THE INPUT: true; the input reads as it did. -/
def rencTightSpec : ChangeSpec := { name := "rencTight", fn := fun _ => fun
  | [d] => { results := [.lit (.bool true)], args := [d] }
  | _ => none }
def rencTightRow : OpenClaim := { program := "ytgimkkepagcpkaa", sum := "5907ce5082ab9115ba5dfc1b89194a1424ff0432bc27ebb047ed6ea9dc2fe0f5", func := "madrigal/madrigallaw4.RencTight", spec := "rencTight", unfollowed := true, recurses := true, apart := false }
def RencTightSaid : Prop := rencTightRow.holds Try.pinned (OpenSpec.ofChange rencTightSpec)

/-- ITS FALSE NEIGHBOUR: 'it returns false'. Refute it at one input. -/
def rencTightWrong : ChangeSpec := { name := "rencTight", fn := fun _ => fun
  | [d] => { results := [.lit (.bool false)], args := [d] }
  | _ => none }
def RencTightWrongFalsely : Prop := rencTightRow.holds Try.pinned (OpenSpec.ofChange rencTightWrong)

/-- 'madrigallaw4.RencLaplace': WHATEVER THE INPUT: true; the input reads as it did. -/
def rencLaplaceSpec : ChangeSpec := { name := "rencLaplace", fn := fun _ => fun
  | [d1, d2, d3] => { results := [.lit (.bool true)], args := [d1, d2, d3] }
  | _ => none }
def rencLaplaceRow : OpenClaim := { program := "ytgimkkepagcpkaa", sum := "5907ce5082ab9115ba5dfc1b89194a1424ff0432bc27ebb047ed6ea9dc2fe0f5", func := "madrigal/madrigallaw4.RencLaplace", spec := "rencLaplace", unfollowed := true, recurses := true, apart := false }
def RencLaplaceSaid : Prop := rencLaplaceRow.holds Try.pinned (OpenSpec.ofChange rencLaplaceSpec)

/-- ITS FALSE NEIGHBOUR: 'it returns false'. Refute it at one input. -/
def rencLaplaceWrong : ChangeSpec := { name := "rencLaplace", fn := fun _ => fun
  | [d1, d2, d3] => { results := [.lit (.bool false)], args := [d1, d2, d3] }
  | _ => none }
def RencLaplaceWrongFalsely : Prop := rencLaplaceRow.holds Try.pinned (OpenSpec.ofChange rencLaplaceWrong)

/-- 'madrigallaw4.RencRising': WHATEVER THE INPUT: true; the input reads as it did. -/
def rencRisingSpec : ChangeSpec := { name := "rencRising", fn := fun _ => fun
  | [d] => { results := [.lit (.bool true)], args := [d] }
  | _ => none }
def rencRisingRow : OpenClaim := { program := "ytgimkkepagcpkaa", sum := "5907ce5082ab9115ba5dfc1b89194a1424ff0432bc27ebb047ed6ea9dc2fe0f5", func := "madrigal/madrigallaw4.RencRising", spec := "rencRising", unfollowed := true, recurses := true, apart := false }
def RencRisingSaid : Prop := rencRisingRow.holds Try.pinned (OpenSpec.ofChange rencRisingSpec)

/-- ITS FALSE NEIGHBOUR: 'it returns false'. Refute it at one input. -/
def rencRisingWrong : ChangeSpec := { name := "rencRising", fn := fun _ => fun
  | [d] => { results := [.lit (.bool false)], args := [d] }
  | _ => none }
def RencRisingWrongFalsely : Prop := rencRisingRow.holds Try.pinned (OpenSpec.ofChange rencRisingWrong)

/-- 'madrigallaw4.RencKnown': WHATEVER THE INPUT: true; the input reads as it did. -/
def rencKnownSpec : ChangeSpec := { name := "rencKnown", fn := fun _ => fun
  | [] => { results := [.lit (.bool true)], args := [] }
  | _ => none }
def rencKnownRow : OpenClaim := { program := "ytgimkkepagcpkaa", sum := "5907ce5082ab9115ba5dfc1b89194a1424ff0432bc27ebb047ed6ea9dc2fe0f5", func := "madrigal/madrigallaw4.RencKnown", spec := "rencKnown", unfollowed := true, recurses := true, apart := false }
def RencKnownSaid : Prop := rencKnownRow.holds Try.pinned (OpenSpec.ofChange rencKnownSpec)

/-- ITS FALSE NEIGHBOUR: 'it returns false'. Refute it at one input. -/
def rencKnownWrong : ChangeSpec := { name := "rencKnown", fn := fun _ => fun
  | [] => { results := [.lit (.bool false)], args := [] }
  | _ => none }
def RencKnownWrongFalsely : Prop := rencKnownRow.holds Try.pinned (OpenSpec.ofChange rencKnownWrong)

/-- 'madrigallaw4.RencCopies': WHATEVER THE INPUT: true; the input reads as it did. -/
def rencCopiesSpec : ChangeSpec := { name := "rencCopies", fn := fun _ => fun
  | [d1, d2] => { results := [.lit (.bool true)], args := [d1, d2] }
  | _ => none }
def rencCopiesRow : OpenClaim := { program := "ytgimkkepagcpkaa", sum := "5907ce5082ab9115ba5dfc1b89194a1424ff0432bc27ebb047ed6ea9dc2fe0f5", func := "madrigal/madrigallaw4.RencCopies", spec := "rencCopies", unfollowed := true, recurses := true, apart := false }
def RencCopiesSaid : Prop := rencCopiesRow.holds Try.pinned (OpenSpec.ofChange rencCopiesSpec)

/-- ITS FALSE NEIGHBOUR: 'it returns false'. Refute it at one input. -/
def rencCopiesWrong : ChangeSpec := { name := "rencCopies", fn := fun _ => fun
  | [d1, d2] => { results := [.lit (.bool false)], args := [d1, d2] }
  | _ => none }
def RencCopiesWrongFalsely : Prop := rencCopiesRow.holds Try.pinned (OpenSpec.ofChange rencCopiesWrong)

/-- 'madrigallaw17.PvqKnown': WHATEVER THE INPUT: true; the input reads as it did. -/
def pvqKnownSpec : ChangeSpec := { name := "pvqKnown", fn := fun _ => fun
  | [] => { results := [.lit (.bool true)], args := [] }
  | _ => none }
def pvqKnownRow : OpenClaim := { program := "ytgimkkepagcpkaa", sum := "5907ce5082ab9115ba5dfc1b89194a1424ff0432bc27ebb047ed6ea9dc2fe0f5", func := "madrigal/madrigallaw17.PvqKnown", spec := "pvqKnown", unfollowed := true, recurses := true, apart := false }
def PvqKnownSaid : Prop := pvqKnownRow.holds Try.pinned (OpenSpec.ofChange pvqKnownSpec)

/-- ITS FALSE NEIGHBOUR: 'it returns false'. Refute it at one input. -/
def pvqKnownWrong : ChangeSpec := { name := "pvqKnown", fn := fun _ => fun
  | [] => { results := [.lit (.bool false)], args := [] }
  | _ => none }
def PvqKnownWrongFalsely : Prop := pvqKnownRow.holds Try.pinned (OpenSpec.ofChange pvqKnownWrong)

/-- 'madrigallaw17.PvqCounts': WHATEVER THE INPUT: true; the input reads as it did. -/
def pvqCountsSpec : ChangeSpec := { name := "pvqCounts", fn := fun _ => fun
  | [d1, d2] => { results := [.lit (.bool true)], args := [d1, d2] }
  | _ => none }
def pvqCountsRow : OpenClaim := { program := "ytgimkkepagcpkaa", sum := "5907ce5082ab9115ba5dfc1b89194a1424ff0432bc27ebb047ed6ea9dc2fe0f5", func := "madrigal/madrigallaw17.PvqCounts", spec := "pvqCounts", unfollowed := true, recurses := true, apart := false }
def PvqCountsSaid : Prop := pvqCountsRow.holds Try.pinned (OpenSpec.ofChange pvqCountsSpec)

/-- ITS FALSE NEIGHBOUR: 'it returns false'. Refute it at one input. -/
def pvqCountsWrong : ChangeSpec := { name := "pvqCounts", fn := fun _ => fun
  | [d1, d2] => { results := [.lit (.bool false)], args := [d1, d2] }
  | _ => none }
def PvqCountsWrongFalsely : Prop := pvqCountsRow.holds Try.pinned (OpenSpec.ofChange pvqCountsWrong)

/-- 'madrigallaw17.PvqNumbers': WHATEVER THE INPUT: true; the input reads as it did. -/
def pvqNumbersSpec : ChangeSpec := { name := "pvqNumbers", fn := fun _ => fun
  | [d1, d2, d3, d4] => { results := [.lit (.bool true)], args := [d1, d2, d3, d4] }
  | _ => none }
def pvqNumbersRow : OpenClaim := { program := "ytgimkkepagcpkaa", sum := "5907ce5082ab9115ba5dfc1b89194a1424ff0432bc27ebb047ed6ea9dc2fe0f5", func := "madrigal/madrigallaw17.PvqNumbers", spec := "pvqNumbers", unfollowed := true, recurses := true, apart := false }
def PvqNumbersSaid : Prop := pvqNumbersRow.holds Try.pinned (OpenSpec.ofChange pvqNumbersSpec)

/-- ITS FALSE NEIGHBOUR: 'it returns false'. Refute it at one input. -/
def pvqNumbersWrong : ChangeSpec := { name := "pvqNumbers", fn := fun _ => fun
  | [d1, d2, d3, d4] => { results := [.lit (.bool false)], args := [d1, d2, d3, d4] }
  | _ => none }
def PvqNumbersWrongFalsely : Prop := pvqNumbersRow.holds Try.pinned (OpenSpec.ofChange pvqNumbersWrong)

/-- 'madrigallaw17.PvqOrder': WHATEVER THE INPUT: true; the input reads as it did. -/
def pvqOrderSpec : ChangeSpec := { name := "pvqOrder", fn := fun _ => fun
  | [d1, d2, d3, d4] => { results := [.lit (.bool true)], args := [d1, d2, d3, d4] }
  | _ => none }
def pvqOrderRow : OpenClaim := { program := "ytgimkkepagcpkaa", sum := "5907ce5082ab9115ba5dfc1b89194a1424ff0432bc27ebb047ed6ea9dc2fe0f5", func := "madrigal/madrigallaw17.PvqOrder", spec := "pvqOrder", unfollowed := true, recurses := true, apart := false }
def PvqOrderSaid : Prop := pvqOrderRow.holds Try.pinned (OpenSpec.ofChange pvqOrderSpec)

/-- ITS FALSE NEIGHBOUR: 'it returns false'. Refute it at one input. -/
def pvqOrderWrong : ChangeSpec := { name := "pvqOrder", fn := fun _ => fun
  | [d1, d2, d3, d4] => { results := [.lit (.bool false)], args := [d1, d2, d3, d4] }
  | _ => none }
def PvqOrderWrongFalsely : Prop := pvqOrderRow.holds Try.pinned (OpenSpec.ofChange pvqOrderWrong)

/-- 'madrigallaw17.PvqNear': WHATEVER THE INPUT: true; the input reads as it did. -/
def pvqNearSpec : ChangeSpec := { name := "pvqNear", fn := fun _ => fun
  | [d1, d2] => { results := [.lit (.bool true)], args := [d1, d2] }
  | _ => none }
def pvqNearRow : OpenClaim := { program := "ytgimkkepagcpkaa", sum := "5907ce5082ab9115ba5dfc1b89194a1424ff0432bc27ebb047ed6ea9dc2fe0f5", func := "madrigal/madrigallaw17.PvqNear", spec := "pvqNear", unfollowed := true, recurses := true, apart := false }
def PvqNearSaid : Prop := pvqNearRow.holds Try.pinned (OpenSpec.ofChange pvqNearSpec)

/-- ITS FALSE NEIGHBOUR: 'it returns false'. Refute it at one input. -/
def pvqNearWrong : ChangeSpec := { name := "pvqNear", fn := fun _ => fun
  | [d1, d2] => { results := [.lit (.bool false)], args := [d1, d2] }
  | _ => none }
def PvqNearWrongFalsely : Prop := pvqNearRow.holds Try.pinned (OpenSpec.ofChange pvqNearWrong)

/-- 'madrigallaw17.PvqSums': WHATEVER THE INPUT: true; the input reads as it did. -/
def pvqSumsSpec : ChangeSpec := { name := "pvqSums", fn := fun _ => fun
  | [d1, d2] => { results := [.lit (.bool true)], args := [d1, d2] }
  | _ => none }
def pvqSumsRow : OpenClaim := { program := "ytgimkkepagcpkaa", sum := "5907ce5082ab9115ba5dfc1b89194a1424ff0432bc27ebb047ed6ea9dc2fe0f5", func := "madrigal/madrigallaw17.PvqSums", spec := "pvqSums", unfollowed := true, recurses := true, apart := false }
def PvqSumsSaid : Prop := pvqSumsRow.holds Try.pinned (OpenSpec.ofChange pvqSumsSpec)

/-- ITS FALSE NEIGHBOUR: 'it returns false'. Refute it at one input. -/
def pvqSumsWrong : ChangeSpec := { name := "pvqSums", fn := fun _ => fun
  | [d1, d2] => { results := [.lit (.bool false)], args := [d1, d2] }
  | _ => none }
def PvqSumsWrongFalsely : Prop := pvqSumsRow.holds Try.pinned (OpenSpec.ofChange pvqSumsWrong)

/-- 'madrigallaw17.PvqExact': WHATEVER THE INPUT: true; the input reads as it did. -/
def pvqExactSpec : ChangeSpec := { name := "pvqExact", fn := fun _ => fun
  | [d1, d2, d3, d4] => { results := [.lit (.bool true)], args := [d1, d2, d3, d4] }
  | _ => none }
def pvqExactRow : OpenClaim := { program := "ytgimkkepagcpkaa", sum := "5907ce5082ab9115ba5dfc1b89194a1424ff0432bc27ebb047ed6ea9dc2fe0f5", func := "madrigal/madrigallaw17.PvqExact", spec := "pvqExact", unfollowed := true, recurses := true, apart := false }
def PvqExactSaid : Prop := pvqExactRow.holds Try.pinned (OpenSpec.ofChange pvqExactSpec)

/-- ITS FALSE NEIGHBOUR: 'it returns false'. Refute it at one input. -/
def pvqExactWrong : ChangeSpec := { name := "pvqExact", fn := fun _ => fun
  | [d1, d2, d3, d4] => { results := [.lit (.bool false)], args := [d1, d2, d3, d4] }
  | _ => none }
def PvqExactWrongFalsely : Prop := pvqExactRow.holds Try.pinned (OpenSpec.ofChange pvqExactWrong)

/-- 'madrigallaw17.PvqFirst': WHATEVER THE INPUT: true; the input reads as it did. -/
def pvqFirstSpec : ChangeSpec := { name := "pvqFirst", fn := fun _ => fun
  | [d1, d2] => { results := [.lit (.bool true)], args := [d1, d2] }
  | _ => none }
def pvqFirstRow : OpenClaim := { program := "ytgimkkepagcpkaa", sum := "5907ce5082ab9115ba5dfc1b89194a1424ff0432bc27ebb047ed6ea9dc2fe0f5", func := "madrigal/madrigallaw17.PvqFirst", spec := "pvqFirst", unfollowed := true, recurses := true, apart := false }
def PvqFirstSaid : Prop := pvqFirstRow.holds Try.pinned (OpenSpec.ofChange pvqFirstSpec)

/-- ITS FALSE NEIGHBOUR: 'it returns false'. Refute it at one input. -/
def pvqFirstWrong : ChangeSpec := { name := "pvqFirst", fn := fun _ => fun
  | [d1, d2] => { results := [.lit (.bool false)], args := [d1, d2] }
  | _ => none }
def PvqFirstWrongFalsely : Prop := pvqFirstRow.holds Try.pinned (OpenSpec.ofChange pvqFirstWrong)

/-- 'madrigallaw17.PvqBack': WHATEVER THE INPUT: true; the input reads as it did. -/
def pvqBackSpec : ChangeSpec := { name := "pvqBack", fn := fun _ => fun
  | [d1, d2, d3, d4] => { results := [.lit (.bool true)], args := [d1, d2, d3, d4] }
  | _ => none }
def pvqBackRow : OpenClaim := { program := "ytgimkkepagcpkaa", sum := "5907ce5082ab9115ba5dfc1b89194a1424ff0432bc27ebb047ed6ea9dc2fe0f5", func := "madrigal/madrigallaw17.PvqBack", spec := "pvqBack", unfollowed := true, recurses := true, apart := false }
def PvqBackSaid : Prop := pvqBackRow.holds Try.pinned (OpenSpec.ofChange pvqBackSpec)

/-- ITS FALSE NEIGHBOUR: 'it returns false'. Refute it at one input. -/
def pvqBackWrong : ChangeSpec := { name := "pvqBack", fn := fun _ => fun
  | [d1, d2, d3, d4] => { results := [.lit (.bool false)], args := [d1, d2, d3, d4] }
  | _ => none }
def PvqBackWrongFalsely : Prop := pvqBackRow.holds Try.pinned (OpenSpec.ofChange pvqBackWrong)

/-- 'madrigallaw19.EnergyKnown': WHATEVER THE INPUT: true; the input reads as it did. -/
def energyKnownSpec : ChangeSpec := { name := "energyKnown", fn := fun _ => fun
  | [] => { results := [.lit (.bool true)], args := [] }
  | _ => none }
def energyKnownRow : OpenClaim := { program := "ytgimkkepagcpkaa", sum := "5907ce5082ab9115ba5dfc1b89194a1424ff0432bc27ebb047ed6ea9dc2fe0f5", func := "madrigal/madrigallaw19.EnergyKnown", spec := "energyKnown", inPlace := ["math/bits.Add64"], unfollowed := true, recurses := true, named := ["math/bits.divideError", "math/bits.overflowError"], apart := false }
def EnergyKnownSaid : Prop := energyKnownRow.holds Try.pinned (OpenSpec.ofChange energyKnownSpec)

/-- ITS FALSE NEIGHBOUR: 'it returns false'. Refute it at one input. -/
def energyKnownWrong : ChangeSpec := { name := "energyKnown", fn := fun _ => fun
  | [] => { results := [.lit (.bool false)], args := [] }
  | _ => none }
def EnergyKnownWrongFalsely : Prop := energyKnownRow.holds Try.pinned (OpenSpec.ofChange energyKnownWrong)

/-- 'madrigallaw19.EnergySays': WHATEVER THE INPUT: true; the input reads as it did. -/
def energySaysSpec : ChangeSpec := { name := "energySays", fn := fun _ => fun
  | [d1, d2, d3, d4, d5, d6, d7] => { results := [.lit (.bool true)], args := [d1, d2, d3, d4, d5, d6, d7] }
  | _ => none }
def energySaysRow : OpenClaim := { program := "ytgimkkepagcpkaa", sum := "5907ce5082ab9115ba5dfc1b89194a1424ff0432bc27ebb047ed6ea9dc2fe0f5", func := "madrigal/madrigallaw19.EnergySays", spec := "energySays", inPlace := ["math/bits.Add64"], unfollowed := true, recurses := true, named := ["math/bits.divideError", "math/bits.overflowError"], apart := false }
def EnergySaysSaid : Prop := energySaysRow.holds Try.pinned (OpenSpec.ofChange energySaysSpec)

/-- ITS FALSE NEIGHBOUR: 'it returns false'. Refute it at one input. -/
def energySaysWrong : ChangeSpec := { name := "energySays", fn := fun _ => fun
  | [d1, d2, d3, d4, d5, d6, d7] => { results := [.lit (.bool false)], args := [d1, d2, d3, d4, d5, d6, d7] }
  | _ => none }
def EnergySaysWrongFalsely : Prop := energySaysRow.holds Try.pinned (OpenSpec.ofChange energySaysWrong)

/-- 'madrigallaw19.EnergyBack': WHATEVER THE INPUT: true; the input reads as it did. -/
def energyBackSpec : ChangeSpec := { name := "energyBack", fn := fun _ => fun
  | [d1, d2, d3] => { results := [.lit (.bool true)], args := [d1, d2, d3] }
  | _ => none }
def energyBackRow : OpenClaim := { program := "ytgimkkepagcpkaa", sum := "5907ce5082ab9115ba5dfc1b89194a1424ff0432bc27ebb047ed6ea9dc2fe0f5", func := "madrigal/madrigallaw19.EnergyBack", spec := "energyBack", inPlace := ["math/bits.Add64"], unfollowed := true, recurses := true, named := ["math/bits.divideError", "math/bits.overflowError"], apart := false }
def EnergyBackSaid : Prop := energyBackRow.holds Try.pinned (OpenSpec.ofChange energyBackSpec)

/-- ITS FALSE NEIGHBOUR: 'it returns false'. Refute it at one input. -/
def energyBackWrong : ChangeSpec := { name := "energyBack", fn := fun _ => fun
  | [d1, d2, d3] => { results := [.lit (.bool false)], args := [d1, d2, d3] }
  | _ => none }
def EnergyBackWrongFalsely : Prop := energyBackRow.holds Try.pinned (OpenSpec.ofChange energyBackWrong)

/-- 'madrigallaw19.EnergyRises': WHATEVER THE INPUT: true; the input reads as it did. -/
def energyRisesSpec : ChangeSpec := { name := "energyRises", fn := fun _ => fun
  | [d1, d2, d3] => { results := [.lit (.bool true)], args := [d1, d2, d3] }
  | _ => none }
def energyRisesRow : OpenClaim := { program := "ytgimkkepagcpkaa", sum := "5907ce5082ab9115ba5dfc1b89194a1424ff0432bc27ebb047ed6ea9dc2fe0f5", func := "madrigal/madrigallaw19.EnergyRises", spec := "energyRises", inPlace := ["math/bits.Add64"], unfollowed := true, recurses := true, named := ["math/bits.divideError", "math/bits.overflowError"], apart := false }
def EnergyRisesSaid : Prop := energyRisesRow.holds Try.pinned (OpenSpec.ofChange energyRisesSpec)

/-- ITS FALSE NEIGHBOUR: 'it returns false'. Refute it at one input. -/
def energyRisesWrong : ChangeSpec := { name := "energyRises", fn := fun _ => fun
  | [d1, d2, d3] => { results := [.lit (.bool false)], args := [d1, d2, d3] }
  | _ => none }
def EnergyRisesWrongFalsely : Prop := energyRisesRow.holds Try.pinned (OpenSpec.ofChange energyRisesWrong)

/-- 'madrigallaw19.EnergyBounds': WHATEVER THE INPUT: true; the input reads as it did. -/
def energyBoundsSpec : ChangeSpec := { name := "energyBounds", fn := fun _ => fun
  | [d1, d2, d3] => { results := [.lit (.bool true)], args := [d1, d2, d3] }
  | _ => none }
def energyBoundsRow : OpenClaim := { program := "ytgimkkepagcpkaa", sum := "5907ce5082ab9115ba5dfc1b89194a1424ff0432bc27ebb047ed6ea9dc2fe0f5", func := "madrigal/madrigallaw19.EnergyBounds", spec := "energyBounds", inPlace := ["math/bits.Add64"], unfollowed := true, recurses := true, named := ["math/bits.divideError", "math/bits.overflowError"], apart := false }
def EnergyBoundsSaid : Prop := energyBoundsRow.holds Try.pinned (OpenSpec.ofChange energyBoundsSpec)

/-- ITS FALSE NEIGHBOUR: 'it returns false'. Refute it at one input. -/
def energyBoundsWrong : ChangeSpec := { name := "energyBounds", fn := fun _ => fun
  | [d1, d2, d3] => { results := [.lit (.bool false)], args := [d1, d2, d3] }
  | _ => none }
def EnergyBoundsWrongFalsely : Prop := energyBoundsRow.holds Try.pinned (OpenSpec.ofChange energyBoundsWrong)

/-- 'madrigallaw19.EnergyReads': WHATEVER THE INPUT: true; the input reads as it did. -/
def energyReadsSpec : ChangeSpec := { name := "energyReads", fn := fun _ => fun
  | [d1, d2, d3] => { results := [.lit (.bool true)], args := [d1, d2, d3] }
  | _ => none }
def energyReadsRow : OpenClaim := { program := "ytgimkkepagcpkaa", sum := "5907ce5082ab9115ba5dfc1b89194a1424ff0432bc27ebb047ed6ea9dc2fe0f5", func := "madrigal/madrigallaw19.EnergyReads", spec := "energyReads", inPlace := ["math/bits.Add64"], unfollowed := true, recurses := true, named := ["math/bits.divideError", "math/bits.overflowError"], apart := false }
def EnergyReadsSaid : Prop := energyReadsRow.holds Try.pinned (OpenSpec.ofChange energyReadsSpec)

/-- ITS FALSE NEIGHBOUR: 'it returns false'. Refute it at one input. -/
def energyReadsWrong : ChangeSpec := { name := "energyReads", fn := fun _ => fun
  | [d1, d2, d3] => { results := [.lit (.bool false)], args := [d1, d2, d3] }
  | _ => none }
def EnergyReadsWrongFalsely : Prop := energyReadsRow.holds Try.pinned (OpenSpec.ofChange energyReadsWrong)

/- THE SECOND FORM. 'bulk': how many values and letters a reading holds, each counted each time it is reached (what is shared counts as often as it is met; a slice's spare places count too). A statement '..UptoSaid' is the law's where the arguments, and the package variables that the reading takes, are together of bulk at most 1048576: NARROWER than '..Said'. Prove '..Said' where nothing that the law and all that it calls make is longer than what came in: it says more and counts as full. Else prove '..UptoSaid'. A law counts once. -/
mutual
def uptoBulk {H : Type} : DataW H → Nat
  | .lit (.string bytes) => bytes.length + 1
  | .lit _ => 1
  | .nil => 1
  | .ptr d => uptoBulk d + 1
  | .slice elems spare => uptoBulkAll elems + uptoBulkAll spare + 1
  | .agg parts => uptoBulkAll parts + 1
  | .iface _ d => uptoBulk d + 1
  | .map entries => uptoBulkEntries entries + 1
  | .held _ => 1
def uptoBulkAll {H : Type} : List (DataW H) → Nat
  | [] => 0
  | d :: r => uptoBulk d + uptoBulkAll r
def uptoBulkEntries {H : Type} : List (Lit × DataW H) → Nat
  | [] => 0
  | x :: r => uptoBulkEntry x + uptoBulkEntries r
def uptoBulkEntry {H : Type} : Lit × DataW H → Nat
  | (.string bytes, d) => bytes.length + uptoBulk d + 1
  | (_, d) => uptoBulk d + 1
 end
def uptoSmall : (H : Type) → List (DataW H) → Bool := fun _ ds => decide (uptoBulkAll ds ≤ 1048576)
def OpenSpec.upto (s : _root_.Go.ChangeSpec) : _root_.Go.OpenSpec := { _root_.Go.OpenSpec.ofChange s with cond := some uptoSmall }

/-- 'madrigallaw4.RencRaw', WHERE WHAT IT READS IS OF BULK AT MOST 1048576: true; the input reads as it did. -/
def rencRawUptoRow : OpenClaim := { program := "ytgimkkepagcpkaa", sum := "5907ce5082ab9115ba5dfc1b89194a1424ff0432bc27ebb047ed6ea9dc2fe0f5", func := "madrigal/madrigallaw4.RencRaw", spec := "rencRaw", unfollowed := true, recurses := true, apart := false, narrowed := true }
def RencRawUptoSaid : Prop := rencRawUptoRow.holds Try.pinned (OpenSpec.upto rencRawSpec)

/-- 'madrigallaw4.RencBack', WHERE WHAT IT READS IS OF BULK AT MOST 1048576: true; the input reads as it did. -/
def rencBackUptoRow : OpenClaim := { program := "ytgimkkepagcpkaa", sum := "5907ce5082ab9115ba5dfc1b89194a1424ff0432bc27ebb047ed6ea9dc2fe0f5", func := "madrigal/madrigallaw4.RencBack", spec := "rencBack", unfollowed := true, recurses := true, apart := false, narrowed := true }
def RencBackUptoSaid : Prop := rencBackUptoRow.holds Try.pinned (OpenSpec.upto rencBackSpec)

/-- 'madrigallaw4.RencTight', WHERE WHAT IT READS IS OF BULK AT MOST 1048576: true; the input reads as it did. -/
def rencTightUptoRow : OpenClaim := { program := "ytgimkkepagcpkaa", sum := "5907ce5082ab9115ba5dfc1b89194a1424ff0432bc27ebb047ed6ea9dc2fe0f5", func := "madrigal/madrigallaw4.RencTight", spec := "rencTight", unfollowed := true, recurses := true, apart := false, narrowed := true }
def RencTightUptoSaid : Prop := rencTightUptoRow.holds Try.pinned (OpenSpec.upto rencTightSpec)

/-- 'madrigallaw4.RencLaplace', WHERE WHAT IT READS IS OF BULK AT MOST 1048576: true; the input reads as it did. -/
def rencLaplaceUptoRow : OpenClaim := { program := "ytgimkkepagcpkaa", sum := "5907ce5082ab9115ba5dfc1b89194a1424ff0432bc27ebb047ed6ea9dc2fe0f5", func := "madrigal/madrigallaw4.RencLaplace", spec := "rencLaplace", unfollowed := true, recurses := true, apart := false, narrowed := true }
def RencLaplaceUptoSaid : Prop := rencLaplaceUptoRow.holds Try.pinned (OpenSpec.upto rencLaplaceSpec)

/-- 'madrigallaw4.RencRising', WHERE WHAT IT READS IS OF BULK AT MOST 1048576: true; the input reads as it did. -/
def rencRisingUptoRow : OpenClaim := { program := "ytgimkkepagcpkaa", sum := "5907ce5082ab9115ba5dfc1b89194a1424ff0432bc27ebb047ed6ea9dc2fe0f5", func := "madrigal/madrigallaw4.RencRising", spec := "rencRising", unfollowed := true, recurses := true, apart := false, narrowed := true }
def RencRisingUptoSaid : Prop := rencRisingUptoRow.holds Try.pinned (OpenSpec.upto rencRisingSpec)

/-- 'madrigallaw4.RencKnown', WHERE WHAT IT READS IS OF BULK AT MOST 1048576: true; the input reads as it did. -/
def rencKnownUptoRow : OpenClaim := { program := "ytgimkkepagcpkaa", sum := "5907ce5082ab9115ba5dfc1b89194a1424ff0432bc27ebb047ed6ea9dc2fe0f5", func := "madrigal/madrigallaw4.RencKnown", spec := "rencKnown", unfollowed := true, recurses := true, apart := false, narrowed := true }
def RencKnownUptoSaid : Prop := rencKnownUptoRow.holds Try.pinned (OpenSpec.upto rencKnownSpec)

/-- 'madrigallaw4.RencCopies', WHERE WHAT IT READS IS OF BULK AT MOST 1048576: true; the input reads as it did. -/
def rencCopiesUptoRow : OpenClaim := { program := "ytgimkkepagcpkaa", sum := "5907ce5082ab9115ba5dfc1b89194a1424ff0432bc27ebb047ed6ea9dc2fe0f5", func := "madrigal/madrigallaw4.RencCopies", spec := "rencCopies", unfollowed := true, recurses := true, apart := false, narrowed := true }
def RencCopiesUptoSaid : Prop := rencCopiesUptoRow.holds Try.pinned (OpenSpec.upto rencCopiesSpec)

/-- 'madrigallaw17.PvqKnown', WHERE WHAT IT READS IS OF BULK AT MOST 1048576: true; the input reads as it did. -/
def pvqKnownUptoRow : OpenClaim := { program := "ytgimkkepagcpkaa", sum := "5907ce5082ab9115ba5dfc1b89194a1424ff0432bc27ebb047ed6ea9dc2fe0f5", func := "madrigal/madrigallaw17.PvqKnown", spec := "pvqKnown", unfollowed := true, recurses := true, apart := false, narrowed := true }
def PvqKnownUptoSaid : Prop := pvqKnownUptoRow.holds Try.pinned (OpenSpec.upto pvqKnownSpec)

/-- 'madrigallaw17.PvqCounts', WHERE WHAT IT READS IS OF BULK AT MOST 1048576: true; the input reads as it did. -/
def pvqCountsUptoRow : OpenClaim := { program := "ytgimkkepagcpkaa", sum := "5907ce5082ab9115ba5dfc1b89194a1424ff0432bc27ebb047ed6ea9dc2fe0f5", func := "madrigal/madrigallaw17.PvqCounts", spec := "pvqCounts", unfollowed := true, recurses := true, apart := false, narrowed := true }
def PvqCountsUptoSaid : Prop := pvqCountsUptoRow.holds Try.pinned (OpenSpec.upto pvqCountsSpec)

/-- 'madrigallaw17.PvqNumbers', WHERE WHAT IT READS IS OF BULK AT MOST 1048576: true; the input reads as it did. -/
def pvqNumbersUptoRow : OpenClaim := { program := "ytgimkkepagcpkaa", sum := "5907ce5082ab9115ba5dfc1b89194a1424ff0432bc27ebb047ed6ea9dc2fe0f5", func := "madrigal/madrigallaw17.PvqNumbers", spec := "pvqNumbers", unfollowed := true, recurses := true, apart := false, narrowed := true }
def PvqNumbersUptoSaid : Prop := pvqNumbersUptoRow.holds Try.pinned (OpenSpec.upto pvqNumbersSpec)

/-- 'madrigallaw17.PvqOrder', WHERE WHAT IT READS IS OF BULK AT MOST 1048576: true; the input reads as it did. -/
def pvqOrderUptoRow : OpenClaim := { program := "ytgimkkepagcpkaa", sum := "5907ce5082ab9115ba5dfc1b89194a1424ff0432bc27ebb047ed6ea9dc2fe0f5", func := "madrigal/madrigallaw17.PvqOrder", spec := "pvqOrder", unfollowed := true, recurses := true, apart := false, narrowed := true }
def PvqOrderUptoSaid : Prop := pvqOrderUptoRow.holds Try.pinned (OpenSpec.upto pvqOrderSpec)

/-- 'madrigallaw17.PvqNear', WHERE WHAT IT READS IS OF BULK AT MOST 1048576: true; the input reads as it did. -/
def pvqNearUptoRow : OpenClaim := { program := "ytgimkkepagcpkaa", sum := "5907ce5082ab9115ba5dfc1b89194a1424ff0432bc27ebb047ed6ea9dc2fe0f5", func := "madrigal/madrigallaw17.PvqNear", spec := "pvqNear", unfollowed := true, recurses := true, apart := false, narrowed := true }
def PvqNearUptoSaid : Prop := pvqNearUptoRow.holds Try.pinned (OpenSpec.upto pvqNearSpec)

/-- 'madrigallaw17.PvqSums', WHERE WHAT IT READS IS OF BULK AT MOST 1048576: true; the input reads as it did. -/
def pvqSumsUptoRow : OpenClaim := { program := "ytgimkkepagcpkaa", sum := "5907ce5082ab9115ba5dfc1b89194a1424ff0432bc27ebb047ed6ea9dc2fe0f5", func := "madrigal/madrigallaw17.PvqSums", spec := "pvqSums", unfollowed := true, recurses := true, apart := false, narrowed := true }
def PvqSumsUptoSaid : Prop := pvqSumsUptoRow.holds Try.pinned (OpenSpec.upto pvqSumsSpec)

/-- 'madrigallaw17.PvqExact', WHERE WHAT IT READS IS OF BULK AT MOST 1048576: true; the input reads as it did. -/
def pvqExactUptoRow : OpenClaim := { program := "ytgimkkepagcpkaa", sum := "5907ce5082ab9115ba5dfc1b89194a1424ff0432bc27ebb047ed6ea9dc2fe0f5", func := "madrigal/madrigallaw17.PvqExact", spec := "pvqExact", unfollowed := true, recurses := true, apart := false, narrowed := true }
def PvqExactUptoSaid : Prop := pvqExactUptoRow.holds Try.pinned (OpenSpec.upto pvqExactSpec)

/-- 'madrigallaw17.PvqFirst', WHERE WHAT IT READS IS OF BULK AT MOST 1048576: true; the input reads as it did. -/
def pvqFirstUptoRow : OpenClaim := { program := "ytgimkkepagcpkaa", sum := "5907ce5082ab9115ba5dfc1b89194a1424ff0432bc27ebb047ed6ea9dc2fe0f5", func := "madrigal/madrigallaw17.PvqFirst", spec := "pvqFirst", unfollowed := true, recurses := true, apart := false, narrowed := true }
def PvqFirstUptoSaid : Prop := pvqFirstUptoRow.holds Try.pinned (OpenSpec.upto pvqFirstSpec)

/-- 'madrigallaw17.PvqBack', WHERE WHAT IT READS IS OF BULK AT MOST 1048576: true; the input reads as it did. -/
def pvqBackUptoRow : OpenClaim := { program := "ytgimkkepagcpkaa", sum := "5907ce5082ab9115ba5dfc1b89194a1424ff0432bc27ebb047ed6ea9dc2fe0f5", func := "madrigal/madrigallaw17.PvqBack", spec := "pvqBack", unfollowed := true, recurses := true, apart := false, narrowed := true }
def PvqBackUptoSaid : Prop := pvqBackUptoRow.holds Try.pinned (OpenSpec.upto pvqBackSpec)

/-- 'madrigallaw19.EnergyKnown', WHERE WHAT IT READS IS OF BULK AT MOST 1048576: true; the input reads as it did. -/
def energyKnownUptoRow : OpenClaim := { program := "ytgimkkepagcpkaa", sum := "5907ce5082ab9115ba5dfc1b89194a1424ff0432bc27ebb047ed6ea9dc2fe0f5", func := "madrigal/madrigallaw19.EnergyKnown", spec := "energyKnown", inPlace := ["math/bits.Add64"], unfollowed := true, recurses := true, named := ["math/bits.divideError", "math/bits.overflowError"], apart := false, narrowed := true }
def EnergyKnownUptoSaid : Prop := energyKnownUptoRow.holds Try.pinned (OpenSpec.upto energyKnownSpec)

/-- 'madrigallaw19.EnergySays', WHERE WHAT IT READS IS OF BULK AT MOST 1048576: true; the input reads as it did. -/
def energySaysUptoRow : OpenClaim := { program := "ytgimkkepagcpkaa", sum := "5907ce5082ab9115ba5dfc1b89194a1424ff0432bc27ebb047ed6ea9dc2fe0f5", func := "madrigal/madrigallaw19.EnergySays", spec := "energySays", inPlace := ["math/bits.Add64"], unfollowed := true, recurses := true, named := ["math/bits.divideError", "math/bits.overflowError"], apart := false, narrowed := true }
def EnergySaysUptoSaid : Prop := energySaysUptoRow.holds Try.pinned (OpenSpec.upto energySaysSpec)

/-- 'madrigallaw19.EnergyBack', WHERE WHAT IT READS IS OF BULK AT MOST 1048576: true; the input reads as it did. -/
def energyBackUptoRow : OpenClaim := { program := "ytgimkkepagcpkaa", sum := "5907ce5082ab9115ba5dfc1b89194a1424ff0432bc27ebb047ed6ea9dc2fe0f5", func := "madrigal/madrigallaw19.EnergyBack", spec := "energyBack", inPlace := ["math/bits.Add64"], unfollowed := true, recurses := true, named := ["math/bits.divideError", "math/bits.overflowError"], apart := false, narrowed := true }
def EnergyBackUptoSaid : Prop := energyBackUptoRow.holds Try.pinned (OpenSpec.upto energyBackSpec)

/-- 'madrigallaw19.EnergyRises', WHERE WHAT IT READS IS OF BULK AT MOST 1048576: true; the input reads as it did. -/
def energyRisesUptoRow : OpenClaim := { program := "ytgimkkepagcpkaa", sum := "5907ce5082ab9115ba5dfc1b89194a1424ff0432bc27ebb047ed6ea9dc2fe0f5", func := "madrigal/madrigallaw19.EnergyRises", spec := "energyRises", inPlace := ["math/bits.Add64"], unfollowed := true, recurses := true, named := ["math/bits.divideError", "math/bits.overflowError"], apart := false, narrowed := true }
def EnergyRisesUptoSaid : Prop := energyRisesUptoRow.holds Try.pinned (OpenSpec.upto energyRisesSpec)

/-- 'madrigallaw19.EnergyBounds', WHERE WHAT IT READS IS OF BULK AT MOST 1048576: true; the input reads as it did. -/
def energyBoundsUptoRow : OpenClaim := { program := "ytgimkkepagcpkaa", sum := "5907ce5082ab9115ba5dfc1b89194a1424ff0432bc27ebb047ed6ea9dc2fe0f5", func := "madrigal/madrigallaw19.EnergyBounds", spec := "energyBounds", inPlace := ["math/bits.Add64"], unfollowed := true, recurses := true, named := ["math/bits.divideError", "math/bits.overflowError"], apart := false, narrowed := true }
def EnergyBoundsUptoSaid : Prop := energyBoundsUptoRow.holds Try.pinned (OpenSpec.upto energyBoundsSpec)

/-- 'madrigallaw19.EnergyReads', WHERE WHAT IT READS IS OF BULK AT MOST 1048576: true; the input reads as it did. -/
def energyReadsUptoRow : OpenClaim := { program := "ytgimkkepagcpkaa", sum := "5907ce5082ab9115ba5dfc1b89194a1424ff0432bc27ebb047ed6ea9dc2fe0f5", func := "madrigal/madrigallaw19.EnergyReads", spec := "energyReads", inPlace := ["math/bits.Add64"], unfollowed := true, recurses := true, named := ["math/bits.divideError", "math/bits.overflowError"], apart := false, narrowed := true }
def EnergyReadsUptoSaid : Prop := energyReadsUptoRow.holds Try.pinned (OpenSpec.upto energyReadsSpec)

end Rows
end Go.Proofs.Ytgimkkepagcpkaa
