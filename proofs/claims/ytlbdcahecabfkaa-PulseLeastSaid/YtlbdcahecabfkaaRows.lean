/-
  No cell of these rows narrows 'for every input' (looked for: loops, veiled, ifaces, maps, wideKeys, modest, calm, conditions, laid).
  DERIVED. THE GIVEN ROWS OF THIS SEAT. 21 by the template 'for every input the law returns true; each argument reads behind the call as it read before'; 0 by the template 'total and deterministic' (their statements: YtlbdcahecabfkaaTotals.lean).
  GIVEN WITH THE SEED: the statements are not yours to turn. If you find one false, say at which input.
  Laid BY PROGRAM, IN A SANDBOX (cutbox-rows.mjs): the forced cells as the released guide's own fill.sh prints them over the translation 4e96bda72b18c593… (all of the seat's roots in one cut). By AI agents, Wed Nov 11 2026. No macro, syntax, notation, axiom, sorry.
-/
import Derived.Test.YtlbdcahecabfkaaChecked
import GoSem.Claim
import GoSem.ClaimJoined
import GoSem.ClaimMapViews
import Derived.JoinedTies
import Derived.KernelRfl
namespace Go.Proofs.Ytlbdcahecabfkaa
/- THE CELL 'sum', in the pinned program and in every row, IS THE sha256 OF THE DUMP (.gsa) THAT YtlbdcahecabfkaaProg.lean LOADS. Nothing in Lean hashes anything: it is a label: what it is worth is what the hold of that sum in a sandbox is worth. -/
noncomputable def Try.pinned : Pinned := { name := "ytlbdcahecabfkaa", sum := "4e96bda72b18c593e5ce16d247f4d11795cc4f5c1363e7bc0f5e971204964859", checked := Try.checked }
namespace Rows
def none {H : Type} : Left H := { results := [], args := [] }

/-- 'madrigallaw4.RencBack': WHATEVER THE INPUT: true; the input reads as it did. -/
def rencBackSpec : ChangeSpec := { name := "rencBack", fn := fun _ => fun
  | [d1, d2] => { results := [.lit (.bool true)], args := [d1, d2] }
  | _ => none }
def rencBackRow : OpenClaim := { program := "ytlbdcahecabfkaa", sum := "4e96bda72b18c593e5ce16d247f4d11795cc4f5c1363e7bc0f5e971204964859", func := "madrigal/madrigallaw4.RencBack", spec := "rencBack", unfollowed := true, recurses := true, apart := false }
def RencBackSaid : Prop := rencBackRow.holds Try.pinned (OpenSpec.ofChange rencBackSpec)

/-- ITS FALSE NEIGHBOUR: 'it returns false'. Refute it at one input. -/
def rencBackWrong : ChangeSpec := { name := "rencBack", fn := fun _ => fun
  | [d1, d2] => { results := [.lit (.bool false)], args := [d1, d2] }
  | _ => none }
def RencBackWrongFalsely : Prop := rencBackRow.holds Try.pinned (OpenSpec.ofChange rencBackWrong)

/-- 'madrigallaw4.RencTight': WHATEVER THE INPUT: true; the input reads as it did. -/
def rencTightSpec : ChangeSpec := { name := "rencTight", fn := fun _ => fun
  | [d] => { results := [.lit (.bool true)], args := [d] }
  | _ => none }
def rencTightRow : OpenClaim := { program := "ytlbdcahecabfkaa", sum := "4e96bda72b18c593e5ce16d247f4d11795cc4f5c1363e7bc0f5e971204964859", func := "madrigal/madrigallaw4.RencTight", spec := "rencTight", unfollowed := true, recurses := true, apart := false }
def RencTightSaid : Prop := rencTightRow.holds Try.pinned (OpenSpec.ofChange rencTightSpec)

/-- ITS FALSE NEIGHBOUR: 'it returns false'. Refute it at one input. -/
def rencTightWrong : ChangeSpec := { name := "rencTight", fn := fun _ => fun
  | [d] => { results := [.lit (.bool false)], args := [d] }
  | _ => none }
def RencTightWrongFalsely : Prop := rencTightRow.holds Try.pinned (OpenSpec.ofChange rencTightWrong)

/-- 'madrigallaw4.RencCopies': WHATEVER THE INPUT: true; the input reads as it did. -/
def rencCopiesSpec : ChangeSpec := { name := "rencCopies", fn := fun _ => fun
  | [d1, d2] => { results := [.lit (.bool true)], args := [d1, d2] }
  | _ => none }
def rencCopiesRow : OpenClaim := { program := "ytlbdcahecabfkaa", sum := "4e96bda72b18c593e5ce16d247f4d11795cc4f5c1363e7bc0f5e971204964859", func := "madrigal/madrigallaw4.RencCopies", spec := "rencCopies", unfollowed := true, recurses := true, apart := false }
def RencCopiesSaid : Prop := rencCopiesRow.holds Try.pinned (OpenSpec.ofChange rencCopiesSpec)

/-- ITS FALSE NEIGHBOUR: 'it returns false'. Refute it at one input. -/
def rencCopiesWrong : ChangeSpec := { name := "rencCopies", fn := fun _ => fun
  | [d1, d2] => { results := [.lit (.bool false)], args := [d1, d2] }
  | _ => none }
def RencCopiesWrongFalsely : Prop := rencCopiesRow.holds Try.pinned (OpenSpec.ofChange rencCopiesWrong)

/-- 'madrigallaw8.GainKnown': WHATEVER THE INPUT: true; the input reads as it did. -/
def gainKnownSpec : ChangeSpec := { name := "gainKnown", fn := fun _ => fun
  | [] => { results := [.lit (.bool true)], args := [] }
  | _ => none }
def gainKnownRow : OpenClaim := { program := "ytlbdcahecabfkaa", sum := "4e96bda72b18c593e5ce16d247f4d11795cc4f5c1363e7bc0f5e971204964859", func := "madrigal/madrigallaw8.GainKnown", spec := "gainKnown", unfollowed := true, recurses := true, apart := false }
def GainKnownSaid : Prop := gainKnownRow.holds Try.pinned (OpenSpec.ofChange gainKnownSpec)

/-- ITS FALSE NEIGHBOUR: 'it returns false'. Refute it at one input. -/
def gainKnownWrong : ChangeSpec := { name := "gainKnown", fn := fun _ => fun
  | [] => { results := [.lit (.bool false)], args := [] }
  | _ => none }
def GainKnownWrongFalsely : Prop := gainKnownRow.holds Try.pinned (OpenSpec.ofChange gainKnownWrong)

/-- 'madrigallaw8.GainBack': WHATEVER THE INPUT: true; the input reads as it did. -/
def gainBackSpec : ChangeSpec := { name := "gainBack", fn := fun _ => fun
  | [d1, d2, d3] => { results := [.lit (.bool true)], args := [d1, d2, d3] }
  | _ => none }
def gainBackRow : OpenClaim := { program := "ytlbdcahecabfkaa", sum := "4e96bda72b18c593e5ce16d247f4d11795cc4f5c1363e7bc0f5e971204964859", func := "madrigal/madrigallaw8.GainBack", spec := "gainBack", unfollowed := true, recurses := true, apart := false }
def GainBackSaid : Prop := gainBackRow.holds Try.pinned (OpenSpec.ofChange gainBackSpec)

/-- ITS FALSE NEIGHBOUR: 'it returns false'. Refute it at one input. -/
def gainBackWrong : ChangeSpec := { name := "gainBack", fn := fun _ => fun
  | [d1, d2, d3] => { results := [.lit (.bool false)], args := [d1, d2, d3] }
  | _ => none }
def GainBackWrongFalsely : Prop := gainBackRow.holds Try.pinned (OpenSpec.ofChange gainBackWrong)

/-- 'madrigallaw8.GainRises': WHATEVER THE INPUT: true; the input reads as it did. -/
def gainRisesSpec : ChangeSpec := { name := "gainRises", fn := fun _ => fun
  | [d1, d2] => { results := [.lit (.bool true)], args := [d1, d2] }
  | _ => none }
def gainRisesRow : OpenClaim := { program := "ytlbdcahecabfkaa", sum := "4e96bda72b18c593e5ce16d247f4d11795cc4f5c1363e7bc0f5e971204964859", func := "madrigal/madrigallaw8.GainRises", spec := "gainRises", unfollowed := true, recurses := true, apart := false }
def GainRisesSaid : Prop := gainRisesRow.holds Try.pinned (OpenSpec.ofChange gainRisesSpec)

/-- ITS FALSE NEIGHBOUR: 'it returns false'. Refute it at one input. -/
def gainRisesWrong : ChangeSpec := { name := "gainRises", fn := fun _ => fun
  | [d1, d2] => { results := [.lit (.bool false)], args := [d1, d2] }
  | _ => none }
def GainRisesWrongFalsely : Prop := gainRisesRow.holds Try.pinned (OpenSpec.ofChange gainRisesWrong)

/-- 'madrigallaw8.GainNear': WHATEVER THE INPUT: true; the input reads as it did. -/
def gainNearSpec : ChangeSpec := { name := "gainNear", fn := fun _ => fun
  | [d] => { results := [.lit (.bool true)], args := [d] }
  | _ => none }
def gainNearRow : OpenClaim := { program := "ytlbdcahecabfkaa", sum := "4e96bda72b18c593e5ce16d247f4d11795cc4f5c1363e7bc0f5e971204964859", func := "madrigal/madrigallaw8.GainNear", spec := "gainNear", unfollowed := true, recurses := true, apart := false }
def GainNearSaid : Prop := gainNearRow.holds Try.pinned (OpenSpec.ofChange gainNearSpec)

/-- ITS FALSE NEIGHBOUR: 'it returns false'. Refute it at one input. -/
def gainNearWrong : ChangeSpec := { name := "gainNear", fn := fun _ => fun
  | [d] => { results := [.lit (.bool false)], args := [d] }
  | _ => none }
def GainNearWrongFalsely : Prop := gainNearRow.holds Try.pinned (OpenSpec.ofChange gainNearWrong)

/-- 'madrigallaw8.GainReads': WHATEVER THE INPUT: true; the input reads as it did. -/
def gainReadsSpec : ChangeSpec := { name := "gainReads", fn := fun _ => fun
  | [d1, d2, d3, d4, d5] => { results := [.lit (.bool true)], args := [d1, d2, d3, d4, d5] }
  | _ => none }
def gainReadsRow : OpenClaim := { program := "ytlbdcahecabfkaa", sum := "4e96bda72b18c593e5ce16d247f4d11795cc4f5c1363e7bc0f5e971204964859", func := "madrigal/madrigallaw8.GainReads", spec := "gainReads", unfollowed := true, recurses := true, apart := false }
def GainReadsSaid : Prop := gainReadsRow.holds Try.pinned (OpenSpec.ofChange gainReadsSpec)

/-- ITS FALSE NEIGHBOUR: 'it returns false'. Refute it at one input. -/
def gainReadsWrong : ChangeSpec := { name := "gainReads", fn := fun _ => fun
  | [d1, d2, d3, d4, d5] => { results := [.lit (.bool false)], args := [d1, d2, d3, d4, d5] }
  | _ => none }
def GainReadsWrongFalsely : Prop := gainReadsRow.holds Try.pinned (OpenSpec.ofChange gainReadsWrong)

/-- 'madrigallaw9.PulseKnown': WHATEVER THE INPUT: true; the input reads as it did. -/
def pulseKnownSpec : ChangeSpec := { name := "pulseKnown", fn := fun _ => fun
  | [] => { results := [.lit (.bool true)], args := [] }
  | _ => none }
def pulseKnownRow : OpenClaim := { program := "ytlbdcahecabfkaa", sum := "4e96bda72b18c593e5ce16d247f4d11795cc4f5c1363e7bc0f5e971204964859", func := "madrigal/madrigallaw9.PulseKnown", spec := "pulseKnown", unfollowed := true, recurses := true, apart := false }
def PulseKnownSaid : Prop := pulseKnownRow.holds Try.pinned (OpenSpec.ofChange pulseKnownSpec)

/-- ITS FALSE NEIGHBOUR: 'it returns false'. Refute it at one input. -/
def pulseKnownWrong : ChangeSpec := { name := "pulseKnown", fn := fun _ => fun
  | [] => { results := [.lit (.bool false)], args := [] }
  | _ => none }
def PulseKnownWrongFalsely : Prop := pulseKnownRow.holds Try.pinned (OpenSpec.ofChange pulseKnownWrong)

/-- 'madrigallaw9.PulseBack': WHATEVER THE INPUT: true; the input reads as it did. -/
def pulseBackSpec : ChangeSpec := { name := "pulseBack", fn := fun _ => fun
  | [d] => { results := [.lit (.bool true)], args := [d] }
  | _ => none }
def pulseBackRow : OpenClaim := { program := "ytlbdcahecabfkaa", sum := "4e96bda72b18c593e5ce16d247f4d11795cc4f5c1363e7bc0f5e971204964859", func := "madrigal/madrigallaw9.PulseBack", spec := "pulseBack", unfollowed := true, recurses := true, apart := false }
def PulseBackSaid : Prop := pulseBackRow.holds Try.pinned (OpenSpec.ofChange pulseBackSpec)

/-- ITS FALSE NEIGHBOUR: 'it returns false'. Refute it at one input. -/
def pulseBackWrong : ChangeSpec := { name := "pulseBack", fn := fun _ => fun
  | [d] => { results := [.lit (.bool false)], args := [d] }
  | _ => none }
def PulseBackWrongFalsely : Prop := pulseBackRow.holds Try.pinned (OpenSpec.ofChange pulseBackWrong)

/-- 'madrigallaw9.PulseFewer': WHATEVER THE INPUT: true; the input reads as it did. -/
def pulseFewerSpec : ChangeSpec := { name := "pulseFewer", fn := fun _ => fun
  | [d1, d2] => { results := [.lit (.bool true)], args := [d1, d2] }
  | _ => none }
def pulseFewerRow : OpenClaim := { program := "ytlbdcahecabfkaa", sum := "4e96bda72b18c593e5ce16d247f4d11795cc4f5c1363e7bc0f5e971204964859", func := "madrigal/madrigallaw9.PulseFewer", spec := "pulseFewer", unfollowed := true, recurses := true, apart := false }
def PulseFewerSaid : Prop := pulseFewerRow.holds Try.pinned (OpenSpec.ofChange pulseFewerSpec)

/-- ITS FALSE NEIGHBOUR: 'it returns false'. Refute it at one input. -/
def pulseFewerWrong : ChangeSpec := { name := "pulseFewer", fn := fun _ => fun
  | [d1, d2] => { results := [.lit (.bool false)], args := [d1, d2] }
  | _ => none }
def PulseFewerWrongFalsely : Prop := pulseFewerRow.holds Try.pinned (OpenSpec.ofChange pulseFewerWrong)

/-- 'madrigallaw9.PulseLeast': WHATEVER THE INPUT: true; the input reads as it did. -/
def pulseLeastSpec : ChangeSpec := { name := "pulseLeast", fn := fun _ => fun
  | [d1, d2, d3] => { results := [.lit (.bool true)], args := [d1, d2, d3] }
  | _ => none }
def pulseLeastRow : OpenClaim := { program := "ytlbdcahecabfkaa", sum := "4e96bda72b18c593e5ce16d247f4d11795cc4f5c1363e7bc0f5e971204964859", func := "madrigal/madrigallaw9.PulseLeast", spec := "pulseLeast", unfollowed := true, recurses := true, apart := false }
def PulseLeastSaid : Prop := pulseLeastRow.holds Try.pinned (OpenSpec.ofChange pulseLeastSpec)

/-- ITS FALSE NEIGHBOUR: 'it returns false'. Refute it at one input. -/
def pulseLeastWrong : ChangeSpec := { name := "pulseLeast", fn := fun _ => fun
  | [d1, d2, d3] => { results := [.lit (.bool false)], args := [d1, d2, d3] }
  | _ => none }
def PulseLeastWrongFalsely : Prop := pulseLeastRow.holds Try.pinned (OpenSpec.ofChange pulseLeastWrong)

/-- 'madrigallaw9.PulseSilent': WHATEVER THE INPUT: true; the input reads as it did. -/
def pulseSilentSpec : ChangeSpec := { name := "pulseSilent", fn := fun _ => fun
  | [d1, d2, d3] => { results := [.lit (.bool true)], args := [d1, d2, d3] }
  | _ => none }
def pulseSilentRow : OpenClaim := { program := "ytlbdcahecabfkaa", sum := "4e96bda72b18c593e5ce16d247f4d11795cc4f5c1363e7bc0f5e971204964859", func := "madrigal/madrigallaw9.PulseSilent", spec := "pulseSilent", unfollowed := true, recurses := true, apart := false }
def PulseSilentSaid : Prop := pulseSilentRow.holds Try.pinned (OpenSpec.ofChange pulseSilentSpec)

/-- ITS FALSE NEIGHBOUR: 'it returns false'. Refute it at one input. -/
def pulseSilentWrong : ChangeSpec := { name := "pulseSilent", fn := fun _ => fun
  | [d1, d2, d3] => { results := [.lit (.bool false)], args := [d1, d2, d3] }
  | _ => none }
def PulseSilentWrongFalsely : Prop := pulseSilentRow.holds Try.pinned (OpenSpec.ofChange pulseSilentWrong)

/-- 'madrigallaw9.PulseReads': WHATEVER THE INPUT: true; the input reads as it did. -/
def pulseReadsSpec : ChangeSpec := { name := "pulseReads", fn := fun _ => fun
  | [d1, d2] => { results := [.lit (.bool true)], args := [d1, d2] }
  | _ => none }
def pulseReadsRow : OpenClaim := { program := "ytlbdcahecabfkaa", sum := "4e96bda72b18c593e5ce16d247f4d11795cc4f5c1363e7bc0f5e971204964859", func := "madrigal/madrigallaw9.PulseReads", spec := "pulseReads", unfollowed := true, recurses := true, apart := false }
def PulseReadsSaid : Prop := pulseReadsRow.holds Try.pinned (OpenSpec.ofChange pulseReadsSpec)

/-- ITS FALSE NEIGHBOUR: 'it returns false'. Refute it at one input. -/
def pulseReadsWrong : ChangeSpec := { name := "pulseReads", fn := fun _ => fun
  | [d1, d2] => { results := [.lit (.bool false)], args := [d1, d2] }
  | _ => none }
def PulseReadsWrongFalsely : Prop := pulseReadsRow.holds Try.pinned (OpenSpec.ofChange pulseReadsWrong)

/-- 'madrigallaw20.ShapeKnown': WHATEVER THE INPUT: true; the input reads as it did. -/
def shapeKnownSpec : ChangeSpec := { name := "shapeKnown", fn := fun _ => fun
  | [] => { results := [.lit (.bool true)], args := [] }
  | _ => none }
def shapeKnownRow : OpenClaim := { program := "ytlbdcahecabfkaa", sum := "4e96bda72b18c593e5ce16d247f4d11795cc4f5c1363e7bc0f5e971204964859", func := "madrigal/madrigallaw20.ShapeKnown", spec := "shapeKnown", unfollowed := true, recurses := true, apart := false }
def ShapeKnownSaid : Prop := shapeKnownRow.holds Try.pinned (OpenSpec.ofChange shapeKnownSpec)

/-- ITS FALSE NEIGHBOUR: 'it returns false'. Refute it at one input. -/
def shapeKnownWrong : ChangeSpec := { name := "shapeKnown", fn := fun _ => fun
  | [] => { results := [.lit (.bool false)], args := [] }
  | _ => none }
def ShapeKnownWrongFalsely : Prop := shapeKnownRow.holds Try.pinned (OpenSpec.ofChange shapeKnownWrong)

/-- 'madrigallaw20.ShapeNoise': WHATEVER THE INPUT: true; the input reads as it did. -/
def shapeNoiseSpec : ChangeSpec := { name := "shapeNoise", fn := fun _ => fun
  | [d1, d2, d3] => { results := [.lit (.bool true)], args := [d1, d2, d3] }
  | _ => none }
def shapeNoiseRow : OpenClaim := { program := "ytlbdcahecabfkaa", sum := "4e96bda72b18c593e5ce16d247f4d11795cc4f5c1363e7bc0f5e971204964859", func := "madrigal/madrigallaw20.ShapeNoise", spec := "shapeNoise", unfollowed := true, recurses := true, apart := false }
def ShapeNoiseSaid : Prop := shapeNoiseRow.holds Try.pinned (OpenSpec.ofChange shapeNoiseSpec)

/-- ITS FALSE NEIGHBOUR: 'it returns false'. Refute it at one input. -/
def shapeNoiseWrong : ChangeSpec := { name := "shapeNoise", fn := fun _ => fun
  | [d1, d2, d3] => { results := [.lit (.bool false)], args := [d1, d2, d3] }
  | _ => none }
def ShapeNoiseWrongFalsely : Prop := shapeNoiseRow.holds Try.pinned (OpenSpec.ofChange shapeNoiseWrong)

/-- 'madrigallaw20.ShapeFills': WHATEVER THE INPUT: true; the input reads as it did. -/
def shapeFillsSpec : ChangeSpec := { name := "shapeFills", fn := fun _ => fun
  | [d1, d2] => { results := [.lit (.bool true)], args := [d1, d2] }
  | _ => none }
def shapeFillsRow : OpenClaim := { program := "ytlbdcahecabfkaa", sum := "4e96bda72b18c593e5ce16d247f4d11795cc4f5c1363e7bc0f5e971204964859", func := "madrigal/madrigallaw20.ShapeFills", spec := "shapeFills", unfollowed := true, recurses := true, apart := false }
def ShapeFillsSaid : Prop := shapeFillsRow.holds Try.pinned (OpenSpec.ofChange shapeFillsSpec)

/-- ITS FALSE NEIGHBOUR: 'it returns false'. Refute it at one input. -/
def shapeFillsWrong : ChangeSpec := { name := "shapeFills", fn := fun _ => fun
  | [d1, d2] => { results := [.lit (.bool false)], args := [d1, d2] }
  | _ => none }
def ShapeFillsWrongFalsely : Prop := shapeFillsRow.holds Try.pinned (OpenSpec.ofChange shapeFillsWrong)

/-- 'madrigallaw20.ShapeBack': WHATEVER THE INPUT: true; the input reads as it did. -/
def shapeBackSpec : ChangeSpec := { name := "shapeBack", fn := fun _ => fun
  | [d1, d2, d3, d4] => { results := [.lit (.bool true)], args := [d1, d2, d3, d4] }
  | _ => none }
def shapeBackRow : OpenClaim := { program := "ytlbdcahecabfkaa", sum := "4e96bda72b18c593e5ce16d247f4d11795cc4f5c1363e7bc0f5e971204964859", func := "madrigal/madrigallaw20.ShapeBack", spec := "shapeBack", unfollowed := true, recurses := true, apart := false }
def ShapeBackSaid : Prop := shapeBackRow.holds Try.pinned (OpenSpec.ofChange shapeBackSpec)

/-- ITS FALSE NEIGHBOUR: 'it returns false'. Refute it at one input. -/
def shapeBackWrong : ChangeSpec := { name := "shapeBack", fn := fun _ => fun
  | [d1, d2, d3, d4] => { results := [.lit (.bool false)], args := [d1, d2, d3, d4] }
  | _ => none }
def ShapeBackWrongFalsely : Prop := shapeBackRow.holds Try.pinned (OpenSpec.ofChange shapeBackWrong)

/-- 'madrigallaw20.ShapeSigns': WHATEVER THE INPUT: true; the input reads as it did. -/
def shapeSignsSpec : ChangeSpec := { name := "shapeSigns", fn := fun _ => fun
  | [d1, d2] => { results := [.lit (.bool true)], args := [d1, d2] }
  | _ => none }
def shapeSignsRow : OpenClaim := { program := "ytlbdcahecabfkaa", sum := "4e96bda72b18c593e5ce16d247f4d11795cc4f5c1363e7bc0f5e971204964859", func := "madrigal/madrigallaw20.ShapeSigns", spec := "shapeSigns", unfollowed := true, recurses := true, apart := false }
def ShapeSignsSaid : Prop := shapeSignsRow.holds Try.pinned (OpenSpec.ofChange shapeSignsSpec)

/-- ITS FALSE NEIGHBOUR: 'it returns false'. Refute it at one input. -/
def shapeSignsWrong : ChangeSpec := { name := "shapeSigns", fn := fun _ => fun
  | [d1, d2] => { results := [.lit (.bool false)], args := [d1, d2] }
  | _ => none }
def ShapeSignsWrongFalsely : Prop := shapeSignsRow.holds Try.pinned (OpenSpec.ofChange shapeSignsWrong)

/-- 'madrigallaw20.ShapeReads': WHATEVER THE INPUT: true; the input reads as it did. -/
def shapeReadsSpec : ChangeSpec := { name := "shapeReads", fn := fun _ => fun
  | [d1, d2, d3, d4, d5] => { results := [.lit (.bool true)], args := [d1, d2, d3, d4, d5] }
  | _ => none }
def shapeReadsRow : OpenClaim := { program := "ytlbdcahecabfkaa", sum := "4e96bda72b18c593e5ce16d247f4d11795cc4f5c1363e7bc0f5e971204964859", func := "madrigal/madrigallaw20.ShapeReads", spec := "shapeReads", unfollowed := true, recurses := true, apart := false }
def ShapeReadsSaid : Prop := shapeReadsRow.holds Try.pinned (OpenSpec.ofChange shapeReadsSpec)

/-- ITS FALSE NEIGHBOUR: 'it returns false'. Refute it at one input. -/
def shapeReadsWrong : ChangeSpec := { name := "shapeReads", fn := fun _ => fun
  | [d1, d2, d3, d4, d5] => { results := [.lit (.bool false)], args := [d1, d2, d3, d4, d5] }
  | _ => none }
def ShapeReadsWrongFalsely : Prop := shapeReadsRow.holds Try.pinned (OpenSpec.ofChange shapeReadsWrong)

/-- 'madrigallaw20.ShapeEmpty': WHATEVER THE INPUT: true; the input reads as it did. -/
def shapeEmptySpec : ChangeSpec := { name := "shapeEmpty", fn := fun _ => fun
  | [d1, d2, d3, d4] => { results := [.lit (.bool true)], args := [d1, d2, d3, d4] }
  | _ => none }
def shapeEmptyRow : OpenClaim := { program := "ytlbdcahecabfkaa", sum := "4e96bda72b18c593e5ce16d247f4d11795cc4f5c1363e7bc0f5e971204964859", func := "madrigal/madrigallaw20.ShapeEmpty", spec := "shapeEmpty", unfollowed := true, recurses := true, apart := false }
def ShapeEmptySaid : Prop := shapeEmptyRow.holds Try.pinned (OpenSpec.ofChange shapeEmptySpec)

/-- ITS FALSE NEIGHBOUR: 'it returns false'. Refute it at one input. -/
def shapeEmptyWrong : ChangeSpec := { name := "shapeEmpty", fn := fun _ => fun
  | [d1, d2, d3, d4] => { results := [.lit (.bool false)], args := [d1, d2, d3, d4] }
  | _ => none }
def ShapeEmptyWrongFalsely : Prop := shapeEmptyRow.holds Try.pinned (OpenSpec.ofChange shapeEmptyWrong)

/- THE SECOND FORM. 'bulk': how many values and letters a reading holds, each counted each time it is reached (what is shared counts as often as it is met; a slice's spare places count too). A statement '..UptoSaid' is the law's where the arguments, and the package variables that the reading takes, are together of bulk at most 1048576: NARROWER than '..Said'. Prove '..Said' where nothing that the law and all that it calls make is longer than what came in: it says more and counts as full. Else prove '..UptoSaid'. A law counts once. -/
mutual
def uptoBulk {H : Type} : DataW H → Nat
  | .lit (.string bytes) => bytes.length + 1
  | .lit _ => 1
  | .nil => 1
  | .ptr d => uptoBulk d + 1
  | .slice elems spare => uptoBulkAll elems + uptoBulkAll spare + 1
  | .agg parts => uptoBulkAll parts + 1
  | .iface _ d => uptoBulk d + 1
  | .map entries => uptoBulkEntries entries + 1
  | .held _ => 1
def uptoBulkAll {H : Type} : List (DataW H) → Nat
  | [] => 0
  | d :: r => uptoBulk d + uptoBulkAll r
def uptoBulkEntries {H : Type} : List (Lit × DataW H) → Nat
  | [] => 0
  | x :: r => uptoBulkEntry x + uptoBulkEntries r
def uptoBulkEntry {H : Type} : Lit × DataW H → Nat
  | (.string bytes, d) => bytes.length + uptoBulk d + 1
  | (_, d) => uptoBulk d + 1
 end
def uptoSmall : (H : Type) → List (DataW H) → Bool := fun _ ds => decide (uptoBulkAll ds ≤ 1048576)
def OpenSpec.upto (s : _root_.Go.ChangeSpec) : _root_.Go.OpenSpec := { _root_.Go.OpenSpec.ofChange s with cond := some uptoSmall }

/-- 'madrigallaw4.RencBack', WHERE WHAT IT READS IS OF BULK AT MOST 1048576: true; the input reads as it did. -/
def rencBackUptoRow : OpenClaim := { program := "ytlbdcahecabfkaa", sum := "4e96bda72b18c593e5ce16d247f4d11795cc4f5c1363e7bc0f5e971204964859", func := "madrigal/madrigallaw4.RencBack", spec := "rencBack", unfollowed := true, recurses := true, apart := false, narrowed := true }
def RencBackUptoSaid : Prop := rencBackUptoRow.holds Try.pinned (OpenSpec.upto rencBackSpec)

/-- 'madrigallaw4.RencTight', WHERE WHAT IT READS IS OF BULK AT MOST 1048576: true; the input reads as it did. -/
def rencTightUptoRow : OpenClaim := { program := "ytlbdcahecabfkaa", sum := "4e96bda72b18c593e5ce16d247f4d11795cc4f5c1363e7bc0f5e971204964859", func := "madrigal/madrigallaw4.RencTight", spec := "rencTight", unfollowed := true, recurses := true, apart := false, narrowed := true }
def RencTightUptoSaid : Prop := rencTightUptoRow.holds Try.pinned (OpenSpec.upto rencTightSpec)

/-- 'madrigallaw4.RencCopies', WHERE WHAT IT READS IS OF BULK AT MOST 1048576: true; the input reads as it did. -/
def rencCopiesUptoRow : OpenClaim := { program := "ytlbdcahecabfkaa", sum := "4e96bda72b18c593e5ce16d247f4d11795cc4f5c1363e7bc0f5e971204964859", func := "madrigal/madrigallaw4.RencCopies", spec := "rencCopies", unfollowed := true, recurses := true, apart := false, narrowed := true }
def RencCopiesUptoSaid : Prop := rencCopiesUptoRow.holds Try.pinned (OpenSpec.upto rencCopiesSpec)

/-- 'madrigallaw8.GainKnown', WHERE WHAT IT READS IS OF BULK AT MOST 1048576: true; the input reads as it did. -/
def gainKnownUptoRow : OpenClaim := { program := "ytlbdcahecabfkaa", sum := "4e96bda72b18c593e5ce16d247f4d11795cc4f5c1363e7bc0f5e971204964859", func := "madrigal/madrigallaw8.GainKnown", spec := "gainKnown", unfollowed := true, recurses := true, apart := false, narrowed := true }
def GainKnownUptoSaid : Prop := gainKnownUptoRow.holds Try.pinned (OpenSpec.upto gainKnownSpec)

/-- 'madrigallaw8.GainBack', WHERE WHAT IT READS IS OF BULK AT MOST 1048576: true; the input reads as it did. -/
def gainBackUptoRow : OpenClaim := { program := "ytlbdcahecabfkaa", sum := "4e96bda72b18c593e5ce16d247f4d11795cc4f5c1363e7bc0f5e971204964859", func := "madrigal/madrigallaw8.GainBack", spec := "gainBack", unfollowed := true, recurses := true, apart := false, narrowed := true }
def GainBackUptoSaid : Prop := gainBackUptoRow.holds Try.pinned (OpenSpec.upto gainBackSpec)

/-- 'madrigallaw8.GainRises', WHERE WHAT IT READS IS OF BULK AT MOST 1048576: true; the input reads as it did. -/
def gainRisesUptoRow : OpenClaim := { program := "ytlbdcahecabfkaa", sum := "4e96bda72b18c593e5ce16d247f4d11795cc4f5c1363e7bc0f5e971204964859", func := "madrigal/madrigallaw8.GainRises", spec := "gainRises", unfollowed := true, recurses := true, apart := false, narrowed := true }
def GainRisesUptoSaid : Prop := gainRisesUptoRow.holds Try.pinned (OpenSpec.upto gainRisesSpec)

/-- 'madrigallaw8.GainNear', WHERE WHAT IT READS IS OF BULK AT MOST 1048576: true; the input reads as it did. -/
def gainNearUptoRow : OpenClaim := { program := "ytlbdcahecabfkaa", sum := "4e96bda72b18c593e5ce16d247f4d11795cc4f5c1363e7bc0f5e971204964859", func := "madrigal/madrigallaw8.GainNear", spec := "gainNear", unfollowed := true, recurses := true, apart := false, narrowed := true }
def GainNearUptoSaid : Prop := gainNearUptoRow.holds Try.pinned (OpenSpec.upto gainNearSpec)

/-- 'madrigallaw8.GainReads', WHERE WHAT IT READS IS OF BULK AT MOST 1048576: true; the input reads as it did. -/
def gainReadsUptoRow : OpenClaim := { program := "ytlbdcahecabfkaa", sum := "4e96bda72b18c593e5ce16d247f4d11795cc4f5c1363e7bc0f5e971204964859", func := "madrigal/madrigallaw8.GainReads", spec := "gainReads", unfollowed := true, recurses := true, apart := false, narrowed := true }
def GainReadsUptoSaid : Prop := gainReadsUptoRow.holds Try.pinned (OpenSpec.upto gainReadsSpec)

/-- 'madrigallaw9.PulseKnown', WHERE WHAT IT READS IS OF BULK AT MOST 1048576: true; the input reads as it did. -/
def pulseKnownUptoRow : OpenClaim := { program := "ytlbdcahecabfkaa", sum := "4e96bda72b18c593e5ce16d247f4d11795cc4f5c1363e7bc0f5e971204964859", func := "madrigal/madrigallaw9.PulseKnown", spec := "pulseKnown", unfollowed := true, recurses := true, apart := false, narrowed := true }
def PulseKnownUptoSaid : Prop := pulseKnownUptoRow.holds Try.pinned (OpenSpec.upto pulseKnownSpec)

/-- 'madrigallaw9.PulseBack', WHERE WHAT IT READS IS OF BULK AT MOST 1048576: true; the input reads as it did. -/
def pulseBackUptoRow : OpenClaim := { program := "ytlbdcahecabfkaa", sum := "4e96bda72b18c593e5ce16d247f4d11795cc4f5c1363e7bc0f5e971204964859", func := "madrigal/madrigallaw9.PulseBack", spec := "pulseBack", unfollowed := true, recurses := true, apart := false, narrowed := true }
def PulseBackUptoSaid : Prop := pulseBackUptoRow.holds Try.pinned (OpenSpec.upto pulseBackSpec)

/-- 'madrigallaw9.PulseFewer', WHERE WHAT IT READS IS OF BULK AT MOST 1048576: true; the input reads as it did. -/
def pulseFewerUptoRow : OpenClaim := { program := "ytlbdcahecabfkaa", sum := "4e96bda72b18c593e5ce16d247f4d11795cc4f5c1363e7bc0f5e971204964859", func := "madrigal/madrigallaw9.PulseFewer", spec := "pulseFewer", unfollowed := true, recurses := true, apart := false, narrowed := true }
def PulseFewerUptoSaid : Prop := pulseFewerUptoRow.holds Try.pinned (OpenSpec.upto pulseFewerSpec)

/-- 'madrigallaw9.PulseLeast', WHERE WHAT IT READS IS OF BULK AT MOST 1048576: true; the input reads as it did. -/
def pulseLeastUptoRow : OpenClaim := { program := "ytlbdcahecabfkaa", sum := "4e96bda72b18c593e5ce16d247f4d11795cc4f5c1363e7bc0f5e971204964859", func := "madrigal/madrigallaw9.PulseLeast", spec := "pulseLeast", unfollowed := true, recurses := true, apart := false, narrowed := true }
def PulseLeastUptoSaid : Prop := pulseLeastUptoRow.holds Try.pinned (OpenSpec.upto pulseLeastSpec)

/-- 'madrigallaw9.PulseSilent', WHERE WHAT IT READS IS OF BULK AT MOST 1048576: true; the input reads as it did. -/
def pulseSilentUptoRow : OpenClaim := { program := "ytlbdcahecabfkaa", sum := "4e96bda72b18c593e5ce16d247f4d11795cc4f5c1363e7bc0f5e971204964859", func := "madrigal/madrigallaw9.PulseSilent", spec := "pulseSilent", unfollowed := true, recurses := true, apart := false, narrowed := true }
def PulseSilentUptoSaid : Prop := pulseSilentUptoRow.holds Try.pinned (OpenSpec.upto pulseSilentSpec)

/-- 'madrigallaw9.PulseReads', WHERE WHAT IT READS IS OF BULK AT MOST 1048576: true; the input reads as it did. -/
def pulseReadsUptoRow : OpenClaim := { program := "ytlbdcahecabfkaa", sum := "4e96bda72b18c593e5ce16d247f4d11795cc4f5c1363e7bc0f5e971204964859", func := "madrigal/madrigallaw9.PulseReads", spec := "pulseReads", unfollowed := true, recurses := true, apart := false, narrowed := true }
def PulseReadsUptoSaid : Prop := pulseReadsUptoRow.holds Try.pinned (OpenSpec.upto pulseReadsSpec)

/-- 'madrigallaw20.ShapeKnown', WHERE WHAT IT READS IS OF BULK AT MOST 1048576: true; the input reads as it did. -/
def shapeKnownUptoRow : OpenClaim := { program := "ytlbdcahecabfkaa", sum := "4e96bda72b18c593e5ce16d247f4d11795cc4f5c1363e7bc0f5e971204964859", func := "madrigal/madrigallaw20.ShapeKnown", spec := "shapeKnown", unfollowed := true, recurses := true, apart := false, narrowed := true }
def ShapeKnownUptoSaid : Prop := shapeKnownUptoRow.holds Try.pinned (OpenSpec.upto shapeKnownSpec)

/-- 'madrigallaw20.ShapeNoise', WHERE WHAT IT READS IS OF BULK AT MOST 1048576: true; the input reads as it did. -/
def shapeNoiseUptoRow : OpenClaim := { program := "ytlbdcahecabfkaa", sum := "4e96bda72b18c593e5ce16d247f4d11795cc4f5c1363e7bc0f5e971204964859", func := "madrigal/madrigallaw20.ShapeNoise", spec := "shapeNoise", unfollowed := true, recurses := true, apart := false, narrowed := true }
def ShapeNoiseUptoSaid : Prop := shapeNoiseUptoRow.holds Try.pinned (OpenSpec.upto shapeNoiseSpec)

/-- 'madrigallaw20.ShapeFills', WHERE WHAT IT READS IS OF BULK AT MOST 1048576: true; the input reads as it did. -/
def shapeFillsUptoRow : OpenClaim := { program := "ytlbdcahecabfkaa", sum := "4e96bda72b18c593e5ce16d247f4d11795cc4f5c1363e7bc0f5e971204964859", func := "madrigal/madrigallaw20.ShapeFills", spec := "shapeFills", unfollowed := true, recurses := true, apart := false, narrowed := true }
def ShapeFillsUptoSaid : Prop := shapeFillsUptoRow.holds Try.pinned (OpenSpec.upto shapeFillsSpec)

/-- 'madrigallaw20.ShapeBack', WHERE WHAT IT READS IS OF BULK AT MOST 1048576: true; the input reads as it did. -/
def shapeBackUptoRow : OpenClaim := { program := "ytlbdcahecabfkaa", sum := "4e96bda72b18c593e5ce16d247f4d11795cc4f5c1363e7bc0f5e971204964859", func := "madrigal/madrigallaw20.ShapeBack", spec := "shapeBack", unfollowed := true, recurses := true, apart := false, narrowed := true }
def ShapeBackUptoSaid : Prop := shapeBackUptoRow.holds Try.pinned (OpenSpec.upto shapeBackSpec)

/-- 'madrigallaw20.ShapeSigns', WHERE WHAT IT READS IS OF BULK AT MOST 1048576: true; the input reads as it did. -/
def shapeSignsUptoRow : OpenClaim := { program := "ytlbdcahecabfkaa", sum := "4e96bda72b18c593e5ce16d247f4d11795cc4f5c1363e7bc0f5e971204964859", func := "madrigal/madrigallaw20.ShapeSigns", spec := "shapeSigns", unfollowed := true, recurses := true, apart := false, narrowed := true }
def ShapeSignsUptoSaid : Prop := shapeSignsUptoRow.holds Try.pinned (OpenSpec.upto shapeSignsSpec)

/-- 'madrigallaw20.ShapeReads', WHERE WHAT IT READS IS OF BULK AT MOST 1048576: true; the input reads as it did. -/
def shapeReadsUptoRow : OpenClaim := { program := "ytlbdcahecabfkaa", sum := "4e96bda72b18c593e5ce16d247f4d11795cc4f5c1363e7bc0f5e971204964859", func := "madrigal/madrigallaw20.ShapeReads", spec := "shapeReads", unfollowed := true, recurses := true, apart := false, narrowed := true }
def ShapeReadsUptoSaid : Prop := shapeReadsUptoRow.holds Try.pinned (OpenSpec.upto shapeReadsSpec)

/-- 'madrigallaw20.ShapeEmpty', WHERE WHAT IT READS IS OF BULK AT MOST 1048576: true; the input reads as it did. -/
def shapeEmptyUptoRow : OpenClaim := { program := "ytlbdcahecabfkaa", sum := "4e96bda72b18c593e5ce16d247f4d11795cc4f5c1363e7bc0f5e971204964859", func := "madrigal/madrigallaw20.ShapeEmpty", spec := "shapeEmpty", unfollowed := true, recurses := true, apart := false, narrowed := true }
def ShapeEmptyUptoSaid : Prop := shapeEmptyUptoRow.holds Try.pinned (OpenSpec.upto shapeEmptySpec)

end Rows
end Go.Proofs.Ytlbdcahecabfkaa
