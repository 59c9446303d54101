/-
  No cell of these rows narrows 'for every input' (looked for: loops, veiled, ifaces, maps, wideKeys, modest, calm, conditions, laid).
  DERIVED. THE GIVEN ROWS OF THIS SEAT. 7 by the template 'for every input the law returns true; each argument reads behind the call as it read before'; 0 by the template 'total and deterministic' (their statements: YtghbobmkkbdhpaaTotals.lean).
  GIVEN WITH THE SEED: the statements are not yours to turn. If you find one false, say at which input.
  Laid BY PROGRAM, IN A SANDBOX (cutbox-rows.mjs): the forced cells as the released guide's own fill.sh prints them over the translation a20c097ff4984c9e… (all of the seat's roots in one cut). By AI agents, Wed Nov 11 2026. No macro, syntax, notation, axiom, sorry.
-/
import Derived.Test.YtghbobmkkbdhpaaChecked
import GoSem.Claim
import GoSem.ClaimJoined
import GoSem.ClaimMapViews
import Derived.JoinedTies
import Derived.KernelRfl
namespace Go.Proofs.Ytghbobmkkbdhpaa
/- THE CELL 'sum', in the pinned program and in every row, IS THE sha256 OF THE DUMP (.gsa) THAT YtghbobmkkbdhpaaProg.lean LOADS. Nothing in Lean hashes anything: it is a label: what it is worth is what the hold of that sum in a sandbox is worth. -/
noncomputable def Try.pinned : Pinned := { name := "ytghbobmkkbdhpaa", sum := "a20c097ff4984c9e001c8be9618dcbb2451fd9617ef6ff5cb25c7e7f1d6487ad", checked := Try.checked }
namespace Rows
def none {H : Type} : Left H := { results := [], args := [] }

/-- 'madrigallaw20.ShapeKnown': WHATEVER THE INPUT: true; the input reads as it did. -/
def shapeKnownSpec : ChangeSpec := { name := "shapeKnown", fn := fun _ => fun
  | [] => { results := [.lit (.bool true)], args := [] }
  | _ => none }
def shapeKnownRow : OpenClaim := { program := "ytghbobmkkbdhpaa", sum := "a20c097ff4984c9e001c8be9618dcbb2451fd9617ef6ff5cb25c7e7f1d6487ad", func := "madrigal/madrigallaw20.ShapeKnown", spec := "shapeKnown", unfollowed := true, recurses := true, apart := false }
def ShapeKnownSaid : Prop := shapeKnownRow.holds Try.pinned (OpenSpec.ofChange shapeKnownSpec)

/-- ITS FALSE NEIGHBOUR: 'it returns false'. Refute it at one input. -/
def shapeKnownWrong : ChangeSpec := { name := "shapeKnown", fn := fun _ => fun
  | [] => { results := [.lit (.bool false)], args := [] }
  | _ => none }
def ShapeKnownWrongFalsely : Prop := shapeKnownRow.holds Try.pinned (OpenSpec.ofChange shapeKnownWrong)

/-- 'madrigallaw20.ShapeNoise': WHATEVER THE INPUT: true; the input reads as it did. -/
def shapeNoiseSpec : ChangeSpec := { name := "shapeNoise", fn := fun _ => fun
  | [d1, d2, d3] => { results := [.lit (.bool true)], args := [d1, d2, d3] }
  | _ => none }
def shapeNoiseRow : OpenClaim := { program := "ytghbobmkkbdhpaa", sum := "a20c097ff4984c9e001c8be9618dcbb2451fd9617ef6ff5cb25c7e7f1d6487ad", func := "madrigal/madrigallaw20.ShapeNoise", spec := "shapeNoise", unfollowed := true, recurses := true, apart := false }
def ShapeNoiseSaid : Prop := shapeNoiseRow.holds Try.pinned (OpenSpec.ofChange shapeNoiseSpec)

/-- ITS FALSE NEIGHBOUR: 'it returns false'. Refute it at one input. -/
def shapeNoiseWrong : ChangeSpec := { name := "shapeNoise", fn := fun _ => fun
  | [d1, d2, d3] => { results := [.lit (.bool false)], args := [d1, d2, d3] }
  | _ => none }
def ShapeNoiseWrongFalsely : Prop := shapeNoiseRow.holds Try.pinned (OpenSpec.ofChange shapeNoiseWrong)

/-- 'madrigallaw20.ShapeFills': WHATEVER THE INPUT: true; the input reads as it did. -/
def shapeFillsSpec : ChangeSpec := { name := "shapeFills", fn := fun _ => fun
  | [d1, d2] => { results := [.lit (.bool true)], args := [d1, d2] }
  | _ => none }
def shapeFillsRow : OpenClaim := { program := "ytghbobmkkbdhpaa", sum := "a20c097ff4984c9e001c8be9618dcbb2451fd9617ef6ff5cb25c7e7f1d6487ad", func := "madrigal/madrigallaw20.ShapeFills", spec := "shapeFills", unfollowed := true, recurses := true, apart := false }
def ShapeFillsSaid : Prop := shapeFillsRow.holds Try.pinned (OpenSpec.ofChange shapeFillsSpec)

/-- ITS FALSE NEIGHBOUR: 'it returns false'. Refute it at one input. -/
def shapeFillsWrong : ChangeSpec := { name := "shapeFills", fn := fun _ => fun
  | [d1, d2] => { results := [.lit (.bool false)], args := [d1, d2] }
  | _ => none }
def ShapeFillsWrongFalsely : Prop := shapeFillsRow.holds Try.pinned (OpenSpec.ofChange shapeFillsWrong)

/-- 'madrigallaw20.ShapeBack': WHATEVER THE INPUT: true; the input reads as it did. -/
def shapeBackSpec : ChangeSpec := { name := "shapeBack", fn := fun _ => fun
  | [d1, d2, d3, d4] => { results := [.lit (.bool true)], args := [d1, d2, d3, d4] }
  | _ => none }
def shapeBackRow : OpenClaim := { program := "ytghbobmkkbdhpaa", sum := "a20c097ff4984c9e001c8be9618dcbb2451fd9617ef6ff5cb25c7e7f1d6487ad", func := "madrigal/madrigallaw20.ShapeBack", spec := "shapeBack", unfollowed := true, recurses := true, apart := false }
def ShapeBackSaid : Prop := shapeBackRow.holds Try.pinned (OpenSpec.ofChange shapeBackSpec)

/-- ITS FALSE NEIGHBOUR: 'it returns false'. Refute it at one input. -/
def shapeBackWrong : ChangeSpec := { name := "shapeBack", fn := fun _ => fun
  | [d1, d2, d3, d4] => { results := [.lit (.bool false)], args := [d1, d2, d3, d4] }
  | _ => none }
def ShapeBackWrongFalsely : Prop := shapeBackRow.holds Try.pinned (OpenSpec.ofChange shapeBackWrong)

/-- 'madrigallaw20.ShapeSigns': WHATEVER THE INPUT: true; the input reads as it did. -/
def shapeSignsSpec : ChangeSpec := { name := "shapeSigns", fn := fun _ => fun
  | [d1, d2] => { results := [.lit (.bool true)], args := [d1, d2] }
  | _ => none }
def shapeSignsRow : OpenClaim := { program := "ytghbobmkkbdhpaa", sum := "a20c097ff4984c9e001c8be9618dcbb2451fd9617ef6ff5cb25c7e7f1d6487ad", func := "madrigal/madrigallaw20.ShapeSigns", spec := "shapeSigns", unfollowed := true, recurses := true, apart := false }
def ShapeSignsSaid : Prop := shapeSignsRow.holds Try.pinned (OpenSpec.ofChange shapeSignsSpec)

/-- ITS FALSE NEIGHBOUR: 'it returns false'. Refute it at one input. -/
def shapeSignsWrong : ChangeSpec := { name := "shapeSigns", fn := fun _ => fun
  | [d1, d2] => { results := [.lit (.bool false)], args := [d1, d2] }
  | _ => none }
def ShapeSignsWrongFalsely : Prop := shapeSignsRow.holds Try.pinned (OpenSpec.ofChange shapeSignsWrong)

/-- 'madrigallaw20.ShapeReads': WHATEVER THE INPUT: true; the input reads as it did. -/
def shapeReadsSpec : ChangeSpec := { name := "shapeReads", fn := fun _ => fun
  | [d1, d2, d3, d4, d5] => { results := [.lit (.bool true)], args := [d1, d2, d3, d4, d5] }
  | _ => none }
def shapeReadsRow : OpenClaim := { program := "ytghbobmkkbdhpaa", sum := "a20c097ff4984c9e001c8be9618dcbb2451fd9617ef6ff5cb25c7e7f1d6487ad", func := "madrigal/madrigallaw20.ShapeReads", spec := "shapeReads", unfollowed := true, recurses := true, apart := false }
def ShapeReadsSaid : Prop := shapeReadsRow.holds Try.pinned (OpenSpec.ofChange shapeReadsSpec)

/-- ITS FALSE NEIGHBOUR: 'it returns false'. Refute it at one input. -/
def shapeReadsWrong : ChangeSpec := { name := "shapeReads", fn := fun _ => fun
  | [d1, d2, d3, d4, d5] => { results := [.lit (.bool false)], args := [d1, d2, d3, d4, d5] }
  | _ => none }
def ShapeReadsWrongFalsely : Prop := shapeReadsRow.holds Try.pinned (OpenSpec.ofChange shapeReadsWrong)

/-- 'madrigallaw20.ShapeEmpty': WHATEVER THE INPUT: true; the input reads as it did. -/
def shapeEmptySpec : ChangeSpec := { name := "shapeEmpty", fn := fun _ => fun
  | [d1, d2, d3, d4] => { results := [.lit (.bool true)], args := [d1, d2, d3, d4] }
  | _ => none }
def shapeEmptyRow : OpenClaim := { program := "ytghbobmkkbdhpaa", sum := "a20c097ff4984c9e001c8be9618dcbb2451fd9617ef6ff5cb25c7e7f1d6487ad", func := "madrigal/madrigallaw20.ShapeEmpty", spec := "shapeEmpty", unfollowed := true, recurses := true, apart := false }
def ShapeEmptySaid : Prop := shapeEmptyRow.holds Try.pinned (OpenSpec.ofChange shapeEmptySpec)

/-- ITS FALSE NEIGHBOUR: 'it returns false'. Refute it at one input. -/
def shapeEmptyWrong : ChangeSpec := { name := "shapeEmpty", fn := fun _ => fun
  | [d1, d2, d3, d4] => { results := [.lit (.bool false)], args := [d1, d2, d3, d4] }
  | _ => none }
def ShapeEmptyWrongFalsely : Prop := shapeEmptyRow.holds Try.pinned (OpenSpec.ofChange shapeEmptyWrong)

/- THE SECOND FORM. 'bulk': how many values and letters a reading holds, each counted each time it is reached (what is shared counts as often as it is met; a slice's spare places count too). A statement '..UptoSaid' is the law's where the arguments, and the package variables that the reading takes, are together of bulk at most 1048576: NARROWER than '..Said'. Prove '..Said' where nothing that the law and all that it calls make is longer than what came in: it says more and counts as full. Else prove '..UptoSaid'. A law counts once. -/
mutual
def uptoBulk {H : Type} : DataW H → Nat
  | .lit (.string bytes) => bytes.length + 1
  | .lit _ => 1
  | .nil => 1
  | .ptr d => uptoBulk d + 1
  | .slice elems spare => uptoBulkAll elems + uptoBulkAll spare + 1
  | .agg parts => uptoBulkAll parts + 1
  | .iface _ d => uptoBulk d + 1
  | .map entries => uptoBulkEntries entries + 1
  | .held _ => 1
def uptoBulkAll {H : Type} : List (DataW H) → Nat
  | [] => 0
  | d :: r => uptoBulk d + uptoBulkAll r
def uptoBulkEntries {H : Type} : List (Lit × DataW H) → Nat
  | [] => 0
  | x :: r => uptoBulkEntry x + uptoBulkEntries r
def uptoBulkEntry {H : Type} : Lit × DataW H → Nat
  | (.string bytes, d) => bytes.length + uptoBulk d + 1
  | (_, d) => uptoBulk d + 1
 end
def uptoSmall : (H : Type) → List (DataW H) → Bool := fun _ ds => decide (uptoBulkAll ds ≤ 1048576)
def OpenSpec.upto (s : _root_.Go.ChangeSpec) : _root_.Go.OpenSpec := { _root_.Go.OpenSpec.ofChange s with cond := some uptoSmall }

/-- 'madrigallaw20.ShapeKnown', WHERE WHAT IT READS IS OF BULK AT MOST 1048576: true; the input reads as it did. -/
def shapeKnownUptoRow : OpenClaim := { program := "ytghbobmkkbdhpaa", sum := "a20c097ff4984c9e001c8be9618dcbb2451fd9617ef6ff5cb25c7e7f1d6487ad", func := "madrigal/madrigallaw20.ShapeKnown", spec := "shapeKnown", unfollowed := true, recurses := true, apart := false, narrowed := true }
def ShapeKnownUptoSaid : Prop := shapeKnownUptoRow.holds Try.pinned (OpenSpec.upto shapeKnownSpec)

/-- 'madrigallaw20.ShapeNoise', WHERE WHAT IT READS IS OF BULK AT MOST 1048576: true; the input reads as it did. -/
def shapeNoiseUptoRow : OpenClaim := { program := "ytghbobmkkbdhpaa", sum := "a20c097ff4984c9e001c8be9618dcbb2451fd9617ef6ff5cb25c7e7f1d6487ad", func := "madrigal/madrigallaw20.ShapeNoise", spec := "shapeNoise", unfollowed := true, recurses := true, apart := false, narrowed := true }
def ShapeNoiseUptoSaid : Prop := shapeNoiseUptoRow.holds Try.pinned (OpenSpec.upto shapeNoiseSpec)

/-- 'madrigallaw20.ShapeFills', WHERE WHAT IT READS IS OF BULK AT MOST 1048576: true; the input reads as it did. -/
def shapeFillsUptoRow : OpenClaim := { program := "ytghbobmkkbdhpaa", sum := "a20c097ff4984c9e001c8be9618dcbb2451fd9617ef6ff5cb25c7e7f1d6487ad", func := "madrigal/madrigallaw20.ShapeFills", spec := "shapeFills", unfollowed := true, recurses := true, apart := false, narrowed := true }
def ShapeFillsUptoSaid : Prop := shapeFillsUptoRow.holds Try.pinned (OpenSpec.upto shapeFillsSpec)

/-- 'madrigallaw20.ShapeBack', WHERE WHAT IT READS IS OF BULK AT MOST 1048576: true; the input reads as it did. -/
def shapeBackUptoRow : OpenClaim := { program := "ytghbobmkkbdhpaa", sum := "a20c097ff4984c9e001c8be9618dcbb2451fd9617ef6ff5cb25c7e7f1d6487ad", func := "madrigal/madrigallaw20.ShapeBack", spec := "shapeBack", unfollowed := true, recurses := true, apart := false, narrowed := true }
def ShapeBackUptoSaid : Prop := shapeBackUptoRow.holds Try.pinned (OpenSpec.upto shapeBackSpec)

/-- 'madrigallaw20.ShapeSigns', WHERE WHAT IT READS IS OF BULK AT MOST 1048576: true; the input reads as it did. -/
def shapeSignsUptoRow : OpenClaim := { program := "ytghbobmkkbdhpaa", sum := "a20c097ff4984c9e001c8be9618dcbb2451fd9617ef6ff5cb25c7e7f1d6487ad", func := "madrigal/madrigallaw20.ShapeSigns", spec := "shapeSigns", unfollowed := true, recurses := true, apart := false, narrowed := true }
def ShapeSignsUptoSaid : Prop := shapeSignsUptoRow.holds Try.pinned (OpenSpec.upto shapeSignsSpec)

/-- 'madrigallaw20.ShapeReads', WHERE WHAT IT READS IS OF BULK AT MOST 1048576: true; the input reads as it did. -/
def shapeReadsUptoRow : OpenClaim := { program := "ytghbobmkkbdhpaa", sum := "a20c097ff4984c9e001c8be9618dcbb2451fd9617ef6ff5cb25c7e7f1d6487ad", func := "madrigal/madrigallaw20.ShapeReads", spec := "shapeReads", unfollowed := true, recurses := true, apart := false, narrowed := true }
def ShapeReadsUptoSaid : Prop := shapeReadsUptoRow.holds Try.pinned (OpenSpec.upto shapeReadsSpec)

/-- 'madrigallaw20.ShapeEmpty', WHERE WHAT IT READS IS OF BULK AT MOST 1048576: true; the input reads as it did. -/
def shapeEmptyUptoRow : OpenClaim := { program := "ytghbobmkkbdhpaa", sum := "a20c097ff4984c9e001c8be9618dcbb2451fd9617ef6ff5cb25c7e7f1d6487ad", func := "madrigal/madrigallaw20.ShapeEmpty", spec := "shapeEmpty", unfollowed := true, recurses := true, apart := false, narrowed := true }
def ShapeEmptyUptoSaid : Prop := shapeEmptyUptoRow.holds Try.pinned (OpenSpec.upto shapeEmptySpec)

end Rows
end Go.Proofs.Ytghbobmkkbdhpaa
