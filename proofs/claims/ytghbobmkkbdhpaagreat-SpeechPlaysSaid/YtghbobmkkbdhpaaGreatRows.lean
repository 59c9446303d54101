/-
  No cell of these rows narrows 'for every input' (looked for: loops, veiled, ifaces, maps, wideKeys, modest, calm, conditions, laid).
  DERIVED. THE GIVEN ROWS OF THIS SEAT. 7 by the template 'for every input the law returns true; each argument reads behind the call as it read before'; 0 by the template 'total and deterministic' (their statements: YtghbobmkkbdhpaaGreatTotals.lean).
  GIVEN WITH THE SEED: the statements are not yours to turn. If you find one false, say at which input.
  Laid BY PROGRAM, IN A SANDBOX (cutbox-rows.mjs): the forced cells as the released guide's own fill.sh prints them over the translation 9183b9e737066ca1… (all of the seat's roots in one cut). By AI agents, Wed Nov 11 2026. No macro, syntax, notation, axiom, sorry.
-/
import Derived.Test.YtghbobmkkbdhpaaGreatChecked
import GoSem.Claim
import GoSem.ClaimJoined
import GoSem.ClaimMapViews
import Derived.JoinedTies
import Derived.KernelRfl
namespace Go.Proofs.YtghbobmkkbdhpaaGreat
/- THE CELL 'sum', in the pinned program and in every row, IS THE sha256 OF THE DUMP (.gsa) THAT YtghbobmkkbdhpaaGreatProg.lean LOADS. Nothing in Lean hashes anything: it is a label: what it is worth is what the hold of that sum in a sandbox is worth. -/
noncomputable def Tryz.pinned : Pinned := { name := "ytghbobmkkbdhpaagreat", sum := "9183b9e737066ca12587a26b1a67c3fce066c384f3a197df2de8e5a7cb15639c", checked := Tryz.checked }
namespace Rows
def none {H : Type} : Left H := { results := [], args := [] }

/-- 'madrigallaw14.SpeechKnown': WHATEVER THE INPUT: true; the input reads as it did. -/
def speechKnownSpec : ChangeSpec := { name := "speechKnown", fn := fun _ => fun
  | [] => { results := [.lit (.bool true)], args := [] }
  | _ => none }
def speechKnownRow : OpenClaim := { program := "ytghbobmkkbdhpaagreat", sum := "9183b9e737066ca12587a26b1a67c3fce066c384f3a197df2de8e5a7cb15639c", func := "madrigal/madrigallaw14.SpeechKnown", spec := "speechKnown", unfollowed := true, recurses := true, apart := false }
def SpeechKnownSaid : Prop := speechKnownRow.holds Tryz.pinned (OpenSpec.ofChange speechKnownSpec)

/-- ITS FALSE NEIGHBOUR: 'it returns false'. Refute it at one input. -/
def speechKnownWrong : ChangeSpec := { name := "speechKnown", fn := fun _ => fun
  | [] => { results := [.lit (.bool false)], args := [] }
  | _ => none }
def SpeechKnownWrongFalsely : Prop := speechKnownRow.holds Tryz.pinned (OpenSpec.ofChange speechKnownWrong)

/-- 'madrigallaw14.SpeechWrites': WHATEVER THE INPUT: true; the input reads as it did. -/
def speechWritesSpec : ChangeSpec := { name := "speechWrites", fn := fun _ => fun
  | [d1, d2, d3, d4] => { results := [.lit (.bool true)], args := [d1, d2, d3, d4] }
  | _ => none }
def speechWritesRow : OpenClaim := { program := "ytghbobmkkbdhpaagreat", sum := "9183b9e737066ca12587a26b1a67c3fce066c384f3a197df2de8e5a7cb15639c", func := "madrigal/madrigallaw14.SpeechWrites", spec := "speechWrites", unfollowed := true, recurses := true, apart := false }
def SpeechWritesSaid : Prop := speechWritesRow.holds Tryz.pinned (OpenSpec.ofChange speechWritesSpec)

/-- ITS FALSE NEIGHBOUR: 'it returns false'. Refute it at one input. -/
def speechWritesWrong : ChangeSpec := { name := "speechWrites", fn := fun _ => fun
  | [d1, d2, d3, d4] => { results := [.lit (.bool false)], args := [d1, d2, d3, d4] }
  | _ => none }
def SpeechWritesWrongFalsely : Prop := speechWritesRow.holds Tryz.pinned (OpenSpec.ofChange speechWritesWrong)

/-- 'madrigallaw14.SpeechPlays': WHATEVER THE INPUT: true; the input reads as it did. -/
def speechPlaysSpec : ChangeSpec := { name := "speechPlays", fn := fun _ => fun
  | [d1, d2] => { results := [.lit (.bool true)], args := [d1, d2] }
  | _ => none }
def speechPlaysRow : OpenClaim := { program := "ytghbobmkkbdhpaagreat", sum := "9183b9e737066ca12587a26b1a67c3fce066c384f3a197df2de8e5a7cb15639c", func := "madrigal/madrigallaw14.SpeechPlays", spec := "speechPlays", unfollowed := true, recurses := true, apart := false }
def SpeechPlaysSaid : Prop := speechPlaysRow.holds Tryz.pinned (OpenSpec.ofChange speechPlaysSpec)

/-- ITS FALSE NEIGHBOUR: 'it returns false'. Refute it at one input. -/
def speechPlaysWrong : ChangeSpec := { name := "speechPlays", fn := fun _ => fun
  | [d1, d2] => { results := [.lit (.bool false)], args := [d1, d2] }
  | _ => none }
def SpeechPlaysWrongFalsely : Prop := speechPlaysRow.holds Tryz.pinned (OpenSpec.ofChange speechPlaysWrong)

/-- 'madrigallaw14.SpeechFresh': WHATEVER THE INPUT: true; the input reads as it did. -/
def speechFreshSpec : ChangeSpec := { name := "speechFresh", fn := fun _ => fun
  | [d1, d2, d3, d4, d5] => { results := [.lit (.bool true)], args := [d1, d2, d3, d4, d5] }
  | _ => none }
def speechFreshRow : OpenClaim := { program := "ytghbobmkkbdhpaagreat", sum := "9183b9e737066ca12587a26b1a67c3fce066c384f3a197df2de8e5a7cb15639c", func := "madrigal/madrigallaw14.SpeechFresh", spec := "speechFresh", unfollowed := true, recurses := true, apart := false }
def SpeechFreshSaid : Prop := speechFreshRow.holds Tryz.pinned (OpenSpec.ofChange speechFreshSpec)

/-- ITS FALSE NEIGHBOUR: 'it returns false'. Refute it at one input. -/
def speechFreshWrong : ChangeSpec := { name := "speechFresh", fn := fun _ => fun
  | [d1, d2, d3, d4, d5] => { results := [.lit (.bool false)], args := [d1, d2, d3, d4, d5] }
  | _ => none }
def SpeechFreshWrongFalsely : Prop := speechFreshRow.holds Tryz.pinned (OpenSpec.ofChange speechFreshWrong)

/-- 'madrigallaw14.SpeechSilent': WHATEVER THE INPUT: true; the input reads as it did. -/
def speechSilentSpec : ChangeSpec := { name := "speechSilent", fn := fun _ => fun
  | [d1, d2, d3] => { results := [.lit (.bool true)], args := [d1, d2, d3] }
  | _ => none }
def speechSilentRow : OpenClaim := { program := "ytghbobmkkbdhpaagreat", sum := "9183b9e737066ca12587a26b1a67c3fce066c384f3a197df2de8e5a7cb15639c", func := "madrigal/madrigallaw14.SpeechSilent", spec := "speechSilent", unfollowed := true, recurses := true, apart := false }
def SpeechSilentSaid : Prop := speechSilentRow.holds Tryz.pinned (OpenSpec.ofChange speechSilentSpec)

/-- ITS FALSE NEIGHBOUR: 'it returns false'. Refute it at one input. -/
def speechSilentWrong : ChangeSpec := { name := "speechSilent", fn := fun _ => fun
  | [d1, d2, d3] => { results := [.lit (.bool false)], args := [d1, d2, d3] }
  | _ => none }
def SpeechSilentWrongFalsely : Prop := speechSilentRow.holds Tryz.pinned (OpenSpec.ofChange speechSilentWrong)

/-- 'madrigallaw14.SpeechCopies': WHATEVER THE INPUT: true; the input reads as it did. -/
def speechCopiesSpec : ChangeSpec := { name := "speechCopies", fn := fun _ => fun
  | [d1, d2, d3] => { results := [.lit (.bool true)], args := [d1, d2, d3] }
  | _ => none }
def speechCopiesRow : OpenClaim := { program := "ytghbobmkkbdhpaagreat", sum := "9183b9e737066ca12587a26b1a67c3fce066c384f3a197df2de8e5a7cb15639c", func := "madrigal/madrigallaw14.SpeechCopies", spec := "speechCopies", unfollowed := true, recurses := true, apart := false }
def SpeechCopiesSaid : Prop := speechCopiesRow.holds Tryz.pinned (OpenSpec.ofChange speechCopiesSpec)

/-- ITS FALSE NEIGHBOUR: 'it returns false'. Refute it at one input. -/
def speechCopiesWrong : ChangeSpec := { name := "speechCopies", fn := fun _ => fun
  | [d1, d2, d3] => { results := [.lit (.bool false)], args := [d1, d2, d3] }
  | _ => none }
def SpeechCopiesWrongFalsely : Prop := speechCopiesRow.holds Tryz.pinned (OpenSpec.ofChange speechCopiesWrong)

/-- 'madrigallaw14.SpeechReads': WHATEVER THE INPUT: true; the input reads as it did. -/
def speechReadsSpec : ChangeSpec := { name := "speechReads", fn := fun _ => fun
  | [d1, d2, d3, d4] => { results := [.lit (.bool true)], args := [d1, d2, d3, d4] }
  | _ => none }
def speechReadsRow : OpenClaim := { program := "ytghbobmkkbdhpaagreat", sum := "9183b9e737066ca12587a26b1a67c3fce066c384f3a197df2de8e5a7cb15639c", func := "madrigal/madrigallaw14.SpeechReads", spec := "speechReads", unfollowed := true, recurses := true, apart := false }
def SpeechReadsSaid : Prop := speechReadsRow.holds Tryz.pinned (OpenSpec.ofChange speechReadsSpec)

/-- ITS FALSE NEIGHBOUR: 'it returns false'. Refute it at one input. -/
def speechReadsWrong : ChangeSpec := { name := "speechReads", fn := fun _ => fun
  | [d1, d2, d3, d4] => { results := [.lit (.bool false)], args := [d1, d2, d3, d4] }
  | _ => none }
def SpeechReadsWrongFalsely : Prop := speechReadsRow.holds Tryz.pinned (OpenSpec.ofChange speechReadsWrong)

/- THE SECOND FORM. 'bulk': how many values and letters a reading holds, each counted each time it is reached (what is shared counts as often as it is met; a slice's spare places count too). A statement '..UptoSaid' is the law's where the arguments, and the package variables that the reading takes, are together of bulk at most 1048576: NARROWER than '..Said'. Prove '..Said' where nothing that the law and all that it calls make is longer than what came in: it says more and counts as full. Else prove '..UptoSaid'. A law counts once. -/
mutual
def uptoBulk {H : Type} : DataW H → Nat
  | .lit (.string bytes) => bytes.length + 1
  | .lit _ => 1
  | .nil => 1
  | .ptr d => uptoBulk d + 1
  | .slice elems spare => uptoBulkAll elems + uptoBulkAll spare + 1
  | .agg parts => uptoBulkAll parts + 1
  | .iface _ d => uptoBulk d + 1
  | .map entries => uptoBulkEntries entries + 1
  | .held _ => 1
def uptoBulkAll {H : Type} : List (DataW H) → Nat
  | [] => 0
  | d :: r => uptoBulk d + uptoBulkAll r
def uptoBulkEntries {H : Type} : List (Lit × DataW H) → Nat
  | [] => 0
  | x :: r => uptoBulkEntry x + uptoBulkEntries r
def uptoBulkEntry {H : Type} : Lit × DataW H → Nat
  | (.string bytes, d) => bytes.length + uptoBulk d + 1
  | (_, d) => uptoBulk d + 1
 end
def uptoSmall : (H : Type) → List (DataW H) → Bool := fun _ ds => decide (uptoBulkAll ds ≤ 1048576)
def OpenSpec.upto (s : _root_.Go.ChangeSpec) : _root_.Go.OpenSpec := { _root_.Go.OpenSpec.ofChange s with cond := some uptoSmall }

/-- 'madrigallaw14.SpeechKnown', WHERE WHAT IT READS IS OF BULK AT MOST 1048576: true; the input reads as it did. -/
def speechKnownUptoRow : OpenClaim := { program := "ytghbobmkkbdhpaagreat", sum := "9183b9e737066ca12587a26b1a67c3fce066c384f3a197df2de8e5a7cb15639c", func := "madrigal/madrigallaw14.SpeechKnown", spec := "speechKnown", unfollowed := true, recurses := true, apart := false, narrowed := true }
def SpeechKnownUptoSaid : Prop := speechKnownUptoRow.holds Tryz.pinned (OpenSpec.upto speechKnownSpec)

/-- 'madrigallaw14.SpeechWrites', WHERE WHAT IT READS IS OF BULK AT MOST 1048576: true; the input reads as it did. -/
def speechWritesUptoRow : OpenClaim := { program := "ytghbobmkkbdhpaagreat", sum := "9183b9e737066ca12587a26b1a67c3fce066c384f3a197df2de8e5a7cb15639c", func := "madrigal/madrigallaw14.SpeechWrites", spec := "speechWrites", unfollowed := true, recurses := true, apart := false, narrowed := true }
def SpeechWritesUptoSaid : Prop := speechWritesUptoRow.holds Tryz.pinned (OpenSpec.upto speechWritesSpec)

/-- 'madrigallaw14.SpeechPlays', WHERE WHAT IT READS IS OF BULK AT MOST 1048576: true; the input reads as it did. -/
def speechPlaysUptoRow : OpenClaim := { program := "ytghbobmkkbdhpaagreat", sum := "9183b9e737066ca12587a26b1a67c3fce066c384f3a197df2de8e5a7cb15639c", func := "madrigal/madrigallaw14.SpeechPlays", spec := "speechPlays", unfollowed := true, recurses := true, apart := false, narrowed := true }
def SpeechPlaysUptoSaid : Prop := speechPlaysUptoRow.holds Tryz.pinned (OpenSpec.upto speechPlaysSpec)

/-- 'madrigallaw14.SpeechFresh', WHERE WHAT IT READS IS OF BULK AT MOST 1048576: true; the input reads as it did. -/
def speechFreshUptoRow : OpenClaim := { program := "ytghbobmkkbdhpaagreat", sum := "9183b9e737066ca12587a26b1a67c3fce066c384f3a197df2de8e5a7cb15639c", func := "madrigal/madrigallaw14.SpeechFresh", spec := "speechFresh", unfollowed := true, recurses := true, apart := false, narrowed := true }
def SpeechFreshUptoSaid : Prop := speechFreshUptoRow.holds Tryz.pinned (OpenSpec.upto speechFreshSpec)

/-- 'madrigallaw14.SpeechSilent', WHERE WHAT IT READS IS OF BULK AT MOST 1048576: true; the input reads as it did. -/
def speechSilentUptoRow : OpenClaim := { program := "ytghbobmkkbdhpaagreat", sum := "9183b9e737066ca12587a26b1a67c3fce066c384f3a197df2de8e5a7cb15639c", func := "madrigal/madrigallaw14.SpeechSilent", spec := "speechSilent", unfollowed := true, recurses := true, apart := false, narrowed := true }
def SpeechSilentUptoSaid : Prop := speechSilentUptoRow.holds Tryz.pinned (OpenSpec.upto speechSilentSpec)

/-- 'madrigallaw14.SpeechCopies', WHERE WHAT IT READS IS OF BULK AT MOST 1048576: true; the input reads as it did. -/
def speechCopiesUptoRow : OpenClaim := { program := "ytghbobmkkbdhpaagreat", sum := "9183b9e737066ca12587a26b1a67c3fce066c384f3a197df2de8e5a7cb15639c", func := "madrigal/madrigallaw14.SpeechCopies", spec := "speechCopies", unfollowed := true, recurses := true, apart := false, narrowed := true }
def SpeechCopiesUptoSaid : Prop := speechCopiesUptoRow.holds Tryz.pinned (OpenSpec.upto speechCopiesSpec)

/-- 'madrigallaw14.SpeechReads', WHERE WHAT IT READS IS OF BULK AT MOST 1048576: true; the input reads as it did. -/
def speechReadsUptoRow : OpenClaim := { program := "ytghbobmkkbdhpaagreat", sum := "9183b9e737066ca12587a26b1a67c3fce066c384f3a197df2de8e5a7cb15639c", func := "madrigal/madrigallaw14.SpeechReads", spec := "speechReads", unfollowed := true, recurses := true, apart := false, narrowed := true }
def SpeechReadsUptoSaid : Prop := speechReadsUptoRow.holds Tryz.pinned (OpenSpec.upto speechReadsSpec)

end Rows
end Go.Proofs.YtghbobmkkbdhpaaGreat
