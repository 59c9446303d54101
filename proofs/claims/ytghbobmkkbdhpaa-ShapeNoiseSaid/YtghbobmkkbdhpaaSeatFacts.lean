/-
  What the rows of this seat ask of the program as a whole, one by one.
  Conditions: none.
-/
import Derived.Test.YtghbobmkkbdhpaaEngWords
import Derived.Test.YtghbobmkkbdhpaaRows
set_option linter.unusedSimpArgs false
set_option linter.unusedVariables false
namespace Go.Proofs.Ytghbobmkkbdhpaa.seat
open Go.ChangeShapes Go.WideShapes Go.ChangeAt Go.RowKit Go.Eng
set_option maxRecDepth 100000
theorem own : ownKnob Try.prog.godebug = none := by kernel_rfl
theorem laidOut : laidOutB Try.prog = true := by kernel_rfl
def headNums : List Nat := [104, 97, 114, 110, 101, 115, 115, 32, 102, 48, 54, 100, 54, 49, 101, 100, 102, 97, 97, 55, 55, 102, 57, 99, 56, 48, 57, 55, 102, 48, 98, 51, 49, 52, 57, 49, 57, 99, 48, 49, 99, 48, 101, 100, 100, 102, 55, 100, 98, 50, 51, 54, 51, 48, 55, 102, 53, 56, 49, 98, 48, 51, 48, 98, 102, 51, 98, 49, 102, 57, 98, 97, 32, 99, 117, 116, 32, 97, 116, 32, 109, 97, 100, 114, 105, 103, 97, 108, 47, 109, 97, 100, 114, 105, 103, 97, 108, 108, 97, 119, 50, 48, 46, 83, 104, 97, 112, 101, 75, 110, 111, 119, 110, 32, 109, 97, 100, 114, 105, 103, 97, 108, 47, 109, 97, 100, 114, 105, 103, 97, 108, 108, 97, 119, 50, 48, 46, 83, 104, 97, 112, 101, 78, 111, 105, 115, 101, 32, 109, 97, 100, 114, 105, 103, 97, 108, 47, 109, 97, 100, 114, 105, 103, 97, 108, 108, 97, 119, 50, 48, 46, 83, 104, 97, 112, 101, 70, 105, 108, 108, 115, 32, 109, 97, 100, 114, 105, 103, 97, 108, 47, 109, 97, 100, 114, 105, 103, 97, 108, 108, 97, 119, 50, 48, 46, 83, 104, 97, 112, 101, 66, 97, 99, 107, 32, 109, 97, 100, 114, 105, 103, 97, 108, 47, 109, 97, 100, 114, 105, 103, 97, 108, 108, 97, 119, 50, 48, 46, 83, 104, 97, 112, 101, 83, 105, 103, 110, 115, 32, 109, 97, 100, 114, 105, 103, 97, 108, 47, 109, 97, 100, 114, 105, 103, 97, 108, 108, 97, 119, 50, 48, 46, 83, 104, 97, 112, 101, 82, 101, 97, 100, 115, 32, 109, 97, 100, 114, 105, 103, 97, 108, 47, 109, 97, 100, 114, 105, 103, 97, 108, 108, 97, 119, 50, 48, 46, 83, 104, 97, 112, 101, 69, 109, 112, 116, 121]
theorem io : Try.prog.initOrder = String.ofList (headNums.map Char.ofNat) := by kernel_rfl
theorem iol : Try.prog.initOrder.toList = headNums.map Char.ofNat := by rw [io]; exact String.toList_ofList
theorem words : wordsSigns Try.prog.initOrder.toList = fastW (headNums.map Char.ofNat) [] := by rw [iol, wordsSigns_eq]
def wordNums : List (List Nat) := [[104, 97, 114, 110, 101, 115, 115], [102, 48, 54, 100, 54, 49, 101, 100, 102, 97, 97, 55, 55, 102, 57, 99, 56, 48, 57, 55, 102, 48, 98, 51, 49, 52, 57, 49, 57, 99, 48, 49, 99, 48, 101, 100, 100, 102, 55, 100, 98, 50, 51, 54, 51, 48, 55, 102, 53, 56, 49, 98, 48, 51, 48, 98, 102, 51, 98, 49, 102, 57, 98, 97], [99, 117, 116], [97, 116], [109, 97, 100, 114, 105, 103, 97, 108, 47, 109, 97, 100, 114, 105, 103, 97, 108, 108, 97, 119, 50, 48, 46, 83, 104, 97, 112, 101, 75, 110, 111, 119, 110], [109, 97, 100, 114, 105, 103, 97, 108, 47, 109, 97, 100, 114, 105, 103, 97, 108, 108, 97, 119, 50, 48, 46, 83, 104, 97, 112, 101, 78, 111, 105, 115, 101], [109, 97, 100, 114, 105, 103, 97, 108, 47, 109, 97, 100, 114, 105, 103, 97, 108, 108, 97, 119, 50, 48, 46, 83, 104, 97, 112, 101, 70, 105, 108, 108, 115], [109, 97, 100, 114, 105, 103, 97, 108, 47, 109, 97, 100, 114, 105, 103, 97, 108, 108, 97, 119, 50, 48, 46, 83, 104, 97, 112, 101, 66, 97, 99, 107], [109, 97, 100, 114, 105, 103, 97, 108, 47, 109, 97, 100, 114, 105, 103, 97, 108, 108, 97, 119, 50, 48, 46, 83, 104, 97, 112, 101, 83, 105, 103, 110, 115], [109, 97, 100, 114, 105, 103, 97, 108, 47, 109, 97, 100, 114, 105, 103, 97, 108, 108, 97, 119, 50, 48, 46, 83, 104, 97, 112, 101, 82, 101, 97, 100, 115], [109, 97, 100, 114, 105, 103, 97, 108, 47, 109, 97, 100, 114, 105, 103, 97, 108, 108, 97, 119, 50, 48, 46, 83, 104, 97, 112, 101, 69, 109, 112, 116, 121]]
theorem words2 : wordsSigns Try.prog.initOrder.toList = wordNums.map (fun l => l.map Char.ofNat) := by rw [words]; kernel_rfl
noncomputable def rest : List (List Char) := (wordNums.drop 3).map (fun l => l.map Char.ofNat)
theorem b1 : behindMainWord (wordNums.map (fun l => l.map Char.ofNat)) = "cut".toList :: rest := by kernel_rfl
theorem head : behindMainWord (wordsSigns Try.prog.initOrder.toList) = "cut".toList :: rest := by rw [words2, b1]
theorem strip : stripLifts liftWords ("cut".toList :: rest) = ([], "cut".toList :: rest) := by kernel_rfl
theorem lays : Try.prog.laysLater = false := by kernel_rfl
theorem bears : Try.prog.bearsReflect = false := by kernel_rfl
theorem door : Try.prog.doorFits [] = true := by kernel_rfl
theorem may : Try.prog.mayEnter = true := mayEnter_cut head strip lays bears door
theorem make : Try.prog.make = some .cut := make_of _ head
theorem final : Try.prog.liftsFinal = false := liftsFinal_of _ head strip
theorem rowed : mapsRowed Try.prog = true := by kernel_rfl
theorem stops : (Try.prog.stops == []) = true := by kernel_rfl
theorem knobs : (Try.prog.stopKnobs == []) = true := by kernel_rfl
theorem keys : Try.prog.plainKeys = true := by kernel_rfl
theorem heard : Try.prog.stopsHeard = true := by kernel_rfl
end Go.Proofs.Ytghbobmkkbdhpaa.seat
