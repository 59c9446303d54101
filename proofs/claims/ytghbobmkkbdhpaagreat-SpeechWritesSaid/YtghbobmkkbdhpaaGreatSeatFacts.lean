/-
 What the rows of this seat ask of the program as a whole, one by one.
 Conditions: none.
-/
import Derived.Test.YtghbobmkkbdhpaaGreatEngLoopToEngRow3
import Derived.Test.YtghbobmkkbdhpaaGreatRows
set_option linter.unusedVariables false
set_option linter.unusedSimpArgs false
namespace Go.Proofs.YtghbobmkkbdhpaaGreat.seat
open Go.ChangeShapes Go.WideShapes Go.ChangeAt Go.RowKit Go.Eng
set_option maxRecDepth 100000
theorem own : ownKnob Tryz.prog.godebug = none := by kernel_rfl
theorem laidOut : laidOutB Tryz.prog = true := by kernel_rfl
def headNums : List Nat := [104,97,114,110,101,115,115,32,52,53,97,49,98,50,56,97,52,99,54,54,97,56,101,57,100,97,56,56,100,49,101,54,56,52,102,50,56,52,49,49,97,97,98,97,57,98,53,54,101,56,50,99,51,57,102,57,55,99,57,52,55,57,52,99,54,57,51,52,100,48,99,50,32,99,117,116,32,97,116,32,109,97,100,114,105,103,97,108,47,109,97,100,114,105,103,97,108,108,97,119,49,52,46,83,112,101,101,99,104,75,110,111,119,110,32,109,97,100,114,105,103,97,108,47,109,97,100,114,105,103,97,108,108,97,119,49,52,46,83,112,101,101,99,104,87,114,105,116,101,115,32,109,97,100,114,105,103,97,108,47,109,97,100,114,105,103,97,108,108,97,119,49,52,46,83,112,101,101,99,104,80,108,97,121,115,32,109,97,100,114,105,103,97,108,47,109,97,100,114,105,103,97,108,108,97,119,49,52,46,83,112,101,101,99,104,70,114,101,115,104,32,109,97,100,114,105,103,97,108,47,109,97,100,114,105,103,97,108,108,97,119,49,52,46,83,112,101,101,99,104,83,105,108,101,110,116,32,109,97,100,114,105,103,97,108,47,109,97,100,114,105,103,97,108,108,97,119,49,52,46,83,112,101,101,99,104,67,111,112,105,101,115,32,109,97,100,114,105,103,97,108,47,109,97,100,114,105,103,97,108,108,97,119,49,52,46,83,112,101,101,99,104,82,101,97,100,115]
theorem io : Tryz.prog.initOrder = String.ofList (headNums.map Char.ofNat) := by kernel_rfl
theorem iol : Tryz.prog.initOrder.toList = headNums.map Char.ofNat := by rw [io]; exact String.toList_ofList
theorem words : wordsSigns Tryz.prog.initOrder.toList = fastW (headNums.map Char.ofNat) [] := by rw [iol,wordsSigns_eq]
def wordNums : List (List Nat) := [[104,97,114,110,101,115,115],[52,53,97,49,98,50,56,97,52,99,54,54,97,56,101,57,100,97,56,56,100,49,101,54,56,52,102,50,56,52,49,49,97,97,98,97,57,98,53,54,101,56,50,99,51,57,102,57,55,99,57,52,55,57,52,99,54,57,51,52,100,48,99,50],[99,117,116],[97,116],[109,97,100,114,105,103,97,108,47,109,97,100,114,105,103,97,108,108,97,119,49,52,46,83,112,101,101,99,104,75,110,111,119,110],[109,97,100,114,105,103,97,108,47,109,97,100,114,105,103,97,108,108,97,119,49,52,46,83,112,101,101,99,104,87,114,105,116,101,115],[109,97,100,114,105,103,97,108,47,109,97,100,114,105,103,97,108,108,97,119,49,52,46,83,112,101,101,99,104,80,108,97,121,115],[109,97,100,114,105,103,97,108,47,109,97,100,114,105,103,97,108,108,97,119,49,52,46,83,112,101,101,99,104,70,114,101,115,104],[109,97,100,114,105,103,97,108,47,109,97,100,114,105,103,97,108,108,97,119,49,52,46,83,112,101,101,99,104,83,105,108,101,110,116],[109,97,100,114,105,103,97,108,47,109,97,100,114,105,103,97,108,108,97,119,49,52,46,83,112,101,101,99,104,67,111,112,105,101,115],[109,97,100,114,105,103,97,108,47,109,97,100,114,105,103,97,108,108,97,119,49,52,46,83,112,101,101,99,104,82,101,97,100,115]]
theorem words2 : wordsSigns Tryz.prog.initOrder.toList = wordNums.map (fun l => l.map Char.ofNat) := by rw [words]; kernel_rfl
noncomputable def rest : List (List Char) := (wordNums.drop 3).map (fun l => l.map Char.ofNat)
theorem b1 : behindMainWord (wordNums.map (fun l => l.map Char.ofNat)) = "cut".toList :: rest := by kernel_rfl
theorem head : behindMainWord (wordsSigns Tryz.prog.initOrder.toList) = "cut".toList :: rest := by rw [words2,b1]
theorem strip : stripLifts liftWords ("cut".toList :: rest) = ([],"cut".toList :: rest) := by kernel_rfl
theorem lays : Tryz.prog.laysLater = false := by kernel_rfl
theorem bears : Tryz.prog.bearsReflect = false := by kernel_rfl
theorem door : Tryz.prog.doorFits [] = true := by kernel_rfl
theorem may : Tryz.prog.mayEnter = true := mayEnter_cut head strip lays bears door
theorem make : Tryz.prog.make = some .cut := make_of _ head
theorem final : Tryz.prog.liftsFinal = false := liftsFinal_of _ head strip
theorem rowed : mapsRowed Tryz.prog = true := by kernel_rfl
theorem stops : (Tryz.prog.stops == []) = true := by kernel_rfl
theorem knobs : (Tryz.prog.stopKnobs == []) = true := by kernel_rfl
theorem keys : Tryz.prog.plainKeys = true := by kernel_rfl
theorem heard : Tryz.prog.stopsHeard = true := by kernel_rfl
end Go.Proofs.YtghbobmkkbdhpaaGreat.seat
