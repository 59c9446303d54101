/-
 How a step and a list of steps read among a law's arguments.
 Conditions: none.
-/
import Derived.Test.YtghbobmkkbdhpaaGreatEngLoopToEngRow3
import Derived.Test.YtghbobmkkbdhpaaGreatSeatFacts
set_option linter.unusedVariables false
set_option linter.unusedSimpArgs false
namespace Go.Proofs.YtghbobmkkbdhpaaGreat.row
open Go.ChangeShapes Go.WideShapes Go.ChangeAt Go.RowKit Go.Eng Go.Joins
set_option maxRecDepth 100000
variable {H : Type} {enc : TypeId × Value -> H} {W : World} {base : Nat} {spare : Nat -> Bool} {held : Bool}
theorem cST : Tryz.prog.cellsOf 63 = 2 := by kernel_rfl
theorem cI2 : Tryz.prog.cellsOf 3 = 1 := by kernel_rfl
theorem cBL : Tryz.prog.cellsOf 51 = 1 := by kernel_rfl
theorem cU8 : Tryz.prog.cellsOf 5 = 1 := by kernel_rfl
theorem bU8 : Tryz.prog.bytesOf 5 = 1 := by kernel_rfl
abbrev STK : RecT := ⟨[.i64],some .u8,true⟩
def WfSt (l : List (List Int)) : Prop := ∀ r ∈ l,∃ a b,r = a :: b /\ WfI .i64 a /\ WfL .u8 b
def StD (d : DataW H) (r : List Int) : Prop := ∃ d0 d1,d = .agg [d0,d1] /\ ((d0 = .nil /\ r.tail = []) \/ ∃ sp,d0 = .slice (r.tail.map fun n => .lit (.int .u8 n)) sp)
theorem rd_steps {n : Nat} {cs : List Value} {x : DataW H × List MemPlace} (h : DataW.trod enc Tryz.prog W base spare held n 59 cs = some x) :
  ∃ v l,cs = [v] /\ (∀ RT,R RT (lawE W) (.rro STK l) v) /\ WfSt l /\ ((x.1 = .nil /\ l = []) \/ ∃ ds sp,x.1 = .slice ds sp /\ ds.length = l.length /\ ∀ r ∈ l,∃ d ∈ ds,StD d r) :=
 rd_recs (T:=STK) (D:=StD) Tryz.underlying59 (by kernel_rfl) (el_list1 Tryz.underlying63 cST rfl rfl cBL cI2 Tryz.underlying51 Tryz.underlying5 cU8 Tryz.underlying3) h
end Go.Proofs.YtghbobmkkbdhpaaGreat.row
