/-
 How a step and a list of steps read among a law's arguments.
 Conditions: none.
-/
import Derived.Test.YtghbobmkkbdhpaaGreatEngRegToEngRow3
import Derived.Test.YtghbobmkkbdhpaaGreatSeatFacts
set_option linter.unusedVariables false
set_option linter.unusedSimpArgs false
namespace Go.Proofs.YtghbobmkkbdhpaaGreat.row
open Go.ChangeShapes Go.WideShapes Go.ChangeAt Go.RowKit Go.Eng Go.Joins
set_option maxRecDepth 100000
variable {H : Type} {enc : TypeId × Value -> H} {W : World} {base : Nat} {spare : Nat -> Bool} {held : Bool}
theorem cST : Tryz.prog.cellsOf 63 = 2 := by kernel_rfl
theorem cI2 : Tryz.prog.cellsOf 3 = 1 := by kernel_rfl
theorem cBL : Tryz.prog.cellsOf 51 = 1 := by kernel_rfl
theorem cU8 : Tryz.prog.cellsOf 5 = 1 := by kernel_rfl
theorem bU8 : Tryz.prog.bytesOf 5 = 1 := by kernel_rfl
abbrev STK : RecT := ⟨[.i64], some .u8, true⟩
def WfSt (l : List (List Int)) : Prop := ∀ r ∈ l, ∃ a b, r = a :: b /\ WfI .i64 a /\ WfL .u8 b
def StD (d : DataW H) (r : List Int) : Prop := ∃ d0 d1, d = .agg [d0, d1] /\ ((d0 = .nil /\ r.tail = []) \/ ∃ sp, d0 = .slice (r.tail.map fun n => .lit (.int .u8 n)) sp)
theorem rd_steps {n : Nat} {cs : List Value} {x : DataW H × List MemPlace} (h : DataW.trod enc Tryz.prog W base spare held n 59 cs = some x) :
  ∃ v l, cs = [v] /\ (∀ RT, R RT (lawE W) (.rro STK l) v) /\ WfSt l /\ ((x.1 = .nil /\ l = []) \/ ∃ ds sp, x.1 = .slice ds sp /\ ds.length = l.length /\ ∀ r ∈ l, ∃ d ∈ ds, StD d r) :=
 rd_recs (T := STK) (D := StD) Tryz.underlying59 (by kernel_rfl) (el_list1 Tryz.underlying63 cST rfl rfl cBL cI2 Tryz.underlying51 Tryz.underlying5 cU8 Tryz.underlying3) h
theorem open_step {b0 : Nat} {v : Value} {d : DataW H} {p : List MemPlace} (hv : Value.okWide Tryz.prog W .any b0 63 v) (h : DataW.Trod enc Tryz.prog W base spare held 63 v d p) :
  ∃ (vb : Value) (b : List Int) (m : Int), v = .agg #[vb, .int .i64 m] /\ (WfI .i64 m /\ WfL .u8 b) /\ (∀ RT, RV RT (lawE W) (.agg [.roi .u8 b, .int .i64 m]) v) /\ StD d (m :: b) := by
 obtain ⟨cs, rfl, hsz⟩ := okWide_struct Tryz.underlying63 hv
 rw [cST] at hsz
 obtain ⟨fuel, h⟩ := h
 obtain ⟨r, h1, ⟨a, l, rfl, wa, wl⟩, h3⟩ := el_list1 Tryz.underlying63 cST rfl rfl cBL cI2 Tryz.underlying51 Tryz.underlying5 cU8 Tryz.underlying3 _ _ _ h
 have e0 : (Value.agg cs).cells.toList = cs.toList := rfl
 rw [e0] at h1
 have hsz' : cs.toList.length = 2 := by simpa using hsz
 obtain ⟨c, rfl⟩ : ∃ c, cs = Array.mk c := ⟨cs.toList, rfl⟩
 simp only at hsz' h1
 match c, hsz' with
 | [c0, c1], _ =>
  obtain ⟨v0, f0, r0⟩ := h1 0 (.roi .u8 l) rfl
  obtain ⟨v1, f1, r1⟩ := h1 1 (.int .i64 a) rfl
  simp at f0 f1
  subst f0 f1
  obtain rfl : c1 = .int .i64 a := by cases r1 noRT3; rfl
  refine ⟨c0, l, a, rfl, ⟨wa, wl⟩, fun RT => ⟨_, rfl, rfl, fun j x hj => ?_⟩, h3⟩
  match j with
  | 0 => simp at hj; subst hj; exact r0 RT
  | 1 => simp at hj; subst hj; exact R.int _ _
  | j + 2 => simp at hj
theorem step_reach {ts : List TypeId} {ds : List (DataW H)} (h : (DataW.weightsEach Tryz.prog ts ds).all (· <= reachBytes) = true) {j : Nat} {d : DataW H} (ht : ts[j]? = some 63) (hd : ds[j]? = some d) {m : Int} {b : List Int} (hx : StD d (m :: b)) : b.length <= 140737488351232 := by
 obtain ⟨d0, d1, rfl, h3⟩ := hx
 rcases h3 with ⟨_, h4⟩ | ⟨sp3, rfl⟩
 ·simp only [List.tail_cons] at h4; simp [h4]
 have m : (b.length + sp3.length) * Tryz.prog.bytesOf 5 ∈ DataW.weightsEach Tryz.prog ts ds := by
  refine DataW.weights_mem_each ht hd _ ?_
  simp [DataW.weights, DataW.weightsEach, Tryz.underlying63, Tryz.underlying51]
 have h8 := of_decide_eq_true (List.all_eq_true.1 h _ m)
 simp only [reachBytes, bU8] at h8
 omega
end Go.Proofs.YtghbobmkkbdhpaaGreat.row
