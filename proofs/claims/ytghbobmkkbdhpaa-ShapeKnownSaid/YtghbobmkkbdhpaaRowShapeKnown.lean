/-
  ShapeKnown: the examples of chapter 20 answer as told; no condition.
-/
import Derived.Test.YtghbobmkkbdhpaaSeatFacts
import Derived.Test.YtghbobmkkbdhpaaPlKnown20
set_option linter.unusedSimpArgs false
namespace Go.Proofs.Ytghbobmkkbdhpaa.row
open Go.ChangeShapes Go.WideShapes Go.ChangeAt Go.RowKit Go.Eng 
set_option linter.unusedVariables false
theorem shapeKnown.f1 : (Rows.shapeKnownRow.inPlace == Try.prog.inPlace 3) = true := by kernel_rfl
theorem shapeKnown.f2 : (Rows.shapeKnownRow.unfollowed == Try.prog.unfollowed 3) = true := by kernel_rfl
theorem shapeKnown.f3 : (Rows.shapeKnownRow.recurses == Try.prog.recurses 3) = true := by kernel_rfl
theorem shapeKnown.f4 : (Rows.shapeKnownRow.named == Try.prog.varsNamed 3) = true := by kernel_rfl
set_option maxRecDepth 100000 in
theorem shapeKnown.facts : joinedFacts Try.prog 3 Try.f3 Rows.shapeKnownSpec Rows.shapeKnownRow = true := by
  refine facts_mk ?_ seat.laidOut seat.rowed ?_ ?_ ?_ seat.stops ?_ seat.knobs shapeKnown.f1 shapeKnown.f2 shapeKnown.f3 shapeKnown.f4 ?_ ?_ ?_ ?_ ?_ ?_ ?_ ?_ ?_ ?keys ?_ seat.heard seat.may ?final ?make ?_ ?_ ?_ ?_
  case keys => rw [seat.keys]; kernel_rfl
  case final => rw [seat.final]; kernel_rfl
  case make => rw [seat.make]; kernel_rfl
  all_goals kernel_rfl
set_option maxRecDepth 100000 in
theorem shapeKnown.lifted (os : Os) (started : os.Started) (H : Type) (enc : TypeId × Value → H) :
    ReturnsInHanded {} Try.checked os 3 .any (Rows.shapeKnownSpec.pre6 enc Try.prog Try.f3 Rows.shapeKnownRow.domain false) (Rows.shapeKnownSpec.post enc Try.prog Try.f3 false true false false) := by
  refine returnsInHanded_of_change_sized (C := Try.checked) seat.own started (by kernel_rfl) Try.func3
    (ChangeSpec.witness6 (enc := enc) (C := Try.checked) false ⟨#[], #[], []⟩ 8 (by kernel_rfl) (by kernel_rfl) (by kernel_rfl) (by kernel_rfl)) ?_
  intro W base args ds gs before hval0 hW hcnd hsz0 _
  have hval : ∀ (j : Nat) t v, Try.f3.params[j]? = some t → args[j]? = some v → Value.okWide Try.prog W .any base t v := hval0
  have hW' := hW
  obtain ⟨p, q, hA0, hV, rfl, hfz, hnd⟩ := hW
  have hA : DataW.TrodAll enc Try.prog W 0 (fun _ => true) true Try.f3.params.toList args.toList ds p := hA0
  rw [Try.params3] at hA hval
  obtain ⟨rfl, rfl, rfl⟩ := trodAll_none hA
  obtain ⟨rfl, rfl⟩ := trodVars_none hV
  clear hA0 hval0 hsz0
  obtain ⟨N, hN⟩ := Pl.shapeKnown_pure  
  refine (Rc.shapeKnown.walk  (cargs := #[]) .nil hN).mono fun e W' ⟨he, fr⟩ => ?_
  have bel := fr.below
  subst he
  exact ⟨_, rfl, _, _, _, [], _, [], hW', trodAll_mk1 (shut_bool Try.underlying4 _), trodAll_mk0, rfl, bel.frame _, fun h => by cases h⟩
theorem shapeKnown.over : Rows.shapeKnownRow.holds Try.pinned (OpenSpec.ofChange Rows.shapeKnownSpec) :=
  OpenClaim.holds_of_wide 3 Try.f3 rfl rfl rfl rfl rfl rfl rfl ⟨rfl, rfl, rfl, rfl, rfl⟩ rfl rfl rfl rfl rfl (by kernel_rfl) Try.func3 shapeKnown.facts
    (of_decide_eq_true (by kernel_rfl)) (by unfold Func.isWrapper; first | (rw [if_pos (by decide +kernel)]; kernel_rfl) | (rw [if_neg (by decide +kernel)]; exact ⟨rfl, rfl⟩))
    (fun os started H enc _ => shapeKnown.lifted os started H enc)
theorem shapeKnown.proved : Rows.ShapeKnownSaid := shapeKnown.over
end Go.Proofs.Ytghbobmkkbdhpaa.row
namespace Go.Proofs.Ytghbobmkkbdhpaa
/-- The row, under a short name, for the claim. -/
theorem shapeKnown_holds : Rows.ShapeKnownSaid := row.shapeKnown.proved
#print axioms shapeKnown_holds
end Go.Proofs.Ytghbobmkkbdhpaa
