/-
  RcKnown: the examples of chapter 3 answer as told; no condition.
-/
import Derived.Test.YtihbpcggomabcaaSeatFacts
import Derived.Test.YtihbpcggomabcaaPlRc5
set_option linter.unusedSimpArgs false
namespace Go.Proofs.Ytihbpcggomabcaa.row
open Go.ChangeShapes Go.WideShapes Go.ChangeAt Go.RowKit Go.Eng 
set_option linter.unusedVariables false
theorem rcKnown.f1 : (Rows.rcKnownRow.inPlace == Try.prog.inPlace 8) = true := by kernel_rfl
theorem rcKnown.f2 : (Rows.rcKnownRow.unfollowed == Try.prog.unfollowed 8) = true := by kernel_rfl
theorem rcKnown.f3 : (Rows.rcKnownRow.recurses == Try.prog.recurses 8) = true := by kernel_rfl
theorem rcKnown.f4 : (Rows.rcKnownRow.named == Try.prog.varsNamed 8) = true := by kernel_rfl
set_option maxRecDepth 100000 in
theorem rcKnown.facts : joinedFacts Try.prog 8 Try.f8 Rows.rcKnownSpec Rows.rcKnownRow = true := by
  refine facts_mk ?_ seat.laidOut seat.rowed ?_ ?_ ?_ seat.stops ?_ seat.knobs rcKnown.f1 rcKnown.f2 rcKnown.f3 rcKnown.f4 ?_ ?_ ?_ ?_ ?_ ?_ ?_ ?_ ?_ ?keys ?_ seat.heard seat.may ?final ?make ?_ ?_ ?_ ?_
  case keys => rw [seat.keys]; kernel_rfl
  case final => rw [seat.final]; kernel_rfl
  case make => rw [seat.make]; kernel_rfl
  all_goals kernel_rfl
set_option maxRecDepth 100000 in
theorem rcKnown.lifted (os : Os) (started : os.Started) (H : Type) (enc : TypeId × Value → H) :
    ReturnsInHanded {} Try.checked os 8 .any (Rows.rcKnownSpec.pre6 enc Try.prog Try.f8 Rows.rcKnownRow.domain false) (Rows.rcKnownSpec.post enc Try.prog Try.f8 false true false false) := by
  refine returnsInHanded_of_change_sized (C := Try.checked) seat.own started (by kernel_rfl) Try.func8
    (ChangeSpec.witness6 (enc := enc) (C := Try.checked) false ⟨#[], #[], []⟩ 8 (by kernel_rfl) (by kernel_rfl) (by kernel_rfl) (by kernel_rfl)) ?_
  intro W base args ds gs before hval0 hW hcnd hsz0 _
  have hval : ∀ (j : Nat) t v, Try.f8.params[j]? = some t → args[j]? = some v → Value.okWide Try.prog W .any base t v := hval0
  have hW' := hW
  obtain ⟨p, q, hA0, hV, rfl, hfz, hnd⟩ := hW
  have hA : DataW.TrodAll enc Try.prog W 0 (fun _ => true) true Try.f8.params.toList args.toList ds p := hA0
  rw [Try.params8] at hA hval
  obtain ⟨rfl, rfl, rfl⟩ := trodAll_none hA
  obtain ⟨rfl, rfl⟩ := trodVars_none hV
  clear hA0 hval0 hsz0
  obtain ⟨N, hN⟩ := Pl.rcKnown_pure  
  refine (Rc.rcKnown.walk  (cargs := #[]) .nil hN).mono fun e W' ⟨he, fr⟩ => ?_
  have bel := fr.below
  subst he
  exact ⟨_, rfl, _, _, _, [], _, [], hW', trodAll_mk1 (shut_bool Try.underlying4 _), trodAll_mk0, rfl, bel.frame _, fun h => by cases h⟩
theorem rcKnown.over : Rows.rcKnownRow.holds Try.pinned (OpenSpec.ofChange Rows.rcKnownSpec) :=
  OpenClaim.holds_of_wide 8 Try.f8 rfl rfl rfl rfl rfl rfl rfl ⟨rfl, rfl, rfl, rfl, rfl⟩ rfl rfl rfl rfl rfl (by kernel_rfl) Try.func8 rcKnown.facts
    (of_decide_eq_true (by kernel_rfl)) (by unfold Func.isWrapper; first | (rw [if_pos (by decide +kernel)]; kernel_rfl) | (rw [if_neg (by decide +kernel)]; exact ⟨rfl, rfl⟩))
    (fun os started H enc _ => rcKnown.lifted os started H enc)
theorem rcKnown.proved : Rows.RcKnownSaid := rcKnown.over
end Go.Proofs.Ytihbpcggomabcaa.row
namespace Go.Proofs.Ytihbpcggomabcaa
/-- The row, under a short name, for the claim. -/
theorem rcKnown_holds : Rows.RcKnownSaid := row.rcKnown.proved
#print axioms rcKnown_holds
end Go.Proofs.Ytihbpcggomabcaa
