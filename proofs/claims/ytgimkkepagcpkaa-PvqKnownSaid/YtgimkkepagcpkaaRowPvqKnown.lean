/-
  PvqKnown: the examples of chapter 17 answer as told; no condition.
-/
import Derived.Test.YtgimkkepagcpkaaSeatFacts
import Derived.Test.YtgimkkepagcpkaaPlKnown17
set_option linter.unusedSimpArgs false
namespace Go.Proofs.Ytgimkkepagcpkaa.row
open Go.ChangeShapes Go.WideShapes Go.ChangeAt Go.RowKit Go.Eng 
set_option linter.unusedVariables false
theorem pvqKnown.f1 : (Rows.pvqKnownRow.inPlace == Try.prog.inPlace 10) = true := by kernel_rfl
theorem pvqKnown.f2 : (Rows.pvqKnownRow.unfollowed == Try.prog.unfollowed 10) = true := by kernel_rfl
theorem pvqKnown.f3 : (Rows.pvqKnownRow.recurses == Try.prog.recurses 10) = true := by kernel_rfl
theorem pvqKnown.f4 : (Rows.pvqKnownRow.named == Try.prog.varsNamed 10) = true := by kernel_rfl
set_option maxRecDepth 100000 in
theorem pvqKnown.facts : joinedFacts Try.prog 10 Try.f10 Rows.pvqKnownSpec Rows.pvqKnownRow = true := by
  refine facts_mk ?_ seat.laidOut seat.rowed ?_ ?_ ?_ seat.stops ?_ seat.knobs pvqKnown.f1 pvqKnown.f2 pvqKnown.f3 pvqKnown.f4 ?_ ?_ ?_ ?_ ?_ ?_ ?_ ?_ ?_ ?keys ?_ seat.heard seat.may ?final ?make ?_ ?_ ?_ ?_
  case keys => rw [seat.keys]; kernel_rfl
  case final => rw [seat.final]; kernel_rfl
  case make => rw [seat.make]; kernel_rfl
  all_goals kernel_rfl
set_option maxRecDepth 100000 in
theorem pvqKnown.lifted (os : Os) (started : os.Started) (H : Type) (enc : TypeId × Value → H) :
    ReturnsInHanded {} Try.checked os 10 .any (Rows.pvqKnownSpec.pre6 enc Try.prog Try.f10 Rows.pvqKnownRow.domain false) (Rows.pvqKnownSpec.post enc Try.prog Try.f10 false true false false) := by
  refine returnsInHanded_of_change_sized (C := Try.checked) seat.own started (by kernel_rfl) Try.func10
    (ChangeSpec.witness6 (enc := enc) (C := Try.checked) false ⟨#[], #[], []⟩ 8 (by kernel_rfl) (by kernel_rfl) (by kernel_rfl) (by kernel_rfl)) ?_
  intro W base args ds gs before hval0 hW hcnd hsz0 _
  have hval : ∀ (j : Nat) t v, Try.f10.params[j]? = some t → args[j]? = some v → Value.okWide Try.prog W .any base t v := hval0
  have hW' := hW
  obtain ⟨p, q, hA0, hV, rfl, hfz, hnd⟩ := hW
  have hA : DataW.TrodAll enc Try.prog W 0 (fun _ => true) true Try.f10.params.toList args.toList ds p := hA0
  rw [Try.params10] at hA hval
  obtain ⟨rfl, rfl, rfl⟩ := trodAll_none hA
  obtain ⟨rfl, rfl⟩ := trodVars_none hV
  clear hA0 hval0 hsz0
  obtain ⟨N, hN⟩ := Pl.pvqKnown_pure  
  refine (Rc.pvqKnown.walk  (cargs := #[]) .nil hN).mono fun e W' ⟨he, fr⟩ => ?_
  have bel := fr.below
  subst he
  exact ⟨_, rfl, _, _, _, [], _, [], hW', trodAll_mk1 (shut_bool Try.underlying4 _), trodAll_mk0, rfl, bel.frame _, fun h => by cases h⟩
theorem pvqKnown.over : Rows.pvqKnownRow.holds Try.pinned (OpenSpec.ofChange Rows.pvqKnownSpec) :=
  OpenClaim.holds_of_wide 10 Try.f10 rfl rfl rfl rfl rfl rfl rfl ⟨rfl, rfl, rfl, rfl, rfl⟩ rfl rfl rfl rfl rfl (by kernel_rfl) Try.func10 pvqKnown.facts
    (of_decide_eq_true (by kernel_rfl)) (by unfold Func.isWrapper; first | (rw [if_pos (by decide +kernel)]; kernel_rfl) | (rw [if_neg (by decide +kernel)]; exact ⟨rfl, rfl⟩))
    (fun os started H enc _ => pvqKnown.lifted os started H enc)
theorem pvqKnown.proved : Rows.PvqKnownSaid := pvqKnown.over
end Go.Proofs.Ytgimkkepagcpkaa.row
namespace Go.Proofs.Ytgimkkepagcpkaa
/-- The row, under a short name, for the claim. -/
theorem pvqKnown_holds : Rows.PvqKnownSaid := row.pvqKnown.proved
#print axioms pvqKnown_holds
end Go.Proofs.Ytgimkkepagcpkaa
