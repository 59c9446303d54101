/-
  EnergyKnown: the examples of chapter 19 answer as told; no condition.
-/
import Derived.Test.YtgimkkepagcpkaaSeatFacts
import Derived.Test.YtgimkkepagcpkaaPlKnown19
set_option linter.unusedSimpArgs false
namespace Go.Proofs.Ytgimkkepagcpkaa.row
open Go.ChangeShapes Go.WideShapes Go.ChangeAt Go.RowKit Go.Eng 
set_option linter.unusedVariables false
theorem energyKnown.f1 : (Rows.energyKnownRow.inPlace == Try.prog.inPlace 19) = true := by kernel_rfl
theorem energyKnown.f2 : (Rows.energyKnownRow.unfollowed == Try.prog.unfollowed 19) = true := by kernel_rfl
theorem energyKnown.f3 : (Rows.energyKnownRow.recurses == Try.prog.recurses 19) = true := by kernel_rfl
theorem energyKnown.f4 : (Rows.energyKnownRow.named == Try.prog.varsNamed 19) = true := by kernel_rfl
set_option maxRecDepth 100000 in
theorem energyKnown.facts : joinedFacts Try.prog 19 Try.f19 Rows.energyKnownSpec Rows.energyKnownRow = true := by
  refine facts_mk ?_ seat.laidOut seat.rowed ?_ ?_ ?_ seat.stops ?_ seat.knobs energyKnown.f1 energyKnown.f2 energyKnown.f3 energyKnown.f4 ?_ ?_ ?_ ?_ ?_ ?_ ?_ ?_ ?_ ?keys ?_ seat.heard seat.may ?final ?make ?_ ?_ ?_ ?_
  case keys => rw [seat.keys]; kernel_rfl
  case final => rw [seat.final]; kernel_rfl
  case make => rw [seat.make]; kernel_rfl
  all_goals kernel_rfl
set_option maxRecDepth 100000 in
theorem energyKnown.lifted (os : Os) (started : os.Started) (H : Type) (enc : TypeId × Value → H) :
    ReturnsInHanded {} Try.checked os 19 .any (Rows.energyKnownSpec.pre6 enc Try.prog Try.f19 Rows.energyKnownRow.domain false) (Rows.energyKnownSpec.post enc Try.prog Try.f19 false true false false) := by
  refine returnsInHanded_of_change_sized (C := Try.checked) seat.own started (by kernel_rfl) Try.func19
    (ChangeSpec.witness6 (enc := enc) (C := Try.checked) false ⟨#[], #[], []⟩ 8 (by kernel_rfl) (by kernel_rfl) (by kernel_rfl) (by kernel_rfl)) ?_
  intro W base args ds gs before hval0 hW hcnd hsz0 _
  have hval : ∀ (j : Nat) t v, Try.f19.params[j]? = some t → args[j]? = some v → Value.okWide Try.prog W .any base t v := hval0
  have hW' := hW
  obtain ⟨p, q, hA0, hV, rfl, hfz, hnd⟩ := hW
  have hA : DataW.TrodAll enc Try.prog W 0 (fun _ => true) true Try.f19.params.toList args.toList ds p := hA0
  rw [Try.params19] at hA hval
  obtain ⟨rfl, rfl, rfl⟩ := trodAll_none hA
  obtain ⟨rfl, rfl⟩ := trodVars_none hV
  clear hA0 hval0 hsz0
  obtain ⟨N, hN⟩ := Pl.energyKnown_pure  
  refine (Rc.energyKnown.walk  (cargs := #[]) .nil hN).mono fun e W' ⟨he, fr⟩ => ?_
  have bel := fr.below
  subst he
  exact ⟨_, rfl, _, _, _, [], _, [], hW', trodAll_mk1 (shut_bool Try.underlying4 _), trodAll_mk0, rfl, bel.frame _, fun h => by cases h⟩
theorem energyKnown.over : Rows.energyKnownRow.holds Try.pinned (OpenSpec.ofChange Rows.energyKnownSpec) :=
  OpenClaim.holds_of_wide 19 Try.f19 rfl rfl rfl rfl rfl rfl rfl ⟨rfl, rfl, rfl, rfl, rfl⟩ rfl rfl rfl rfl rfl (by kernel_rfl) Try.func19 energyKnown.facts
    (of_decide_eq_true (by kernel_rfl)) (by unfold Func.isWrapper; first | (rw [if_pos (by decide +kernel)]; kernel_rfl) | (rw [if_neg (by decide +kernel)]; exact ⟨rfl, rfl⟩))
    (fun os started H enc _ => energyKnown.lifted os started H enc)
theorem energyKnown.proved : Rows.EnergyKnownSaid := energyKnown.over
end Go.Proofs.Ytgimkkepagcpkaa.row
namespace Go.Proofs.Ytgimkkepagcpkaa
/-- The row, under a short name, for the claim. -/
theorem energyKnown_holds : Rows.EnergyKnownSaid := row.energyKnown.proved
#print axioms energyKnown_holds
end Go.Proofs.Ytgimkkepagcpkaa
