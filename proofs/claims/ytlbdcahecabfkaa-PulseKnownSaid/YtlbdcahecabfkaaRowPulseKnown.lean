/-
  PulseKnown: the examples of chapter 9 answer as told; no condition.
-/
import Derived.Test.YtlbdcahecabfkaaSeatFacts
import Derived.Test.YtlbdcahecabfkaaPlKnown9
set_option linter.unusedSimpArgs false
namespace Go.Proofs.Ytlbdcahecabfkaa.row
open Go.ChangeShapes Go.WideShapes Go.ChangeAt Go.RowKit Go.Eng 
set_option linter.unusedVariables false
theorem pulseKnown.f1 : (Rows.pulseKnownRow.inPlace == Try.prog.inPlace 11) = true := by kernel_rfl
theorem pulseKnown.f2 : (Rows.pulseKnownRow.unfollowed == Try.prog.unfollowed 11) = true := by kernel_rfl
theorem pulseKnown.f3 : (Rows.pulseKnownRow.recurses == Try.prog.recurses 11) = true := by kernel_rfl
theorem pulseKnown.f4 : (Rows.pulseKnownRow.named == Try.prog.varsNamed 11) = true := by kernel_rfl
set_option maxRecDepth 100000 in
theorem pulseKnown.facts : joinedFacts Try.prog 11 Try.f11 Rows.pulseKnownSpec Rows.pulseKnownRow = true := by
  refine facts_mk ?_ seat.laidOut seat.rowed ?_ ?_ ?_ seat.stops ?_ seat.knobs pulseKnown.f1 pulseKnown.f2 pulseKnown.f3 pulseKnown.f4 ?_ ?_ ?_ ?_ ?_ ?_ ?_ ?_ ?_ ?keys ?_ seat.heard seat.may ?final ?make ?_ ?_ ?_ ?_
  case keys => rw [seat.keys]; kernel_rfl
  case final => rw [seat.final]; kernel_rfl
  case make => rw [seat.make]; kernel_rfl
  all_goals kernel_rfl
set_option maxRecDepth 100000 in
theorem pulseKnown.lifted (os : Os) (started : os.Started) (H : Type) (enc : TypeId × Value → H) :
    ReturnsInHanded {} Try.checked os 11 .any (Rows.pulseKnownSpec.pre6 enc Try.prog Try.f11 Rows.pulseKnownRow.domain false) (Rows.pulseKnownSpec.post enc Try.prog Try.f11 false true false false) := by
  refine returnsInHanded_of_change_sized (C := Try.checked) seat.own started (by kernel_rfl) Try.func11
    (ChangeSpec.witness6 (enc := enc) (C := Try.checked) false ⟨#[], #[], []⟩ 8 (by kernel_rfl) (by kernel_rfl) (by kernel_rfl) (by kernel_rfl)) ?_
  intro W base args ds gs before hval0 hW hcnd hsz0 _
  have hval : ∀ (j : Nat) t v, Try.f11.params[j]? = some t → args[j]? = some v → Value.okWide Try.prog W .any base t v := hval0
  have hW' := hW
  obtain ⟨p, q, hA0, hV, rfl, hfz, hnd⟩ := hW
  have hA : DataW.TrodAll enc Try.prog W 0 (fun _ => true) true Try.f11.params.toList args.toList ds p := hA0
  rw [Try.params11] at hA hval
  obtain ⟨rfl, rfl, rfl⟩ := trodAll_none hA
  obtain ⟨rfl, rfl⟩ := trodVars_none hV
  clear hA0 hval0 hsz0
  obtain ⟨N, hN⟩ := Pl.pulseKnown_pure  
  refine (Rc.pulseKnown.walk  (cargs := #[]) .nil hN).mono fun e W' ⟨he, fr⟩ => ?_
  have bel := fr.below
  subst he
  exact ⟨_, rfl, _, _, _, [], _, [], hW', trodAll_mk1 (shut_bool Try.underlying4 _), trodAll_mk0, rfl, bel.frame _, fun h => by cases h⟩
theorem pulseKnown.over : Rows.pulseKnownRow.holds Try.pinned (OpenSpec.ofChange Rows.pulseKnownSpec) :=
  OpenClaim.holds_of_wide 11 Try.f11 rfl rfl rfl rfl rfl rfl rfl ⟨rfl, rfl, rfl, rfl, rfl⟩ rfl rfl rfl rfl rfl (by kernel_rfl) Try.func11 pulseKnown.facts
    (of_decide_eq_true (by kernel_rfl)) (by unfold Func.isWrapper; first | (rw [if_pos (by decide +kernel)]; kernel_rfl) | (rw [if_neg (by decide +kernel)]; exact ⟨rfl, rfl⟩))
    (fun os started H enc _ => pulseKnown.lifted os started H enc)
theorem pulseKnown.proved : Rows.PulseKnownSaid := pulseKnown.over
end Go.Proofs.Ytlbdcahecabfkaa.row
namespace Go.Proofs.Ytlbdcahecabfkaa
/-- The row, under a short name, for the claim. -/
theorem pulseKnown_holds : Rows.PulseKnownSaid := row.pulseKnown.proved
#print axioms pulseKnown_holds
end Go.Proofs.Ytlbdcahecabfkaa
