/-
  GainKnown: the examples of chapter 8 answer as told; no condition.
-/
import Derived.Test.YtlbdcahecabfkaaSeatFacts
import Derived.Test.YtlbdcahecabfkaaPlKnown8
set_option linter.unusedSimpArgs false
namespace Go.Proofs.Ytlbdcahecabfkaa.row
open Go.ChangeShapes Go.WideShapes Go.ChangeAt Go.RowKit Go.Eng 
set_option linter.unusedVariables false
theorem gainKnown.f1 : (Rows.gainKnownRow.inPlace == Try.prog.inPlace 6) = true := by kernel_rfl
theorem gainKnown.f2 : (Rows.gainKnownRow.unfollowed == Try.prog.unfollowed 6) = true := by kernel_rfl
theorem gainKnown.f3 : (Rows.gainKnownRow.recurses == Try.prog.recurses 6) = true := by kernel_rfl
theorem gainKnown.f4 : (Rows.gainKnownRow.named == Try.prog.varsNamed 6) = true := by kernel_rfl
set_option maxRecDepth 100000 in
theorem gainKnown.facts : joinedFacts Try.prog 6 Try.f6 Rows.gainKnownSpec Rows.gainKnownRow = true := by
  refine facts_mk ?_ seat.laidOut seat.rowed ?_ ?_ ?_ seat.stops ?_ seat.knobs gainKnown.f1 gainKnown.f2 gainKnown.f3 gainKnown.f4 ?_ ?_ ?_ ?_ ?_ ?_ ?_ ?_ ?_ ?keys ?_ seat.heard seat.may ?final ?make ?_ ?_ ?_ ?_
  case keys => rw [seat.keys]; kernel_rfl
  case final => rw [seat.final]; kernel_rfl
  case make => rw [seat.make]; kernel_rfl
  all_goals kernel_rfl
set_option maxRecDepth 100000 in
theorem gainKnown.lifted (os : Os) (started : os.Started) (H : Type) (enc : TypeId × Value → H) :
    ReturnsInHanded {} Try.checked os 6 .any (Rows.gainKnownSpec.pre6 enc Try.prog Try.f6 Rows.gainKnownRow.domain false) (Rows.gainKnownSpec.post enc Try.prog Try.f6 false true false false) := by
  refine returnsInHanded_of_change_sized (C := Try.checked) seat.own started (by kernel_rfl) Try.func6
    (ChangeSpec.witness6 (enc := enc) (C := Try.checked) false ⟨#[], #[], []⟩ 8 (by kernel_rfl) (by kernel_rfl) (by kernel_rfl) (by kernel_rfl)) ?_
  intro W base args ds gs before hval0 hW hcnd hsz0 _
  have hval : ∀ (j : Nat) t v, Try.f6.params[j]? = some t → args[j]? = some v → Value.okWide Try.prog W .any base t v := hval0
  have hW' := hW
  obtain ⟨p, q, hA0, hV, rfl, hfz, hnd⟩ := hW
  have hA : DataW.TrodAll enc Try.prog W 0 (fun _ => true) true Try.f6.params.toList args.toList ds p := hA0
  rw [Try.params6] at hA hval
  obtain ⟨rfl, rfl, rfl⟩ := trodAll_none hA
  obtain ⟨rfl, rfl⟩ := trodVars_none hV
  clear hA0 hval0 hsz0
  obtain ⟨N, hN⟩ := Pl.gainKnown_pure  
  refine (Rc.gainKnown.walk  (cargs := #[]) .nil hN).mono fun e W' ⟨he, fr⟩ => ?_
  have bel := fr.below
  subst he
  exact ⟨_, rfl, _, _, _, [], _, [], hW', trodAll_mk1 (shut_bool Try.underlying4 _), trodAll_mk0, rfl, bel.frame _, fun h => by cases h⟩
theorem gainKnown.over : Rows.gainKnownRow.holds Try.pinned (OpenSpec.ofChange Rows.gainKnownSpec) :=
  OpenClaim.holds_of_wide 6 Try.f6 rfl rfl rfl rfl rfl rfl rfl ⟨rfl, rfl, rfl, rfl, rfl⟩ rfl rfl rfl rfl rfl (by kernel_rfl) Try.func6 gainKnown.facts
    (of_decide_eq_true (by kernel_rfl)) (by unfold Func.isWrapper; first | (rw [if_pos (by decide +kernel)]; kernel_rfl) | (rw [if_neg (by decide +kernel)]; exact ⟨rfl, rfl⟩))
    (fun os started H enc _ => gainKnown.lifted os started H enc)
theorem gainKnown.proved : Rows.GainKnownSaid := gainKnown.over
end Go.Proofs.Ytlbdcahecabfkaa.row
namespace Go.Proofs.Ytlbdcahecabfkaa
/-- The row, under a short name, for the claim. -/
theorem gainKnown_holds : Rows.GainKnownSaid := row.gainKnown.proved
#print axioms gainKnown_holds
end Go.Proofs.Ytlbdcahecabfkaa
