/-
  SpeechKnown: the examples of chapter 14 answer as told; no condition.
-/
import Derived.Test.YtghbobmkkbdhpaaGreatSeatFacts
import Derived.Test.YtghbobmkkbdhpaaGreatPlSy6ToPlKn14b
set_option linter.unusedVariables false
set_option linter.unusedSimpArgs false
namespace Go.Proofs.YtghbobmkkbdhpaaGreat.row
open Go.ChangeShapes Go.WideShapes Go.ChangeAt Go.RowKit Go.Eng 
theorem speechKnown.f1 : (Rows.speechKnownRow.inPlace == Tryz.prog.inPlace 3) = true := by kernel_rfl
theorem speechKnown.f2 : (Rows.speechKnownRow.unfollowed == Tryz.prog.unfollowed 3) = true := by kernel_rfl
theorem speechKnown.f3 : (Rows.speechKnownRow.recurses == Tryz.prog.recurses 3) = true := by kernel_rfl
theorem speechKnown.f4 : (Rows.speechKnownRow.named == Tryz.prog.varsNamed 3) = true := by kernel_rfl
set_option maxRecDepth 100000 in
theorem speechKnown.facts : joinedFacts Tryz.prog 3 Tryz.f3 Rows.speechKnownSpec Rows.speechKnownRow = true := by
  refine facts_mk ?_ seat.laidOut seat.rowed ?_ ?_ ?_ seat.stops ?_ seat.knobs speechKnown.f1 speechKnown.f2 speechKnown.f3 speechKnown.f4 ?_ ?_ ?_ ?_ ?_ ?_ ?_ ?_ ?_ ?keys ?_ seat.heard seat.may ?final ?make ?_ ?_ ?_ ?_
  case keys => rw [seat.keys]; kernel_rfl
  case final => rw [seat.final]; kernel_rfl
  case make => rw [seat.make]; kernel_rfl
  all_goals kernel_rfl
set_option maxRecDepth 100000 in
theorem speechKnown.lifted (os : Os) (started : os.Started) (H : Type) (enc : TypeId × Value → H) :
    ReturnsInHanded {} Tryz.checked os 3 .any (Rows.speechKnownSpec.pre6 enc Tryz.prog Tryz.f3 Rows.speechKnownRow.domain false) (Rows.speechKnownSpec.post enc Tryz.prog Tryz.f3 false true false false) := by
  refine returnsInHanded_of_change_sized (C := Tryz.checked) seat.own started (by kernel_rfl) Tryz.func3
    (ChangeSpec.witness6 (enc := enc) (C := Tryz.checked) false ⟨#[], #[], []⟩ 8 (by kernel_rfl) (by kernel_rfl) (by kernel_rfl) (by kernel_rfl)) ?_
  intro W base args ds gs before hval0 hW hcnd hsz0 _
  have hval : ∀ (j : Nat) t v, Tryz.f3.params[j]? = some t → args[j]? = some v → Value.okWide Tryz.prog W .any base t v := hval0
  have hW' := hW
  obtain ⟨p, q, hA0, hV, rfl, hfz, hnd⟩ := hW
  have hA : DataW.TrodAll enc Tryz.prog W 0 (fun _ => true) true Tryz.f3.params.toList args.toList ds p := hA0
  rw [Tryz.params3] at hA hval
  obtain ⟨rfl, rfl, rfl⟩ := trodAll_none hA
  obtain ⟨rfl, rfl⟩ := trodVars_none hV
  clear hA0 hval0 hsz0
  obtain ⟨N, hN⟩ := Pl.speechKnown_pure  
  refine (Rc.speechKnown.walk  (cargs := #[]) .nil hN).mono fun e W' ⟨he, fr⟩ => ?_
  have bel := fr.below
  subst he
  exact ⟨_, rfl, _, _, _, [], _, [], hW', trodAll_mk1 (shut_bool Tryz.underlying4 _), trodAll_mk0, rfl, bel.frame _, fun h => by cases h⟩
theorem speechKnown.over : Rows.speechKnownRow.holds Tryz.pinned (OpenSpec.ofChange Rows.speechKnownSpec) :=
  OpenClaim.holds_of_wide 3 Tryz.f3 rfl rfl rfl rfl rfl rfl rfl ⟨rfl, rfl, rfl, rfl, rfl⟩ rfl rfl rfl rfl rfl (by kernel_rfl) Tryz.func3 speechKnown.facts
    (of_decide_eq_true (by kernel_rfl)) (by unfold Func.isWrapper; first | (rw [if_pos (by decide +kernel)]; kernel_rfl) | (rw [if_neg (by decide +kernel)]; exact ⟨rfl, rfl⟩))
    (fun os started H enc _ => speechKnown.lifted os started H enc)
theorem speechKnown.proved : Rows.SpeechKnownSaid := speechKnown.over
end Go.Proofs.YtghbobmkkbdhpaaGreat.row
namespace Go.Proofs.YtghbobmkkbdhpaaGreat
theorem speechKnown_holds : Rows.SpeechKnownSaid := row.speechKnown.proved
#print axioms speechKnown_holds
end Go.Proofs.YtghbobmkkbdhpaaGreat
