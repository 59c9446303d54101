/-
  GainNear: the nearest number is no farther than its neighbours, for every number; no condition.
-/
import Derived.Test.YtlbdcahecabfkaaSeatFacts
import Derived.Test.YtlbdcahecabfkaaPlGa4
set_option linter.unusedSimpArgs false
namespace Go.Proofs.Ytlbdcahecabfkaa.row
open Go.ChangeShapes Go.WideShapes Go.ChangeAt Go.RowKit Go.Eng 
set_option linter.unusedVariables false
theorem gainNear.f1 : (Rows.gainNearRow.inPlace == Try.prog.inPlace 9) = true := by kernel_rfl
theorem gainNear.f2 : (Rows.gainNearRow.unfollowed == Try.prog.unfollowed 9) = true := by kernel_rfl
theorem gainNear.f3 : (Rows.gainNearRow.recurses == Try.prog.recurses 9) = true := by kernel_rfl
theorem gainNear.f4 : (Rows.gainNearRow.named == Try.prog.varsNamed 9) = true := by kernel_rfl
set_option maxRecDepth 100000 in
theorem gainNear.facts : joinedFacts Try.prog 9 Try.f9 Rows.gainNearSpec Rows.gainNearRow = true := by
  refine facts_mk ?_ seat.laidOut seat.rowed ?_ ?_ ?_ seat.stops ?_ seat.knobs gainNear.f1 gainNear.f2 gainNear.f3 gainNear.f4 ?_ ?_ ?_ ?_ ?_ ?_ ?_ ?_ ?_ ?keys ?_ seat.heard seat.may ?final ?make ?_ ?_ ?_ ?_
  case keys => rw [seat.keys]; kernel_rfl
  case final => rw [seat.final]; kernel_rfl
  case make => rw [seat.make]; kernel_rfl
  all_goals kernel_rfl
set_option maxRecDepth 100000 in
theorem gainNear.lifted (os : Os) (started : os.Started) (H : Type) (enc : TypeId × Value → H) :
    ReturnsInHanded {} Try.checked os 9 .any (Rows.gainNearSpec.pre6 enc Try.prog Try.f9 Rows.gainNearRow.domain false) (Rows.gainNearSpec.post enc Try.prog Try.f9 false true false false) := by
  refine returnsInHanded_of_change_sized (C := Try.checked) seat.own started (by kernel_rfl) Try.func9
    (ChangeSpec.witness6 (enc := enc) (C := Try.checked) false ⟨#[], #[.int .i64 0], []⟩ 8 (by kernel_rfl) (by kernel_rfl) (by kernel_rfl) (by kernel_rfl)) ?_
  intro W base args ds gs before hval0 hW hcnd hsz0 _
  have hval : ∀ (j : Nat) t v, Try.f9.params[j]? = some t → args[j]? = some v → Value.okWide Try.prog W .any base t v := hval0
  have hW' := hW
  obtain ⟨p, q, hA0, hV, rfl, hfz, hnd⟩ := hW
  have hA : DataW.TrodAll enc Try.prog W 0 (fun _ => true) true Try.f9.params.toList args.toList ds p := hA0
  rw [Try.params9] at hA hval
  obtain ⟨v0, vs0, d0, ds0, p0, q0, hargs, rfl, rfl, h0, r0⟩ := trodAll_cons hA
  obtain ⟨rfl, rfl, rfl⟩ := trodAll_nil r0
  obtain rfl : args = #[v0] := by cases args; simp_all
  obtain ⟨rfl, rfl⟩ := trodVars_none hV
  obtain ⟨a0, rfl, rfl, rfl, w0⟩ := open_int Try.underlying2 (hval 0 2 v0 rfl rfl) h0
  clear hA0 hval0 hsz0
  obtain ⟨N, hN⟩ := (fun v _ => Pl.gainNear_pure v) a0 w0
  refine (Rc.gainNear.walk a0 (cargs := #[.int .i64 a0]) (.cons (R.int _ _) .nil) hN).mono fun e W' ⟨he, fr⟩ => ?_
  have bel := fr.below
  subst he
  exact ⟨_, rfl, _, _, _, [], _, [], hW', trodAll_mk1 (shut_bool Try.underlying4 _), (trodAll_cons_mk (shut_int Try.underlying2 w0) trodAll_mk0), rfl, bel.frame _, fun h => by cases h⟩
theorem gainNear.over : Rows.gainNearRow.holds Try.pinned (OpenSpec.ofChange Rows.gainNearSpec) :=
  OpenClaim.holds_of_wide 9 Try.f9 rfl rfl rfl rfl rfl rfl rfl ⟨rfl, rfl, rfl, rfl, rfl⟩ rfl rfl rfl rfl rfl (by kernel_rfl) Try.func9 gainNear.facts
    (of_decide_eq_true (by kernel_rfl)) (by unfold Func.isWrapper; first | (rw [if_pos (by decide +kernel)]; kernel_rfl) | (rw [if_neg (by decide +kernel)]; exact ⟨rfl, rfl⟩))
    (fun os started H enc _ => gainNear.lifted os started H enc)
theorem gainNear.proved : Rows.GainNearSaid := gainNear.over
end Go.Proofs.Ytlbdcahecabfkaa.row
namespace Go.Proofs.Ytlbdcahecabfkaa
/-- The row, under a short name, for the claim. -/
theorem gainNear_holds : Rows.GainNearSaid := row.gainNear.proved
#print axioms gainNear_holds
end Go.Proofs.Ytlbdcahecabfkaa
