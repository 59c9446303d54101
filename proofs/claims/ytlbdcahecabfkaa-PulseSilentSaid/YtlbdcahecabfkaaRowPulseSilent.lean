/-
  PulseSilent: silence and one pulse may be, and come back; no condition beyond the row.
-/
import Derived.Test.YtlbdcahecabfkaaSeatFacts
import Derived.Test.YtlbdcahecabfkaaPlPu5
set_option linter.unusedSimpArgs false
namespace Go.Proofs.Ytlbdcahecabfkaa.row
open Go.ChangeShapes Go.WideShapes Go.ChangeAt Go.RowKit Go.Eng 
set_option linter.unusedVariables false
theorem pulseSilent.f1 : (Rows.pulseSilentRow.inPlace == Try.prog.inPlace 15) = true := by kernel_rfl
theorem pulseSilent.f2 : (Rows.pulseSilentRow.unfollowed == Try.prog.unfollowed 15) = true := by kernel_rfl
theorem pulseSilent.f3 : (Rows.pulseSilentRow.recurses == Try.prog.recurses 15) = true := by kernel_rfl
theorem pulseSilent.f4 : (Rows.pulseSilentRow.named == Try.prog.varsNamed 15) = true := by kernel_rfl
set_option maxRecDepth 100000 in
theorem pulseSilent.facts : joinedFacts Try.prog 15 Try.f15 Rows.pulseSilentSpec Rows.pulseSilentRow = true := by
  refine facts_mk ?_ seat.laidOut seat.rowed ?_ ?_ ?_ seat.stops ?_ seat.knobs pulseSilent.f1 pulseSilent.f2 pulseSilent.f3 pulseSilent.f4 ?_ ?_ ?_ ?_ ?_ ?_ ?_ ?_ ?_ ?keys ?_ seat.heard seat.may ?final ?make ?_ ?_ ?_ ?_
  case keys => rw [seat.keys]; kernel_rfl
  case final => rw [seat.final]; kernel_rfl
  case make => rw [seat.make]; kernel_rfl
  all_goals kernel_rfl
set_option maxRecDepth 100000 in
theorem pulseSilent.lifted (os : Os) (started : os.Started) (H : Type) (enc : TypeId × Value → H) :
    ReturnsInHanded {} Try.checked os 15 .any (Rows.pulseSilentSpec.pre6 enc Try.prog Try.f15 Rows.pulseSilentRow.domain false) (Rows.pulseSilentSpec.post enc Try.prog Try.f15 false true false false) := by
  refine returnsInHanded_of_change_sized (C := Try.checked) seat.own started (by kernel_rfl) Try.func15
    (ChangeSpec.witness6 (enc := enc) (C := Try.checked) false ⟨#[], #[.int .i64 0, .int .i64 0, .bool false], []⟩ 8 (by kernel_rfl) (by kernel_rfl) (by kernel_rfl) (by kernel_rfl)) ?_
  intro W base args ds gs before hval0 hW hcnd hsz0 _
  have hval : ∀ (j : Nat) t v, Try.f15.params[j]? = some t → args[j]? = some v → Value.okWide Try.prog W .any base t v := hval0
  have hW' := hW
  obtain ⟨p, q, hA0, hV, rfl, hfz, hnd⟩ := hW
  have hA : DataW.TrodAll enc Try.prog W 0 (fun _ => true) true Try.f15.params.toList args.toList ds p := hA0
  rw [Try.params15] at hA hval
  obtain ⟨v0, vs0, d0, ds0, p0, q0, hargs, rfl, rfl, h0, r0⟩ := trodAll_cons hA
  obtain ⟨v1, vs1, d1, ds1, p1, q1, rfl, rfl, rfl, h1, r1⟩ := trodAll_cons r0
  obtain ⟨v2, vs2, d2, ds2, p2, q2, rfl, rfl, rfl, h2, r2⟩ := trodAll_cons r1
  obtain ⟨rfl, rfl, rfl⟩ := trodAll_nil r2
  obtain rfl : args = #[v0, v1, v2] := by cases args; simp_all
  obtain ⟨rfl, rfl⟩ := trodVars_none hV
  obtain ⟨a0, rfl, rfl, rfl, w0⟩ := open_int Try.underlying3 (hval 0 3 v0 rfl rfl) h0
  obtain ⟨a1, rfl, rfl, rfl, w1⟩ := open_int Try.underlying3 (hval 1 3 v1 rfl rfl) h1
  obtain ⟨a2, rfl, rfl, rfl⟩ := open_bool Try.underlying4 (hval 2 4 v2 rfl rfl) h2
  clear hA0 hval0 hsz0
  obtain ⟨N, hN⟩ := (fun n a m _ _ => Pl.pulseSilent_pure n a m) a0 a1 a2 w0 w1
  refine (Rc.pulseSilent.walk a0 a1 a2 (cargs := #[.int .i64 a0, .int .i64 a1, .bool a2]) (.cons (R.int _ _) (.cons (R.int _ _) (.cons (R.bool _) .nil))) hN).mono fun e W' ⟨he, fr⟩ => ?_
  have bel := fr.below
  subst he
  exact ⟨_, rfl, _, _, _, [], _, [], hW', trodAll_mk1 (shut_bool Try.underlying4 _), (trodAll_cons_mk (shut_int Try.underlying3 w0) (trodAll_cons_mk (shut_int Try.underlying3 w1) (trodAll_cons_mk (shut_bool Try.underlying4 _) trodAll_mk0))), rfl, bel.frame _, fun h => by cases h⟩
theorem pulseSilent.over : Rows.pulseSilentRow.holds Try.pinned (OpenSpec.ofChange Rows.pulseSilentSpec) :=
  OpenClaim.holds_of_wide 15 Try.f15 rfl rfl rfl rfl rfl rfl rfl ⟨rfl, rfl, rfl, rfl, rfl⟩ rfl rfl rfl rfl rfl (by kernel_rfl) Try.func15 pulseSilent.facts
    (of_decide_eq_true (by kernel_rfl)) (by unfold Func.isWrapper; first | (rw [if_pos (by decide +kernel)]; kernel_rfl) | (rw [if_neg (by decide +kernel)]; exact ⟨rfl, rfl⟩))
    (fun os started H enc _ => pulseSilent.lifted os started H enc)
theorem pulseSilent.proved : Rows.PulseSilentSaid := pulseSilent.over
end Go.Proofs.Ytlbdcahecabfkaa.row
namespace Go.Proofs.Ytlbdcahecabfkaa
theorem pulseSilent_holds : Rows.PulseSilentSaid := row.pulseSilent.proved
#print axioms pulseSilent_holds
end Go.Proofs.Ytlbdcahecabfkaa
