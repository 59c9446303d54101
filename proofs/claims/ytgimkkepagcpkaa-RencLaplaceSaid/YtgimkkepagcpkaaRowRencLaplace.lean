/-
  RencLaplace: a number that is written is the number or the nearest on its side that can be read, for every three numbers; no condition.
-/
import Derived.Test.YtgimkkepagcpkaaSeatFacts
import Derived.Test.YtgimkkepagcpkaaPlLaw4
set_option linter.unusedSimpArgs false
namespace Go.Proofs.Ytgimkkepagcpkaa.row
open Go.ChangeShapes Go.WideShapes Go.ChangeAt Go.RowKit Go.Eng 
set_option linter.unusedVariables false
theorem pure0 (v fs d : Int) (hw : WfI .i64 v) (_ : WfI .i64 fs) (_ : WfI .i64 d) : ∃ N, Rc.rencLaplace.F N v fs d = some true := Pl.rencLaplace_pure v fs d (by have := WfI.bounds hw; simp only [show IntKind.i64.max = 9223372036854775807 from rfl, show IntKind.i64.min = -9223372036854775808 from rfl] at this; exact this)
theorem rencLaplace.f1 : (Rows.rencLaplaceRow.inPlace == Try.prog.inPlace 6) = true := by kernel_rfl
theorem rencLaplace.f2 : (Rows.rencLaplaceRow.unfollowed == Try.prog.unfollowed 6) = true := by kernel_rfl
theorem rencLaplace.f3 : (Rows.rencLaplaceRow.recurses == Try.prog.recurses 6) = true := by kernel_rfl
theorem rencLaplace.f4 : (Rows.rencLaplaceRow.named == Try.prog.varsNamed 6) = true := by kernel_rfl
set_option maxRecDepth 100000 in
theorem rencLaplace.facts : joinedFacts Try.prog 6 Try.f6 Rows.rencLaplaceSpec Rows.rencLaplaceRow = true := by
  refine facts_mk ?_ seat.laidOut seat.rowed ?_ ?_ ?_ seat.stops ?_ seat.knobs rencLaplace.f1 rencLaplace.f2 rencLaplace.f3 rencLaplace.f4 ?_ ?_ ?_ ?_ ?_ ?_ ?_ ?_ ?_ ?keys ?_ seat.heard seat.may ?final ?make ?_ ?_ ?_ ?_
  case keys => rw [seat.keys]; kernel_rfl
  case final => rw [seat.final]; kernel_rfl
  case make => rw [seat.make]; kernel_rfl
  all_goals kernel_rfl
set_option maxRecDepth 100000 in
theorem rencLaplace.lifted (os : Os) (started : os.Started) (H : Type) (enc : TypeId × Value → H) :
    ReturnsInHanded {} Try.checked os 6 .any (Rows.rencLaplaceSpec.pre6 enc Try.prog Try.f6 Rows.rencLaplaceRow.domain false) (Rows.rencLaplaceSpec.post enc Try.prog Try.f6 false true false false) := by
  refine returnsInHanded_of_change_sized (C := Try.checked) seat.own started (by kernel_rfl) Try.func6
    (ChangeSpec.witness6 (enc := enc) (C := Try.checked) false ⟨#[], #[.int .i64 0, .int .i64 0, .int .i64 0], []⟩ 8 (by kernel_rfl) (by kernel_rfl) (by kernel_rfl) (by kernel_rfl)) ?_
  intro W base args ds gs before hval0 hW hcnd hsz0 _
  have hval : ∀ (j : Nat) t v, Try.f6.params[j]? = some t → args[j]? = some v → Value.okWide Try.prog W .any base t v := hval0
  have hW' := hW
  obtain ⟨p, q, hA0, hV, rfl, hfz, hnd⟩ := hW
  have hA : DataW.TrodAll enc Try.prog W 0 (fun _ => true) true Try.f6.params.toList args.toList ds p := hA0
  rw [Try.params6] at hA hval
  obtain ⟨v0, vs0, d0, ds0, p0, q0, hargs, rfl, rfl, h0, r0⟩ := trodAll_cons hA
  obtain ⟨v1, vs1, d1, ds1, p1, q1, rfl, rfl, rfl, h1, r1⟩ := trodAll_cons r0
  obtain ⟨v2, vs2, d2, ds2, p2, q2, rfl, rfl, rfl, h2, r2⟩ := trodAll_cons r1
  obtain ⟨rfl, rfl, rfl⟩ := trodAll_nil r2
  obtain rfl : args = #[v0, v1, v2] := by cases args; simp_all
  obtain ⟨rfl, rfl⟩ := trodVars_none hV
  obtain ⟨a0, rfl, rfl, rfl, w0⟩ := open_int Try.underlying3 (hval 0 3 v0 rfl rfl) h0
  obtain ⟨a1, rfl, rfl, rfl, w1⟩ := open_int Try.underlying3 (hval 1 3 v1 rfl rfl) h1
  obtain ⟨a2, rfl, rfl, rfl, w2⟩ := open_int Try.underlying3 (hval 2 3 v2 rfl rfl) h2
  clear hA0 hval0 hsz0
  obtain ⟨N, hN⟩ := pure0 a0 a1 a2 w0 w1 w2
  refine (Rc.rencLaplace.walk a0 a1 a2 (cargs := #[.int .i64 a0, .int .i64 a1, .int .i64 a2]) (.cons (R.int _ _) (.cons (R.int _ _) (.cons (R.int _ _) .nil))) hN).mono fun e W' ⟨he, fr⟩ => ?_
  have bel := fr.below
  subst he
  exact ⟨_, rfl, _, _, _, [], _, [], hW', trodAll_mk1 (shut_bool Try.underlying4 _), (trodAll_cons_mk (shut_int Try.underlying3 w0) (trodAll_cons_mk (shut_int Try.underlying3 w1) (trodAll_cons_mk (shut_int Try.underlying3 w2) trodAll_mk0))), rfl, bel.frame _, fun h => by cases h⟩
theorem rencLaplace.over : Rows.rencLaplaceRow.holds Try.pinned (OpenSpec.ofChange Rows.rencLaplaceSpec) :=
  OpenClaim.holds_of_wide 6 Try.f6 rfl rfl rfl rfl rfl rfl rfl ⟨rfl, rfl, rfl, rfl, rfl⟩ rfl rfl rfl rfl rfl (by kernel_rfl) Try.func6 rencLaplace.facts
    (of_decide_eq_true (by kernel_rfl)) (by unfold Func.isWrapper; first | (rw [if_pos (by decide +kernel)]; kernel_rfl) | (rw [if_neg (by decide +kernel)]; exact ⟨rfl, rfl⟩))
    (fun os started H enc _ => rencLaplace.lifted os started H enc)
theorem rencLaplace.proved : Rows.RencLaplaceSaid := rencLaplace.over
end Go.Proofs.Ytgimkkepagcpkaa.row
namespace Go.Proofs.Ytgimkkepagcpkaa
/-- The row, under a short name, for the claim. -/
theorem rencLaplace_holds : Rows.RencLaplaceSaid := row.rencLaplace.proved
#print axioms rencLaplace_holds
end Go.Proofs.Ytgimkkepagcpkaa
