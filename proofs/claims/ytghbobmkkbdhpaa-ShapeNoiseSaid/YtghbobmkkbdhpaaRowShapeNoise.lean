/-
  ShapeNoise: both books make the same noise, for every seed, number and size; no condition.
-/
import Derived.Test.YtghbobmkkbdhpaaSeatFacts
import Derived.Test.YtghbobmkkbdhpaaPlSh
set_option linter.unusedSimpArgs false
namespace Go.Proofs.Ytghbobmkkbdhpaa.row
open Go.ChangeShapes Go.WideShapes Go.ChangeAt Go.RowKit Go.Eng 
set_option linter.unusedVariables false
theorem pure0 (s n z : Int) (hs : WfI .u32 s) : ∃ N, Rc.shapeNoise.F N s n z = some true := by
  have h1 := hs.bounds
  simp only [show IntKind.u32.max = 4294967295 from rfl, show IntKind.u32.min = 0 from rfl] at h1
  exact Pl.shapeNoise_pure s n z h1.1 (by omega)
theorem shapeNoise.f1 : (Rows.shapeNoiseRow.inPlace == Try.prog.inPlace 4) = true := by kernel_rfl
theorem shapeNoise.f2 : (Rows.shapeNoiseRow.unfollowed == Try.prog.unfollowed 4) = true := by kernel_rfl
theorem shapeNoise.f3 : (Rows.shapeNoiseRow.recurses == Try.prog.recurses 4) = true := by kernel_rfl
theorem shapeNoise.f4 : (Rows.shapeNoiseRow.named == Try.prog.varsNamed 4) = true := by kernel_rfl
set_option maxRecDepth 100000 in
theorem shapeNoise.facts : joinedFacts Try.prog 4 Try.f4 Rows.shapeNoiseSpec Rows.shapeNoiseRow = true := by
  refine facts_mk ?_ seat.laidOut seat.rowed ?_ ?_ ?_ seat.stops ?_ seat.knobs shapeNoise.f1 shapeNoise.f2 shapeNoise.f3 shapeNoise.f4 ?_ ?_ ?_ ?_ ?_ ?_ ?_ ?_ ?_ ?keys ?_ seat.heard seat.may ?final ?make ?_ ?_ ?_ ?_
  case keys => rw [seat.keys]; kernel_rfl
  case final => rw [seat.final]; kernel_rfl
  case make => rw [seat.make]; kernel_rfl
  all_goals kernel_rfl
set_option maxRecDepth 100000 in
theorem shapeNoise.lifted (os : Os) (started : os.Started) (H : Type) (enc : TypeId × Value → H) :
    ReturnsInHanded {} Try.checked os 4 .any (Rows.shapeNoiseSpec.pre6 enc Try.prog Try.f4 Rows.shapeNoiseRow.domain false) (Rows.shapeNoiseSpec.post enc Try.prog Try.f4 false true false false) := by
  refine returnsInHanded_of_change_sized (C := Try.checked) seat.own started (by kernel_rfl) Try.func4
    (ChangeSpec.witness6 (enc := enc) (C := Try.checked) false ⟨#[], #[.int .u32 0, .int .i64 0, .int .i64 0], []⟩ 8 (by kernel_rfl) (by kernel_rfl) (by kernel_rfl) (by kernel_rfl)) ?_
  intro W base args ds gs before hval0 hW hcnd hsz0 _
  have hval : ∀ (j : Nat) t v, Try.f4.params[j]? = some t → args[j]? = some v → Value.okWide Try.prog W .any base t v := hval0
  have hW' := hW
  obtain ⟨p, q, hA0, hV, rfl, hfz, hnd⟩ := hW
  have hA : DataW.TrodAll enc Try.prog W 0 (fun _ => true) true Try.f4.params.toList args.toList ds p := hA0
  rw [Try.params4] at hA hval
  obtain ⟨v0, vs0, d0, ds0, p0, q0, hargs, rfl, rfl, h0, r0⟩ := trodAll_cons hA
  obtain ⟨v1, vs1, d1, ds1, p1, q1, rfl, rfl, rfl, h1, r1⟩ := trodAll_cons r0
  obtain ⟨v2, vs2, d2, ds2, p2, q2, rfl, rfl, rfl, h2, r2⟩ := trodAll_cons r1
  obtain ⟨rfl, rfl, rfl⟩ := trodAll_nil r2
  obtain rfl : args = #[v0, v1, v2] := by cases args; simp_all
  obtain ⟨rfl, rfl⟩ := trodVars_none hV
  obtain ⟨a0, rfl, rfl, rfl, w0⟩ := open_int Try.underlying24 (hval 0 24 v0 rfl rfl) h0
  obtain ⟨a1, rfl, rfl, rfl, w1⟩ := open_int Try.underlying3 (hval 1 3 v1 rfl rfl) h1
  obtain ⟨a2, rfl, rfl, rfl, w2⟩ := open_int Try.underlying2 (hval 2 2 v2 rfl rfl) h2
  clear hA0 hval0 hsz0
  obtain ⟨N, hN⟩ := (fun s n z hs _ _ => pure0 s n z hs) a0 a1 a2 w0 w1 w2
  refine (Rc.shapeNoise.walk a0 a1 a2 (cargs := #[.int .u32 a0, .int .i64 a1, .int .i64 a2]) (.cons (R.int _ _) (.cons (R.int _ _) (.cons (R.int _ _) .nil))) hN).mono fun e W' ⟨he, fr⟩ => ?_
  have bel := fr.below
  subst he
  exact ⟨_, rfl, _, _, _, [], _, [], hW', trodAll_mk1 (shut_bool Try.underlying4 _), (trodAll_cons_mk (shut_int Try.underlying24 w0) (trodAll_cons_mk (shut_int Try.underlying3 w1) (trodAll_cons_mk (shut_int Try.underlying2 w2) trodAll_mk0))), rfl, bel.frame _, fun h => by cases h⟩
theorem shapeNoise.over : Rows.shapeNoiseRow.holds Try.pinned (OpenSpec.ofChange Rows.shapeNoiseSpec) :=
  OpenClaim.holds_of_wide 4 Try.f4 rfl rfl rfl rfl rfl rfl rfl ⟨rfl, rfl, rfl, rfl, rfl⟩ rfl rfl rfl rfl rfl (by kernel_rfl) Try.func4 shapeNoise.facts
    (of_decide_eq_true (by kernel_rfl)) (by unfold Func.isWrapper; first | (rw [if_pos (by decide +kernel)]; kernel_rfl) | (rw [if_neg (by decide +kernel)]; exact ⟨rfl, rfl⟩))
    (fun os started H enc _ => shapeNoise.lifted os started H enc)
theorem shapeNoise.proved : Rows.ShapeNoiseSaid := shapeNoise.over
end Go.Proofs.Ytghbobmkkbdhpaa.row
namespace Go.Proofs.Ytghbobmkkbdhpaa
/-- The row, under a short name, for the claim. -/
theorem shapeNoise_holds : Rows.ShapeNoiseSaid := row.shapeNoise.proved
#print axioms shapeNoise_holds
end Go.Proofs.Ytghbobmkkbdhpaa
