/-
  ShapeSigns: where a band has pulses enough, its greatest number keeps its sign, for every list and loudness; no condition.
-/
import Derived.Test.YtghbobmkkbdhpaaSeatFacts
import Derived.Test.YtghbobmkkbdhpaaPlBaseToPlSh10
set_option linter.unusedVariables false
set_option linter.unusedSimpArgs false
namespace Go.Proofs.Ytghbobmkkbdhpaa.row
open Go.ChangeShapes Go.WideShapes Go.ChangeAt Go.RowKit Go.Eng 
theorem shapeSigns.f1 : (Rows.shapeSignsRow.inPlace == Try.prog.inPlace 7) = true := by kernel_rfl
theorem shapeSigns.f2 : (Rows.shapeSignsRow.unfollowed == Try.prog.unfollowed 7) = true := by kernel_rfl
theorem shapeSigns.f3 : (Rows.shapeSignsRow.recurses == Try.prog.recurses 7) = true := by kernel_rfl
theorem shapeSigns.f4 : (Rows.shapeSignsRow.named == Try.prog.varsNamed 7) = true := by kernel_rfl
set_option maxRecDepth 100000 in
theorem shapeSigns.facts : joinedFacts Try.prog 7 Try.f7 Rows.shapeSignsSpec Rows.shapeSignsRow = true := by
  refine facts_mk ?_ seat.laidOut seat.rowed ?_ ?_ ?_ seat.stops ?_ seat.knobs shapeSigns.f1 shapeSigns.f2 shapeSigns.f3 shapeSigns.f4 ?_ ?_ ?_ ?_ ?_ ?_ ?_ ?_ ?_ ?keys ?_ seat.heard seat.may ?final ?make ?_ ?_ ?_ ?_
  case keys => rw [seat.keys]; kernel_rfl
  case final => rw [seat.final]; kernel_rfl
  case make => rw [seat.make]; kernel_rfl
  all_goals kernel_rfl
set_option maxRecDepth 100000 in
theorem shapeSigns.lifted (os : Os) (started : os.Started) (H : Type) (enc : TypeId × Value → H) :
    ReturnsInHanded {} Try.checked os 7 .any (Rows.shapeSignsSpec.pre6 enc Try.prog Try.f7 Rows.shapeSignsRow.domain false) (Rows.shapeSignsSpec.post enc Try.prog Try.f7 false true false false) := by
  refine returnsInHanded_of_change_sized (C := Try.checked) seat.own started (by kernel_rfl) Try.func7
    (ChangeSpec.witness6 (enc := enc) (C := Try.checked) false ⟨#[], #[.slice none 0 0, .int .i64 0], []⟩ 8 (by kernel_rfl) (by kernel_rfl) (by kernel_rfl) (by kernel_rfl)) ?_
  intro W base args ds gs before hval0 hW hcnd hsz0 _
  have hval : ∀ (j : Nat) t v, Try.f7.params[j]? = some t → args[j]? = some v → Value.okWide Try.prog W .any base t v := hval0
  have hW' := hW
  obtain ⟨p, q, hA0, hV, rfl, hfz, hnd⟩ := hW
  have hA : DataW.TrodAll enc Try.prog W 0 (fun _ => true) true Try.f7.params.toList args.toList ds p := hA0
  rw [Try.params7] at hA hval
  obtain ⟨v0, vs0, d0, ds0, p0, q0, hargs, rfl, rfl, h0, r0⟩ := trodAll_cons hA
  obtain ⟨v1, vs1, d1, ds1, p1, q1, rfl, rfl, rfl, h1, r1⟩ := trodAll_cons r0
  obtain ⟨rfl, rfl, rfl⟩ := trodAll_nil r1
  obtain rfl : args = #[v0, v1] := by cases args; simp_all
  obtain ⟨rfl, rfl⟩ := trodVars_none hV
  obtain ⟨a0, len0, cap0, rfl⟩ := okWide_slice Try.underlying27 (hval 0 27 v0 rfl rfl)
  have k0 := h0
  have lt0 : ∀ x ∈ p0, x.block < W.heap.size := by obtain ⟨m, hm⟩ := k0; exact DataW.trod_lt m _ _ _ hm
  obtain ⟨n0, hn0⟩ := h0
  obtain ⟨a1, rfl, rfl, rfl, w1⟩ := open_int Try.underlying3 (hval 1 3 v1 rfl rfl) h1
  obtain ⟨w0, z0, hc0, hr0, hw0, hd0⟩ := rd_ints (RT := noRT) Try.underlying27 Try.underlying2 (by kernel_rfl) hn0
  obtain rfl : w0 = .slice a0 len0 cap0 := by simpa [Value.cells] using hc0.symm
  clear hA0 hval0 hsz0
  obtain ⟨N, hN⟩ := (fun f e _ _ => Pl.shapeSigns_pure f e) z0 a1 hw0 w1
  refine (Rc.shapeSigns.walk z0 a1 (cargs := #[.slice a0 len0 cap0, .int .i64 a1]) (.cons hr0 (.cons (R.int _ _) .nil)) hN).mono fun e W' ⟨he, fr⟩ => ?_
  have bel := fr.below
  subst he
  exact ⟨_, rfl, _, _, _, [], _, [], hW', trodAll_mk1 (shut_bool Try.underlying4 _), (trodAll_cons_mk (Below.trod seat.laidOut (by kernel_rfl) (of_decide_eq_true (by kernel_rfl)) k0 bel lt0) (trodAll_cons_mk (shut_int Try.underlying3 w1) trodAll_mk0)), rfl, bel.frame _, fun h => by cases h⟩
theorem shapeSigns.over : Rows.shapeSignsRow.holds Try.pinned (OpenSpec.ofChange Rows.shapeSignsSpec) :=
  OpenClaim.holds_of_wide 7 Try.f7 rfl rfl rfl rfl rfl rfl rfl ⟨rfl, rfl, rfl, rfl, rfl⟩ rfl rfl rfl rfl rfl (by kernel_rfl) Try.func7 shapeSigns.facts
    (of_decide_eq_true (by kernel_rfl)) (by unfold Func.isWrapper; first | (rw [if_pos (by decide +kernel)]; kernel_rfl) | (rw [if_neg (by decide +kernel)]; exact ⟨rfl, rfl⟩))
    (fun os started H enc _ => shapeSigns.lifted os started H enc)
theorem shapeSigns.proved : Rows.ShapeSignsSaid := shapeSigns.over
end Go.Proofs.Ytghbobmkkbdhpaa.row
namespace Go.Proofs.Ytghbobmkkbdhpaa
theorem shapeSigns_holds : Rows.ShapeSignsSaid := row.shapeSigns.proved
#print axioms shapeSigns_holds
end Go.Proofs.Ytghbobmkkbdhpaa
