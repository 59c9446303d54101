/-
  EnergyRises: louder bands have no lesser number, and a size has a number of that size, for every input; no condition.
-/
import Derived.Test.YtgimkkepagcpkaaSeatFacts
import Derived.Test.YtgimkkepagcpkaaPlEn6
set_option linter.unusedSimpArgs false
namespace Go.Proofs.Ytgimkkepagcpkaa.row
open Go.ChangeShapes Go.WideShapes Go.ChangeAt Go.RowKit Go.Eng 
set_option linter.unusedVariables false
theorem energyRises.f1 : (Rows.energyRisesRow.inPlace == Try.prog.inPlace 22) = true := by kernel_rfl
theorem energyRises.f2 : (Rows.energyRisesRow.unfollowed == Try.prog.unfollowed 22) = true := by kernel_rfl
theorem energyRises.f3 : (Rows.energyRisesRow.recurses == Try.prog.recurses 22) = true := by kernel_rfl
theorem energyRises.f4 : (Rows.energyRisesRow.named == Try.prog.varsNamed 22) = true := by kernel_rfl
set_option maxRecDepth 100000 in
theorem energyRises.facts : joinedFacts Try.prog 22 Try.f22 Rows.energyRisesSpec Rows.energyRisesRow = true := by
  refine facts_mk ?_ seat.laidOut seat.rowed ?_ ?_ ?_ seat.stops ?_ seat.knobs energyRises.f1 energyRises.f2 energyRises.f3 energyRises.f4 ?_ ?_ ?_ ?_ ?_ ?_ ?_ ?_ ?_ ?keys ?_ seat.heard seat.may ?final ?make ?_ ?_ ?_ ?_
  case keys => rw [seat.keys]; kernel_rfl
  case final => rw [seat.final]; kernel_rfl
  case make => rw [seat.make]; kernel_rfl
  all_goals kernel_rfl
set_option maxRecDepth 100000 in
theorem energyRises.lifted (os : Os) (started : os.Started) (H : Type) (enc : TypeId × Value → H) :
    ReturnsInHanded {} Try.checked os 22 .any (Rows.energyRisesSpec.pre6 enc Try.prog Try.f22 Rows.energyRisesRow.domain false) (Rows.energyRisesSpec.post enc Try.prog Try.f22 false true false false) := by
  refine returnsInHanded_of_change_sized (C := Try.checked) seat.own started (by kernel_rfl) Try.func22
    (ChangeSpec.witness6 (enc := enc) (C := Try.checked) false ⟨#[], #[.int .i64 0, .int .i64 0, .slice none 0 0], []⟩ 8 (by kernel_rfl) (by kernel_rfl) (by kernel_rfl) (by kernel_rfl)) ?_
  intro W base args ds gs before hval0 hW hcnd hsz0 _
  have hval : ∀ (j : Nat) t v, Try.f22.params[j]? = some t → args[j]? = some v → Value.okWide Try.prog W .any base t v := hval0
  have hW' := hW
  obtain ⟨p, q, hA0, hV, rfl, hfz, hnd⟩ := hW
  have hA : DataW.TrodAll enc Try.prog W 0 (fun _ => true) true Try.f22.params.toList args.toList ds p := hA0
  rw [Try.params22] at hA hval
  obtain ⟨v0, vs0, d0, ds0, p0, q0, hargs, rfl, rfl, h0, r0⟩ := trodAll_cons hA
  obtain ⟨v1, vs1, d1, ds1, p1, q1, rfl, rfl, rfl, h1, r1⟩ := trodAll_cons r0
  obtain ⟨v2, vs2, d2, ds2, p2, q2, rfl, rfl, rfl, h2, r2⟩ := trodAll_cons r1
  obtain ⟨rfl, rfl, rfl⟩ := trodAll_nil r2
  obtain rfl : args = #[v0, v1, v2] := by cases args; simp_all
  obtain ⟨rfl, rfl⟩ := trodVars_none hV
  obtain ⟨a0, rfl, rfl, rfl, w0⟩ := open_int Try.underlying3 (hval 0 3 v0 rfl rfl) h0
  obtain ⟨a1, rfl, rfl, rfl, w1⟩ := open_int Try.underlying3 (hval 1 3 v1 rfl rfl) h1
  obtain ⟨a2, len2, cap2, rfl⟩ := okWide_slice Try.underlying55 (hval 2 55 v2 rfl rfl)
  have k2 := h2
  have lt2 : ∀ x ∈ p2, x.block < W.heap.size := by obtain ⟨m, hm⟩ := k2; exact DataW.trod_lt m _ _ _ hm
  obtain ⟨n2, hn2⟩ := h2
  obtain ⟨w2, z2, hc2, hr2, hw2, hd2⟩ := rd_ints (RT := noRT) Try.underlying55 Try.underlying2 (by kernel_rfl) hn2
  obtain rfl : w2 = .slice a2 len2 cap2 := by simpa [Value.cells] using hc2.symm
  clear hA0 hval0 hsz0
  obtain ⟨N, hN⟩ := (fun a b f _ _ _ => Pl.energyRises_pure a b f) a0 a1 z2 w0 w1 hw2
  refine (Rc.energyRises.walk a0 a1 z2 (cargs := #[.int .i64 a0, .int .i64 a1, .slice a2 len2 cap2]) (.cons (R.int _ _) (.cons (R.int _ _) (.cons hr2 .nil))) hN).mono fun e W' ⟨he, fr⟩ => ?_
  have bel := fr.below
  subst he
  exact ⟨_, rfl, _, _, _, [], _, [], hW', trodAll_mk1 (shut_bool Try.underlying4 _), (trodAll_cons_mk (shut_int Try.underlying3 w0) (trodAll_cons_mk (shut_int Try.underlying3 w1) (trodAll_cons_mk (Below.trod seat.laidOut (by kernel_rfl) (of_decide_eq_true (by kernel_rfl)) k2 bel lt2) trodAll_mk0))), rfl, bel.frame _, fun h => by cases h⟩
theorem energyRises.over : Rows.energyRisesRow.holds Try.pinned (OpenSpec.ofChange Rows.energyRisesSpec) :=
  OpenClaim.holds_of_wide 22 Try.f22 rfl rfl rfl rfl rfl rfl rfl ⟨rfl, rfl, rfl, rfl, rfl⟩ rfl rfl rfl rfl rfl (by kernel_rfl) Try.func22 energyRises.facts
    (of_decide_eq_true (by kernel_rfl)) (by unfold Func.isWrapper; first | (rw [if_pos (by decide +kernel)]; kernel_rfl) | (rw [if_neg (by decide +kernel)]; exact ⟨rfl, rfl⟩))
    (fun os started H enc _ => energyRises.lifted os started H enc)
theorem energyRises.proved : Rows.EnergyRisesSaid := energyRises.over
end Go.Proofs.Ytgimkkepagcpkaa.row
namespace Go.Proofs.Ytgimkkepagcpkaa
/-- The row, under a short name, for the claim. -/
theorem energyRises_holds : Rows.EnergyRisesSaid := row.energyRises.proved
#print axioms energyRises_holds
end Go.Proofs.Ytgimkkepagcpkaa
