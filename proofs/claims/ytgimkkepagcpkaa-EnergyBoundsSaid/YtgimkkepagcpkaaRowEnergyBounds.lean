/-
  EnergyBounds: what is read and what is expected lie within 0 to 100, and what intra reads is told of no former energy; for every bytes and lists; no condition.
-/
import Derived.Test.YtgimkkepagcpkaaSeatFacts
import Derived.Test.YtgimkkepagcpkaaPlEn
set_option linter.unusedSimpArgs false
namespace Go.Proofs.Ytgimkkepagcpkaa.row
open Go.ChangeShapes Go.WideShapes Go.ChangeAt Go.RowKit Go.Eng 
set_option linter.unusedVariables false
theorem energyBounds.f1 : (Rows.energyBoundsRow.inPlace == Try.prog.inPlace 23) = true := by kernel_rfl
theorem energyBounds.f2 : (Rows.energyBoundsRow.unfollowed == Try.prog.unfollowed 23) = true := by kernel_rfl
theorem energyBounds.f3 : (Rows.energyBoundsRow.recurses == Try.prog.recurses 23) = true := by kernel_rfl
theorem energyBounds.f4 : (Rows.energyBoundsRow.named == Try.prog.varsNamed 23) = true := by kernel_rfl
set_option maxRecDepth 100000 in
theorem energyBounds.facts : joinedFacts Try.prog 23 Try.f23 Rows.energyBoundsSpec Rows.energyBoundsRow = true := by
  refine facts_mk ?_ seat.laidOut seat.rowed ?_ ?_ ?_ seat.stops ?_ seat.knobs energyBounds.f1 energyBounds.f2 energyBounds.f3 energyBounds.f4 ?_ ?_ ?_ ?_ ?_ ?_ ?_ ?_ ?_ ?keys ?_ seat.heard seat.may ?final ?make ?_ ?_ ?_ ?_
  case keys => rw [seat.keys]; kernel_rfl
  case final => rw [seat.final]; kernel_rfl
  case make => rw [seat.make]; kernel_rfl
  all_goals kernel_rfl
set_option maxRecDepth 100000 in
theorem energyBounds.lifted (os : Os) (started : os.Started) (H : Type) (enc : TypeId × Value → H) :
    ReturnsInHanded {} Try.checked os 23 .any (Rows.energyBoundsSpec.pre6 enc Try.prog Try.f23 Rows.energyBoundsRow.domain false) (Rows.energyBoundsSpec.post enc Try.prog Try.f23 false true false false) := by
  refine returnsInHanded_of_change_sized (C := Try.checked) seat.own started (by kernel_rfl) Try.func23
    (ChangeSpec.witness6 (enc := enc) (C := Try.checked) false ⟨#[], #[.slice none 0 0, .slice none 0 0, .slice none 0 0], []⟩ 8 (by kernel_rfl) (by kernel_rfl) (by kernel_rfl) (by kernel_rfl)) ?_
  intro W base args ds gs before hval0 hW hcnd hsz0 _
  have hval : ∀ (j : Nat) t v, Try.f23.params[j]? = some t → args[j]? = some v → Value.okWide Try.prog W .any base t v := hval0
  have hW' := hW
  obtain ⟨p, q, hA0, hV, rfl, hfz, hnd⟩ := hW
  have hA : DataW.TrodAll enc Try.prog W 0 (fun _ => true) true Try.f23.params.toList args.toList ds p := hA0
  rw [Try.params23] at hA hval
  obtain ⟨v0, vs0, d0, ds0, p0, q0, hargs, rfl, rfl, h0, r0⟩ := trodAll_cons hA
  obtain ⟨v1, vs1, d1, ds1, p1, q1, rfl, rfl, rfl, h1, r1⟩ := trodAll_cons r0
  obtain ⟨v2, vs2, d2, ds2, p2, q2, rfl, rfl, rfl, h2, r2⟩ := trodAll_cons r1
  obtain ⟨rfl, rfl, rfl⟩ := trodAll_nil r2
  obtain rfl : args = #[v0, v1, v2] := by cases args; simp_all
  obtain ⟨rfl, rfl⟩ := trodVars_none hV
  obtain ⟨a0, len0, cap0, rfl⟩ := okWide_slice Try.underlying29 (hval 0 29 v0 rfl rfl)
  have k0 := h0
  have lt0 : ∀ x ∈ p0, x.block < W.heap.size := by obtain ⟨m, hm⟩ := k0; exact DataW.trod_lt m _ _ _ hm
  obtain ⟨n0, hn0⟩ := h0
  obtain ⟨a1, len1, cap1, rfl⟩ := okWide_slice Try.underlying22 (hval 1 22 v1 rfl rfl)
  have k1 := h1
  have lt1 : ∀ x ∈ p1, x.block < W.heap.size := by obtain ⟨m, hm⟩ := k1; exact DataW.trod_lt m _ _ _ hm
  obtain ⟨n1, hn1⟩ := h1
  obtain ⟨a2, len2, cap2, rfl⟩ := okWide_slice Try.underlying22 (hval 2 22 v2 rfl rfl)
  have k2 := h2
  have lt2 : ∀ x ∈ p2, x.block < W.heap.size := by obtain ⟨m, hm⟩ := k2; exact DataW.trod_lt m _ _ _ hm
  obtain ⟨n2, hn2⟩ := h2
  obtain ⟨w0, z0, hc0, hr0, hw0, hd0⟩ := rd_ints (RT := noRT) Try.underlying29 Try.underlying5 (by kernel_rfl) hn0
  obtain rfl : w0 = .slice a0 len0 cap0 := by simpa [Value.cells] using hc0.symm
  obtain ⟨w1, z1, hc1, hr1, hw1, hd1⟩ := rd_ints (RT := noRT) Try.underlying22 Try.underlying3 (by kernel_rfl) hn1
  obtain rfl : w1 = .slice a1 len1 cap1 := by simpa [Value.cells] using hc1.symm
  obtain ⟨w2, z2, hc2, hr2, hw2, hd2⟩ := rd_ints (RT := noRT) Try.underlying22 Try.underlying3 (by kernel_rfl) hn2
  obtain rfl : w2 = .slice a2 len2 cap2 := by simpa [Value.cells] using hc2.symm
  clear hA0 hval0 hsz0
  obtain ⟨N, hN⟩ := (fun b was other hb _ _ => Pl.energyBounds_pure b was other (Pl.bytes_of hb)) z0 z1 z2 hw0 hw1 hw2
  refine (Rc.energyBounds.walk z0 z1 z2 (cargs := #[.slice a0 len0 cap0, .slice a1 len1 cap1, .slice a2 len2 cap2]) (.cons hr0 (.cons hr1 (.cons hr2 .nil))) hN).mono fun e W' ⟨he, fr⟩ => ?_
  have bel := fr.below
  subst he
  exact ⟨_, rfl, _, _, _, [], _, [], hW', trodAll_mk1 (shut_bool Try.underlying4 _), (trodAll_cons_mk (Below.trod seat.laidOut (by kernel_rfl) (of_decide_eq_true (by kernel_rfl)) k0 bel lt0) (trodAll_cons_mk (Below.trod seat.laidOut (by kernel_rfl) (of_decide_eq_true (by kernel_rfl)) k1 bel lt1) (trodAll_cons_mk (Below.trod seat.laidOut (by kernel_rfl) (of_decide_eq_true (by kernel_rfl)) k2 bel lt2) trodAll_mk0))), rfl, bel.frame _, fun h => by cases h⟩
theorem energyBounds.over : Rows.energyBoundsRow.holds Try.pinned (OpenSpec.ofChange Rows.energyBoundsSpec) :=
  OpenClaim.holds_of_wide 23 Try.f23 rfl rfl rfl rfl rfl rfl rfl ⟨rfl, rfl, rfl, rfl, rfl⟩ rfl rfl rfl rfl rfl (by kernel_rfl) Try.func23 energyBounds.facts
    (of_decide_eq_true (by kernel_rfl)) (by unfold Func.isWrapper; first | (rw [if_pos (by decide +kernel)]; kernel_rfl) | (rw [if_neg (by decide +kernel)]; exact ⟨rfl, rfl⟩))
    (fun os started H enc _ => energyBounds.lifted os started H enc)
theorem energyBounds.proved : Rows.EnergyBoundsSaid := energyBounds.over
end Go.Proofs.Ytgimkkepagcpkaa.row
namespace Go.Proofs.Ytgimkkepagcpkaa
/-- The row, under a short name, for the claim. -/
theorem energyBounds_holds : Rows.EnergyBoundsSaid := row.energyBounds.proved
#print axioms energyBounds_holds
end Go.Proofs.Ytgimkkepagcpkaa
