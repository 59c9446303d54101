/-
  ShapeFills: both books fill pulses alike, and the sum of squares is near, for every list and size; no condition.
-/
import Derived.Test.YtghbobmkkbdhpaaSeatFacts
import Derived.Test.YtghbobmkkbdhpaaPlSh4
set_option linter.unusedSimpArgs false
namespace Go.Proofs.Ytghbobmkkbdhpaa.row
open Go.ChangeShapes Go.WideShapes Go.ChangeAt Go.RowKit Go.Eng 
set_option linter.unusedVariables false
theorem shapeFills.f1 : (Rows.shapeFillsRow.inPlace == Try.prog.inPlace 5) = true := by kernel_rfl
theorem shapeFills.f2 : (Rows.shapeFillsRow.unfollowed == Try.prog.unfollowed 5) = true := by kernel_rfl
theorem shapeFills.f3 : (Rows.shapeFillsRow.recurses == Try.prog.recurses 5) = true := by kernel_rfl
theorem shapeFills.f4 : (Rows.shapeFillsRow.named == Try.prog.varsNamed 5) = true := by kernel_rfl
set_option maxRecDepth 100000 in
theorem shapeFills.facts : joinedFacts Try.prog 5 Try.f5 Rows.shapeFillsSpec Rows.shapeFillsRow = true := by
  refine facts_mk ?_ seat.laidOut seat.rowed ?_ ?_ ?_ seat.stops ?_ seat.knobs shapeFills.f1 shapeFills.f2 shapeFills.f3 shapeFills.f4 ?_ ?_ ?_ ?_ ?_ ?_ ?_ ?_ ?_ ?keys ?_ seat.heard seat.may ?final ?make ?_ ?_ ?_ ?_
  case keys => rw [seat.keys]; kernel_rfl
  case final => rw [seat.final]; kernel_rfl
  case make => rw [seat.make]; kernel_rfl
  all_goals kernel_rfl
set_option maxRecDepth 100000 in
theorem shapeFills.lifted (os : Os) (started : os.Started) (H : Type) (enc : TypeId × Value → H) :
    ReturnsInHanded {} Try.checked os 5 .any (Rows.shapeFillsSpec.pre6 enc Try.prog Try.f5 Rows.shapeFillsRow.domain false) (Rows.shapeFillsSpec.post enc Try.prog Try.f5 false true false false) := by
  refine returnsInHanded_of_change_sized (C := Try.checked) seat.own started (by kernel_rfl) Try.func5
    (ChangeSpec.witness6 (enc := enc) (C := Try.checked) false ⟨#[], #[.slice none 0 0, .int .i64 0], []⟩ 8 (by kernel_rfl) (by kernel_rfl) (by kernel_rfl) (by kernel_rfl)) ?_
  intro W base args ds gs before hval0 hW hcnd hsz0 _
  have hval : ∀ (j : Nat) t v, Try.f5.params[j]? = some t → args[j]? = some v → Value.okWide Try.prog W .any base t v := hval0
  have hW' := hW
  obtain ⟨p, q, hA0, hV, rfl, hfz, hnd⟩ := hW
  have hA : DataW.TrodAll enc Try.prog W 0 (fun _ => true) true Try.f5.params.toList args.toList ds p := hA0
  rw [Try.params5] at hA hval
  obtain ⟨v0, vs0, d0, ds0, p0, q0, hargs, rfl, rfl, h0, r0⟩ := trodAll_cons hA
  obtain ⟨v1, vs1, d1, ds1, p1, q1, rfl, rfl, rfl, h1, r1⟩ := trodAll_cons r0
  obtain ⟨rfl, rfl, rfl⟩ := trodAll_nil r1
  obtain rfl : args = #[v0, v1] := by cases args; simp_all
  obtain ⟨rfl, rfl⟩ := trodVars_none hV
  obtain ⟨a0, len0, cap0, rfl⟩ := okWide_slice Try.underlying27 (hval 0 27 v0 rfl rfl)
  have k0 := h0
  have lt0 : ∀ x ∈ p0, x.block < W.heap.size := by obtain ⟨m, hm⟩ := k0; exact DataW.trod_lt m _ _ _ hm
  obtain ⟨n0, hn0⟩ := h0
  obtain ⟨a1, rfl, rfl, rfl, w1⟩ := open_int Try.underlying2 (hval 1 2 v1 rfl rfl) h1
  obtain ⟨w0, z0, hc0, hr0, hw0, hd0⟩ := rd_ints (RT := noRT) Try.underlying27 Try.underlying2 (by kernel_rfl) hn0
  obtain rfl : w0 = .slice a0 len0 cap0 := by simpa [Value.cells] using hc0.symm
  clear hA0 hval0 hsz0
  obtain ⟨N, hN⟩ := (fun y z _ _ => Pl.shapeFills_pure y z) z0 a1 hw0 w1
  refine (Rc.shapeFills.walk z0 a1 (cargs := #[.slice a0 len0 cap0, .int .i64 a1]) (.cons hr0 (.cons (R.int _ _) .nil)) hN).mono fun e W' ⟨he, fr⟩ => ?_
  have bel := fr.below
  subst he
  exact ⟨_, rfl, _, _, _, [], _, [], hW', trodAll_mk1 (shut_bool Try.underlying4 _), (trodAll_cons_mk (Below.trod seat.laidOut (by kernel_rfl) (of_decide_eq_true (by kernel_rfl)) k0 bel lt0) (trodAll_cons_mk (shut_int Try.underlying2 w1) trodAll_mk0)), rfl, bel.frame _, fun h => by cases h⟩
theorem shapeFills.over : Rows.shapeFillsRow.holds Try.pinned (OpenSpec.ofChange Rows.shapeFillsSpec) :=
  OpenClaim.holds_of_wide 5 Try.f5 rfl rfl rfl rfl rfl rfl rfl ⟨rfl, rfl, rfl, rfl, rfl⟩ rfl rfl rfl rfl rfl (by kernel_rfl) Try.func5 shapeFills.facts
    (of_decide_eq_true (by kernel_rfl)) (by unfold Func.isWrapper; first | (rw [if_pos (by decide +kernel)]; kernel_rfl) | (rw [if_neg (by decide +kernel)]; exact ⟨rfl, rfl⟩))
    (fun os started H enc _ => shapeFills.lifted os started H enc)
theorem shapeFills.proved : Rows.ShapeFillsSaid := shapeFills.over
end Go.Proofs.Ytghbobmkkbdhpaa.row
namespace Go.Proofs.Ytghbobmkkbdhpaa
/-- The row, under a short name, for the claim. -/
theorem shapeFills_holds : Rows.ShapeFillsSaid := row.shapeFills.proved
#print axioms shapeFills_holds
end Go.Proofs.Ytghbobmkkbdhpaa
