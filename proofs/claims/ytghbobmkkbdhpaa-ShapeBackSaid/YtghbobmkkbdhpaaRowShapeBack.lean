/-
  ShapeBack: a band that is written is read as the answer, in about as many bits as it had, for every list, numbers and seed; no condition.
-/
import Derived.Test.YtghbobmkkbdhpaaSeatFacts
import Derived.Test.YtghbobmkkbdhpaaPlPvq8ToPlSh9
set_option linter.unusedVariables false
set_option linter.unusedSimpArgs false
namespace Go.Proofs.Ytghbobmkkbdhpaa.row
open Go.ChangeShapes Go.WideShapes Go.ChangeAt Go.RowKit Go.Eng 
theorem pure0 (f : List Int) (bits e s : Int) (hb : WfI .i64 bits) (hs : WfI .u32 s) : ∃ N, Rc.shapeBack.F N f bits e s = some true := by
  have h1 := hs.bounds
  have h2 := hb.bounds
  simp only [show IntKind.u32.max = 4294967295 from rfl, show IntKind.u32.min = 0 from rfl] at h1
  simp only [show IntKind.i64.max = 9223372036854775807 from rfl, show IntKind.i64.min = -9223372036854775808 from rfl] at h2
  exact Pl.shapeBack_pure f bits e s h1.1 (by omega) h2.1 (by omega)
theorem shapeBack.f1 : (Rows.shapeBackRow.inPlace == Try.prog.inPlace 6) = true := by kernel_rfl
theorem shapeBack.f2 : (Rows.shapeBackRow.unfollowed == Try.prog.unfollowed 6) = true := by kernel_rfl
theorem shapeBack.f3 : (Rows.shapeBackRow.recurses == Try.prog.recurses 6) = true := by kernel_rfl
theorem shapeBack.f4 : (Rows.shapeBackRow.named == Try.prog.varsNamed 6) = true := by kernel_rfl
set_option maxRecDepth 100000 in
theorem shapeBack.facts : joinedFacts Try.prog 6 Try.f6 Rows.shapeBackSpec Rows.shapeBackRow = true := by
  refine facts_mk ?_ seat.laidOut seat.rowed ?_ ?_ ?_ seat.stops ?_ seat.knobs shapeBack.f1 shapeBack.f2 shapeBack.f3 shapeBack.f4 ?_ ?_ ?_ ?_ ?_ ?_ ?_ ?_ ?_ ?keys ?_ seat.heard seat.may ?final ?make ?_ ?_ ?_ ?_
  case keys => rw [seat.keys]; kernel_rfl
  case final => rw [seat.final]; kernel_rfl
  case make => rw [seat.make]; kernel_rfl
  all_goals kernel_rfl
set_option maxRecDepth 100000 in
theorem shapeBack.lifted (os : Os) (started : os.Started) (H : Type) (enc : TypeId × Value → H) :
    ReturnsInHanded {} Try.checked os 6 .any (Rows.shapeBackSpec.pre6 enc Try.prog Try.f6 Rows.shapeBackRow.domain false) (Rows.shapeBackSpec.post enc Try.prog Try.f6 false true false false) := by
  refine returnsInHanded_of_change_sized (C := Try.checked) seat.own started (by kernel_rfl) Try.func6
    (ChangeSpec.witness6 (enc := enc) (C := Try.checked) false ⟨#[], #[.slice none 0 0, .int .i64 0, .int .i64 0, .int .u32 0], []⟩ 8 (by kernel_rfl) (by kernel_rfl) (by kernel_rfl) (by kernel_rfl)) ?_
  intro W base args ds gs before hval0 hW hcnd hsz0 _
  have hval : ∀ (j : Nat) t v, Try.f6.params[j]? = some t → args[j]? = some v → Value.okWide Try.prog W .any base t v := hval0
  have hW' := hW
  obtain ⟨p, q, hA0, hV, rfl, hfz, hnd⟩ := hW
  have hA : DataW.TrodAll enc Try.prog W 0 (fun _ => true) true Try.f6.params.toList args.toList ds p := hA0
  rw [Try.params6] at hA hval
  obtain ⟨v0, vs0, d0, ds0, p0, q0, hargs, rfl, rfl, h0, r0⟩ := trodAll_cons hA
  obtain ⟨v1, vs1, d1, ds1, p1, q1, rfl, rfl, rfl, h1, r1⟩ := trodAll_cons r0
  obtain ⟨v2, vs2, d2, ds2, p2, q2, rfl, rfl, rfl, h2, r2⟩ := trodAll_cons r1
  obtain ⟨v3, vs3, d3, ds3, p3, q3, rfl, rfl, rfl, h3, r3⟩ := trodAll_cons r2
  obtain ⟨rfl, rfl, rfl⟩ := trodAll_nil r3
  obtain rfl : args = #[v0, v1, v2, v3] := by cases args; simp_all
  obtain ⟨rfl, rfl⟩ := trodVars_none hV
  obtain ⟨a0, len0, cap0, rfl⟩ := okWide_slice Try.underlying27 (hval 0 27 v0 rfl rfl)
  have k0 := h0
  have lt0 : ∀ x ∈ p0, x.block < W.heap.size := by obtain ⟨m, hm⟩ := k0; exact DataW.trod_lt m _ _ _ hm
  obtain ⟨n0, hn0⟩ := h0
  obtain ⟨a1, rfl, rfl, rfl, w1⟩ := open_int Try.underlying3 (hval 1 3 v1 rfl rfl) h1
  obtain ⟨a2, rfl, rfl, rfl, w2⟩ := open_int Try.underlying3 (hval 2 3 v2 rfl rfl) h2
  obtain ⟨a3, rfl, rfl, rfl, w3⟩ := open_int Try.underlying24 (hval 3 24 v3 rfl rfl) h3
  obtain ⟨w0, z0, hc0, hr0, hw0, hd0⟩ := rd_ints (RT := noRT) Try.underlying27 Try.underlying2 (by kernel_rfl) hn0
  obtain rfl : w0 = .slice a0 len0 cap0 := by simpa [Value.cells] using hc0.symm
  clear hA0 hval0 hsz0
  obtain ⟨N, hN⟩ := (fun f k e s _ hk _ hs => pure0 f k e s hk hs) z0 a1 a2 a3 hw0 w1 w2 w3
  refine (Rc.shapeBack.walk z0 a1 a2 a3 (cargs := #[.slice a0 len0 cap0, .int .i64 a1, .int .i64 a2, .int .u32 a3]) (.cons hr0 (.cons (R.int _ _) (.cons (R.int _ _) (.cons (R.int _ _) .nil)))) hN).mono fun e W' ⟨he, fr⟩ => ?_
  have bel := fr.below
  subst he
  exact ⟨_, rfl, _, _, _, [], _, [], hW', trodAll_mk1 (shut_bool Try.underlying4 _), (trodAll_cons_mk (Below.trod seat.laidOut (by kernel_rfl) (of_decide_eq_true (by kernel_rfl)) k0 bel lt0) (trodAll_cons_mk (shut_int Try.underlying3 w1) (trodAll_cons_mk (shut_int Try.underlying3 w2) (trodAll_cons_mk (shut_int Try.underlying24 w3) trodAll_mk0)))), rfl, bel.frame _, fun h => by cases h⟩
theorem shapeBack.over : Rows.shapeBackRow.holds Try.pinned (OpenSpec.ofChange Rows.shapeBackSpec) :=
  OpenClaim.holds_of_wide 6 Try.f6 rfl rfl rfl rfl rfl rfl rfl ⟨rfl, rfl, rfl, rfl, rfl⟩ rfl rfl rfl rfl rfl (by kernel_rfl) Try.func6 shapeBack.facts
    (of_decide_eq_true (by kernel_rfl)) (by unfold Func.isWrapper; first | (rw [if_pos (by decide +kernel)]; kernel_rfl) | (rw [if_neg (by decide +kernel)]; exact ⟨rfl, rfl⟩))
    (fun os started H enc _ => shapeBack.lifted os started H enc)
theorem shapeBack.proved : Rows.ShapeBackSaid := shapeBack.over
end Go.Proofs.Ytghbobmkkbdhpaa.row
namespace Go.Proofs.Ytghbobmkkbdhpaa
theorem shapeBack_holds : Rows.ShapeBackSaid := row.shapeBack.proved
#print axioms shapeBack_holds
end Go.Proofs.Ytghbobmkkbdhpaa
