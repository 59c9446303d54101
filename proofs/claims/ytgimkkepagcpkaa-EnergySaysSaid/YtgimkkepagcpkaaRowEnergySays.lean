/-
  EnergySays: sizes, nearest numbers, what is expected and what is measured are as the plain twin says, for every input; no condition.
-/
import Derived.Test.YtgimkkepagcpkaaSeatFacts
import Derived.Test.YtgimkkepagcpkaaPlEn6
set_option linter.unusedSimpArgs false
namespace Go.Proofs.Ytgimkkepagcpkaa.row
open Go.ChangeShapes Go.WideShapes Go.ChangeAt Go.RowKit Go.Eng 
set_option linter.unusedVariables false
theorem pure0 (e v b : Int) (was now : List Int) (intra : Bool) (f : List Int) (_ : WfI .i64 e) (hv : WfI .i64 v) (hb : WfI .i64 b) (_ : WfL .i64 was) (_ : WfL .i64 now) (_ : WfL .i64 f) : ∃ N, Rc.energySays.F N e v b was now intra f = some true := by
  have h1 := hv.bounds
  have h2 := hb.bounds
  simp only [show IntKind.i64.max = 9223372036854775807 from rfl, show IntKind.i64.min = -9223372036854775808 from rfl] at h1 h2
  exact Pl.energySays_pure e v b was now intra f (by omega) (by omega)
theorem energySays.f1 : (Rows.energySaysRow.inPlace == Try.prog.inPlace 20) = true := by kernel_rfl
theorem energySays.f2 : (Rows.energySaysRow.unfollowed == Try.prog.unfollowed 20) = true := by kernel_rfl
theorem energySays.f3 : (Rows.energySaysRow.recurses == Try.prog.recurses 20) = true := by kernel_rfl
theorem energySays.f4 : (Rows.energySaysRow.named == Try.prog.varsNamed 20) = true := by kernel_rfl
set_option maxRecDepth 100000 in
theorem energySays.facts : joinedFacts Try.prog 20 Try.f20 Rows.energySaysSpec Rows.energySaysRow = true := by
  refine facts_mk ?_ seat.laidOut seat.rowed ?_ ?_ ?_ seat.stops ?_ seat.knobs energySays.f1 energySays.f2 energySays.f3 energySays.f4 ?_ ?_ ?_ ?_ ?_ ?_ ?_ ?_ ?_ ?keys ?_ seat.heard seat.may ?final ?make ?_ ?_ ?_ ?_
  case keys => rw [seat.keys]; kernel_rfl
  case final => rw [seat.final]; kernel_rfl
  case make => rw [seat.make]; kernel_rfl
  all_goals kernel_rfl
set_option maxRecDepth 100000 in
theorem energySays.lifted (os : Os) (started : os.Started) (H : Type) (enc : TypeId × Value → H) :
    ReturnsInHanded {} Try.checked os 20 .any (Rows.energySaysSpec.pre6 enc Try.prog Try.f20 Rows.energySaysRow.domain false) (Rows.energySaysSpec.post enc Try.prog Try.f20 false true false false) := by
  refine returnsInHanded_of_change_sized (C := Try.checked) seat.own started (by kernel_rfl) Try.func20
    (ChangeSpec.witness6 (enc := enc) (C := Try.checked) false ⟨#[], #[.int .i64 0, .int .i64 0, .int .i64 0, .slice none 0 0, .slice none 0 0, .bool false, .slice none 0 0], []⟩ 8 (by kernel_rfl) (by kernel_rfl) (by kernel_rfl) (by kernel_rfl)) ?_
  intro W base args ds gs before hval0 hW hcnd hsz0 _
  have hval : ∀ (j : Nat) t v, Try.f20.params[j]? = some t → args[j]? = some v → Value.okWide Try.prog W .any base t v := hval0
  have hW' := hW
  obtain ⟨p, q, hA0, hV, rfl, hfz, hnd⟩ := hW
  have hA : DataW.TrodAll enc Try.prog W 0 (fun _ => true) true Try.f20.params.toList args.toList ds p := hA0
  rw [Try.params20] at hA hval
  obtain ⟨v0, vs0, d0, ds0, p0, q0, hargs, rfl, rfl, h0, r0⟩ := trodAll_cons hA
  obtain ⟨v1, vs1, d1, ds1, p1, q1, rfl, rfl, rfl, h1, r1⟩ := trodAll_cons r0
  obtain ⟨v2, vs2, d2, ds2, p2, q2, rfl, rfl, rfl, h2, r2⟩ := trodAll_cons r1
  obtain ⟨v3, vs3, d3, ds3, p3, q3, rfl, rfl, rfl, h3, r3⟩ := trodAll_cons r2
  obtain ⟨v4, vs4, d4, ds4, p4, q4, rfl, rfl, rfl, h4, r4⟩ := trodAll_cons r3
  obtain ⟨v5, vs5, d5, ds5, p5, q5, rfl, rfl, rfl, h5, r5⟩ := trodAll_cons r4
  obtain ⟨v6, vs6, d6, ds6, p6, q6, rfl, rfl, rfl, h6, r6⟩ := trodAll_cons r5
  obtain ⟨rfl, rfl, rfl⟩ := trodAll_nil r6
  obtain rfl : args = #[v0, v1, v2, v3, v4, v5, v6] := by cases args; simp_all
  obtain ⟨rfl, rfl⟩ := trodVars_none hV
  obtain ⟨a0, rfl, rfl, rfl, w0⟩ := open_int Try.underlying3 (hval 0 3 v0 rfl rfl) h0
  obtain ⟨a1, rfl, rfl, rfl, w1⟩ := open_int Try.underlying2 (hval 1 2 v1 rfl rfl) h1
  obtain ⟨a2, rfl, rfl, rfl, w2⟩ := open_int Try.underlying3 (hval 2 3 v2 rfl rfl) h2
  obtain ⟨a3, len3, cap3, rfl⟩ := okWide_slice Try.underlying22 (hval 3 22 v3 rfl rfl)
  have k3 := h3
  have lt3 : ∀ x ∈ p3, x.block < W.heap.size := by obtain ⟨m, hm⟩ := k3; exact DataW.trod_lt m _ _ _ hm
  obtain ⟨n3, hn3⟩ := h3
  obtain ⟨a4, len4, cap4, rfl⟩ := okWide_slice Try.underlying22 (hval 4 22 v4 rfl rfl)
  have k4 := h4
  have lt4 : ∀ x ∈ p4, x.block < W.heap.size := by obtain ⟨m, hm⟩ := k4; exact DataW.trod_lt m _ _ _ hm
  obtain ⟨n4, hn4⟩ := h4
  obtain ⟨a5, rfl, rfl, rfl⟩ := open_bool Try.underlying4 (hval 5 4 v5 rfl rfl) h5
  obtain ⟨a6, len6, cap6, rfl⟩ := okWide_slice Try.underlying55 (hval 6 55 v6 rfl rfl)
  have k6 := h6
  have lt6 : ∀ x ∈ p6, x.block < W.heap.size := by obtain ⟨m, hm⟩ := k6; exact DataW.trod_lt m _ _ _ hm
  obtain ⟨n6, hn6⟩ := h6
  obtain ⟨w3, z3, hc3, hr3, hw3, hd3⟩ := rd_ints (RT := noRT) Try.underlying22 Try.underlying3 (by kernel_rfl) hn3
  obtain rfl : w3 = .slice a3 len3 cap3 := by simpa [Value.cells] using hc3.symm
  obtain ⟨w4, z4, hc4, hr4, hw4, hd4⟩ := rd_ints (RT := noRT) Try.underlying22 Try.underlying3 (by kernel_rfl) hn4
  obtain rfl : w4 = .slice a4 len4 cap4 := by simpa [Value.cells] using hc4.symm
  obtain ⟨w6, z6, hc6, hr6, hw6, hd6⟩ := rd_ints (RT := noRT) Try.underlying55 Try.underlying2 (by kernel_rfl) hn6
  obtain rfl : w6 = .slice a6 len6 cap6 := by simpa [Value.cells] using hc6.symm
  clear hA0 hval0 hsz0
  obtain ⟨N, hN⟩ := pure0 a0 a1 a2 z3 z4 a5 z6 w0 w1 w2 hw3 hw4 hw6
  refine (Rc.energySays.walk a0 a1 a2 z3 z4 a5 z6 (cargs := #[.int .i64 a0, .int .i64 a1, .int .i64 a2, .slice a3 len3 cap3, .slice a4 len4 cap4, .bool a5, .slice a6 len6 cap6]) (.cons (R.int _ _) (.cons (R.int _ _) (.cons (R.int _ _) (.cons hr3 (.cons hr4 (.cons (R.bool _) (.cons hr6 .nil))))))) hN).mono fun e W' ⟨he, fr⟩ => ?_
  have bel := fr.below
  subst he
  exact ⟨_, rfl, _, _, _, [], _, [], hW', trodAll_mk1 (shut_bool Try.underlying4 _), (trodAll_cons_mk (shut_int Try.underlying3 w0) (trodAll_cons_mk (shut_int Try.underlying2 w1) (trodAll_cons_mk (shut_int Try.underlying3 w2) (trodAll_cons_mk (Below.trod seat.laidOut (by kernel_rfl) (of_decide_eq_true (by kernel_rfl)) k3 bel lt3) (trodAll_cons_mk (Below.trod seat.laidOut (by kernel_rfl) (of_decide_eq_true (by kernel_rfl)) k4 bel lt4) (trodAll_cons_mk (shut_bool Try.underlying4 _) (trodAll_cons_mk (Below.trod seat.laidOut (by kernel_rfl) (of_decide_eq_true (by kernel_rfl)) k6 bel lt6) trodAll_mk0))))))), rfl, bel.frame _, fun h => by cases h⟩
theorem energySays.over : Rows.energySaysRow.holds Try.pinned (OpenSpec.ofChange Rows.energySaysSpec) :=
  OpenClaim.holds_of_wide 20 Try.f20 rfl rfl rfl rfl rfl rfl rfl ⟨rfl, rfl, rfl, rfl, rfl⟩ rfl rfl rfl rfl rfl (by kernel_rfl) Try.func20 energySays.facts
    (of_decide_eq_true (by kernel_rfl)) (by unfold Func.isWrapper; first | (rw [if_pos (by decide +kernel)]; kernel_rfl) | (rw [if_neg (by decide +kernel)]; exact ⟨rfl, rfl⟩))
    (fun os started H enc _ => energySays.lifted os started H enc)
theorem energySays.proved : Rows.EnergySaysSaid := energySays.over
end Go.Proofs.Ytgimkkepagcpkaa.row
namespace Go.Proofs.Ytgimkkepagcpkaa
/-- The row, under a short name, for the claim. -/
theorem energySays_holds : Rows.EnergySaysSaid := row.energySays.proved
#print axioms energySays_holds
end Go.Proofs.Ytgimkkepagcpkaa
