/-
  RencTight: what is written fits in the least number of bytes that Tell allows, for every list of writings; no condition.
-/
import Derived.Test.YtlbdcahecabfkaaActsRow
import Derived.Test.YtlbdcahecabfkaaPlLaw4e
set_option linter.unusedSimpArgs false
namespace Go.Proofs.Ytlbdcahecabfkaa.row
open Go.ChangeShapes Go.WideShapes Go.ChangeAt Go.RowKit Go.Eng 
set_option linter.unusedVariables false
theorem pure0 (l : List Rc.Act4) (hw : ∀ a ∈ l, Act4.Wf a) (ht : ∀ a ∈ l, a.t.length ≤ 17592186043904) : ∃ N, Rc.rencTight.F N l = some true := Pl.rencTight_pure l (fun a ha => by have := (hw a ha).v.bounds; simp only [show IntKind.i64.max = 9223372036854775807 from rfl] at this; omega) ht (fun a ha => by have := (hw a ha).n.bounds; simp only [show IntKind.i64.max = 9223372036854775807 from rfl, show IntKind.i64.min = -9223372036854775808 from rfl] at this; omega)
theorem rencTight.f1 : (Rows.rencTightRow.inPlace == Try.prog.inPlace 4) = true := by kernel_rfl
theorem rencTight.f2 : (Rows.rencTightRow.unfollowed == Try.prog.unfollowed 4) = true := by kernel_rfl
theorem rencTight.f3 : (Rows.rencTightRow.recurses == Try.prog.recurses 4) = true := by kernel_rfl
theorem rencTight.f4 : (Rows.rencTightRow.named == Try.prog.varsNamed 4) = true := by kernel_rfl
set_option maxRecDepth 100000 in
theorem rencTight.facts : joinedFacts Try.prog 4 Try.f4 Rows.rencTightSpec Rows.rencTightRow = true := by
  refine facts_mk ?_ seat.laidOut seat.rowed ?_ ?_ ?_ seat.stops ?_ seat.knobs rencTight.f1 rencTight.f2 rencTight.f3 rencTight.f4 ?_ ?_ ?_ ?_ ?_ ?_ ?_ ?_ ?_ ?keys ?_ seat.heard seat.may ?final ?make ?_ ?_ ?_ ?_
  case keys => rw [seat.keys]; kernel_rfl
  case final => rw [seat.final]; kernel_rfl
  case make => rw [seat.make]; kernel_rfl
  all_goals kernel_rfl
set_option maxRecDepth 100000 in
theorem rencTight.lifted (os : Os) (started : os.Started) (H : Type) (enc : TypeId × Value → H) :
    ReturnsInHanded {} Try.checked os 4 .any (Rows.rencTightSpec.pre6 enc Try.prog Try.f4 Rows.rencTightRow.domain false) (Rows.rencTightSpec.post enc Try.prog Try.f4 false true false false) := by
  refine returnsInHanded_of_change_sized (C := Try.checked) seat.own started (by kernel_rfl) Try.func4
    (ChangeSpec.witness6 (enc := enc) (C := Try.checked) false ⟨#[], #[.slice none 0 0], []⟩ 8 (by kernel_rfl) (by kernel_rfl) (by kernel_rfl) (by kernel_rfl)) ?_
  intro W base args ds gs before hval0 hW hcnd hsz0 _
  have hval : ∀ (j : Nat) t v, Try.f4.params[j]? = some t → args[j]? = some v → Value.okWide Try.prog W .any base t v := hval0
  have hW' := hW
  obtain ⟨p, q, hA0, hV, rfl, hfz, hnd⟩ := hW
  have hA : DataW.TrodAll enc Try.prog W 0 (fun _ => true) true Try.f4.params.toList args.toList ds p := hA0
  rw [Try.params4] at hA hval
  obtain ⟨v0, vs0, d0, ds0, p0, q0, hargs, rfl, rfl, h0, r0⟩ := trodAll_cons hA
  obtain ⟨rfl, rfl, rfl⟩ := trodAll_nil r0
  obtain rfl : args = #[v0] := by cases args; simp_all
  obtain ⟨rfl, rfl⟩ := trodVars_none hV
  obtain ⟨a0, len0, cap0, rfl⟩ := okWide_slice Try.underlying22 (hval 0 22 v0 rfl rfl)
  have k0 := h0
  have lt0 : ∀ x ∈ p0, x.block < W.heap.size := by obtain ⟨m, hm⟩ := k0; exact DataW.trod_lt m _ _ _ hm
  obtain ⟨n0, hn0⟩ := h0
  obtain ⟨w0, z0, hc0, hr0, hw0, hd0⟩ := rd_acts hn0
  obtain rfl : w0 = .slice a0 len0 cap0 := by simpa [Value.cells] using hc0.symm
  have hbulk : ∀ a ∈ z0, a.t.length ≤ 17592186043904 := acts_reach hsz0 (j := 0) (by rw [Try.params4]; rfl) (by rfl) hd0
  clear hA0 hval0 hsz0
  obtain ⟨N, hN⟩ := pure0 z0 hw0 hbulk
  refine (Rc.rencTight.walk z0 (cargs := #[.slice a0 len0 cap0]) (.cons hr0 .nil) hN).mono fun e W' ⟨he, fr⟩ => ?_
  have bel := fr.below
  subst he
  exact ⟨_, rfl, _, _, _, [], _, [], hW', trodAll_mk1 (shut_bool Try.underlying4 _), (trodAll_cons_mk (Below.trod seat.laidOut (by kernel_rfl) (of_decide_eq_true (by kernel_rfl)) k0 bel lt0) trodAll_mk0), rfl, bel.frame _, fun h => by cases h⟩
theorem rencTight.over : Rows.rencTightRow.holds Try.pinned (OpenSpec.ofChange Rows.rencTightSpec) :=
  OpenClaim.holds_of_wide 4 Try.f4 rfl rfl rfl rfl rfl rfl rfl ⟨rfl, rfl, rfl, rfl, rfl⟩ rfl rfl rfl rfl rfl (by kernel_rfl) Try.func4 rencTight.facts
    (of_decide_eq_true (by kernel_rfl)) (by unfold Func.isWrapper; first | (rw [if_pos (by decide +kernel)]; kernel_rfl) | (rw [if_neg (by decide +kernel)]; exact ⟨rfl, rfl⟩))
    (fun os started H enc _ => rencTight.lifted os started H enc)
theorem rencTight.proved : Rows.RencTightSaid := rencTight.over
end Go.Proofs.Ytlbdcahecabfkaa.row
namespace Go.Proofs.Ytlbdcahecabfkaa
/-- The row, under a short name, for the claim. -/
theorem rencTight_holds : Rows.RencTightSaid := row.rencTight.proved
#print axioms rencTight_holds
end Go.Proofs.Ytlbdcahecabfkaa
