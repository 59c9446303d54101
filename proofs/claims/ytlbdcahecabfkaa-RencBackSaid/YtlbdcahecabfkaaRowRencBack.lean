/-
  RencBack: all that is written is read, in order, out of any number of bytes that is enough, and too few are refused, for every list of writings and every number; no condition.
-/
import Derived.Test.YtlbdcahecabfkaaActsRow
import Derived.Test.YtlbdcahecabfkaaPlLaw4d
set_option linter.unusedSimpArgs false
namespace Go.Proofs.Ytlbdcahecabfkaa.row
open Go.ChangeShapes Go.WideShapes Go.ChangeAt Go.RowKit Go.Eng 
set_option linter.unusedVariables false
theorem pure0 (l : List Rc.Act4) (bytes : Int) (hw : ∀ a ∈ l, Act4.Wf a) (hb : WfI .i64 bytes) (ht : ∀ a ∈ l, a.t.length ≤ 17592186043904) : ∃ N, Rc.rencBack.F N l bytes = some true := by
  have h1 := hb.bounds
  simp only [show IntKind.i64.max = 9223372036854775807 from rfl, show IntKind.i64.min = -9223372036854775808 from rfl] at h1
  exact ⟨30000, Pl.rencBack_F (Nat.le_refl _) l bytes (by omega) (fun a ha => by have := (hw a ha).v.bounds; simp only [show IntKind.i64.max = 9223372036854775807 from rfl] at this; omega) ht (fun a ha => by have := (hw a ha).n.bounds; simp only [show IntKind.i64.max = 9223372036854775807 from rfl, show IntKind.i64.min = -9223372036854775808 from rfl] at this; omega)⟩
theorem rencBack.f1 : (Rows.rencBackRow.inPlace == Try.prog.inPlace 3) = true := by kernel_rfl
theorem rencBack.f2 : (Rows.rencBackRow.unfollowed == Try.prog.unfollowed 3) = true := by kernel_rfl
theorem rencBack.f3 : (Rows.rencBackRow.recurses == Try.prog.recurses 3) = true := by kernel_rfl
theorem rencBack.f4 : (Rows.rencBackRow.named == Try.prog.varsNamed 3) = true := by kernel_rfl
set_option maxRecDepth 100000 in
theorem rencBack.facts : joinedFacts Try.prog 3 Try.f3 Rows.rencBackSpec Rows.rencBackRow = true := by
  refine facts_mk ?_ seat.laidOut seat.rowed ?_ ?_ ?_ seat.stops ?_ seat.knobs rencBack.f1 rencBack.f2 rencBack.f3 rencBack.f4 ?_ ?_ ?_ ?_ ?_ ?_ ?_ ?_ ?_ ?keys ?_ seat.heard seat.may ?final ?make ?_ ?_ ?_ ?_
  case keys => rw [seat.keys]; kernel_rfl
  case final => rw [seat.final]; kernel_rfl
  case make => rw [seat.make]; kernel_rfl
  all_goals kernel_rfl
set_option maxRecDepth 100000 in
theorem rencBack.lifted (os : Os) (started : os.Started) (H : Type) (enc : TypeId × Value → H) :
    ReturnsInHanded {} Try.checked os 3 .any (Rows.rencBackSpec.pre6 enc Try.prog Try.f3 Rows.rencBackRow.domain false) (Rows.rencBackSpec.post enc Try.prog Try.f3 false true false false) := by
  refine returnsInHanded_of_change_sized (C := Try.checked) seat.own started (by kernel_rfl) Try.func3
    (ChangeSpec.witness6 (enc := enc) (C := Try.checked) false ⟨#[], #[.slice none 0 0, .int .i64 0], []⟩ 8 (by kernel_rfl) (by kernel_rfl) (by kernel_rfl) (by kernel_rfl)) ?_
  intro W base args ds gs before hval0 hW hcnd hsz0 _
  have hval : ∀ (j : Nat) t v, Try.f3.params[j]? = some t → args[j]? = some v → Value.okWide Try.prog W .any base t v := hval0
  have hW' := hW
  obtain ⟨p, q, hA0, hV, rfl, hfz, hnd⟩ := hW
  have hA : DataW.TrodAll enc Try.prog W 0 (fun _ => true) true Try.f3.params.toList args.toList ds p := hA0
  rw [Try.params3] at hA hval
  obtain ⟨v0, vs0, d0, ds0, p0, q0, hargs, rfl, rfl, h0, r0⟩ := trodAll_cons hA
  obtain ⟨v1, vs1, d1, ds1, p1, q1, rfl, rfl, rfl, h1, r1⟩ := trodAll_cons r0
  obtain ⟨rfl, rfl, rfl⟩ := trodAll_nil r1
  obtain rfl : args = #[v0, v1] := by cases args; simp_all
  obtain ⟨rfl, rfl⟩ := trodVars_none hV
  obtain ⟨a0, len0, cap0, rfl⟩ := okWide_slice Try.underlying22 (hval 0 22 v0 rfl rfl)
  have k0 := h0
  have lt0 : ∀ x ∈ p0, x.block < W.heap.size := by obtain ⟨m, hm⟩ := k0; exact DataW.trod_lt m _ _ _ hm
  obtain ⟨n0, hn0⟩ := h0
  obtain ⟨a1, rfl, rfl, rfl, w1⟩ := open_int Try.underlying3 (hval 1 3 v1 rfl rfl) h1
  obtain ⟨w0, z0, hc0, hr0, hw0, hd0⟩ := rd_acts hn0
  obtain rfl : w0 = .slice a0 len0 cap0 := by simpa [Value.cells] using hc0.symm
  have hbulk : ∀ a ∈ z0, a.t.length ≤ 17592186043904 := acts_reach hsz0 (j := 0) (by rw [Try.params3]; rfl) (by rfl) hd0
  clear hA0 hval0 hsz0
  obtain ⟨N, hN⟩ := pure0 z0 a1 hw0 w1 hbulk
  refine (Rc.rencBack.walk z0 a1 (cargs := #[.slice a0 len0 cap0, .int .i64 a1]) (.cons hr0 (.cons (R.int _ _) .nil)) hN).mono fun e W' ⟨he, fr⟩ => ?_
  have bel := fr.below
  subst he
  exact ⟨_, rfl, _, _, _, [], _, [], hW', trodAll_mk1 (shut_bool Try.underlying4 _), (trodAll_cons_mk (Below.trod seat.laidOut (by kernel_rfl) (of_decide_eq_true (by kernel_rfl)) k0 bel lt0) (trodAll_cons_mk (shut_int Try.underlying3 w1) trodAll_mk0)), rfl, bel.frame _, fun h => by cases h⟩
theorem rencBack.over : Rows.rencBackRow.holds Try.pinned (OpenSpec.ofChange Rows.rencBackSpec) :=
  OpenClaim.holds_of_wide 3 Try.f3 rfl rfl rfl rfl rfl rfl rfl ⟨rfl, rfl, rfl, rfl, rfl⟩ rfl rfl rfl rfl rfl (by kernel_rfl) Try.func3 rencBack.facts
    (of_decide_eq_true (by kernel_rfl)) (by unfold Func.isWrapper; first | (rw [if_pos (by decide +kernel)]; kernel_rfl) | (rw [if_neg (by decide +kernel)]; exact ⟨rfl, rfl⟩))
    (fun os started H enc _ => rencBack.lifted os started H enc)
theorem rencBack.proved : Rows.RencBackSaid := rencBack.over
end Go.Proofs.Ytlbdcahecabfkaa.row
namespace Go.Proofs.Ytlbdcahecabfkaa
/-- The row, under a short name, for the claim. -/
theorem rencBack_holds : Rows.RencBackSaid := row.rencBack.proved
#print axioms rencBack_holds
end Go.Proofs.Ytlbdcahecabfkaa
