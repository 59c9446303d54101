/-
  RencCopies: a copy goes its own way and Done changes nothing, for every two lists of writings; no condition.
-/
import Derived.Test.YtlbdcahecabfkaaActsRow2
import Derived.Test.YtlbdcahecabfkaaPlLaw4c
set_option linter.unusedSimpArgs false
namespace Go.Proofs.Ytlbdcahecabfkaa.row
open Go.ChangeShapes Go.WideShapes Go.ChangeAt Go.RowKit Go.Eng 
set_option linter.unusedVariables false
theorem pure0 (l m : List Rc.Act4) (hw : ∀ a ∈ l, Act4.Wf a) (hw2 : ∀ a ∈ m, Act4.Wf a) (ht : (∀ a ∈ l, a.t.length ≤ 17592186043904) ∧ (∀ a ∈ m, a.t.length ≤ 17592186043904)) : ∃ N, Rc.rencCopies.F N l m = some true := Pl.rencCopies_pure l m (fun a ha => by have := (hw a ha).v.bounds; simp only [show IntKind.i64.max = 9223372036854775807 from rfl] at this; omega) ht.1 (fun a ha => by have := (hw2 a ha).v.bounds; simp only [show IntKind.i64.max = 9223372036854775807 from rfl] at this; omega) ht.2
theorem rencCopies.f1 : (Rows.rencCopiesRow.inPlace == Try.prog.inPlace 5) = true := by kernel_rfl
theorem rencCopies.f2 : (Rows.rencCopiesRow.unfollowed == Try.prog.unfollowed 5) = true := by kernel_rfl
theorem rencCopies.f3 : (Rows.rencCopiesRow.recurses == Try.prog.recurses 5) = true := by kernel_rfl
theorem rencCopies.f4 : (Rows.rencCopiesRow.named == Try.prog.varsNamed 5) = true := by kernel_rfl
set_option maxRecDepth 100000 in
theorem rencCopies.facts : joinedFacts Try.prog 5 Try.f5 Rows.rencCopiesSpec Rows.rencCopiesRow = true := by
  refine facts_mk ?_ seat.laidOut seat.rowed ?_ ?_ ?_ seat.stops ?_ seat.knobs rencCopies.f1 rencCopies.f2 rencCopies.f3 rencCopies.f4 ?_ ?_ ?_ ?_ ?_ ?_ ?_ ?_ ?_ ?keys ?_ seat.heard seat.may ?final ?make ?_ ?_ ?_ ?_
  case keys => rw [seat.keys]; kernel_rfl
  case final => rw [seat.final]; kernel_rfl
  case make => rw [seat.make]; kernel_rfl
  all_goals kernel_rfl
set_option maxRecDepth 100000 in
theorem rencCopies.lifted (os : Os) (started : os.Started) (H : Type) (enc : TypeId × Value → H) :
    ReturnsInHanded {} Try.checked os 5 .any (Rows.rencCopiesSpec.pre6 enc Try.prog Try.f5 Rows.rencCopiesRow.domain false) (Rows.rencCopiesSpec.post enc Try.prog Try.f5 false true false false) := by
  refine returnsInHanded_of_change_sized (C := Try.checked) seat.own started (by kernel_rfl) Try.func5
    (ChangeSpec.witness6 (enc := enc) (C := Try.checked) false ⟨#[], #[.slice none 0 0, .slice none 0 0], []⟩ 8 (by kernel_rfl) (by kernel_rfl) (by kernel_rfl) (by kernel_rfl)) ?_
  intro W base args ds gs before hval0 hW hcnd hsz0 _
  have hval : ∀ (j : Nat) t v, Try.f5.params[j]? = some t → args[j]? = some v → Value.okWide Try.prog W .any base t v := hval0
  have hW' := hW
  obtain ⟨p, q, hA0, hV, rfl, hfz, hnd⟩ := hW
  have hA : DataW.TrodAll enc Try.prog W 0 (fun _ => true) true Try.f5.params.toList args.toList ds p := hA0
  rw [Try.params5] at hA hval
  obtain ⟨v0, vs0, d0, ds0, p0, q0, hargs, rfl, rfl, h0, r0⟩ := trodAll_cons hA
  obtain ⟨v1, vs1, d1, ds1, p1, q1, rfl, rfl, rfl, h1, r1⟩ := trodAll_cons r0
  obtain ⟨rfl, rfl, rfl⟩ := trodAll_nil r1
  obtain rfl : args = #[v0, v1] := by cases args; simp_all
  obtain ⟨rfl, rfl⟩ := trodVars_none hV
  obtain ⟨a0, len0, cap0, rfl⟩ := okWide_slice Try.underlying22 (hval 0 22 v0 rfl rfl)
  have k0 := h0
  have lt0 : ∀ x ∈ p0, x.block < W.heap.size := by obtain ⟨m, hm⟩ := k0; exact DataW.trod_lt m _ _ _ hm
  obtain ⟨n0, hn0⟩ := h0
  obtain ⟨a1, len1, cap1, rfl⟩ := okWide_slice Try.underlying22 (hval 1 22 v1 rfl rfl)
  have k1 := h1
  have lt1 : ∀ x ∈ p1, x.block < W.heap.size := by obtain ⟨m, hm⟩ := k1; exact DataW.trod_lt m _ _ _ hm
  obtain ⟨n1, hn1⟩ := h1
  obtain ⟨w0, z0, hc0, hr0, hw0, hd0⟩ := rd_acts0 hn0
  obtain rfl : w0 = .slice a0 len0 cap0 := by simpa [Value.cells] using hc0.symm
  obtain ⟨w1, z1, hc1, hr1, hw1, hd1⟩ := rd_acts1 hn1
  obtain rfl : w1 = .slice a1 len1 cap1 := by simpa [Value.cells] using hc1.symm
  have hbulk : (∀ a ∈ z0, a.t.length ≤ 17592186043904) ∧ (∀ a ∈ z1, a.t.length ≤ 17592186043904) := ⟨acts_reach hsz0 (j := 0) (by rw [Try.params5]; rfl) (by rfl) hd0, acts_reach hsz0 (j := 1) (by rw [Try.params5]; rfl) (by rfl) hd1⟩
  clear hA0 hval0 hsz0
  obtain ⟨N, hN⟩ := pure0 z0 z1 hw0 hw1 hbulk
  refine (Rc.rencCopies.walk z0 z1 (cargs := #[.slice a0 len0 cap0, .slice a1 len1 cap1]) (.cons (hr0 z1) (.cons (hr1 z0) .nil)) hN).mono fun e W' ⟨he, fr⟩ => ?_
  have bel := fr.below
  subst he
  exact ⟨_, rfl, _, _, _, [], _, [], hW', trodAll_mk1 (shut_bool Try.underlying4 _), (trodAll_cons_mk (Below.trod seat.laidOut (by kernel_rfl) (of_decide_eq_true (by kernel_rfl)) k0 bel lt0) (trodAll_cons_mk (Below.trod seat.laidOut (by kernel_rfl) (of_decide_eq_true (by kernel_rfl)) k1 bel lt1) trodAll_mk0)), rfl, bel.frame _, fun h => by cases h⟩
theorem rencCopies.over : Rows.rencCopiesRow.holds Try.pinned (OpenSpec.ofChange Rows.rencCopiesSpec) :=
  OpenClaim.holds_of_wide 5 Try.f5 rfl rfl rfl rfl rfl rfl rfl ⟨rfl, rfl, rfl, rfl, rfl⟩ rfl rfl rfl rfl rfl (by kernel_rfl) Try.func5 rencCopies.facts
    (of_decide_eq_true (by kernel_rfl)) (by unfold Func.isWrapper; first | (rw [if_pos (by decide +kernel)]; kernel_rfl) | (rw [if_neg (by decide +kernel)]; exact ⟨rfl, rfl⟩))
    (fun os started H enc _ => rencCopies.lifted os started H enc)
theorem rencCopies.proved : Rows.RencCopiesSaid := rencCopies.over
end Go.Proofs.Ytlbdcahecabfkaa.row
namespace Go.Proofs.Ytlbdcahecabfkaa
/-- The row, under a short name, for the claim. -/
theorem rencCopies_holds : Rows.RencCopiesSaid := row.rencCopies.proved
#print axioms rencCopies_holds
end Go.Proofs.Ytlbdcahecabfkaa
