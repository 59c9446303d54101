/-
  RcReads: the reader reads what the reference reads, for every list of bytes and of calls; no condition.
-/
import Derived.Test.YtihbpcggomabcaaActsReach
import Derived.Test.YtihbpcggomabcaaPlLaw3e
set_option linter.unusedSimpArgs false
namespace Go.Proofs.Ytihbpcggomabcaa.row
open Go.ChangeShapes Go.WideShapes Go.ChangeAt Go.RowKit Go.Eng 
set_option linter.unusedVariables false
theorem rcReads.f1 : (Rows.rcReadsRow.inPlace == Try.prog.inPlace 9) = true := by kernel_rfl
theorem rcReads.f2 : (Rows.rcReadsRow.unfollowed == Try.prog.unfollowed 9) = true := by kernel_rfl
theorem rcReads.f3 : (Rows.rcReadsRow.recurses == Try.prog.recurses 9) = true := by kernel_rfl
theorem rcReads.f4 : (Rows.rcReadsRow.named == Try.prog.varsNamed 9) = true := by kernel_rfl
set_option maxRecDepth 100000 in
theorem rcReads.facts : joinedFacts Try.prog 9 Try.f9 Rows.rcReadsSpec Rows.rcReadsRow = true := by
  refine facts_mk ?_ seat.laidOut seat.rowed ?_ ?_ ?_ seat.stops ?_ seat.knobs rcReads.f1 rcReads.f2 rcReads.f3 rcReads.f4 ?_ ?_ ?_ ?_ ?_ ?_ ?_ ?_ ?_ ?keys ?_ seat.heard seat.may ?final ?make ?_ ?_ ?_ ?_
  case keys => rw [seat.keys]; kernel_rfl
  case final => rw [seat.final]; kernel_rfl
  case make => rw [seat.make]; kernel_rfl
  all_goals kernel_rfl
set_option maxRecDepth 100000 in
theorem rcReads.lifted (os : Os) (started : os.Started) (H : Type) (enc : TypeId × Value → H) :
    ReturnsInHanded {} Try.checked os 9 .any (Rows.rcReadsSpec.pre6 enc Try.prog Try.f9 Rows.rcReadsRow.domain false) (Rows.rcReadsSpec.post enc Try.prog Try.f9 false true false false) := by
  refine returnsInHanded_of_change_sized (C := Try.checked) seat.own started (by kernel_rfl) Try.func9
    (ChangeSpec.witness6 (enc := enc) (C := Try.checked) false ⟨#[], #[.slice none 0 0, .slice none 0 0], []⟩ 8 (by kernel_rfl) (by kernel_rfl) (by kernel_rfl) (by kernel_rfl)) ?_
  intro W base args ds gs before hval0 hW hcnd hsz0 _
  have hval : ∀ (j : Nat) t v, Try.f9.params[j]? = some t → args[j]? = some v → Value.okWide Try.prog W .any base t v := hval0
  have hW' := hW
  obtain ⟨p, q, hA0, hV, rfl, hfz, hnd⟩ := hW
  have hA : DataW.TrodAll enc Try.prog W 0 (fun _ => true) true Try.f9.params.toList args.toList ds p := hA0
  rw [Try.params9] at hA hval
  obtain ⟨v0, vs0, d0, ds0, p0, q0, hargs, rfl, rfl, h0, r0⟩ := trodAll_cons hA
  obtain ⟨v1, vs1, d1, ds1, p1, q1, rfl, rfl, rfl, h1, r1⟩ := trodAll_cons r0
  obtain ⟨rfl, rfl, rfl⟩ := trodAll_nil r1
  obtain rfl : args = #[v0, v1] := by cases args; simp_all
  obtain ⟨rfl, rfl⟩ := trodVars_none hV
  obtain ⟨a0, len0, cap0, rfl⟩ := okWide_slice Try.underlying22 (hval 0 22 v0 rfl rfl)
  have k0 := h0
  have lt0 : ∀ x ∈ p0, x.block < W.heap.size := by obtain ⟨m, hm⟩ := k0; exact DataW.trod_lt m _ _ _ hm
  obtain ⟨n0, hn0⟩ := h0
  obtain ⟨a1, len1, cap1, rfl⟩ := okWide_slice Try.underlying23 (hval 1 23 v1 rfl rfl)
  have k1 := h1
  have lt1 : ∀ x ∈ p1, x.block < W.heap.size := by obtain ⟨m, hm⟩ := k1; exact DataW.trod_lt m _ _ _ hm
  obtain ⟨n1, hn1⟩ := h1
  obtain ⟨w1, z1, hc1, hr1, hw1, hd1⟩ := rd_acts3 hn1
  obtain rfl : w1 = .slice a1 len1 cap1 := by simpa [Value.cells] using hc1.symm
  obtain ⟨w0, z0, hc0, hr0, hw0, hd0⟩ := rd_ints (RT := (Rc.actTabK z1)) Try.underlying22 Try.underlying5 (by kernel_rfl) hn0
  obtain rfl : w0 = .slice a0 len0 cap0 := by simpa [Value.cells] using hc0.symm
  have hbulk : ∀ a ∈ z1, a.t.length ≤ 17592186043904 := acts_reach hsz0 (j := 1) (by rw [Try.params9]; rfl) (by rfl) hd1
  clear hA0 hval0 hsz0
  obtain ⟨N, hN⟩ := (fun b l h _ ht => Pl.rcReads_pure b l h ht) z0 z1 hw0 hw1 hbulk
  refine (Rc.rcReads.walk z0 z1 (cargs := #[.slice a0 len0 cap0, .slice a1 len1 cap1]) (.cons hr0 (.cons hr1 .nil)) hN).mono fun e W' ⟨he, fr⟩ => ?_
  have bel := fr.below
  subst he
  exact ⟨_, rfl, _, _, _, [], _, [], hW', trodAll_mk1 (shut_bool Try.underlying4 _), (trodAll_cons_mk (Below.trod seat.laidOut (by kernel_rfl) (of_decide_eq_true (by kernel_rfl)) k0 bel lt0) (trodAll_cons_mk (Below.trod seat.laidOut (by kernel_rfl) (of_decide_eq_true (by kernel_rfl)) k1 bel lt1) trodAll_mk0)), rfl, bel.frame _, fun h => by cases h⟩
theorem rcReads.over : Rows.rcReadsRow.holds Try.pinned (OpenSpec.ofChange Rows.rcReadsSpec) :=
  OpenClaim.holds_of_wide 9 Try.f9 rfl rfl rfl rfl rfl rfl rfl ⟨rfl, rfl, rfl, rfl, rfl⟩ rfl rfl rfl rfl rfl (by kernel_rfl) Try.func9 rcReads.facts
    (of_decide_eq_true (by kernel_rfl)) (by unfold Func.isWrapper; first | (rw [if_pos (by decide +kernel)]; kernel_rfl) | (rw [if_neg (by decide +kernel)]; exact ⟨rfl, rfl⟩))
    (fun os started H enc _ => rcReads.lifted os started H enc)
theorem rcReads.proved : Rows.RcReadsSaid := rcReads.over
end Go.Proofs.Ytihbpcggomabcaa.row
namespace Go.Proofs.Ytihbpcggomabcaa
/-- The row, under a short name, for the claim. -/
theorem rcReads_holds : Rows.RcReadsSaid := row.rcReads.proved
#print axioms rcReads_holds
end Go.Proofs.Ytihbpcggomabcaa
