/-
  PulseBack: pulses that may be are written and read back alike; no condition beyond the row.
-/
import Derived.Test.YtlbdcahecabfkaaSeatFacts
import Derived.Test.YtlbdcahecabfkaaPlPu4
set_option linter.unusedSimpArgs false
namespace Go.Proofs.Ytlbdcahecabfkaa.row
open Go.ChangeShapes Go.WideShapes Go.ChangeAt Go.RowKit Go.Eng 
set_option linter.unusedVariables false
theorem pulseBack.f1 : (Rows.pulseBackRow.inPlace == Try.prog.inPlace 12) = true := by kernel_rfl
theorem pulseBack.f2 : (Rows.pulseBackRow.unfollowed == Try.prog.unfollowed 12) = true := by kernel_rfl
theorem pulseBack.f3 : (Rows.pulseBackRow.recurses == Try.prog.recurses 12) = true := by kernel_rfl
theorem pulseBack.f4 : (Rows.pulseBackRow.named == Try.prog.varsNamed 12) = true := by kernel_rfl
set_option maxRecDepth 100000 in
theorem pulseBack.facts : joinedFacts Try.prog 12 Try.f12 Rows.pulseBackSpec Rows.pulseBackRow = true := by
  refine facts_mk ?_ seat.laidOut seat.rowed ?_ ?_ ?_ seat.stops ?_ seat.knobs pulseBack.f1 pulseBack.f2 pulseBack.f3 pulseBack.f4 ?_ ?_ ?_ ?_ ?_ ?_ ?_ ?_ ?_ ?keys ?_ seat.heard seat.may ?final ?make ?_ ?_ ?_ ?_
  case keys => rw [seat.keys]; kernel_rfl
  case final => rw [seat.final]; kernel_rfl
  case make => rw [seat.make]; kernel_rfl
  all_goals kernel_rfl
set_option maxRecDepth 100000 in
theorem pulseBack.lifted (os : Os) (started : os.Started) (H : Type) (enc : TypeId × Value → H) :
    ReturnsInHanded {} Try.checked os 12 .any (Rows.pulseBackSpec.pre6 enc Try.prog Try.f12 Rows.pulseBackRow.domain false) (Rows.pulseBackSpec.post enc Try.prog Try.f12 false true false false) := by
  refine returnsInHanded_of_change_sized (C := Try.checked) seat.own started (by kernel_rfl) Try.func12
    (ChangeSpec.witness6 (enc := enc) (C := Try.checked) false ⟨#[], #[.slice none 0 0], []⟩ 8 (by kernel_rfl) (by kernel_rfl) (by kernel_rfl) (by kernel_rfl)) ?_
  intro W base args ds gs before hval0 hW hcnd hsz0 _
  have hval : ∀ (j : Nat) t v, Try.f12.params[j]? = some t → args[j]? = some v → Value.okWide Try.prog W .any base t v := hval0
  have hW' := hW
  obtain ⟨p, q, hA0, hV, rfl, hfz, hnd⟩ := hW
  have hA : DataW.TrodAll enc Try.prog W 0 (fun _ => true) true Try.f12.params.toList args.toList ds p := hA0
  rw [Try.params12] at hA hval
  obtain ⟨v0, vs0, d0, ds0, p0, q0, hargs, rfl, rfl, h0, r0⟩ := trodAll_cons hA
  obtain ⟨rfl, rfl, rfl⟩ := trodAll_nil r0
  obtain rfl : args = #[v0] := by cases args; simp_all
  obtain ⟨rfl, rfl⟩ := trodVars_none hV
  obtain ⟨a0, len0, cap0, rfl⟩ := okWide_slice Try.underlying65 (hval 0 65 v0 rfl rfl)
  have k0 := h0
  have lt0 : ∀ x ∈ p0, x.block < W.heap.size := by obtain ⟨m, hm⟩ := k0; exact DataW.trod_lt m _ _ _ hm
  obtain ⟨n0, hn0⟩ := h0
  obtain ⟨w0, z0, hc0, hr0, hw0, hd0⟩ := rd_ints (RT := noRT) Try.underlying65 Try.underlying2 (by kernel_rfl) hn0
  obtain rfl : w0 = .slice a0 len0 cap0 := by simpa [Value.cells] using hc0.symm
  clear hA0 hval0 hsz0
  obtain ⟨N, hN⟩ := (fun l _ => Pl.pulseBack_pure l) z0 hw0
  refine (Rc.pulseBack.walk z0 (cargs := #[.slice a0 len0 cap0]) (.cons hr0 .nil) hN).mono fun e W' ⟨he, fr⟩ => ?_
  have bel := fr.below
  subst he
  exact ⟨_, rfl, _, _, _, [], _, [], hW', trodAll_mk1 (shut_bool Try.underlying4 _), (trodAll_cons_mk (Below.trod seat.laidOut (by kernel_rfl) (of_decide_eq_true (by kernel_rfl)) k0 bel lt0) trodAll_mk0), rfl, bel.frame _, fun h => by cases h⟩
theorem pulseBack.over : Rows.pulseBackRow.holds Try.pinned (OpenSpec.ofChange Rows.pulseBackSpec) :=
  OpenClaim.holds_of_wide 12 Try.f12 rfl rfl rfl rfl rfl rfl rfl ⟨rfl, rfl, rfl, rfl, rfl⟩ rfl rfl rfl rfl rfl (by kernel_rfl) Try.func12 pulseBack.facts
    (of_decide_eq_true (by kernel_rfl)) (by unfold Func.isWrapper; first | (rw [if_pos (by decide +kernel)]; kernel_rfl) | (rw [if_neg (by decide +kernel)]; exact ⟨rfl, rfl⟩))
    (fun os started H enc _ => pulseBack.lifted os started H enc)
theorem pulseBack.proved : Rows.PulseBackSaid := pulseBack.over
end Go.Proofs.Ytlbdcahecabfkaa.row
namespace Go.Proofs.Ytlbdcahecabfkaa
theorem pulseBack_holds : Rows.PulseBackSaid := row.pulseBack.proved
#print axioms pulseBack_holds
end Go.Proofs.Ytlbdcahecabfkaa
