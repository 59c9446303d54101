/-
  PvqBack: what is written is read, and any bytes are read by both in one way, for every input; no condition.
-/
import Derived.Test.YtgimkkepagcpkaaSeatFacts
import Derived.Test.YtgimkkepagcpkaaPlPvq5
set_option linter.unusedSimpArgs false
namespace Go.Proofs.Ytgimkkepagcpkaa.row
open Go.ChangeShapes Go.WideShapes Go.ChangeAt Go.RowKit Go.Eng 
set_option linter.unusedVariables false
theorem pvqBack.f1 : (Rows.pvqBackRow.inPlace == Try.prog.inPlace 18) = true := by kernel_rfl
theorem pvqBack.f2 : (Rows.pvqBackRow.unfollowed == Try.prog.unfollowed 18) = true := by kernel_rfl
theorem pvqBack.f3 : (Rows.pvqBackRow.recurses == Try.prog.recurses 18) = true := by kernel_rfl
theorem pvqBack.f4 : (Rows.pvqBackRow.named == Try.prog.varsNamed 18) = true := by kernel_rfl
set_option maxRecDepth 100000 in
theorem pvqBack.facts : joinedFacts Try.prog 18 Try.f18 Rows.pvqBackSpec Rows.pvqBackRow = true := by
  refine facts_mk ?_ seat.laidOut seat.rowed ?_ ?_ ?_ seat.stops ?_ seat.knobs pvqBack.f1 pvqBack.f2 pvqBack.f3 pvqBack.f4 ?_ ?_ ?_ ?_ ?_ ?_ ?_ ?_ ?_ ?keys ?_ seat.heard seat.may ?final ?make ?_ ?_ ?_ ?_
  case keys => rw [seat.keys]; kernel_rfl
  case final => rw [seat.final]; kernel_rfl
  case make => rw [seat.make]; kernel_rfl
  all_goals kernel_rfl
set_option maxRecDepth 100000 in
theorem pvqBack.lifted (os : Os) (started : os.Started) (H : Type) (enc : TypeId × Value → H) :
    ReturnsInHanded {} Try.checked os 18 .any (Rows.pvqBackSpec.pre6 enc Try.prog Try.f18 Rows.pvqBackRow.domain false) (Rows.pvqBackSpec.post enc Try.prog Try.f18 false true false false) := by
  refine returnsInHanded_of_change_sized (C := Try.checked) seat.own started (by kernel_rfl) Try.func18
    (ChangeSpec.witness6 (enc := enc) (C := Try.checked) false ⟨#[], #[.slice none 0 0, .slice none 0 0, .int .i64 0, .int .i64 0], []⟩ 8 (by kernel_rfl) (by kernel_rfl) (by kernel_rfl) (by kernel_rfl)) ?_
  intro W base args ds gs before hval0 hW hcnd hsz0 _
  have hval : ∀ (j : Nat) t v, Try.f18.params[j]? = some t → args[j]? = some v → Value.okWide Try.prog W .any base t v := hval0
  have hW' := hW
  obtain ⟨p, q, hA0, hV, rfl, hfz, hnd⟩ := hW
  have hA : DataW.TrodAll enc Try.prog W 0 (fun _ => true) true Try.f18.params.toList args.toList ds p := hA0
  rw [Try.params18] at hA hval
  obtain ⟨v0, vs0, d0, ds0, p0, q0, hargs, rfl, rfl, h0, r0⟩ := trodAll_cons hA
  obtain ⟨v1, vs1, d1, ds1, p1, q1, rfl, rfl, rfl, h1, r1⟩ := trodAll_cons r0
  obtain ⟨v2, vs2, d2, ds2, p2, q2, rfl, rfl, rfl, h2, r2⟩ := trodAll_cons r1
  obtain ⟨v3, vs3, d3, ds3, p3, q3, rfl, rfl, rfl, h3, r3⟩ := trodAll_cons r2
  obtain ⟨rfl, rfl, rfl⟩ := trodAll_nil r3
  obtain rfl : args = #[v0, v1, v2, v3] := by cases args; simp_all
  obtain ⟨rfl, rfl⟩ := trodVars_none hV
  obtain ⟨a0, len0, cap0, rfl⟩ := okWide_slice Try.underlying55 (hval 0 55 v0 rfl rfl)
  have k0 := h0
  have lt0 : ∀ x ∈ p0, x.block < W.heap.size := by obtain ⟨m, hm⟩ := k0; exact DataW.trod_lt m _ _ _ hm
  obtain ⟨n0, hn0⟩ := h0
  obtain ⟨a1, len1, cap1, rfl⟩ := okWide_slice Try.underlying29 (hval 1 29 v1 rfl rfl)
  have k1 := h1
  have lt1 : ∀ x ∈ p1, x.block < W.heap.size := by obtain ⟨m, hm⟩ := k1; exact DataW.trod_lt m _ _ _ hm
  obtain ⟨n1, hn1⟩ := h1
  obtain ⟨a2, rfl, rfl, rfl, w2⟩ := open_int Try.underlying3 (hval 2 3 v2 rfl rfl) h2
  obtain ⟨a3, rfl, rfl, rfl, w3⟩ := open_int Try.underlying3 (hval 3 3 v3 rfl rfl) h3
  obtain ⟨w0, z0, hc0, hr0, hw0, hd0⟩ := rd_ints (RT := noRT) Try.underlying55 Try.underlying2 (by kernel_rfl) hn0
  obtain rfl : w0 = .slice a0 len0 cap0 := by simpa [Value.cells] using hc0.symm
  obtain ⟨w1, z1, hc1, hr1, hw1, hd1⟩ := rd_ints (RT := noRT) Try.underlying29 Try.underlying5 (by kernel_rfl) hn1
  obtain rfl : w1 = .slice a1 len1 cap1 := by simpa [Value.cells] using hc1.symm
  clear hA0 hval0 hsz0
  obtain ⟨N, hN⟩ := (fun y b n k _ hb _ _ => Pl.pvqBack_pure y b n k (Pl.bytes_of hb)) z0 z1 a2 a3 hw0 hw1 w2 w3
  refine (Rc.pvqBack.walk z0 z1 a2 a3 (cargs := #[.slice a0 len0 cap0, .slice a1 len1 cap1, .int .i64 a2, .int .i64 a3]) (.cons hr0 (.cons hr1 (.cons (R.int _ _) (.cons (R.int _ _) .nil)))) hN).mono fun e W' ⟨he, fr⟩ => ?_
  have bel := fr.below
  subst he
  exact ⟨_, rfl, _, _, _, [], _, [], hW', trodAll_mk1 (shut_bool Try.underlying4 _), (trodAll_cons_mk (Below.trod seat.laidOut (by kernel_rfl) (of_decide_eq_true (by kernel_rfl)) k0 bel lt0) (trodAll_cons_mk (Below.trod seat.laidOut (by kernel_rfl) (of_decide_eq_true (by kernel_rfl)) k1 bel lt1) (trodAll_cons_mk (shut_int Try.underlying3 w2) (trodAll_cons_mk (shut_int Try.underlying3 w3) trodAll_mk0)))), rfl, bel.frame _, fun h => by cases h⟩
theorem pvqBack.over : Rows.pvqBackRow.holds Try.pinned (OpenSpec.ofChange Rows.pvqBackSpec) :=
  OpenClaim.holds_of_wide 18 Try.f18 rfl rfl rfl rfl rfl rfl rfl ⟨rfl, rfl, rfl, rfl, rfl⟩ rfl rfl rfl rfl rfl (by kernel_rfl) Try.func18 pvqBack.facts
    (of_decide_eq_true (by kernel_rfl)) (by unfold Func.isWrapper; first | (rw [if_pos (by decide +kernel)]; kernel_rfl) | (rw [if_neg (by decide +kernel)]; exact ⟨rfl, rfl⟩))
    (fun os started H enc _ => pvqBack.lifted os started H enc)
theorem pvqBack.proved : Rows.PvqBackSaid := pvqBack.over
end Go.Proofs.Ytgimkkepagcpkaa.row
namespace Go.Proofs.Ytgimkkepagcpkaa
theorem pvqBack_holds : Rows.PvqBackSaid := row.pvqBack.proved
#print axioms pvqBack_holds
end Go.Proofs.Ytgimkkepagcpkaa
