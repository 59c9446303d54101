/-
 SpeechCopies: a copy plays the same and goes its own way, and Reset is as at first, for every rate and lists of frames; no condition.
-/
import Derived.Test.YtghbobmkkbdhpaaGreatSeatFacts
import Derived.Test.YtghbobmkkbdhpaaGreatStepRow
import Derived.Test.YtghbobmkkbdhpaaGreatPlSy6ToPlSy12
set_option linter.unusedVariables false
set_option linter.unusedSimpArgs false
namespace Go.Proofs.YtghbobmkkbdhpaaGreat.row
open Go.ChangeShapes Go.WideShapes Go.ChangeAt Go.RowKit Go.Eng 
theorem pure0 (rate : Int) (l m : List (List Int)) (w1 : WfSt l) (w2 : WfSt m) (hb : (∀ r ∈ l, r.tail.length <= 140737488351232) /\ (∀ r ∈ m, r.tail.length <= 140737488351232)) : ∃ N, Rc.speechCopies.F N rate l m = some true := Pl.speechCopies_pure rate l m (fun r hr => by obtain ⟨a, b, e, h1, h2⟩ := w1 r hr; exact ⟨by rw [e]; exact Pl.bytes_of h2, by have := hb.1 r hr; omega⟩) (fun r hr => by obtain ⟨a, b, e, h1, h2⟩ := w2 r hr; exact ⟨by rw [e]; exact Pl.bytes_of h2, by have := hb.2 r hr; omega⟩)
theorem speechCopies.f1 : (Rows.speechCopiesRow.inPlace == Tryz.prog.inPlace 8) = true := by kernel_rfl
theorem speechCopies.f2 : (Rows.speechCopiesRow.unfollowed == Tryz.prog.unfollowed 8) = true := by kernel_rfl
theorem speechCopies.f3 : (Rows.speechCopiesRow.recurses == Tryz.prog.recurses 8) = true := by kernel_rfl
theorem speechCopies.f4 : (Rows.speechCopiesRow.named == Tryz.prog.varsNamed 8) = true := by kernel_rfl
set_option maxRecDepth 100000 in
theorem speechCopies.facts : joinedFacts Tryz.prog 8 Tryz.f8 Rows.speechCopiesSpec Rows.speechCopiesRow = true := by
 refine facts_mk ?_ seat.laidOut seat.rowed ?_ ?_ ?_ seat.stops ?_ seat.knobs speechCopies.f1 speechCopies.f2 speechCopies.f3 speechCopies.f4 ?_ ?_ ?_ ?_ ?_ ?_ ?_ ?_ ?_ ?keys ?_ seat.heard seat.may ?final ?make ?_ ?_ ?_ ?_
 case keys => rw [seat.keys]; kernel_rfl
 case final => rw [seat.final]; kernel_rfl
 case make => rw [seat.make]; kernel_rfl
 all_goals kernel_rfl
set_option maxRecDepth 100000 in
theorem speechCopies.lifted (os : Os) (started : os.Started) (H : Type) (enc : TypeId × Value -> H) :
  ReturnsInHanded {} Tryz.checked os 8 .any (Rows.speechCopiesSpec.pre6 enc Tryz.prog Tryz.f8 Rows.speechCopiesRow.domain false) (Rows.speechCopiesSpec.post enc Tryz.prog Tryz.f8 false true false false) := by
 refine returnsInHanded_of_change_sized (C := Tryz.checked) seat.own started (by kernel_rfl) Tryz.func8
  (ChangeSpec.witness6 (enc := enc) (C := Tryz.checked) false ⟨#[], #[.int .i64 0, .slice none 0 0, .slice none 0 0], []⟩ 8 (by kernel_rfl) (by kernel_rfl) (by kernel_rfl) (by kernel_rfl)) ?_
 intro W base args ds gs before hval0 hW hcnd hsz0 _
 have hval : ∀ (j : Nat) t v, Tryz.f8.params[j]? = some t -> args[j]? = some v -> Value.okWide Tryz.prog W .any base t v := hval0
 have hW' := hW
 obtain ⟨p, q, hA0, hV, rfl, hfz, hnd⟩ := hW
 have hA : DataW.TrodAll enc Tryz.prog W 0 (fun _ => true) true Tryz.f8.params.toList args.toList ds p := hA0
 rw [Tryz.params8] at hA hval
 obtain ⟨v0, vs0, d0, ds0, p0, q0, hargs, rfl, rfl, h0, r0⟩ := trodAll_cons hA
 obtain ⟨v1, vs1, d1, ds1, p1, q1, rfl, rfl, rfl, h1, r1⟩ := trodAll_cons r0
 obtain ⟨v2, vs2, d2, ds2, p2, q2, rfl, rfl, rfl, h2, r2⟩ := trodAll_cons r1
 obtain ⟨rfl, rfl, rfl⟩ := trodAll_nil r2
 obtain rfl : args = #[v0, v1, v2] := by cases args; simp_all
 obtain ⟨rfl, rfl⟩ := trodVars_none hV
 obtain ⟨a0, rfl, rfl, rfl, w0⟩ := open_int Tryz.underlying3 (hval 0 3 v0 rfl rfl) h0
 obtain ⟨a1, len1, cap1, rfl⟩ := okWide_slice Tryz.underlying59 (hval 1 59 v1 rfl rfl)
 have k1 := h1
 have lt1 : ∀ x ∈ p1, x.block < W.heap.size := by obtain ⟨m, hm⟩ := k1; exact DataW.trod_lt m _ _ _ hm
 obtain ⟨n1, hn1⟩ := h1
 obtain ⟨u1, z1, hc1, rv1, w1, hd1⟩ := rd_steps hn1
 obtain rfl : u1 = .slice a1 len1 cap1 := by simpa [Value.cells] using hc1.symm
 obtain ⟨a2, len2, cap2, rfl⟩ := okWide_slice Tryz.underlying59 (hval 2 59 v2 rfl rfl)
 have k2 := h2
 have lt2 : ∀ x ∈ p2, x.block < W.heap.size := by obtain ⟨m, hm⟩ := k2; exact DataW.trod_lt m _ _ _ hm
 obtain ⟨n2, hn2⟩ := h2
 obtain ⟨u2, z2, hc2, rv2, w2, hd2⟩ := rd_steps hn2
 obtain rfl : u2 = .slice a2 len2 cap2 := by simpa [Value.cells] using hc2.symm
 have hbulk : (∀ r ∈ z1, r.tail.length <= 140737488351232) /\ (∀ r ∈ z2, r.tail.length <= 140737488351232) := ⟨steps_reach hsz0 (j := 1) (by rw [Tryz.params8]; rfl) (by rfl) Tryz.underlying59 Tryz.underlying63 Tryz.underlying51 bU8 hd1, steps_reach hsz0 (j := 2) (by rw [Tryz.params8]; rfl) (by rfl) Tryz.underlying59 Tryz.underlying63 Tryz.underlying51 bU8 hd2⟩
 clear hA0 hval0 hsz0
 obtain ⟨N, hN⟩ := (fun r l m _ h1 h2 hb => pure0 r l m h1 h2 hb) a0 z1 z2 w0 w1 w2 hbulk
 refine (Rc.speechCopies.walk a0 z1 z2 (cargs := #[.int .i64 a0, .slice a1 len1 cap1, .slice a2 len2 cap2]) (.cons (R.int _ _) (.cons (rv1 _) (.cons (rv2 _) .nil))) hN).mono fun e W' ⟨he, fr⟩ => ?_
 have bel := fr.below
 subst he
 exact ⟨_, rfl, _, _, _, [], _, [], hW', trodAll_mk1 (shut_bool Tryz.underlying4 _), (trodAll_cons_mk (shut_int Tryz.underlying3 w0) (trodAll_cons_mk (Below.trod seat.laidOut (by kernel_rfl) (of_decide_eq_true (by kernel_rfl)) k1 bel lt1) (trodAll_cons_mk (Below.trod seat.laidOut (by kernel_rfl) (of_decide_eq_true (by kernel_rfl)) k2 bel lt2) trodAll_mk0))), rfl, bel.frame _, fun h => by cases h⟩
theorem speechCopies.over : Rows.speechCopiesRow.holds Tryz.pinned (OpenSpec.ofChange Rows.speechCopiesSpec) :=
 OpenClaim.holds_of_wide 8 Tryz.f8 rfl rfl rfl rfl rfl rfl rfl ⟨rfl, rfl, rfl, rfl, rfl⟩ rfl rfl rfl rfl rfl (by kernel_rfl) Tryz.func8 speechCopies.facts
  (of_decide_eq_true (by kernel_rfl)) (by unfold Func.isWrapper; first | (rw [if_pos (by decide +kernel)]; kernel_rfl) | (rw [if_neg (by decide +kernel)]; exact ⟨rfl, rfl⟩))
  (fun os started H enc _ => speechCopies.lifted os started H enc)
theorem speechCopies.proved : Rows.SpeechCopiesSaid := speechCopies.over
end Go.Proofs.YtghbobmkkbdhpaaGreat.row
namespace Go.Proofs.YtghbobmkkbdhpaaGreat
theorem speechCopies_holds : Rows.SpeechCopiesSaid := row.speechCopies.proved
#print axioms speechCopies_holds
end Go.Proofs.YtghbobmkkbdhpaaGreat
