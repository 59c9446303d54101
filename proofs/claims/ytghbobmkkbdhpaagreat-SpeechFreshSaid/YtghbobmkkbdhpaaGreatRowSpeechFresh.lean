/-
 SpeechFresh: two players of one rate that play a Fresh frame are the same then and play the same from then on, for every rate, frames and steps; no condition.
-/
import Derived.Test.YtghbobmkkbdhpaaGreatSeatFacts
import Derived.Test.YtghbobmkkbdhpaaGreatStepRow
import Derived.Test.YtghbobmkkbdhpaaGreatPlSy6ToPlSy13
set_option linter.unusedVariables false
set_option linter.unusedSimpArgs false
namespace Go.Proofs.YtghbobmkkbdhpaaGreat.row
open Go.ChangeShapes Go.WideShapes Go.ChangeAt Go.RowKit Go.Eng 
theorem pure0 (rate : Int) (a b : List (List Int)) (fb : List Int) (fm : Int) (m : List (List Int)) (w1 : WfSt a) (w2 : WfSt b) (w3 : WfI .i64 fm /\ WfL .u8 fb) (w4 : WfSt m) (hb : ((∀ r ∈ a, r.tail.length <= 140737488351232) /\ (∀ r ∈ b, r.tail.length <= 140737488351232)) /\ fb.length <= 140737488351232 /\ (∀ r ∈ m, r.tail.length <= 140737488351232)) : ∃ N, Rc.speechFresh.F N rate a b fb fm m = some true := Pl.speechFresh_pure rate a b fb fm m (fun r hr => by obtain ⟨a, b, e, h1, h2⟩ := w1 r hr; exact ⟨by rw [e]; exact Pl.bytes_of h2, by have := hb.1.1 r hr; omega⟩) (fun r hr => by obtain ⟨a, b, e, h1, h2⟩ := w2 r hr; exact ⟨by rw [e]; exact Pl.bytes_of h2, by have := hb.1.2 r hr; omega⟩) (Pl.bytes_of w3.2) (by omega) (fun r hr => by obtain ⟨a, b, e, h1, h2⟩ := w4 r hr; exact ⟨by rw [e]; exact Pl.bytes_of h2, by have := hb.2.2 r hr; omega⟩)
theorem speechFresh.f1 : (Rows.speechFreshRow.inPlace == Tryz.prog.inPlace 6) = true := by kernel_rfl
theorem speechFresh.f2 : (Rows.speechFreshRow.unfollowed == Tryz.prog.unfollowed 6) = true := by kernel_rfl
theorem speechFresh.f3 : (Rows.speechFreshRow.recurses == Tryz.prog.recurses 6) = true := by kernel_rfl
theorem speechFresh.f4 : (Rows.speechFreshRow.named == Tryz.prog.varsNamed 6) = true := by kernel_rfl
set_option maxRecDepth 100000 in
theorem speechFresh.facts : joinedFacts Tryz.prog 6 Tryz.f6 Rows.speechFreshSpec Rows.speechFreshRow = true := by
 refine facts_mk ?_ seat.laidOut seat.rowed ?_ ?_ ?_ seat.stops ?_ seat.knobs speechFresh.f1 speechFresh.f2 speechFresh.f3 speechFresh.f4 ?_ ?_ ?_ ?_ ?_ ?_ ?_ ?_ ?_ ?keys ?_ seat.heard seat.may ?final ?make ?_ ?_ ?_ ?_
 case keys => rw [seat.keys]; kernel_rfl
 case final => rw [seat.final]; kernel_rfl
 case make => rw [seat.make]; kernel_rfl
 all_goals kernel_rfl
set_option maxRecDepth 100000 in
theorem speechFresh.lifted (os : Os) (started : os.Started) (H : Type) (enc : TypeId × Value -> H) :
  ReturnsInHanded {} Tryz.checked os 6 .any (Rows.speechFreshSpec.pre6 enc Tryz.prog Tryz.f6 Rows.speechFreshRow.domain false) (Rows.speechFreshSpec.post enc Tryz.prog Tryz.f6 false true false false) := by
 refine returnsInHanded_of_change_sized (C := Tryz.checked) seat.own started (by kernel_rfl) Tryz.func6
  (ChangeSpec.witness6 (enc := enc) (C := Tryz.checked) false ⟨#[], #[.int .i64 0, .slice none 0 0, .slice none 0 0, .agg #[.slice none 0 0, .int .i64 0], .slice none 0 0], []⟩ 8 (by kernel_rfl) (by kernel_rfl) (by kernel_rfl) (by kernel_rfl)) ?_
 intro W base args ds gs before hval0 hW hcnd hsz0 _
 have hval : ∀ (j : Nat) t v, Tryz.f6.params[j]? = some t -> args[j]? = some v -> Value.okWide Tryz.prog W .any base t v := hval0
 have hW' := hW
 obtain ⟨p, q, hA0, hV, rfl, hfz, hnd⟩ := hW
 have hA : DataW.TrodAll enc Tryz.prog W 0 (fun _ => true) true Tryz.f6.params.toList args.toList ds p := hA0
 rw [Tryz.params6] at hA hval
 obtain ⟨v0, vs0, d0, ds0, p0, q0, hargs, rfl, rfl, h0, r0⟩ := trodAll_cons hA
 obtain ⟨v1, vs1, d1, ds1, p1, q1, rfl, rfl, rfl, h1, r1⟩ := trodAll_cons r0
 obtain ⟨v2, vs2, d2, ds2, p2, q2, rfl, rfl, rfl, h2, r2⟩ := trodAll_cons r1
 obtain ⟨v3, vs3, d3, ds3, p3, q3, rfl, rfl, rfl, h3, r3⟩ := trodAll_cons r2
 obtain ⟨v4, vs4, d4, ds4, p4, q4, rfl, rfl, rfl, h4, r4⟩ := trodAll_cons r3
 obtain ⟨rfl, rfl, rfl⟩ := trodAll_nil r4
 obtain rfl : args = #[v0, v1, v2, v3, v4] := by cases args; simp_all
 obtain ⟨rfl, rfl⟩ := trodVars_none hV
 obtain ⟨a0, rfl, rfl, rfl, w0⟩ := open_int Tryz.underlying3 (hval 0 3 v0 rfl rfl) h0
 obtain ⟨a1, len1, cap1, rfl⟩ := okWide_slice Tryz.underlying59 (hval 1 59 v1 rfl rfl)
 have k1 := h1
 have lt1 : ∀ x ∈ p1, x.block < W.heap.size := by obtain ⟨m, hm⟩ := k1; exact DataW.trod_lt m _ _ _ hm
 obtain ⟨n1, hn1⟩ := h1
 obtain ⟨u1, z1, hc1, rv1, w1, hd1⟩ := rd_steps hn1
 obtain rfl : u1 = .slice a1 len1 cap1 := by simpa [Value.cells] using hc1.symm
 obtain ⟨a2, len2, cap2, rfl⟩ := okWide_slice Tryz.underlying59 (hval 2 59 v2 rfl rfl)
 have k2 := h2
 have lt2 : ∀ x ∈ p2, x.block < W.heap.size := by obtain ⟨m, hm⟩ := k2; exact DataW.trod_lt m _ _ _ hm
 obtain ⟨n2, hn2⟩ := h2
 obtain ⟨u2, z2, hc2, rv2, w2, hd2⟩ := rd_steps hn2
 obtain rfl : u2 = .slice a2 len2 cap2 := by simpa [Value.cells] using hc2.symm
 have k3 := h3
 have lt3 : ∀ x ∈ p3, x.block < W.heap.size := by obtain ⟨m, hm⟩ := k3; exact DataW.trod_lt m _ _ _ hm
 obtain ⟨vb3, sb3, sm3, rfl, w3, rv3, hd3⟩ := open_step (hval 3 63 v3 rfl rfl) h3
 obtain ⟨a4, len4, cap4, rfl⟩ := okWide_slice Tryz.underlying59 (hval 4 59 v4 rfl rfl)
 have k4 := h4
 have lt4 : ∀ x ∈ p4, x.block < W.heap.size := by obtain ⟨m, hm⟩ := k4; exact DataW.trod_lt m _ _ _ hm
 obtain ⟨n4, hn4⟩ := h4
 obtain ⟨u4, z4, hc4, rv4, w4, hd4⟩ := rd_steps hn4
 obtain rfl : u4 = .slice a4 len4 cap4 := by simpa [Value.cells] using hc4.symm
 have hbulk : ((∀ r ∈ z1, r.tail.length <= 140737488351232) /\ (∀ r ∈ z2, r.tail.length <= 140737488351232)) /\ sb3.length <= 140737488351232 /\ (∀ r ∈ z4, r.tail.length <= 140737488351232) := ⟨⟨steps_reach hsz0 (j := 1) (by rw [Tryz.params6]; rfl) (by rfl) Tryz.underlying59 Tryz.underlying63 Tryz.underlying51 bU8 hd1, steps_reach hsz0 (j := 2) (by rw [Tryz.params6]; rfl) (by rfl) Tryz.underlying59 Tryz.underlying63 Tryz.underlying51 bU8 hd2⟩, step_reach hsz0 (j := 3) (by rw [Tryz.params6]; rfl) (by rfl) hd3, steps_reach hsz0 (j := 4) (by rw [Tryz.params6]; rfl) (by rfl) Tryz.underlying59 Tryz.underlying63 Tryz.underlying51 bU8 hd4⟩
 clear hA0 hval0 hsz0
 obtain ⟨N, hN⟩ := (fun r a b fb fm m _ h1 h2 h3 h4 hb => pure0 r a b fb fm m h1 h2 h3 h4 hb) a0 z1 z2 sb3 sm3 z4 w0 w1 w2 w3 w4 hbulk
 refine (Rc.speechFresh.walk a0 z1 z2 sb3 sm3 z4 (cargs := #[.int .i64 a0, .slice a1 len1 cap1, .slice a2 len2 cap2, .agg #[vb3, .int .i64 sm3], .slice a4 len4 cap4]) (.cons (R.int _ _) (.cons (rv1 _) (.cons (rv2 _) (.cons (rv3 _) (.cons (rv4 _) .nil))))) hN).mono fun e W' ⟨he, fr⟩ => ?_
 have bel := fr.below
 subst he
 exact ⟨_, rfl, _, _, _, [], _, [], hW', trodAll_mk1 (shut_bool Tryz.underlying4 _), (trodAll_cons_mk (shut_int Tryz.underlying3 w0) (trodAll_cons_mk (Below.trod seat.laidOut (by kernel_rfl) (of_decide_eq_true (by kernel_rfl)) k1 bel lt1) (trodAll_cons_mk (Below.trod seat.laidOut (by kernel_rfl) (of_decide_eq_true (by kernel_rfl)) k2 bel lt2) (trodAll_cons_mk (Below.trod seat.laidOut (by kernel_rfl) (of_decide_eq_true (by kernel_rfl)) k3 bel lt3) (trodAll_cons_mk (Below.trod seat.laidOut (by kernel_rfl) (of_decide_eq_true (by kernel_rfl)) k4 bel lt4) trodAll_mk0))))), rfl, bel.frame _, fun h => by cases h⟩
theorem speechFresh.over : Rows.speechFreshRow.holds Tryz.pinned (OpenSpec.ofChange Rows.speechFreshSpec) :=
 OpenClaim.holds_of_wide 6 Tryz.f6 rfl rfl rfl rfl rfl rfl rfl ⟨rfl, rfl, rfl, rfl, rfl⟩ rfl rfl rfl rfl rfl (by kernel_rfl) Tryz.func6 speechFresh.facts
  (of_decide_eq_true (by kernel_rfl)) (by unfold Func.isWrapper; first | (rw [if_pos (by decide +kernel)]; kernel_rfl) | (rw [if_neg (by decide +kernel)]; exact ⟨rfl, rfl⟩))
  (fun os started H enc _ => speechFresh.lifted os started H enc)
theorem speechFresh.proved : Rows.SpeechFreshSaid := speechFresh.over
end Go.Proofs.YtghbobmkkbdhpaaGreat.row
namespace Go.Proofs.YtghbobmkkbdhpaaGreat
theorem speechFresh_holds : Rows.SpeechFreshSaid := row.speechFresh.proved
#print axioms speechFresh_holds
end Go.Proofs.YtghbobmkkbdhpaaGreat
