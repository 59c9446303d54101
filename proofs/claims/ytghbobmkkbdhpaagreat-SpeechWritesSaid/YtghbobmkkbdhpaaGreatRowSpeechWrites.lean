/-
 SpeechWrites: a frame that is written is read as the answer, others are refused, for every frame, rate, length and loudness; no condition.
-/
import Derived.Test.YtghbobmkkbdhpaaGreatSeatFacts
import Derived.Test.YtghbobmkkbdhpaaGreatFrameRow
import Derived.Test.YtghbobmkkbdhpaaGreatPlSp4ToPlSp12
set_option linter.unusedVariables false
set_option linter.unusedSimpArgs false
namespace Go.Proofs.YtghbobmkkbdhpaaGreat.row
open Go.ChangeShapes Go.WideShapes Go.ChangeAt Go.RowKit Go.Eng 
theorem speechWrites.f1 : (Rows.speechWritesRow.inPlace == Tryz.prog.inPlace 4) = true := by kernel_rfl
theorem speechWrites.f2 : (Rows.speechWritesRow.unfollowed == Tryz.prog.unfollowed 4) = true := by kernel_rfl
theorem speechWrites.f3 : (Rows.speechWritesRow.recurses == Tryz.prog.recurses 4) = true := by kernel_rfl
theorem speechWrites.f4 : (Rows.speechWritesRow.named == Tryz.prog.varsNamed 4) = true := by kernel_rfl
set_option maxRecDepth 100000 in
theorem speechWrites.facts : joinedFacts Tryz.prog 4 Tryz.f4 Rows.speechWritesSpec Rows.speechWritesRow = true := by
 refine facts_mk ?_ seat.laidOut seat.rowed ?_ ?_ ?_ seat.stops ?_ seat.knobs speechWrites.f1 speechWrites.f2 speechWrites.f3 speechWrites.f4 ?_ ?_ ?_ ?_ ?_ ?_ ?_ ?_ ?_ ?keys ?_ seat.heard seat.may ?final ?make ?_ ?_ ?_ ?_
 case keys => rw [seat.keys]; kernel_rfl
 case final => rw [seat.final]; kernel_rfl
 case make => rw [seat.make]; kernel_rfl
 all_goals kernel_rfl
set_option maxRecDepth 100000 in
theorem speechWrites.lifted (os : Os) (started : os.Started) (H : Type) (enc : TypeId × Value -> H) :
  ReturnsInHanded {} Tryz.checked os 4 .any (Rows.speechWritesSpec.pre6 enc Tryz.prog Tryz.f4 Rows.speechWritesRow.domain false) (Rows.speechWritesSpec.post enc Tryz.prog Tryz.f4 false true false false) := by
 refine returnsInHanded_of_change_sized (C:=Tryz.checked) seat.own started (by kernel_rfl) Tryz.func4
  (ChangeSpec.witness6 (enc:=enc) (C:=Tryz.checked) false ⟨#[],#[.agg #[.bool false,.int .i64 0,.int .i64 0,.slice none 0 0,.int .i64 0,.slice none 0 0,.slice none 0 0,.slice none 0 0],.int .i64 0,.int .i64 0,.int .i64 0],[]⟩ 8 (by kernel_rfl) (by kernel_rfl) (by kernel_rfl) (by kernel_rfl)) ?_
 intro W base args ds gs before hval0 hW hcnd hsz0 _
 have hval : ∀ (j : Nat) t v,Tryz.f4.params[j]? = some t -> args[j]? = some v -> Value.okWide Tryz.prog W .any base t v := hval0
 have hW' := hW
 obtain ⟨p,q,hA0,hV,rfl,hfz,hnd⟩ := hW
 have hA : DataW.TrodAll enc Tryz.prog W 0 (fun _ => true) true Tryz.f4.params.toList args.toList ds p := hA0
 rw [Tryz.params4] at hA hval
 obtain ⟨v0,vs0,d0,ds0,p0,q0,hargs,rfl,rfl,h0,r0⟩ := trodAll_cons hA
 obtain ⟨v1,vs1,d1,ds1,p1,q1,rfl,rfl,rfl,h1,r1⟩ := trodAll_cons r0
 obtain ⟨v2,vs2,d2,ds2,p2,q2,rfl,rfl,rfl,h2,r2⟩ := trodAll_cons r1
 obtain ⟨v3,vs3,d3,ds3,p3,q3,rfl,rfl,rfl,h3,r3⟩ := trodAll_cons r2
 obtain ⟨rfl,rfl,rfl⟩ := trodAll_nil r3
 obtain rfl : args = #[v0,v1,v2,v3] := by cases args; simp_all
 obtain ⟨rfl,rfl⟩ := trodVars_none hV
 have k0 := h0
 have lt0 : ∀ x ∈ p0,x.block < W.heap.size := by obtain ⟨m,hm⟩ := k0; exact DataW.trod_lt m _ _ _ hm
 obtain ⟨f0,ki0,on0,vt0,tw0,bt0,vg0,ga0,vl0,lp0,vp0,pu0,rfl,w0,rv0⟩ := open_frame (hval 0 33 v0 rfl rfl) h0
 obtain ⟨a1,rfl,rfl,rfl,w1⟩ := open_int Tryz.underlying3 (hval 1 3 v1 rfl rfl) h1
 obtain ⟨a2,rfl,rfl,rfl,w2⟩ := open_int Tryz.underlying3 (hval 2 3 v2 rfl rfl) h2
 obtain ⟨a3,rfl,rfl,rfl,w3⟩ := open_int Tryz.underlying3 (hval 3 3 v3 rfl rfl) h3
 clear hA0 hval0 hsz0
 obtain ⟨N,hN⟩ := (fun f k o t b g l p rate ms was _ _ _ _ => Pl.speechWrites_pure f k o t b g l p rate ms was) f0 ki0 on0 tw0 bt0 ga0 lp0 pu0 a1 a2 a3 w0 w1 w2 w3
 refine (Rc.speechWrites.walk f0 ki0 on0 tw0 bt0 ga0 lp0 pu0 a1 a2 a3 (cargs:=#[.agg #[.bool f0,.int .i64 ki0,.int .i64 on0,vt0,.int .i64 bt0,vg0,vl0,vp0],.int .i64 a1,.int .i64 a2,.int .i64 a3]) (.cons (rv0 _) (.cons (R.int _ _) (.cons (R.int _ _) (.cons (R.int _ _) .nil)))) hN).mono fun e W' ⟨he,fr⟩ => ?_
 have bel := fr.below
 subst he
 exact ⟨_,rfl,_,_,_,[],_,[],hW',trodAll_mk1 (shut_bool Tryz.underlying4 _),(trodAll_cons_mk (Below.trod seat.laidOut (by kernel_rfl) (of_decide_eq_true (by kernel_rfl)) k0 bel lt0) (trodAll_cons_mk (shut_int Tryz.underlying3 w1) (trodAll_cons_mk (shut_int Tryz.underlying3 w2) (trodAll_cons_mk (shut_int Tryz.underlying3 w3) trodAll_mk0)))),rfl,bel.frame _,fun h => by cases h⟩
theorem speechWrites.over : Rows.speechWritesRow.holds Tryz.pinned (OpenSpec.ofChange Rows.speechWritesSpec) :=
 OpenClaim.holds_of_wide 4 Tryz.f4 rfl rfl rfl rfl rfl rfl rfl ⟨rfl,rfl,rfl,rfl,rfl⟩ rfl rfl rfl rfl rfl (by kernel_rfl) Tryz.func4 speechWrites.facts
  (of_decide_eq_true (by kernel_rfl)) (by unfold Func.isWrapper; first | (rw [if_pos (by decide +kernel)]; kernel_rfl) | (rw [if_neg (by decide +kernel)]; exact ⟨rfl,rfl⟩))
  (fun os started H enc _ => speechWrites.lifted os started H enc)
theorem speechWrites.proved : Rows.SpeechWritesSaid := speechWrites.over
end Go.Proofs.YtghbobmkkbdhpaaGreat.row
namespace Go.Proofs.YtghbobmkkbdhpaaGreat
theorem speechWrites_holds : Rows.SpeechWritesSaid := row.speechWrites.proved
#print axioms speechWrites_holds
end Go.Proofs.YtghbobmkkbdhpaaGreat
