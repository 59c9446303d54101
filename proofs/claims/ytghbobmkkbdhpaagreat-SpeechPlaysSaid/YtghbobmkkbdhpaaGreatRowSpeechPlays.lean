/-
 SpeechPlays: frames read out of any bytes are played sample for sample as the reference plays them, for every rate and steps; no condition.
-/
import Derived.Test.YtghbobmkkbdhpaaGreatSeatFacts
import Derived.Test.YtghbobmkkbdhpaaGreatStepRow
import Derived.Test.YtghbobmkkbdhpaaGreatPlSy6ToPlSy16
set_option linter.unusedVariables false
set_option linter.unusedSimpArgs false
namespace Go.Proofs.YtghbobmkkbdhpaaGreat.row
open Go.ChangeShapes Go.WideShapes Go.ChangeAt Go.RowKit Go.Eng 
theorem pure0 (rate : Int) (l : List (List Int)) (w1 : WfSt l) (hb : ∀ r ∈ l,r.tail.length <= 140737488351232) : ∃ N,Rc.speechPlays.F N rate l = some true := Pl.speechPlays_pure rate l (fun r hr => by obtain ⟨a,b,e,h1,h2⟩ := w1 r hr; exact ⟨by rw [e]; exact Pl.bytes_of h2,by have := hb r hr; omega⟩)
theorem speechPlays.f1 : (Rows.speechPlaysRow.inPlace == Tryz.prog.inPlace 5) = true := by kernel_rfl
theorem speechPlays.f2 : (Rows.speechPlaysRow.unfollowed == Tryz.prog.unfollowed 5) = true := by kernel_rfl
theorem speechPlays.f3 : (Rows.speechPlaysRow.recurses == Tryz.prog.recurses 5) = true := by kernel_rfl
theorem speechPlays.f4 : (Rows.speechPlaysRow.named == Tryz.prog.varsNamed 5) = true := by kernel_rfl
set_option maxRecDepth 100000 in
theorem speechPlays.facts : joinedFacts Tryz.prog 5 Tryz.f5 Rows.speechPlaysSpec Rows.speechPlaysRow = true := by
 refine facts_mk ?_ seat.laidOut seat.rowed ?_ ?_ ?_ seat.stops ?_ seat.knobs speechPlays.f1 speechPlays.f2 speechPlays.f3 speechPlays.f4 ?_ ?_ ?_ ?_ ?_ ?_ ?_ ?_ ?_ ?keys ?_ seat.heard seat.may ?final ?make ?_ ?_ ?_ ?_
 case keys => rw [seat.keys]; kernel_rfl
 case final => rw [seat.final]; kernel_rfl
 case make => rw [seat.make]; kernel_rfl
 all_goals kernel_rfl
set_option maxRecDepth 100000 in
theorem speechPlays.lifted (os : Os) (started : os.Started) (H : Type) (enc : TypeId × Value -> H) :
  ReturnsInHanded {} Tryz.checked os 5 .any (Rows.speechPlaysSpec.pre6 enc Tryz.prog Tryz.f5 Rows.speechPlaysRow.domain false) (Rows.speechPlaysSpec.post enc Tryz.prog Tryz.f5 false true false false) := by
 refine returnsInHanded_of_change_sized (C:=Tryz.checked) seat.own started (by kernel_rfl) Tryz.func5
  (ChangeSpec.witness6 (enc:=enc) (C:=Tryz.checked) false ⟨#[],#[.int .i64 0,.slice none 0 0],[]⟩ 8 (by kernel_rfl) (by kernel_rfl) (by kernel_rfl) (by kernel_rfl)) ?_
 intro W base args ds gs before hval0 hW hcnd hsz0 _
 have hval : ∀ (j : Nat) t v,Tryz.f5.params[j]? = some t -> args[j]? = some v -> Value.okWide Tryz.prog W .any base t v := hval0
 have hW' := hW
 obtain ⟨p,q,hA0,hV,rfl,hfz,hnd⟩ := hW
 have hA : DataW.TrodAll enc Tryz.prog W 0 (fun _ => true) true Tryz.f5.params.toList args.toList ds p := hA0
 rw [Tryz.params5] at hA hval
 obtain ⟨v0,vs0,d0,ds0,p0,q0,hargs,rfl,rfl,h0,r0⟩ := trodAll_cons hA
 obtain ⟨v1,vs1,d1,ds1,p1,q1,rfl,rfl,rfl,h1,r1⟩ := trodAll_cons r0
 obtain ⟨rfl,rfl,rfl⟩ := trodAll_nil r1
 obtain rfl : args = #[v0,v1] := by cases args; simp_all
 obtain ⟨rfl,rfl⟩ := trodVars_none hV
 obtain ⟨a0,rfl,rfl,rfl,w0⟩ := open_int Tryz.underlying3 (hval 0 3 v0 rfl rfl) h0
 obtain ⟨a1,len1,cap1,rfl⟩ := okWide_slice Tryz.underlying59 (hval 1 59 v1 rfl rfl)
 have k1 := h1
 have lt1 : ∀ x ∈ p1,x.block < W.heap.size := by obtain ⟨m,hm⟩ := k1; exact DataW.trod_lt m _ _ _ hm
 obtain ⟨n1,hn1⟩ := h1
 obtain ⟨u1,z1,hc1,rv1,w1,hd1⟩ := rd_steps hn1
 obtain rfl : u1 = .slice a1 len1 cap1 := by simpa [Value.cells] using hc1.symm
 have hbulk : ∀ r ∈ z1,r.tail.length <= 140737488351232 := steps_reach hsz0 (j:=1) (by rw [Tryz.params5]; rfl) (by rfl) Tryz.underlying59 Tryz.underlying63 Tryz.underlying51 bU8 hd1
 clear hA0 hval0 hsz0
 obtain ⟨N,hN⟩ := (fun r l _ h1 hb => pure0 r l h1 hb) a0 z1 w0 w1 hbulk
 refine (Rc.speechPlays.walk a0 z1 (cargs:=#[.int .i64 a0,.slice a1 len1 cap1]) (.cons (R.int _ _) (.cons (rv1 _) .nil)) hN).mono fun e W' ⟨he,fr⟩ => ?_
 have bel := fr.below
 subst he
 exact ⟨_,rfl,_,_,_,[],_,[],hW',trodAll_mk1 (shut_bool Tryz.underlying4 _),(trodAll_cons_mk (shut_int Tryz.underlying3 w0) (trodAll_cons_mk (Below.trod seat.laidOut (by kernel_rfl) (of_decide_eq_true (by kernel_rfl)) k1 bel lt1) trodAll_mk0)),rfl,bel.frame _,fun h => by cases h⟩
theorem speechPlays.over : Rows.speechPlaysRow.holds Tryz.pinned (OpenSpec.ofChange Rows.speechPlaysSpec) :=
 OpenClaim.holds_of_wide 5 Tryz.f5 rfl rfl rfl rfl rfl rfl rfl ⟨rfl,rfl,rfl,rfl,rfl⟩ rfl rfl rfl rfl rfl (by kernel_rfl) Tryz.func5 speechPlays.facts
  (of_decide_eq_true (by kernel_rfl)) (by unfold Func.isWrapper; first | (rw [if_pos (by decide +kernel)]; kernel_rfl) | (rw [if_neg (by decide +kernel)]; exact ⟨rfl,rfl⟩))
  (fun os started H enc _ => speechPlays.lifted os started H enc)
theorem speechPlays.proved : Rows.SpeechPlaysSaid := speechPlays.over
end Go.Proofs.YtghbobmkkbdhpaaGreat.row
namespace Go.Proofs.YtghbobmkkbdhpaaGreat
theorem speechPlays_holds : Rows.SpeechPlaysSaid := row.speechPlays.proved
#print axioms speechPlays_holds
end Go.Proofs.YtghbobmkkbdhpaaGreat
