/-
 Functions of the program: what each comes to, and its contract (written by a program).
 Conditions: none: each contract is proved for every input of its shape.
-/
import Derived.Test.YtghbobmkkbdhpaaGreatEngLoopToEngRow3
import Derived.Laws.Externs
import Derived.Test.YtghbobmkkbdhpaaGreatProg
import Derived.Test.YtghbobmkkbdhpaaGreatSpDFns
set_option linter.unusedVariables false
set_option linter.unusedSimpArgs false
namespace Go.Proofs.Rc
noncomputable section
open Go.Eng Go.IntKind
set_option maxRecDepth 100000
def speechWrites.C (N : Nat) (fresh : Bool) (kind : Int) (one : Int) (two : List Int) (between : Int) (gains : List Int) (ltps : List (List Int)) (pulses : List Int) (rate : Int) (ms : Int) (was : Int) : Cfg := { P := Tryz.prog,N := N,RT := noRT,specs := [(10,awake14.spec),(14,enew.spec),(15,spwritef.spec),(20,good14.spec),(21,spgood.spec),(18,etell.spec),(22,own14.spec),(23,ints14.spec),(19,same14.spec),(24,edone.spec),(25,rnew.spec),(27,rvoiced.spec),(26,is14.spec),(28,rtell.spec),(34,torder.spec),(40,synew.spec),(36,plreset.spec)],inl := [(11,FCfg.none)] }
def speechWrites.K (N : Nat) : FCfg := { frz := [15] }
def speechWrites.F (N : Nat) (c : Bool) (g : Int) (i : Int) (h : List Int) (a : Int) (d : List Int) (e : List (List Int)) (b : List Int) (f : Int) (k : Int) (j : Int) : Option Bool :=
 (obind (Rc.awake14.F N) fun r0 =>
 (br (!r0)
 (some false)
 (br (decide (↑b.length > (1000 : Int)))
 (some true)
 (br (decide (↑d.length > (20 : Int)))
 (some true)
 (br (decide (↑e.length > (20 : Int)))
 (some true)
 (br (decide (↑h.length > (40 : Int)))
 (some true)
 (obind (Rc.enew.F N) fun r1 =>
 (obind (Rc.spwritef.F N f k j g i a r1.1 r1.2.1 r1.2.2.1 r1.2.2.2.1 c h d b r1.2.2.2.2.1 r1.2.2.2.2.2 e) fun r2 =>
 (obind (Rc.good14.F N f k g i a c h d b e) fun r3 =>
 (obind (Rc.spgood.F N f k g i a c h d b e) fun r4 =>
 (br (!r4 == r3)
 (some false)
 (br (!r3 == (r2.2.2.2.1 == 0))
 (some false)
 (br (!r3)
 (br (r2.2.2.2.1 == 1)
 (obind (Rc.etell.F N r2.2.2.2.2.1 r2.2.2.2.2.2.1 r2.2.2.2.2.2.2.1 r2.2.2.2.2.2.2.2.1 r2.2.2.2.2.2.2.2.2.2.2.2.2.1 r2.2.2.2.2.2.2.2.2.2.2.2.2.2.1) fun r5 =>
 (some (r5 == 1)))
 (some false))
 (obind (Rc.own14.F N g i a c h d b e) fun r6 =>
 (obind (Rc.own14.F N r2.1 r2.2.1 r2.2.2.1 r2.2.2.2.2.2.2.2.2.1 r2.2.2.2.2.2.2.2.2.2.1 r2.2.2.2.2.2.2.2.2.2.2.1 r2.2.2.2.2.2.2.2.2.2.2.2.1 r2.2.2.2.2.2.2.2.2.2.2.2.2.2.2) fun r7 =>
 (br (!r6.2.2.2.1 == r7.2.2.2.1)
 (some false)
 (br (r6.1 != r7.1)
 (some false)
 (br (r6.2.1 != r7.2.1)
 (some false)
 (obind (Rc.ints14.F N r6.2.2.2.2.1 r7.2.2.2.2.1) fun r8 =>
 (br (!r8)
 (some false)
 (br (r6.2.2.1 != r7.2.2.1)
 (some false)
 (obind (Rc.ints14.F N r6.2.2.2.2.2.2.1 r7.2.2.2.2.2.2.1) fun r9 =>
 (br (!r9)
 (some false)
 (obind (Rc.ints14.F N r6.2.2.2.2.2.2.2.1 r7.2.2.2.2.2.2.2.1) fun r10 =>
 (br (!r10)
 (some false)
 (obind (Rc.same14.F N r6.2.2.2.2.2.2.2.2 r7.2.2.2.2.2.2.2.2) fun r11 =>
 (br (!r11)
 (some false)
 (br c
 (chk ((0 : Int) <= (0 : Int) /\ (0 : Int) < ↑r6.2.2.2.2.2.1.length)
 (chk ((0 : Int) <= (0 : Int) /\ (0 : Int) < ↑r7.2.2.2.2.2.1.length)
 (br (r6.2.2.2.2.2.1.getD 0 0 != r7.2.2.2.2.2.1.getD 0 0)
 (some false)
 (obind (Rc.edone.F N (1275) r2.2.2.2.2.1 r2.2.2.2.2.2.1 r2.2.2.2.2.2.2.1 r2.2.2.2.2.2.2.2.1 r2.2.2.2.2.2.2.2.2.2.2.2.2.1 r2.2.2.2.2.2.2.2.2.2.2.2.2.2.1) fun r12 =>
 (br (r12.1 != 0)
 (some (r12.1 == 2))
 (obind (Rc.rnew.F N r12.2) fun r13 =>
 (obind (Rc.rvoiced.F N f k j r13.1 r13.2.1 r13.2.2.1 r13.2.2.2.1 r13.2.2.2.2.1 r13.2.2.2.2.2.1 r13.2.2.2.2.2.2.1 r13.2.2.2.2.2.2.2.1 r13.2.2.2.2.2.2.2.2.1 r13.2.2.2.2.2.2.2.2.2.1 r13.2.2.2.2.2.2.2.2.2.2) fun r14 =>
 (obind (Rc.is14.F N r2.1 r2.2.1 r2.2.2.1 r14.1 r14.2.1 r14.2.2.1 r2.2.2.2.2.2.2.2.2.1 r14.2.2.2.2.2.2.2.2.2.2.2.2.1 r2.2.2.2.2.2.2.2.2.2.1 r2.2.2.2.2.2.2.2.2.2.2.1 r2.2.2.2.2.2.2.2.2.2.2.2.1 r14.2.2.2.2.2.2.2.2.2.2.2.2.2.2.1 r14.2.2.2.2.2.2.2.2.2.2.2.2.2.2.2.1 r14.2.2.2.2.2.2.2.2.2.2.2.2.2.2.2.2.1 r14.2.2.2.2.2.2.2.2.2.2.2.2.2.2.2.2.2.1 r14.2.2.2.2.2.2.2.2.2.2.2.2.2.2.2.2.2.2 r2.2.2.2.2.2.2.2.2.2.2.2.2.2.2) fun r15 =>
 (br r15
 (obind (Rc.rtell.F N r14.2.2.2.1 r14.2.2.2.2.1 r14.2.2.2.2.2.1 r14.2.2.2.2.2.2.1 r14.2.2.2.2.2.2.2.1 r14.2.2.2.2.2.2.2.2.1 r14.2.2.2.2.2.2.2.2.2.1 r14.2.2.2.2.2.2.2.2.2.2.1 r14.2.2.2.2.2.2.2.2.2.2.2.1 r14.2.2.2.2.2.2.2.2.2.2.2.2.2.1 r13.2.2.2.2.2.2.2.2.2.2) fun r16 =>
 (obind (Rc.etell.F N r2.2.2.2.2.1 r2.2.2.2.2.2.1 r2.2.2.2.2.2.2.1 r2.2.2.2.2.2.2.2.1 r2.2.2.2.2.2.2.2.2.2.2.2.2.1 r2.2.2.2.2.2.2.2.2.2.2.2.2.2.1) fun r17 =>
 (chkB r2.2.2.2.2.2.2.2.2.1 r2.2.2.2.2.2.2.2.2.1
 (chkI r2.1 r2.1
 (chkI r2.2.1 r2.2.1
 (chkL r2.2.2.2.2.2.2.2.2.2.1 r2.2.2.2.2.2.2.2.2.2.1
 (chkI r2.2.2.1 r2.2.2.1
 (chkL r2.2.2.2.2.2.2.2.2.2.2.1 r2.2.2.2.2.2.2.2.2.2.2.1
 (chkR r2.2.2.2.2.2.2.2.2.2.2.2.2.2.2 r2.2.2.2.2.2.2.2.2.2.2.2.2.2.2
 (chkL r2.2.2.2.2.2.2.2.2.2.2.2.1 r2.2.2.2.2.2.2.2.2.2.2.2.1
 (some (r16 == r17))))))))))))
 (chkB r2.2.2.2.2.2.2.2.2.1 r2.2.2.2.2.2.2.2.2.1
 (chkI r2.1 r2.1
 (chkI r2.2.1 r2.2.1
 (chkL r2.2.2.2.2.2.2.2.2.2.1 r2.2.2.2.2.2.2.2.2.2.1
 (chkI r2.2.2.1 r2.2.2.1
 (chkL r2.2.2.2.2.2.2.2.2.2.2.1 r2.2.2.2.2.2.2.2.2.2.2.1
 (chkR r2.2.2.2.2.2.2.2.2.2.2.2.2.2.2 r2.2.2.2.2.2.2.2.2.2.2.2.2.2.2
 (chkL r2.2.2.2.2.2.2.2.2.2.2.2.1 r2.2.2.2.2.2.2.2.2.2.2.2.1
 (some false))))))))))))))))))
 (obind (Rc.edone.F N (1275) r2.2.2.2.2.1 r2.2.2.2.2.2.1 r2.2.2.2.2.2.2.1 r2.2.2.2.2.2.2.2.1 r2.2.2.2.2.2.2.2.2.2.2.2.2.1 r2.2.2.2.2.2.2.2.2.2.2.2.2.2.1) fun r18 =>
 (br (r18.1 != 0)
 (some (r18.1 == 2))
 (obind (Rc.rnew.F N r18.2) fun r19 =>
 (obind (Rc.rvoiced.F N f k j r19.1 r19.2.1 r19.2.2.1 r19.2.2.2.1 r19.2.2.2.2.1 r19.2.2.2.2.2.1 r19.2.2.2.2.2.2.1 r19.2.2.2.2.2.2.2.1 r19.2.2.2.2.2.2.2.2.1 r19.2.2.2.2.2.2.2.2.2.1 r19.2.2.2.2.2.2.2.2.2.2) fun r20 =>
 (obind (Rc.is14.F N r2.1 r2.2.1 r2.2.2.1 r20.1 r20.2.1 r20.2.2.1 r2.2.2.2.2.2.2.2.2.1 r20.2.2.2.2.2.2.2.2.2.2.2.2.1 r2.2.2.2.2.2.2.2.2.2.1 r2.2.2.2.2.2.2.2.2.2.2.1 r2.2.2.2.2.2.2.2.2.2.2.2.1 r20.2.2.2.2.2.2.2.2.2.2.2.2.2.2.1 r20.2.2.2.2.2.2.2.2.2.2.2.2.2.2.2.1 r20.2.2.2.2.2.2.2.2.2.2.2.2.2.2.2.2.1 r20.2.2.2.2.2.2.2.2.2.2.2.2.2.2.2.2.2.1 r20.2.2.2.2.2.2.2.2.2.2.2.2.2.2.2.2.2.2 r2.2.2.2.2.2.2.2.2.2.2.2.2.2.2) fun r21 =>
 (br r21
 (obind (Rc.rtell.F N r20.2.2.2.1 r20.2.2.2.2.1 r20.2.2.2.2.2.1 r20.2.2.2.2.2.2.1 r20.2.2.2.2.2.2.2.1 r20.2.2.2.2.2.2.2.2.1 r20.2.2.2.2.2.2.2.2.2.1 r20.2.2.2.2.2.2.2.2.2.2.1 r20.2.2.2.2.2.2.2.2.2.2.2.1 r20.2.2.2.2.2.2.2.2.2.2.2.2.2.1 r19.2.2.2.2.2.2.2.2.2.2) fun r22 =>
 (obind (Rc.etell.F N r2.2.2.2.2.1 r2.2.2.2.2.2.1 r2.2.2.2.2.2.2.1 r2.2.2.2.2.2.2.2.1 r2.2.2.2.2.2.2.2.2.2.2.2.2.1 r2.2.2.2.2.2.2.2.2.2.2.2.2.2.1) fun r23 =>
 (chkB r2.2.2.2.2.2.2.2.2.1 r2.2.2.2.2.2.2.2.2.1
 (chkI r2.1 r2.1
 (chkI r2.2.1 r2.2.1
 (chkL r2.2.2.2.2.2.2.2.2.2.1 r2.2.2.2.2.2.2.2.2.2.1
 (chkI r2.2.2.1 r2.2.2.1
 (chkL r2.2.2.2.2.2.2.2.2.2.2.1 r2.2.2.2.2.2.2.2.2.2.2.1
 (chkR r2.2.2.2.2.2.2.2.2.2.2.2.2.2.2 r2.2.2.2.2.2.2.2.2.2.2.2.2.2.2
 (chkL r2.2.2.2.2.2.2.2.2.2.2.2.1 r2.2.2.2.2.2.2.2.2.2.2.2.1
 (some (r22 == r23))))))))))))
 (chkB r2.2.2.2.2.2.2.2.2.1 r2.2.2.2.2.2.2.2.2.1
 (chkI r2.1 r2.1
 (chkI r2.2.1 r2.2.1
 (chkL r2.2.2.2.2.2.2.2.2.2.1 r2.2.2.2.2.2.2.2.2.2.1
 (chkI r2.2.2.1 r2.2.2.1
 (chkL r2.2.2.2.2.2.2.2.2.2.2.1 r2.2.2.2.2.2.2.2.2.2.2.1
 (chkR r2.2.2.2.2.2.2.2.2.2.2.2.2.2.2 r2.2.2.2.2.2.2.2.2.2.2.2.2.2.2
 (chkL r2.2.2.2.2.2.2.2.2.2.2.2.1 r2.2.2.2.2.2.2.2.2.2.2.2.1
 (some false)))))))))))))))))))))))))))))))))))))))))))
theorem speechWrites.F_eq (N : Nat) (fresh : Bool) (kind : Int) (one : Int) (two : List Int) (between : Int) (gains : List Int) (ltps : List (List Int)) (pulses : List Int) (rate : Int) (ms : Int) (was : Int) : evLaw (speechWrites.C N fresh kind one two between gains ltps pulses rate ms was) (speechWrites.K N) 1 Tryz.f4 [.agg [.bool fresh,.int .i64 kind,.int .i64 one,.roi .i64 two,.int .i64 between,.roi .i64 gains,.rro ⟨[.i64,.i64],none,false⟩ ltps,.roi .i64 pulses],.at (.int .i64 rate),.at (.int .i64 ms),.at (.int .i64 was)] = speechWrites.F N fresh kind one two between gains ltps pulses rate ms was := by
 kernel_rfl
theorem speechWrites.cok (N : Nat) (fresh : Bool) (kind : Int) (one : Int) (two : List Int) (between : Int) (gains : List Int) (ltps : List (List Int)) (pulses : List Int) (rate : Int) (ms : Int) (was : Int) : CfgOK (speechWrites.C N fresh kind one two between gains ltps pulses rate ms was) := ⟨fun _ _ _ _ h => by simp [speechWrites.C,noRT] at h,wide,by
 simp only [speechWrites.C,List.mem_cons,List.not_mem_nil,or_false,forall_eq_or_imp,forall_eq,false_imp_iff,implies_true]
 exact ⟨⟨awake14.ok,by kernel_rfl⟩,⟨enew.ok,by kernel_rfl⟩,⟨spwritef.ok,by kernel_rfl⟩,⟨good14.ok,by kernel_rfl⟩,⟨spgood.ok,by kernel_rfl⟩,⟨etell.ok,by kernel_rfl⟩,⟨own14.ok,by kernel_rfl⟩,⟨ints14.ok,by kernel_rfl⟩,⟨same14.ok,by kernel_rfl⟩,⟨edone.ok,by kernel_rfl⟩,⟨rnew.ok,by kernel_rfl⟩,⟨rvoiced.ok,by kernel_rfl⟩,⟨is14.ok,by kernel_rfl⟩,⟨rtell.ok,by kernel_rfl⟩,⟨torder.ok,by kernel_rfl⟩,⟨synew.ok,by kernel_rfl⟩,⟨plreset.ok,by kernel_rfl⟩⟩,fun g hg => by simp [speechWrites.C] at hg,fun m hm => by simp [speechWrites.C] at hm,fun q hq => by simp [speechWrites.C] at hq⟩
theorem speechWrites.aok (N : Nat) : AnnsOK (speechWrites.K N) := by
 intro q hq
 simp only [speechWrites.K,List.mem_cons,List.not_mem_nil,or_false] at hq
theorem speechWrites.walk {w : World} {N : Nat} (fresh : Bool) (kind : Int) (one : Int) (two : List Int) (between : Int) (gains : List Int) (ltps : List (List Int)) (pulses : List Int) (rate : Int) (ms : Int) (was : Int) {cargs : Array Value} (ha : All2 (RV noRT (lawE w)) [.agg [.bool fresh,.int .i64 kind,.int .i64 one,.roi .i64 two,.int .i64 between,.roi .i64 gains,.rro ⟨[.i64,.i64],none,false⟩ ltps,.roi .i64 pulses],.at (.int .i64 rate),.at (.int .i64 ms),.at (.int .i64 was)] cargs.toList) (h : speechWrites.F N fresh kind one two between gains ltps pulses rate ms was = some true) :
  Calls Tryz.prog 4 cargs w fun e w' => e = .returned (.bool true) /\ Frm w (fun _ => False) w' :=
 law_sound (C:=speechWrites.C N fresh kind one two between gains ltps pulses rate ms was) (K:=speechWrites.K N) (d:=1) (fn:=Tryz.f4) (speechWrites.cok N fresh kind one two between gains ltps pulses rate ms was) (fun q hq => by
   simp only [speechWrites.C,List.mem_cons,List.not_mem_nil,or_false] at hq
   subst hq
   exact ⟨fun q hq => by simp [FCfg.none] at hq,by kernel_rfl⟩) (speechWrites.aok N) (by kernel_rfl) ha ((speechWrites.F_eq N fresh kind one two between gains ltps pulses rate ms was).trans h)
end
end Go.Proofs.Rc
