/-
  Functions of the program: what each comes to, and its contract (written by a program).
  Conditions: none: each contract is proved for every input of its shape.
-/
import Derived.Test.YtghbobmkkbdhpaaGreatEngRegToEngWords
import Derived.Laws.Externs
import Derived.Test.YtghbobmkkbdhpaaGreatProg
import Derived.Test.YtghbobmkkbdhpaaGreatSpDFns
set_option linter.unusedVariables false
set_option linter.unusedSimpArgs false
namespace Go.Proofs.Rc
noncomputable section
open Go.Eng
set_option maxRecDepth 100000
def speechKnown.C (N : Nat)  : Cfg := { P := Tryz.prog, N := N, RT := noRT, specs := [(10, awake14.spec), (13, new.spec), (12, spreadf.spec), (14, enew.spec), (15, spwritef.spec), (16, plplay.spec), (17, plain14.spec), (18, etell.spec), (19, same14.spec), (34, torder.spec), (40, synew.spec), (36, plreset.spec)], inl := [(11, FCfg.none)], hi := 0, mv := [] }
def speechKnown.K (N : Nat) : FCfg := { anns := [], unr := [], lits := [], lets := [] }
def speechKnown.F (N : Nat)  : Option Bool :=
  (obind (Rc.awake14.F N) fun r0 =>
  (br (!r0)
  (some false)
  (obind (Rc.torder.F N ((24000 : Int))) fun r1 =>
  (br (r1 == (0 : Int))
  (obind (Rc.new.F N (([] : List Int))) fun r2 =>
  (obind (Rc.spreadf.F N ((8000 : Int)) ((15 : Int)) ((0 : Int)) r2.1 r2.2.1 r2.2.2.1 r2.2.2.2.1 r2.2.2.2.2.1 r2.2.2.2.2.2.1 r2.2.2.2.2.2.2.1 r2.2.2.2.2.2.2.2.1 r2.2.2.2.2.2.2.2.2.1 r2.2.2.2.2.2.2.2.2.2) fun r3 =>
  (obind (Rc.enew.F N) fun r4 =>
  (obind (Rc.spwritef.F N ((8000 : Int)) ((10 : Int)) ((0 : Int)) ((0 : Int)) ((0 : Int)) ((0 : Int)) r4.1 r4.2.1 r4.2.2.1 r4.2.2.2.1 false (([] : List Int)) (([] : List Int)) (([] : List Int)) r4.2.2.2.2.1 r4.2.2.2.2.2 (([] : List (List Int)))) fun r5 =>
  (obind (Rc.torder.F N ((8000 : Int))) fun r6 =>
  (br (r6 == (0 : Int))
            none /- WHY OfNat.ofNat.{0} Nat 834 (instOfNatNat 834) -/
  (obind (Rc.synew.F N) fun r7 =>
  (obind (Rc.plreset.F N ((8000 : Int)) ((0 : Int)) r7 (([] : List Int))) fun r8 =>
  (obind (Rc.plplay.F N ((10 : Int)) ((0 : Int)) ((0 : Int)) ((0 : Int)) ((8000 : Int)) r8.1 false (([] : List Int)) (([] : List Int)) (([] : List Int)) r8.2.1 r8.2.2 (([] : List (List Int)))) fun r9 =>
  (obind (Rc.plain14.F N) fun r10 =>
  (obind (Rc.plplay.F N ((10 : Int)) ((0 : Int)) r10.2.1 r10.2.2.1 ((8000 : Int)) r9.2.1 r10.2.2.2.1 r10.2.2.2.2.1 r10.2.2.2.2.2.1 (([] : List Int)) r9.2.2.1 r9.2.2.2.2 r10.2.2.2.2.2.2.2) fun r11 =>
  (br (r3.2.2.2.1 == (1 : Int))
  (br (r5.2.2.2.1 == (1 : Int))
  (obind (Rc.etell.F N r5.2.2.2.2.1 r5.2.2.2.2.2.1 r5.2.2.2.2.2.2.1 r5.2.2.2.2.2.2.2.1 r5.2.2.2.2.2.2.2.2.2.2.2.2.1 r5.2.2.2.2.2.2.2.2.2.2.2.2.2.1) fun r12 =>
  (br (r12 == (1 : Int))
  (br (r9.1 == (1 : Int))
  (br (r11.1 == (0 : Int))
  (obind (Rc.same14.F N r11.2.2.2.1 (List.replicate (80 : Nat) (0 : Int))) fun r13 =>
  (some r13))
  (some false))
  (some false))
  (some false)))
  (some false))
  (some false)))))))))))))
  (obind (Rc.synew.F N) fun r14 =>
  (obind (Rc.plreset.F N ((24000 : Int)) ((0 : Int)) r14 (([] : List Int))) fun r15 =>
  (obind (Rc.new.F N (([] : List Int))) fun r16 =>
  (obind (Rc.spreadf.F N ((8000 : Int)) ((15 : Int)) ((0 : Int)) r16.1 r16.2.1 r16.2.2.1 r16.2.2.2.1 r16.2.2.2.2.1 r16.2.2.2.2.2.1 r16.2.2.2.2.2.2.1 r16.2.2.2.2.2.2.2.1 r16.2.2.2.2.2.2.2.2.1 r16.2.2.2.2.2.2.2.2.2) fun r17 =>
  (obind (Rc.enew.F N) fun r18 =>
  (obind (Rc.spwritef.F N ((8000 : Int)) ((10 : Int)) ((0 : Int)) ((0 : Int)) ((0 : Int)) ((0 : Int)) r18.1 r18.2.1 r18.2.2.1 r18.2.2.2.1 false (([] : List Int)) (([] : List Int)) (([] : List Int)) r18.2.2.2.2.1 r18.2.2.2.2.2 (([] : List (List Int)))) fun r19 =>
  (obind (Rc.torder.F N ((8000 : Int))) fun r20 =>
  (br (r20 == (0 : Int))
              none /- WHY OfNat.ofNat.{0} Nat 834 (instOfNatNat 834) -/
  (obind (Rc.synew.F N) fun r21 =>
  (obind (Rc.plreset.F N ((8000 : Int)) ((0 : Int)) r21 (([] : List Int))) fun r22 =>
  (obind (Rc.plplay.F N ((10 : Int)) ((0 : Int)) ((0 : Int)) ((0 : Int)) ((8000 : Int)) r22.1 false (([] : List Int)) (([] : List Int)) (([] : List Int)) r22.2.1 r22.2.2 (([] : List (List Int)))) fun r23 =>
  (obind (Rc.plain14.F N) fun r24 =>
  (obind (Rc.plplay.F N ((10 : Int)) ((0 : Int)) r24.2.1 r24.2.2.1 ((8000 : Int)) r23.2.1 r24.2.2.2.1 r24.2.2.2.2.1 r24.2.2.2.2.2.1 (([] : List Int)) r23.2.2.1 r23.2.2.2.2 r24.2.2.2.2.2.2.2) fun r25 =>
  (some false))))))))))))))))))
theorem speechKnown.F_eq (N : Nat)  : evLaw (speechKnown.C N ) (speechKnown.K N) 1 Tryz.f3 [] = speechKnown.F N  := by
  kernel_rfl
theorem speechKnown.cok (N : Nat)  : CfgOK (speechKnown.C N ) := ⟨fun _ _ _ _ h => by simp [speechKnown.C, noRT] at h, wide, by
  simp only [speechKnown.C, List.mem_cons, List.not_mem_nil, or_false, forall_eq_or_imp, forall_eq, false_imp_iff, implies_true]
  exact ⟨⟨awake14.ok, by kernel_rfl⟩, ⟨new.ok, by kernel_rfl⟩, ⟨spreadf.ok, by kernel_rfl⟩, ⟨enew.ok, by kernel_rfl⟩, ⟨spwritef.ok, by kernel_rfl⟩, ⟨plplay.ok, by kernel_rfl⟩, ⟨plain14.ok, by kernel_rfl⟩, ⟨etell.ok, by kernel_rfl⟩, ⟨same14.ok, by kernel_rfl⟩, ⟨torder.ok, by kernel_rfl⟩, ⟨synew.ok, by kernel_rfl⟩, ⟨plreset.ok, by kernel_rfl⟩⟩, fun g hg => by simp [speechKnown.C] at hg, fun m hm => by simp [speechKnown.C] at hm, fun q hq => by simp [speechKnown.C] at hq⟩
theorem speechKnown.aok (N : Nat) : AnnsOK (speechKnown.K N) := by
  intro q hq
  simp only [speechKnown.K, List.mem_cons, List.not_mem_nil, or_false] at hq
theorem speechKnown.walk {w : World} {N : Nat}  {cargs : Array Value} (ha : All2 (RV noRT (lawE w)) [] cargs.toList) (h : speechKnown.F N  = some true) :
    Calls Tryz.prog 3 cargs w fun e w' => e = .returned (.bool true) ∧ Frm w (fun _ => False) w' :=
  law_sound (C := speechKnown.C N ) (K := speechKnown.K N) (d := 1) (fn := Tryz.f3) (speechKnown.cok N ) (fun q hq => by
      simp only [speechKnown.C, List.mem_cons, List.not_mem_nil, or_false] at hq
      subst hq
      exact ⟨fun q hq => by simp [FCfg.none] at hq, by kernel_rfl⟩) (speechKnown.aok N) (by kernel_rfl) ha ((speechKnown.F_eq N ).trans h)
end
end Go.Proofs.Rc
