/-
  Functions of the program: what each comes to, and its contract (written by a program).
  Conditions: none: each contract is proved for every input of its shape.
-/
import Derived.Test.YtghbobmkkbdhpaaGreatEngRegToEngWords
import Derived.Laws.Externs
import Derived.Test.YtghbobmkkbdhpaaGreatProg
import Derived.Test.YtghbobmkkbdhpaaGreatSpCFns
set_option linter.unusedVariables false
set_option linter.unusedSimpArgs false
namespace Go.Proofs.Rc
noncomputable section
open Go.Eng
set_option maxRecDepth 100000
def awake14.sig : Eng.Sig := { args := [], n := 0, pre := [], post := [], m := 0, ret := .at (.bool 0) }
def awake14.C (N : Nat) : Cfg := { P := Tryz.prog, N := N, RT := noRT, specs := [(14, enew.spec), (17, plain14.spec), (15, spwritef.spec), (24, edone.spec), (13, new.spec), (12, spreadf.spec), (16, plplay.spec), (35, plcopy.spec), (36, plreset.spec), (22, own14.spec), (26, is14.spec), (21, spgood.spec), (30, plgain.spec), (33, plsame.spec), (34, torder.spec), (40, synew.spec)], inl := [(11, FCfg.none)], hi := 0, mv := [] }
abbrev awake14.R : Type := Bool
def awake14.dec (L : Eng.Leaves) : awake14.R := (L.b 0)
def awake14.enc (r : awake14.R) : Eng.Leaves := mkL [] [r] [] []
def awake14.K (N : Nat) : FCfg := { anns := [], unr := [], lits := [], lets := [] }
def awake14.F (N : Nat)  : Option awake14.R :=
  (obind (Rc.enew.F N) fun r0 =>
  (obind (Rc.plain14.F N) fun r1 =>
  (obind (Rc.spwritef.F N ((8000 : Int)) ((10 : Int)) ((0 : Int)) r1.1 r1.2.1 r1.2.2.1 r0.1 r0.2.1 r0.2.2.1 r0.2.2.2.1 r1.2.2.2.1 r1.2.2.2.2.1 r1.2.2.2.2.2.1 r1.2.2.2.2.2.2.1 r0.2.2.2.2.1 r0.2.2.2.2.2 r1.2.2.2.2.2.2.2) fun r2 =>
  (obind (Rc.edone.F N ((60 : Int)) r2.2.2.2.2.1 r2.2.2.2.2.2.1 r2.2.2.2.2.2.2.1 r2.2.2.2.2.2.2.2.1 r2.2.2.2.2.2.2.2.2.2.2.2.2.1 r2.2.2.2.2.2.2.2.2.2.2.2.2.2.1) fun r3 =>
  (br (r2.2.2.2.1 != (0 : Int))
  (some false)
  (br (r3.1 != (0 : Int))
  (some false)
  (obind (Rc.new.F N r3.2) fun r4 =>
  (obind (Rc.spreadf.F N ((8000 : Int)) ((10 : Int)) ((0 : Int)) r4.1 r4.2.1 r4.2.2.1 r4.2.2.2.1 r4.2.2.2.2.1 r4.2.2.2.2.2.1 r4.2.2.2.2.2.2.1 r4.2.2.2.2.2.2.2.1 r4.2.2.2.2.2.2.2.2.1 r4.2.2.2.2.2.2.2.2.2) fun r5 =>
  (obind (Rc.torder.F N ((8000 : Int))) fun r6 =>
  (br (r6 == (0 : Int))
  (br (r5.2.2.2.1 != (0 : Int))
  (some false)
  (some false))
  (obind (Rc.synew.F N) fun r7 =>
  (obind (Rc.plreset.F N ((8000 : Int)) ((0 : Int)) r7 (([] : List Int))) fun r8 =>
  (br (r5.2.2.2.1 != (0 : Int))
  (some false)
  (obind (Rc.plplay.F N ((10 : Int)) r5.1 r5.2.1 r5.2.2.1 ((8000 : Int)) r8.1 r5.2.2.2.2.2.2.2.2.2.2.2.2.1 r5.2.2.2.2.2.2.2.2.2.2.2.2.2.2.1 r5.2.2.2.2.2.2.2.2.2.2.2.2.2.2.2.1 r5.2.2.2.2.2.2.2.2.2.2.2.2.2.2.2.2.1 r8.2.1 r8.2.2 r5.2.2.2.2.2.2.2.2.2.2.2.2.2.2.2.2.2) fun r9 =>
  (obind (Rc.plcopy.F N ((8000 : Int)) r9.2.1 r9.2.2.1 r9.2.2.2.2) fun r10 =>
  (obind (Rc.plreset.F N ((8000 : Int)) r9.2.1 r9.2.2.1 r9.2.2.2.2) fun r11 =>
  (br (r9.1 == (0 : Int))
  (br (↑r9.2.2.2.1.length == (80 : Int))
  (chk ((0 : Int) ≤ (0 : Int) ∧ (0 : Int) < ↑r9.2.2.2.1.length)
  (br (decide (r9.2.2.2.1.getD (0 : Nat) (0 : Int) > (0 : Int)))
  (obind (Rc.own14.F N r5.1 r5.2.1 r5.2.2.1 r5.2.2.2.2.2.2.2.2.2.2.2.2.1 r5.2.2.2.2.2.2.2.2.2.2.2.2.2.2.1 r5.2.2.2.2.2.2.2.2.2.2.2.2.2.2.2.1 r5.2.2.2.2.2.2.2.2.2.2.2.2.2.2.2.2.1 r5.2.2.2.2.2.2.2.2.2.2.2.2.2.2.2.2.2) fun r12 =>
  (obind (Rc.is14.F N r2.1 r2.2.1 r2.2.2.1 r12.1 r12.2.1 r12.2.2.1 r2.2.2.2.2.2.2.2.2.1 r12.2.2.2.1 r2.2.2.2.2.2.2.2.2.2.1 r2.2.2.2.2.2.2.2.2.2.2.1 r2.2.2.2.2.2.2.2.2.2.2.2.1 r12.2.2.2.2.1 r12.2.2.2.2.2.1 r12.2.2.2.2.2.2.1 r12.2.2.2.2.2.2.2.1 r12.2.2.2.2.2.2.2.2 r2.2.2.2.2.2.2.2.2.2.2.2.2.2.2) fun r13 =>
  (br r13
  (obind (Rc.plain14.F N) fun r14 =>
  (obind (Rc.own14.F N r5.1 r5.2.1 r5.2.2.1 r5.2.2.2.2.2.2.2.2.2.2.2.2.1 r5.2.2.2.2.2.2.2.2.2.2.2.2.2.2.1 r5.2.2.2.2.2.2.2.2.2.2.2.2.2.2.2.1 r5.2.2.2.2.2.2.2.2.2.2.2.2.2.2.2.2.1 r5.2.2.2.2.2.2.2.2.2.2.2.2.2.2.2.2.2) fun r15 =>
  (obind (Rc.is14.F N r14.1 r14.2.1 r14.2.2.1 r15.1 r15.2.1 r15.2.2.1 r14.2.2.2.1 r15.2.2.2.1 r14.2.2.2.2.1 r14.2.2.2.2.2.1 r14.2.2.2.2.2.2.1 r15.2.2.2.2.1 r15.2.2.2.2.2.1 r15.2.2.2.2.2.2.1 r15.2.2.2.2.2.2.2.1 r15.2.2.2.2.2.2.2.2 r14.2.2.2.2.2.2.2) fun r16 =>
  (br r16
  (obind (Rc.spgood.F N ((8000 : Int)) ((10 : Int)) r5.1 r5.2.1 r5.2.2.1 r5.2.2.2.2.2.2.2.2.2.2.2.2.1 r5.2.2.2.2.2.2.2.2.2.2.2.2.2.2.1 r5.2.2.2.2.2.2.2.2.2.2.2.2.2.2.2.1 r5.2.2.2.2.2.2.2.2.2.2.2.2.2.2.2.2.1 r5.2.2.2.2.2.2.2.2.2.2.2.2.2.2.2.2.2) fun r17 =>
  (br r17
  (obind (Rc.plgain.F N r10.1 r10.2.1 r10.2.2.1 r10.2.2.2) fun r18 =>
  (br (r18 == (30 : Int))
  (obind (Rc.plgain.F N ((8000 : Int)) r11.1 r11.2.1 r11.2.2) fun r19 =>
  (br (r19 == (20 : Int))
  (obind (Rc.plsame.F N r10.1 r10.2.1 ((8000 : Int)) r11.1 r10.2.2.1 r10.2.2.2 r11.2.1 r11.2.2) fun r20 =>
  (chkB r5.2.2.2.2.2.2.2.2.2.2.2.2.1 r5.2.2.2.2.2.2.2.2.2.2.2.2.1
  (chkI r5.1 r5.1
  (chkI r5.2.1 r5.2.1
  (chkL r5.2.2.2.2.2.2.2.2.2.2.2.2.2.2.1 r5.2.2.2.2.2.2.2.2.2.2.2.2.2.2.1
  (chkI r5.2.2.1 r5.2.2.1
  (chkL r5.2.2.2.2.2.2.2.2.2.2.2.2.2.2.2.1 r5.2.2.2.2.2.2.2.2.2.2.2.2.2.2.2.1
  (chkR r5.2.2.2.2.2.2.2.2.2.2.2.2.2.2.2.2.2 r5.2.2.2.2.2.2.2.2.2.2.2.2.2.2.2.2.2
  (chkL r5.2.2.2.2.2.2.2.2.2.2.2.2.2.2.2.2.1 r5.2.2.2.2.2.2.2.2.2.2.2.2.2.2.2.2.1
  (chkB r2.2.2.2.2.2.2.2.2.1 r2.2.2.2.2.2.2.2.2.1
  (chkI r2.1 r2.1
  (chkI r2.2.1 r2.2.1
  (chkL r2.2.2.2.2.2.2.2.2.2.1 r2.2.2.2.2.2.2.2.2.2.1
  (chkI r2.2.2.1 r2.2.2.1
  (chkL r2.2.2.2.2.2.2.2.2.2.2.1 r2.2.2.2.2.2.2.2.2.2.2.1
  (chkR r2.2.2.2.2.2.2.2.2.2.2.2.2.2.2 r2.2.2.2.2.2.2.2.2.2.2.2.2.2.2
  (chkL r2.2.2.2.2.2.2.2.2.2.2.2.1 r2.2.2.2.2.2.2.2.2.2.2.2.1
  (some (!r20.2.2.2.2.1)))))))))))))))))))
  (chkB r5.2.2.2.2.2.2.2.2.2.2.2.2.1 r5.2.2.2.2.2.2.2.2.2.2.2.2.1
  (chkI r5.1 r5.1
  (chkI r5.2.1 r5.2.1
  (chkL r5.2.2.2.2.2.2.2.2.2.2.2.2.2.2.1 r5.2.2.2.2.2.2.2.2.2.2.2.2.2.2.1
  (chkI r5.2.2.1 r5.2.2.1
  (chkL r5.2.2.2.2.2.2.2.2.2.2.2.2.2.2.2.1 r5.2.2.2.2.2.2.2.2.2.2.2.2.2.2.2.1
  (chkR r5.2.2.2.2.2.2.2.2.2.2.2.2.2.2.2.2.2 r5.2.2.2.2.2.2.2.2.2.2.2.2.2.2.2.2.2
  (chkL r5.2.2.2.2.2.2.2.2.2.2.2.2.2.2.2.2.1 r5.2.2.2.2.2.2.2.2.2.2.2.2.2.2.2.2.1
  (chkB r2.2.2.2.2.2.2.2.2.1 r2.2.2.2.2.2.2.2.2.1
  (chkI r2.1 r2.1
  (chkI r2.2.1 r2.2.1
  (chkL r2.2.2.2.2.2.2.2.2.2.1 r2.2.2.2.2.2.2.2.2.2.1
  (chkI r2.2.2.1 r2.2.2.1
  (chkL r2.2.2.2.2.2.2.2.2.2.2.1 r2.2.2.2.2.2.2.2.2.2.2.1
  (chkR r2.2.2.2.2.2.2.2.2.2.2.2.2.2.2 r2.2.2.2.2.2.2.2.2.2.2.2.2.2.2
  (chkL r2.2.2.2.2.2.2.2.2.2.2.2.1 r2.2.2.2.2.2.2.2.2.2.2.2.1
  (some false)))))))))))))))))))
  (chkB r5.2.2.2.2.2.2.2.2.2.2.2.2.1 r5.2.2.2.2.2.2.2.2.2.2.2.2.1
  (chkI r5.1 r5.1
  (chkI r5.2.1 r5.2.1
  (chkL r5.2.2.2.2.2.2.2.2.2.2.2.2.2.2.1 r5.2.2.2.2.2.2.2.2.2.2.2.2.2.2.1
  (chkI r5.2.2.1 r5.2.2.1
  (chkL r5.2.2.2.2.2.2.2.2.2.2.2.2.2.2.2.1 r5.2.2.2.2.2.2.2.2.2.2.2.2.2.2.2.1
  (chkR r5.2.2.2.2.2.2.2.2.2.2.2.2.2.2.2.2.2 r5.2.2.2.2.2.2.2.2.2.2.2.2.2.2.2.2.2
  (chkL r5.2.2.2.2.2.2.2.2.2.2.2.2.2.2.2.2.1 r5.2.2.2.2.2.2.2.2.2.2.2.2.2.2.2.2.1
  (chkB r2.2.2.2.2.2.2.2.2.1 r2.2.2.2.2.2.2.2.2.1
  (chkI r2.1 r2.1
  (chkI r2.2.1 r2.2.1
  (chkL r2.2.2.2.2.2.2.2.2.2.1 r2.2.2.2.2.2.2.2.2.2.1
  (chkI r2.2.2.1 r2.2.2.1
  (chkL r2.2.2.2.2.2.2.2.2.2.2.1 r2.2.2.2.2.2.2.2.2.2.2.1
  (chkR r2.2.2.2.2.2.2.2.2.2.2.2.2.2.2 r2.2.2.2.2.2.2.2.2.2.2.2.2.2.2
  (chkL r2.2.2.2.2.2.2.2.2.2.2.2.1 r2.2.2.2.2.2.2.2.2.2.2.2.1
  (some false)))))))))))))))))))
  (chkB r5.2.2.2.2.2.2.2.2.2.2.2.2.1 r5.2.2.2.2.2.2.2.2.2.2.2.2.1
  (chkI r5.1 r5.1
  (chkI r5.2.1 r5.2.1
  (chkL r5.2.2.2.2.2.2.2.2.2.2.2.2.2.2.1 r5.2.2.2.2.2.2.2.2.2.2.2.2.2.2.1
  (chkI r5.2.2.1 r5.2.2.1
  (chkL r5.2.2.2.2.2.2.2.2.2.2.2.2.2.2.2.1 r5.2.2.2.2.2.2.2.2.2.2.2.2.2.2.2.1
  (chkR r5.2.2.2.2.2.2.2.2.2.2.2.2.2.2.2.2.2 r5.2.2.2.2.2.2.2.2.2.2.2.2.2.2.2.2.2
  (chkL r5.2.2.2.2.2.2.2.2.2.2.2.2.2.2.2.2.1 r5.2.2.2.2.2.2.2.2.2.2.2.2.2.2.2.2.1
  (chkB r2.2.2.2.2.2.2.2.2.1 r2.2.2.2.2.2.2.2.2.1
  (chkI r2.1 r2.1
  (chkI r2.2.1 r2.2.1
  (chkL r2.2.2.2.2.2.2.2.2.2.1 r2.2.2.2.2.2.2.2.2.2.1
  (chkI r2.2.2.1 r2.2.2.1
  (chkL r2.2.2.2.2.2.2.2.2.2.2.1 r2.2.2.2.2.2.2.2.2.2.2.1
  (chkR r2.2.2.2.2.2.2.2.2.2.2.2.2.2.2 r2.2.2.2.2.2.2.2.2.2.2.2.2.2.2
  (chkL r2.2.2.2.2.2.2.2.2.2.2.2.1 r2.2.2.2.2.2.2.2.2.2.2.2.1
  (some false)))))))))))))))))))
  (chkB r5.2.2.2.2.2.2.2.2.2.2.2.2.1 r5.2.2.2.2.2.2.2.2.2.2.2.2.1
  (chkI r5.1 r5.1
  (chkI r5.2.1 r5.2.1
  (chkL r5.2.2.2.2.2.2.2.2.2.2.2.2.2.2.1 r5.2.2.2.2.2.2.2.2.2.2.2.2.2.2.1
  (chkI r5.2.2.1 r5.2.2.1
  (chkL r5.2.2.2.2.2.2.2.2.2.2.2.2.2.2.2.1 r5.2.2.2.2.2.2.2.2.2.2.2.2.2.2.2.1
  (chkR r5.2.2.2.2.2.2.2.2.2.2.2.2.2.2.2.2.2 r5.2.2.2.2.2.2.2.2.2.2.2.2.2.2.2.2.2
  (chkL r5.2.2.2.2.2.2.2.2.2.2.2.2.2.2.2.2.1 r5.2.2.2.2.2.2.2.2.2.2.2.2.2.2.2.2.1
  (chkB r2.2.2.2.2.2.2.2.2.1 r2.2.2.2.2.2.2.2.2.1
  (chkI r2.1 r2.1
  (chkI r2.2.1 r2.2.1
  (chkL r2.2.2.2.2.2.2.2.2.2.1 r2.2.2.2.2.2.2.2.2.2.1
  (chkI r2.2.2.1 r2.2.2.1
  (chkL r2.2.2.2.2.2.2.2.2.2.2.1 r2.2.2.2.2.2.2.2.2.2.2.1
  (chkR r2.2.2.2.2.2.2.2.2.2.2.2.2.2.2 r2.2.2.2.2.2.2.2.2.2.2.2.2.2.2
  (chkL r2.2.2.2.2.2.2.2.2.2.2.2.1 r2.2.2.2.2.2.2.2.2.2.2.2.1
  (some false)))))))))))))))))))))
  (chkB r2.2.2.2.2.2.2.2.2.1 r2.2.2.2.2.2.2.2.2.1
  (chkI r2.1 r2.1
  (chkI r2.2.1 r2.2.1
  (chkL r2.2.2.2.2.2.2.2.2.2.1 r2.2.2.2.2.2.2.2.2.2.1
  (chkI r2.2.2.1 r2.2.2.1
  (chkL r2.2.2.2.2.2.2.2.2.2.2.1 r2.2.2.2.2.2.2.2.2.2.2.1
  (chkR r2.2.2.2.2.2.2.2.2.2.2.2.2.2.2 r2.2.2.2.2.2.2.2.2.2.2.2.2.2.2
  (chkL r2.2.2.2.2.2.2.2.2.2.2.2.1 r2.2.2.2.2.2.2.2.2.2.2.2.1
  (some false))))))))))))
  (some false)))
  (some false))
  (some false))))))))))))))))))
theorem awake14.F_eq (N : Nat) (L : Eng.Leaves) : evSig (awake14.C N) (awake14.K N) 1 Tryz.f10 awake14.sig L awake14.dec = awake14.F N  := by
  kernel_rfl
def awake14.spec : Eng.Spec := awake14.sig.spec (fun N L => awake14.F N ) awake14.enc
theorem awake14.cok (N : Nat) : CfgOK (awake14.C N) := cok0 wide ⟨enew.ok, plain14.ok, spwritef.ok, edone.ok, new.ok, spreadf.ok, plplay.ok, plcopy.ok, plreset.ok, own14.ok, is14.ok, spgood.ok, plgain.ok, plsame.ok, torder.ok, synew.ok, trivial⟩ (by kernel_rfl) rfl rfl rfl rfl
theorem awake14.aok (N : Nat) : AnnsOK (awake14.K N) := aok1 trivial
theorem awake14.ok : CallOK Tryz.prog 10 awake14.spec := ok0 awake14.cok (fun _ q hq => by
      simp only [awake14.C, List.mem_cons, List.not_mem_nil, or_false] at hq
      subst hq
      exact ⟨fun q hq => by simp [FCfg.none] at hq, by kernel_rfl⟩) awake14.aok awake14.F_eq (by kernel_rfl) (by kernel_rfl) (fun _ => rfl) (fun _ => ⟨rfl, rfl⟩) fun _ _ => ⟨rfl, rfl⟩
end
end Go.Proofs.Rc
