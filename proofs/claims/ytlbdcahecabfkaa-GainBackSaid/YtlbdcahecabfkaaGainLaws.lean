/-
  Functions of the program: what each comes to, and its contract (written by a program).
  Conditions: none: each contract is proved for every input of its shape.
-/
import Derived.Test.YtlbdcahecabfkaaEngFn
import Derived.Laws.Externs
import Derived.Test.YtlbdcahecabfkaaProg
import Derived.Test.YtlbdcahecabfkaaGainFns
namespace Go.Proofs.Rc
open Go.Eng
set_option maxRecDepth 100000
set_option linter.unusedVariables false
set_option linter.unusedSimpArgs false
noncomputable def gainKnown.C (N : Nat)  : Cfg := { P := Try.prog, N := N, RT := noRT, specs := [(35, awake8.spec), (25, enew.spec), (36, glags.spec), (37, gloud.spec), (38, gwritefirst.spec), (39, gwriteltp.spec), (26, etell.spec), (41, new.spec), (40, greadltp.spec)], inl := [], hi := 0, mv := [] }
noncomputable def gainKnown.K (N : Nat) : FCfg := { anns := [], unr := [], lits := [], lets := [] }
noncomputable def gainKnown.F (N : Nat)  : Option Bool :=
  (obind (Rc.awake8.F (N)) fun r0 =>
   (br (!r0)
    (some (false))
    (obind (Rc.enew.F (N)) fun r1 =>
     (obind (Rc.glags.F (N) ((24000 : Int))) fun r2 =>
      (obind (Rc.gloud.F (N) ((63 : Int))) fun r3 =>
      (br (r3 == (153360 : Int))
      (obind (Rc.gloud.F (N) ((99 : Int))) fun r4 =>
      (br (r4 == (153360 : Int))
      (obind (Rc.gwritefirst.F (N) ((64 : Int)) (r1.fst) (r1.snd.fst) (r1.snd.snd.fst) (r1.snd.snd.snd.fst) (r1.snd.snd.snd.snd.fst) (r1.snd.snd.snd.snd.snd)) fun r5 =>
      (br (r5.fst == (1 : Int))
      (obind (Rc.gwriteltp.F (N) ((8000 : Int)) ((15 : Int)) ((0 : Int)) (r5.snd.fst) (r5.snd.snd.fst) (r5.snd.snd.snd.fst) (r5.snd.snd.snd.snd.fst) (r5.snd.snd.snd.snd.snd.fst) (r5.snd.snd.snd.snd.snd.snd)) fun r6 =>
      (br (r6.fst == (1 : Int))
      (obind (Rc.gwriteltp.F (N) ((9 : Int)) ((99 : Int)) ((0 : Int)) (r6.snd.fst) (r6.snd.snd.fst) (r6.snd.snd.snd.fst) (r6.snd.snd.snd.snd.fst) (r6.snd.snd.snd.snd.snd.fst) (r6.snd.snd.snd.snd.snd.snd)) fun r7 =>
      (br (r7.fst == (1 : Int))
      (obind (Rc.etell.F (N) (r7.snd.fst) (r7.snd.snd.fst) (r7.snd.snd.snd.fst) (r7.snd.snd.snd.snd.fst) (r7.snd.snd.snd.snd.snd.fst) (r7.snd.snd.snd.snd.snd.snd)) fun r8 =>
      (br (r8 == (1 : Int))
      (br (r2.fst == (0 : Int))
      (br (r2.snd == (0 : Int))
      (obind (Rc.new.F (N) (([] : List Int))) fun r9 =>
      (obind (Rc.greadltp.F (N) ((5 : Int)) (r9.fst) (r9.snd.fst) (r9.snd.snd.fst) (r9.snd.snd.snd.fst) (r9.snd.snd.snd.snd.fst) (r9.snd.snd.snd.snd.snd.fst) (r9.snd.snd.snd.snd.snd.snd.fst) (r9.snd.snd.snd.snd.snd.snd.snd.fst) (r9.snd.snd.snd.snd.snd.snd.snd.snd.fst) (r9.snd.snd.snd.snd.snd.snd.snd.snd.snd)) fun r10 =>
      (some (r10.fst == (0 : Int) && (r10.snd.fst == (0 : Int) && true)))))
      (some (false)))
      (some (false)))
      (some (false))))
      (some (false))))
      (some (false))))
      (some (false))))
      (some (false))))
      (some (false))))))))
theorem gainKnown.F_eq (N : Nat)  : evLaw (gainKnown.C N ) (gainKnown.K N) 0 Try.f6 [] = gainKnown.F N  := by
  kernel_rfl
theorem gainKnown.cok (N : Nat)  : CfgOK (gainKnown.C N ) := ⟨fun _ _ _ _ h => by simp [gainKnown.C, noRT] at h, wide, by
  simp only [gainKnown.C, List.mem_cons, List.not_mem_nil, or_false, forall_eq_or_imp, forall_eq, false_imp_iff, implies_true]
  exact ⟨⟨awake8.ok, by kernel_rfl⟩, ⟨enew.ok, by kernel_rfl⟩, ⟨glags.ok, by kernel_rfl⟩, ⟨gloud.ok, by kernel_rfl⟩, ⟨gwritefirst.ok, by kernel_rfl⟩, ⟨gwriteltp.ok, by kernel_rfl⟩, ⟨etell.ok, by kernel_rfl⟩, ⟨new.ok, by kernel_rfl⟩, ⟨greadltp.ok, by kernel_rfl⟩⟩, fun g hg => by simp [gainKnown.C] at hg, fun m hm => by simp [gainKnown.C] at hm⟩
theorem gainKnown.aok (N : Nat) : AnnsOK (gainKnown.K N) := by
  intro q hq
  simp only [gainKnown.K, List.mem_cons, List.not_mem_nil, or_false] at hq
theorem gainKnown.walk {w : World} {N : Nat}  {cargs : Array Value} (ha : All2 (RV noRT (lawE w)) [] cargs.toList) (h : gainKnown.F N  = some true) :
    Calls Try.prog 6 cargs w fun e w' => e = .returned (.bool true) ∧ Frm w (fun _ => False) w' :=
  law_sound (C := gainKnown.C N ) (K := gainKnown.K N) (d := 0) (fn := Try.f6) (gainKnown.cok N ) (fun q hq => by simp [gainKnown.C] at hq) (gainKnown.aok N) (by kernel_rfl) ha ((gainKnown.F_eq N ).trans h)

noncomputable def gainReads.C (N : Nat) (b : List Int) (was : Int) (rate : Int) (g : Int) (v : Int) : Cfg := { P := Try.prog, N := N, RT := noRT, specs := [(35, awake8.spec), (41, new.spec), (30, rnew.spec), (49, icdf.spec), (48, rsymbol.spec), (50, ruint.spec), (45, greadfirst.spec), (43, rclamp.spec), (46, greadnext.spec), (44, rlags.spec), (36, glags.spec), (40, greadltp.spec), (51, tell.spec), (33, rtell.spec), (37, gloud.spec), (52, rloud.spec), (47, gnearest.spec), (53, rgnearest.spec)], inl := [], hi := 0, mv := [] }
noncomputable def gainReads.K (N : Nat) : FCfg := { anns := [], unr := [], lits := [], lets := [] }
noncomputable def gainReads.F (N : Nat) (b : List Int) (was : Int) (rate : Int) (g : Int) (v : Int) : Option Bool :=
  (obind (Rc.awake8.F (N)) fun r0 =>
   (br (!r0)
    (some (false))
    (br (decide (↑b.length > (200 : Int)))
     (some (true))
     (obind (Rc.new.F (N) (b)) fun r1 =>
      (obind (Rc.rnew.F (N) (b)) fun r2 =>
      (obind (Rc.icdf.F (N) ((1 : Int))) fun r3 =>
      (obind (Rc.rsymbol.F (N) (r2.fst) (r2.snd.fst) (r2.snd.snd.fst) (r2.snd.snd.snd.fst) (r2.snd.snd.snd.snd.fst) (r2.snd.snd.snd.snd.snd.fst) (r2.snd.snd.snd.snd.snd.snd.fst) (r2.snd.snd.snd.snd.snd.snd.snd.fst) (r2.snd.snd.snd.snd.snd.snd.snd.snd.fst) (r2.snd.snd.snd.snd.snd.snd.snd.snd.snd.fst) (r3) (r2.snd.snd.snd.snd.snd.snd.snd.snd.snd.snd)) fun r4 =>
      (obind (Rc.ruint.F (N) ((8 : Int)) (r4.snd.fst) (r4.snd.snd.fst) (r4.snd.snd.snd.fst) (r4.snd.snd.snd.snd.fst) (r2.snd.snd.snd.snd.fst) (r2.snd.snd.snd.snd.snd.fst) (r2.snd.snd.snd.snd.snd.snd.fst) (r4.snd.snd.snd.snd.snd.fst) (r4.snd.snd.snd.snd.snd.snd) (r2.snd.snd.snd.snd.snd.snd.snd.snd.snd.fst) (r2.snd.snd.snd.snd.snd.snd.snd.snd.snd.snd)) fun r5 =>
      (obind (Rc.greadfirst.F (N) (r1.fst) (r1.snd.fst) (r1.snd.snd.fst) (r1.snd.snd.snd.fst) (r1.snd.snd.snd.snd.fst) (r1.snd.snd.snd.snd.snd.fst) (r1.snd.snd.snd.snd.snd.snd.fst) (r1.snd.snd.snd.snd.snd.snd.snd.fst) (r1.snd.snd.snd.snd.snd.snd.snd.snd.fst) (r1.snd.snd.snd.snd.snd.snd.snd.snd.snd)) fun r6 =>
      (br (r6.fst != IntKind.i64.wrap (IntKind.i64.wrap ((8 : Int) * r4.fst) + r5.fst))
      (some (false))
      (obind (Rc.rclamp.F (N) (was) ((0 : Int)) ((63 : Int))) fun r7 =>
      (obind (Rc.icdf.F (N) ((2 : Int))) fun r8 =>
      (obind (Rc.rsymbol.F (N) (r5.snd.fst) (r5.snd.snd.fst) (r5.snd.snd.snd.fst) (r5.snd.snd.snd.snd.fst) (r5.snd.snd.snd.snd.snd.fst) (r5.snd.snd.snd.snd.snd.snd.fst) (r5.snd.snd.snd.snd.snd.snd.snd.fst) (r5.snd.snd.snd.snd.snd.snd.snd.snd.fst) (r5.snd.snd.snd.snd.snd.snd.snd.snd.snd.fst) (r5.snd.snd.snd.snd.snd.snd.snd.snd.snd.snd) (r8) (r2.snd.snd.snd.snd.snd.snd.snd.snd.snd.snd)) fun r9 =>
      (obind (Rc.rclamp.F (N) (IntKind.i64.wrap (IntKind.i64.wrap (r7 + r9.fst) - (8 : Int))) ((0 : Int)) ((63 : Int))) fun r10 =>
      (obind (Rc.greadnext.F (N) (was) (r6.snd.fst) (r6.snd.snd.fst) (r6.snd.snd.snd.fst) (r6.snd.snd.snd.snd.fst) (r6.snd.snd.snd.snd.snd.fst) (r6.snd.snd.snd.snd.snd.snd.fst) (r6.snd.snd.snd.snd.snd.snd.snd.fst) (r6.snd.snd.snd.snd.snd.snd.snd.snd.fst) (r6.snd.snd.snd.snd.snd.snd.snd.snd.snd) (r1.snd.snd.snd.snd.snd.snd.snd.snd.snd)) fun r11 =>
      (br (r11.fst != r10)
      (some (false))
      (obind (Rc.rlags.F (N) (rate)) fun r12 =>
      (br (decide (r12.snd > (0 : Int)))
      (obind (Rc.ruint.F (N) (IntKind.i64.wrap (IntKind.i64.wrap (r12.snd - r12.fst) + (1 : Int))) (r9.snd.fst) (r9.snd.snd.fst) (r9.snd.snd.snd.fst) (r9.snd.snd.snd.snd.fst) (r5.snd.snd.snd.snd.snd.fst) (r5.snd.snd.snd.snd.snd.snd.fst) (r5.snd.snd.snd.snd.snd.snd.snd.fst) (r9.snd.snd.snd.snd.snd.fst) (r9.snd.snd.snd.snd.snd.snd) (r5.snd.snd.snd.snd.snd.snd.snd.snd.snd.snd) (r2.snd.snd.snd.snd.snd.snd.snd.snd.snd.snd)) fun r13 =>
      (obind (Rc.icdf.F (N) ((6 : Int))) fun r14 =>
      (obind (Rc.rsymbol.F (N) (r13.snd.fst) (r13.snd.snd.fst) (r13.snd.snd.snd.fst) (r13.snd.snd.snd.snd.fst) (r13.snd.snd.snd.snd.snd.fst) (r13.snd.snd.snd.snd.snd.snd.fst) (r13.snd.snd.snd.snd.snd.snd.snd.fst) (r13.snd.snd.snd.snd.snd.snd.snd.snd.fst) (r13.snd.snd.snd.snd.snd.snd.snd.snd.snd.fst) (r13.snd.snd.snd.snd.snd.snd.snd.snd.snd.snd) (r14) (r2.snd.snd.snd.snd.snd.snd.snd.snd.snd.snd)) fun r15 =>
      (obind (Rc.glags.F (N) (rate)) fun r16 =>
      (obind (Rc.greadltp.F (N) (rate) (r11.snd.fst) (r11.snd.snd.fst) (r11.snd.snd.snd.fst) (r11.snd.snd.snd.snd.fst) (r6.snd.snd.snd.snd.snd.fst) (r6.snd.snd.snd.snd.snd.snd.fst) (r6.snd.snd.snd.snd.snd.snd.snd.fst) (r11.snd.snd.snd.snd.snd) (r6.snd.snd.snd.snd.snd.snd.snd.snd.snd) (r1.snd.snd.snd.snd.snd.snd.snd.snd.snd)) fun r17 =>
      (br (r17.fst == IntKind.i64.wrap (r12.fst + r13.fst) && (r17.snd.fst == r15.fst && true))
      (obind (Rc.tell.F (N) (r17.snd.snd.fst) (r17.snd.snd.snd.fst) (r17.snd.snd.snd.snd.fst) (r17.snd.snd.snd.snd.snd.fst) (r17.snd.snd.snd.snd.snd.snd.fst) (r17.snd.snd.snd.snd.snd.snd.snd.fst) (r17.snd.snd.snd.snd.snd.snd.snd.snd.fst) (r17.snd.snd.snd.snd.snd.snd.snd.snd.snd.fst) (r17.snd.snd.snd.snd.snd.snd.snd.snd.snd.snd) (r1.snd.snd.snd.snd.snd.snd.snd.snd.snd)) fun r18 =>
      (obind (Rc.rtell.F (N) (r15.snd.fst) (r15.snd.snd.fst) (r15.snd.snd.snd.fst) (r15.snd.snd.snd.snd.fst) (r13.snd.snd.snd.snd.snd.fst) (r13.snd.snd.snd.snd.snd.snd.fst) (r13.snd.snd.snd.snd.snd.snd.snd.fst) (r15.snd.snd.snd.snd.snd.fst) (r15.snd.snd.snd.snd.snd.snd) (r13.snd.snd.snd.snd.snd.snd.snd.snd.snd.snd) (r2.snd.snd.snd.snd.snd.snd.snd.snd.snd.snd)) fun r19 =>
      (br (r18 == r19)
      (br (r16.fst == r12.fst)
      (br (r16.snd == r12.snd)
      (obind (Rc.gloud.F (N) (g)) fun r20 =>
      (obind (Rc.rloud.F (N) (g)) fun r21 =>
      (br (r20 == r21)
      (obind (Rc.gnearest.F (N) (v)) fun r22 =>
      (obind (Rc.rgnearest.F (N) (v)) fun r23 =>
      (chkI (IntKind.i64.wrap (r12.fst + r13.fst)) (IntKind.i64.wrap (r12.fst + r13.fst))
      (chkI (r15.fst) (r15.fst)
      (some (r22 == r23))))))
      (chkI (IntKind.i64.wrap (r12.fst + r13.fst)) (IntKind.i64.wrap (r12.fst + r13.fst))
      (chkI (r15.fst) (r15.fst)
      (some (false)))))))
      (chkI (IntKind.i64.wrap (r12.fst + r13.fst)) (IntKind.i64.wrap (r12.fst + r13.fst))
      (chkI (r15.fst) (r15.fst)
      (some (false)))))
      (chkI (IntKind.i64.wrap (r12.fst + r13.fst)) (IntKind.i64.wrap (r12.fst + r13.fst))
      (chkI (r15.fst) (r15.fst)
      (some (false)))))
      (chkI (IntKind.i64.wrap (r12.fst + r13.fst)) (IntKind.i64.wrap (r12.fst + r13.fst))
      (chkI (r15.fst) (r15.fst)
      (some (false)))))))
      (chkI (IntKind.i64.wrap (r12.fst + r13.fst)) (IntKind.i64.wrap (r12.fst + r13.fst))
      (chkI (r15.fst) (r15.fst)
      (some (false))))))))))
      (obind (Rc.glags.F (N) (rate)) fun r24 =>
      (obind (Rc.greadltp.F (N) (rate) (r11.snd.fst) (r11.snd.snd.fst) (r11.snd.snd.snd.fst) (r11.snd.snd.snd.snd.fst) (r6.snd.snd.snd.snd.snd.fst) (r6.snd.snd.snd.snd.snd.snd.fst) (r6.snd.snd.snd.snd.snd.snd.snd.fst) (r11.snd.snd.snd.snd.snd) (r6.snd.snd.snd.snd.snd.snd.snd.snd.snd) (r1.snd.snd.snd.snd.snd.snd.snd.snd.snd)) fun r25 =>
      (br (r25.fst == (0 : Int) && (r25.snd.fst == (0 : Int) && true))
      (obind (Rc.tell.F (N) (r25.snd.snd.fst) (r25.snd.snd.snd.fst) (r25.snd.snd.snd.snd.fst) (r25.snd.snd.snd.snd.snd.fst) (r25.snd.snd.snd.snd.snd.snd.fst) (r25.snd.snd.snd.snd.snd.snd.snd.fst) (r25.snd.snd.snd.snd.snd.snd.snd.snd.fst) (r25.snd.snd.snd.snd.snd.snd.snd.snd.snd.fst) (r25.snd.snd.snd.snd.snd.snd.snd.snd.snd.snd) (r1.snd.snd.snd.snd.snd.snd.snd.snd.snd)) fun r26 =>
      (obind (Rc.rtell.F (N) (r9.snd.fst) (r9.snd.snd.fst) (r9.snd.snd.snd.fst) (r9.snd.snd.snd.snd.fst) (r5.snd.snd.snd.snd.snd.fst) (r5.snd.snd.snd.snd.snd.snd.fst) (r5.snd.snd.snd.snd.snd.snd.snd.fst) (r9.snd.snd.snd.snd.snd.fst) (r9.snd.snd.snd.snd.snd.snd) (r5.snd.snd.snd.snd.snd.snd.snd.snd.snd.snd) (r2.snd.snd.snd.snd.snd.snd.snd.snd.snd.snd)) fun r27 =>
      (br (r26 == r27)
      (br (r24.fst == r12.fst)
      (br (r24.snd == r12.snd)
      (obind (Rc.gloud.F (N) (g)) fun r28 =>
      (obind (Rc.rloud.F (N) (g)) fun r29 =>
      (br (r28 == r29)
      (obind (Rc.gnearest.F (N) (v)) fun r30 =>
      (obind (Rc.rgnearest.F (N) (v)) fun r31 =>
      (chkI ((0 : Int)) ((0 : Int))
      (chkI ((0 : Int)) ((0 : Int))
      (some (r30 == r31))))))
      (chkI ((0 : Int)) ((0 : Int))
      (chkI ((0 : Int)) ((0 : Int))
      (some (false)))))))
      (chkI ((0 : Int)) ((0 : Int))
      (chkI ((0 : Int)) ((0 : Int))
      (some (false)))))
      (chkI ((0 : Int)) ((0 : Int))
      (chkI ((0 : Int)) ((0 : Int))
      (some (false)))))
      (chkI ((0 : Int)) ((0 : Int))
      (chkI ((0 : Int)) ((0 : Int))
      (some (false)))))))
      (chkI ((0 : Int)) ((0 : Int))
      (chkI ((0 : Int)) ((0 : Int))
      (some (false)))))))))))))))))))))))))
theorem gainReads.F_eq (N : Nat) (b : List Int) (was : Int) (rate : Int) (g : Int) (v : Int) : evLaw (gainReads.C N b was rate g v) (gainReads.K N) 0 Try.f10 [.at (.roi .u8 b), .at (.int .i64 was), .at (.int .i64 rate), .at (.int .i64 g), .at (.int .i64 v)] = gainReads.F N b was rate g v := by
  kernel_rfl
theorem gainReads.cok (N : Nat) (b : List Int) (was : Int) (rate : Int) (g : Int) (v : Int) : CfgOK (gainReads.C N b was rate g v) := ⟨fun _ _ _ _ h => by simp [gainReads.C, noRT] at h, wide, by
  simp only [gainReads.C, List.mem_cons, List.not_mem_nil, or_false, forall_eq_or_imp, forall_eq, false_imp_iff, implies_true]
  exact ⟨⟨awake8.ok, by kernel_rfl⟩, ⟨new.ok, by kernel_rfl⟩, ⟨rnew.ok, by kernel_rfl⟩, ⟨icdf.ok, by kernel_rfl⟩, ⟨rsymbol.ok, by kernel_rfl⟩, ⟨ruint.ok, by kernel_rfl⟩, ⟨greadfirst.ok, by kernel_rfl⟩, ⟨rclamp.ok, by kernel_rfl⟩, ⟨greadnext.ok, by kernel_rfl⟩, ⟨rlags.ok, by kernel_rfl⟩, ⟨glags.ok, by kernel_rfl⟩, ⟨greadltp.ok, by kernel_rfl⟩, ⟨tell.ok, by kernel_rfl⟩, ⟨rtell.ok, by kernel_rfl⟩, ⟨gloud.ok, by kernel_rfl⟩, ⟨rloud.ok, by kernel_rfl⟩, ⟨gnearest.ok, by kernel_rfl⟩, ⟨rgnearest.ok, by kernel_rfl⟩⟩, fun g hg => by simp [gainReads.C] at hg, fun m hm => by simp [gainReads.C] at hm⟩
theorem gainReads.aok (N : Nat) : AnnsOK (gainReads.K N) := by
  intro q hq
  simp only [gainReads.K, List.mem_cons, List.not_mem_nil, or_false] at hq
theorem gainReads.walk {w : World} {N : Nat} (b : List Int) (was : Int) (rate : Int) (g : Int) (v : Int) {cargs : Array Value} (ha : All2 (RV noRT (lawE w)) [.at (.roi .u8 b), .at (.int .i64 was), .at (.int .i64 rate), .at (.int .i64 g), .at (.int .i64 v)] cargs.toList) (h : gainReads.F N b was rate g v = some true) :
    Calls Try.prog 10 cargs w fun e w' => e = .returned (.bool true) ∧ Frm w (fun _ => False) w' :=
  law_sound (C := gainReads.C N b was rate g v) (K := gainReads.K N) (d := 0) (fn := Try.f10) (gainReads.cok N b was rate g v) (fun q hq => by simp [gainReads.C] at hq) (gainReads.aok N) (by kernel_rfl) ha ((gainReads.F_eq N b was rate g v).trans h)

noncomputable def gainRises.C (N : Nat) (a : Int) (b : Int) : Cfg := { P := Try.prog, N := N, RT := noRT, specs := [(35, awake8.spec), (37, gloud.spec), (47, gnearest.spec)], inl := [], hi := 0, mv := [] }
noncomputable def gainRises.K (N : Nat) : FCfg := { anns := [], unr := [], lits := [], lets := [] }
noncomputable def gainRises.F (N : Nat) (a : Int) (b : Int) : Option Bool :=
  (obind (Rc.awake8.F (N)) fun r0 =>
   (br (!r0)
    (some (false))
    (br (decide (a > b))
     (some (true))
     (obind (Rc.gloud.F (N) (b)) fun r1 =>
      (obind (Rc.gnearest.F (N) (r1)) fun r2 =>
      (obind (Rc.gloud.F (N) (a)) fun r3 =>
      (obind (Rc.gloud.F (N) (b)) fun r4 =>
      (br (decide (r3 ≤ r4))
      (obind (Rc.gloud.F (N) (r2)) fun r5 =>
      (obind (Rc.gloud.F (N) (b)) fun r6 =>
      (some (r5 == r6))))
      (some (false))))))))))
theorem gainRises.F_eq (N : Nat) (a : Int) (b : Int) : evLaw (gainRises.C N a b) (gainRises.K N) 0 Try.f8 [.at (.int .i64 a), .at (.int .i64 b)] = gainRises.F N a b := by
  kernel_rfl
theorem gainRises.cok (N : Nat) (a : Int) (b : Int) : CfgOK (gainRises.C N a b) := ⟨fun _ _ _ _ h => by simp [gainRises.C, noRT] at h, wide, by
  simp only [gainRises.C, List.mem_cons, List.not_mem_nil, or_false, forall_eq_or_imp, forall_eq, false_imp_iff, implies_true]
  exact ⟨⟨awake8.ok, by kernel_rfl⟩, ⟨gloud.ok, by kernel_rfl⟩, ⟨gnearest.ok, by kernel_rfl⟩⟩, fun g hg => by simp [gainRises.C] at hg, fun m hm => by simp [gainRises.C] at hm⟩
theorem gainRises.aok (N : Nat) : AnnsOK (gainRises.K N) := by
  intro q hq
  simp only [gainRises.K, List.mem_cons, List.not_mem_nil, or_false] at hq
theorem gainRises.walk {w : World} {N : Nat} (a : Int) (b : Int) {cargs : Array Value} (ha : All2 (RV noRT (lawE w)) [.at (.int .i64 a), .at (.int .i64 b)] cargs.toList) (h : gainRises.F N a b = some true) :
    Calls Try.prog 8 cargs w fun e w' => e = .returned (.bool true) ∧ Frm w (fun _ => False) w' :=
  law_sound (C := gainRises.C N a b) (K := gainRises.K N) (d := 0) (fn := Try.f8) (gainRises.cok N a b) (fun q hq => by simp [gainRises.C] at hq) (gainRises.aok N) (by kernel_rfl) ha ((gainRises.F_eq N a b).trans h)

noncomputable def gainNear.C (N : Nat) (v : Int) : Cfg := { P := Try.prog, N := N, RT := noRT, specs := [(35, awake8.spec), (47, gnearest.spec), (37, gloud.spec)], inl := [], hi := 0, mv := [] }
abbrev gainNear.loop9.R : Type := Bool
noncomputable def gainNear.loop9.ann : Ann := { nx := 20, slots := [(0, .at (.fint .i64 0)), (2, .at (.bool 0)), (3, .at (.fint .i64 1)), (4, .at (.int .i64 0))], blks := [], mov := [], exId := 0, xslots := [(2, .at (.bool 0))], xblks := [], T := gainNear.loop9.R, dec := fun L => (L.b 0), enc := fun r => mkL [] [r] [] [], ret := true }
noncomputable def gainNear.K (N : Nat) : FCfg := { anns := [(9, gainNear.loop9.ann)], unr := [], lits := [], lets := [] }
noncomputable def gainNear.loop9 (N : Nat) (v : Int) : Nat → Int → Int → Int → Bool → Option (gainNear.loop9.R ⊕ Bool)
  | 0, _, _, _, _ => none
  | nn + 1, s0, s3, s4, s2 =>
  (br (decide (s4 < (64 : Int)))
   (obind (Rc.gloud.F (N) (s3)) fun r0 =>
    (obind (Rc.gloud.F (N) (s4)) fun r1 =>
     (br (decide (IntKind.i64.wrap (s0 - r0) < (0 : Int)))
      (br (decide (IntKind.i64.wrap (s0 - r1) < (0 : Int)))
      (br (decide (IntKind.i64.wrap ((0 : Int) - IntKind.i64.wrap (s0 - r1)) < IntKind.i64.wrap ((0 : Int) - IntKind.i64.wrap (s0 - r0))))
      (omap
      (some (false)) .inr)
      (br (IntKind.i64.wrap ((0 : Int) - IntKind.i64.wrap (s0 - r1)) == IntKind.i64.wrap ((0 : Int) - IntKind.i64.wrap (s0 - r0)))
      (br (decide (s4 < s3))
      (omap
      (some (false)) .inr)
      (chkI (s0) (s0)
      (chkI (s3) (s3)
      (gainNear.loop9 N v (nn) (s0) (s3) (IntKind.i64.wrap (s4 + (1 : Int))) (s2)))))
      (chkI (s0) (s0)
      (chkI (s3) (s3)
      (gainNear.loop9 N v (nn) (s0) (s3) (IntKind.i64.wrap (s4 + (1 : Int))) (s2))))))
      (br (decide (IntKind.i64.wrap (s0 - r1) < IntKind.i64.wrap ((0 : Int) - IntKind.i64.wrap (s0 - r0))))
      (omap
      (some (false)) .inr)
      (br (IntKind.i64.wrap (s0 - r1) == IntKind.i64.wrap ((0 : Int) - IntKind.i64.wrap (s0 - r0)))
      (br (decide (s4 < s3))
      (omap
      (some (false)) .inr)
      (chkI (s0) (s0)
      (chkI (s3) (s3)
      (gainNear.loop9 N v (nn) (s0) (s3) (IntKind.i64.wrap (s4 + (1 : Int))) (s2)))))
      (chkI (s0) (s0)
      (chkI (s3) (s3)
      (gainNear.loop9 N v (nn) (s0) (s3) (IntKind.i64.wrap (s4 + (1 : Int))) (s2)))))))
      (br (decide (IntKind.i64.wrap (s0 - r1) < (0 : Int)))
      (br (decide (IntKind.i64.wrap ((0 : Int) - IntKind.i64.wrap (s0 - r1)) < IntKind.i64.wrap (s0 - r0)))
      (omap
      (some (false)) .inr)
      (br (IntKind.i64.wrap ((0 : Int) - IntKind.i64.wrap (s0 - r1)) == IntKind.i64.wrap (s0 - r0))
      (br (decide (s4 < s3))
      (omap
      (some (false)) .inr)
      (chkI (s0) (s0)
      (chkI (s3) (s3)
      (gainNear.loop9 N v (nn) (s0) (s3) (IntKind.i64.wrap (s4 + (1 : Int))) (s2)))))
      (chkI (s0) (s0)
      (chkI (s3) (s3)
      (gainNear.loop9 N v (nn) (s0) (s3) (IntKind.i64.wrap (s4 + (1 : Int))) (s2))))))
      (br (decide (IntKind.i64.wrap (s0 - r1) < IntKind.i64.wrap (s0 - r0)))
      (omap
      (some (false)) .inr)
      (br (IntKind.i64.wrap (s0 - r1) == IntKind.i64.wrap (s0 - r0))
      (br (decide (s4 < s3))
      (omap
      (some (false)) .inr)
      (chkI (s0) (s0)
      (chkI (s3) (s3)
      (gainNear.loop9 N v (nn) (s0) (s3) (IntKind.i64.wrap (s4 + (1 : Int))) (s2)))))
      (chkI (s0) (s0)
      (chkI (s3) (s3)
      (gainNear.loop9 N v (nn) (s0) (s3) (IntKind.i64.wrap (s4 + (1 : Int))) (s2))))))))))
   (some (Sum.inl s2)))
noncomputable def gainNear.loop9R (N : Nat) (v : Int) (nn : Nat) (s0 : Int) (s3 : Int) (s4 : Int) (s2 : Bool) : Option (gainNear.loop9.R ⊕ Bool) := loopR gainNear.loop9.ann (mkL [s0, s3] [] [] []) (evCode ((gainNear.C N v).inLoop gainNear.loop9.ann) (gainNear.K N) (inlTab (gainNear.C N v) 0) (bodyAt 9 Try.f9)) (lawKr Try.prog Try.f9) nn (mkL [s4] [s2] [] [])
theorem gainNear.loop9_eq (N : Nat) (v : Int) : ∀ (nn : Nat) (s0 : Int) (s3 : Int) (s4 : Int) (s2 : Bool), gainNear.loop9R N v nn s0 s3 s4 s2 = gainNear.loop9 N v nn s0 s3 s4 s2
  | 0, _, _, _, _ => by kernel_rfl
  | nn + 1, s0, s3, s4, s2 => by
    have h : gainNear.loop9R N v (nn + 1) s0 s3 s4 s2 =
  (br (decide (s4 < (64 : Int)))
   (obind (Rc.gloud.F (N) (s3)) fun r0 =>
    (obind (Rc.gloud.F (N) (s4)) fun r1 =>
     (br (decide (IntKind.i64.wrap (s0 - r0) < (0 : Int)))
      (br (decide (IntKind.i64.wrap (s0 - r1) < (0 : Int)))
      (br (decide (IntKind.i64.wrap ((0 : Int) - IntKind.i64.wrap (s0 - r1)) < IntKind.i64.wrap ((0 : Int) - IntKind.i64.wrap (s0 - r0))))
      (omap
      (some (false)) .inr)
      (br (IntKind.i64.wrap ((0 : Int) - IntKind.i64.wrap (s0 - r1)) == IntKind.i64.wrap ((0 : Int) - IntKind.i64.wrap (s0 - r0)))
      (br (decide (s4 < s3))
      (omap
      (some (false)) .inr)
      (chkI (s0) (s0)
      (chkI (s3) (s3)
      (gainNear.loop9R N v (nn) (s0) (s3) (IntKind.i64.wrap (s4 + (1 : Int))) (s2)))))
      (chkI (s0) (s0)
      (chkI (s3) (s3)
      (gainNear.loop9R N v (nn) (s0) (s3) (IntKind.i64.wrap (s4 + (1 : Int))) (s2))))))
      (br (decide (IntKind.i64.wrap (s0 - r1) < IntKind.i64.wrap ((0 : Int) - IntKind.i64.wrap (s0 - r0))))
      (omap
      (some (false)) .inr)
      (br (IntKind.i64.wrap (s0 - r1) == IntKind.i64.wrap ((0 : Int) - IntKind.i64.wrap (s0 - r0)))
      (br (decide (s4 < s3))
      (omap
      (some (false)) .inr)
      (chkI (s0) (s0)
      (chkI (s3) (s3)
      (gainNear.loop9R N v (nn) (s0) (s3) (IntKind.i64.wrap (s4 + (1 : Int))) (s2)))))
      (chkI (s0) (s0)
      (chkI (s3) (s3)
      (gainNear.loop9R N v (nn) (s0) (s3) (IntKind.i64.wrap (s4 + (1 : Int))) (s2)))))))
      (br (decide (IntKind.i64.wrap (s0 - r1) < (0 : Int)))
      (br (decide (IntKind.i64.wrap ((0 : Int) - IntKind.i64.wrap (s0 - r1)) < IntKind.i64.wrap (s0 - r0)))
      (omap
      (some (false)) .inr)
      (br (IntKind.i64.wrap ((0 : Int) - IntKind.i64.wrap (s0 - r1)) == IntKind.i64.wrap (s0 - r0))
      (br (decide (s4 < s3))
      (omap
      (some (false)) .inr)
      (chkI (s0) (s0)
      (chkI (s3) (s3)
      (gainNear.loop9R N v (nn) (s0) (s3) (IntKind.i64.wrap (s4 + (1 : Int))) (s2)))))
      (chkI (s0) (s0)
      (chkI (s3) (s3)
      (gainNear.loop9R N v (nn) (s0) (s3) (IntKind.i64.wrap (s4 + (1 : Int))) (s2))))))
      (br (decide (IntKind.i64.wrap (s0 - r1) < IntKind.i64.wrap (s0 - r0)))
      (omap
      (some (false)) .inr)
      (br (IntKind.i64.wrap (s0 - r1) == IntKind.i64.wrap (s0 - r0))
      (br (decide (s4 < s3))
      (omap
      (some (false)) .inr)
      (chkI (s0) (s0)
      (chkI (s3) (s3)
      (gainNear.loop9R N v (nn) (s0) (s3) (IntKind.i64.wrap (s4 + (1 : Int))) (s2)))))
      (chkI (s0) (s0)
      (chkI (s3) (s3)
      (gainNear.loop9R N v (nn) (s0) (s3) (IntKind.i64.wrap (s4 + (1 : Int))) (s2))))))))))
   (some (Sum.inl s2))) := by kernel_rfl
    rw [h, gainNear.loop9]
    try simp only [gainNear.loop9_eq N v nn]
noncomputable def gainNear.F (N : Nat) (v : Int) : Option Bool :=
  (obind (Rc.awake8.F (N)) fun r0 =>
   (br (!r0)
    (some (false))
    (br (decide (v < (0 : Int)))
     (some (true))
     (br (decide (v > (1099511627776 : Int)))
      (some (true))
      (obind (Rc.gnearest.F (N) (v)) fun r1 =>
      (br (decide (r1 < (0 : Int)))
      (some (false))
      (br (decide (r1 > (63 : Int)))
      (some (false))
      (osum (gainNear.loop9 N v (N) (v) (r1) ((0 : Int)) (false)) fun r2 =>
      (some (true))))))))))
theorem gainNear.F_eq (N : Nat) (v : Int) : evLaw (gainNear.C N v) (gainNear.K N) 0 Try.f9 [.at (.int .i64 v)] = gainNear.F N v := by
  have h : evLaw (gainNear.C N v) (gainNear.K N) 0 Try.f9 [.at (.int .i64 v)] =
  (obind (Rc.awake8.F (N)) fun r0 =>
   (br (!r0)
    (some (false))
    (br (decide (v < (0 : Int)))
     (some (true))
     (br (decide (v > (1099511627776 : Int)))
      (some (true))
      (obind (Rc.gnearest.F (N) (v)) fun r1 =>
      (br (decide (r1 < (0 : Int)))
      (some (false))
      (br (decide (r1 > (63 : Int)))
      (some (false))
      (osum (gainNear.loop9R N v (N) (v) (r1) ((0 : Int)) (false)) fun r2 =>
      (some (true)))))))))) := by kernel_rfl
  rw [h, gainNear.F]
  try simp only [gainNear.loop9_eq N v]
theorem gainNear.cok (N : Nat) (v : Int) : CfgOK (gainNear.C N v) := ⟨fun _ _ _ _ h => by simp [gainNear.C, noRT] at h, wide, by
  simp only [gainNear.C, List.mem_cons, List.not_mem_nil, or_false, forall_eq_or_imp, forall_eq, false_imp_iff, implies_true]
  exact ⟨⟨awake8.ok, by kernel_rfl⟩, ⟨gnearest.ok, by kernel_rfl⟩, ⟨gloud.ok, by kernel_rfl⟩⟩, fun g hg => by simp [gainNear.C] at hg, fun m hm => by simp [gainNear.C] at hm⟩
theorem gainNear.aok (N : Nat) : AnnsOK (gainNear.K N) := by
  intro q hq
  simp only [gainNear.K, List.mem_cons, List.not_mem_nil, or_false] at hq
  subst hq
  exact fun _ _ => ⟨rfl, rfl⟩
theorem gainNear.walk {w : World} {N : Nat} (v : Int) {cargs : Array Value} (ha : All2 (RV noRT (lawE w)) [.at (.int .i64 v)] cargs.toList) (h : gainNear.F N v = some true) :
    Calls Try.prog 9 cargs w fun e w' => e = .returned (.bool true) ∧ Frm w (fun _ => False) w' :=
  law_sound (C := gainNear.C N v) (K := gainNear.K N) (d := 0) (fn := Try.f9) (gainNear.cok N v) (fun q hq => by simp [gainNear.C] at hq) (gainNear.aok N) (by kernel_rfl) ha ((gainNear.F_eq N v).trans h)

noncomputable def gainBack.C (N : Nat) (l : List Int) (rate : Int) (lag : Int) (taps : Int) : Cfg := { P := Try.prog, N := N, RT := noRT, specs := [(35, awake8.spec), (25, enew.spec), (38, gwritefirst.spec), (42, gwritenext.spec), (43, rclamp.spec), (44, rlags.spec), (39, gwriteltp.spec), (29, edone.spec), (41, new.spec), (45, greadfirst.spec), (46, greadnext.spec), (40, greadltp.spec)], inl := [], hi := 0, mv := [] }
abbrev gainBack.loop11.R : Type := Int × Int × Int × Int × Int × Bool × List Int × List Int × List Int
noncomputable def gainBack.loop11.ann : Ann := { nx := 23, slots := [(0, .at (.froi .i64 0)), (6, .at (.bool 0)), (7, .at (.ptr 1 0)), (8, .at (.int .i64 0)), (9, .at (.full 20 false)), (10, .at (.int .i64 1))], blks := [(1, .cells 6 [.full 21 false, .int .u64 2, .int .u64 3, .full 22 false, .int .i64 4, .int .i64 5]), (20, .ints true .i64 0), (21, .ints true .u8 1), (22, .ints true .u8 2)], mov := [20, 21, 22], exId := 0, xslots := [(7, .at (.ptr 1 0)), (6, .at (.bool 0)), (8, .at (.int .i64 0)), (9, .at (.full 20 false))], xblks := [(1, .cells 6 [.full 21 false, .int .u64 1, .int .u64 2, .full 22 false, .int .i64 3, .int .i64 4]), (20, .ints true .i64 0), (21, .ints true .u8 1), (22, .ints true .u8 2)], T := gainBack.loop11.R, dec := fun L => (L.i 0, L.i 1, L.i 2, L.i 3, L.i 4, L.b 0, L.l 0, L.l 1, L.l 2), enc := fun r => mkL [r.1, r.2.1, r.2.2.1, r.2.2.2.1, r.2.2.2.2.1] [r.2.2.2.2.2.1] [r.2.2.2.2.2.2.1, r.2.2.2.2.2.2.2.1, r.2.2.2.2.2.2.2.2] [], ret := true }
abbrev gainBack.loop32.R : Type := Int × Int × Int × Int × Int × Int × Bool
noncomputable def gainBack.loop32.ann : Ann := { nx := 36, slots := [(6, .at (.bool 0)), (8, .at (.int .i64 0)), (9, .at (.full 20 false)), (19, .at (.ptr 32 0)), (20, .at (.int .i64 1))], blks := [(20, .fints true .i64 0), (32, .cells 10 [.full 33 false, .int .u64 2, .int .u64 3, .int .u64 4, .int .i64 5, .fint .i64 0, .fint .u64 1, .fint .i64 2, .int .i64 6, .fbool 0]), (33, .fints false .u8 1)], mov := [], exId := 2, xslots := [(9, .at (.full 20 false)), (19, .at (.ptr 32 0)), (6, .at (.bool 0)), (8, .at (.int .i64 0))], xblks := [(20, .fints true .i64 0), (32, .cells 10 [.full 33 false, .int .u64 1, .int .u64 2, .int .u64 3, .int .i64 4, .fint .i64 0, .fint .u64 1, .fint .i64 2, .int .i64 5, .fbool 0]), (33, .fints false .u8 1)], T := gainBack.loop32.R, dec := fun L => (L.i 0, L.i 1, L.i 2, L.i 3, L.i 4, L.i 5, L.b 0), enc := fun r => mkL [r.1, r.2.1, r.2.2.1, r.2.2.2.1, r.2.2.2.2.1, r.2.2.2.2.2.1] [r.2.2.2.2.2.2] [] [], ret := true }
noncomputable def gainBack.K (N : Nat) : FCfg := { anns := [(11, gainBack.loop11.ann), (32, gainBack.loop32.ann)], unr := [], lits := [], lets := [] }
noncomputable def gainBack.loop32 (N : Nat) (l : List Int) (rate : Int) (lag : Int) (taps : Int) : Nat → Int → Int → Int → Bool → List Int → List Int → Int → Int → Int → Int → Int → Int → Int → Bool → Option (gainBack.loop32.R ⊕ Bool)
  | 0, _, _, _, _, _, _, _, _, _, _, _, _, _, _ => none
  | nn + 1, back, window, waiting, bad, l20, l33, s8, s20, rng, val, last, front, count, s6 =>
  (br (decide (s20 < ↑l20.length))
   (obind (Rc.greadnext.F (N) (s8) (rng) (val) (last) (front) (back) (window) (waiting) (count) (bad) (l33)) fun r0 =>
    (chk ((0 : Int) ≤ s20 ∧ s20 < ↑l20.length)
     (br (r0.fst != l20.getD s20.toNat (0 : Int))
      (omap
      (some (false)) .inr)
      (chkL (l20) (l20)
      (chkI (back) (back)
      (chkI (window) (window)
      (chkI (waiting) (waiting)
      (chkB (bad) (bad)
      (chkL (l33) (l33)
      (gainBack.loop32 N l rate lag taps (nn) (back) (window) (waiting) (bad) (l20) (l33) (r0.fst) (IntKind.i64.wrap (s20 + (1 : Int))) (r0.snd.fst) (r0.snd.snd.fst) (r0.snd.snd.snd.fst) (r0.snd.snd.snd.snd.fst) (r0.snd.snd.snd.snd.snd) (s6)))))))))))
   (chkL (l20) (l20)
   (chkI (back) (back)
   (chkI (window) (window)
   (chkI (waiting) (waiting)
   (chkB (bad) (bad)
   (chkL (l33) (l33)
   (some (Sum.inl (s8, rng, val, last, front, count, s6))))))))))
noncomputable def gainBack.loop32R (N : Nat) (l : List Int) (rate : Int) (lag : Int) (taps : Int) (nn : Nat) (back : Int) (window : Int) (waiting : Int) (bad : Bool) (l20 : List Int) (l33 : List Int) (s8 : Int) (s20 : Int) (rng : Int) (val : Int) (last : Int) (front : Int) (count : Int) (s6 : Bool) : Option (gainBack.loop32.R ⊕ Bool) := loopR gainBack.loop32.ann (mkL [back, window, waiting] [bad] [l20, l33] []) (evCode ((gainBack.C N l rate lag taps).inLoop gainBack.loop32.ann) (gainBack.K N) (inlTab (gainBack.C N l rate lag taps) 0) (bodyAt 32 Try.f7)) (lawKr Try.prog Try.f7) nn (mkL [s8, s20, rng, val, last, front, count] [s6] [] [])
theorem gainBack.loop32_eq (N : Nat) (l : List Int) (rate : Int) (lag : Int) (taps : Int) : ∀ (nn : Nat) (back : Int) (window : Int) (waiting : Int) (bad : Bool) (l20 : List Int) (l33 : List Int) (s8 : Int) (s20 : Int) (rng : Int) (val : Int) (last : Int) (front : Int) (count : Int) (s6 : Bool), gainBack.loop32R N l rate lag taps nn back window waiting bad l20 l33 s8 s20 rng val last front count s6 = gainBack.loop32 N l rate lag taps nn back window waiting bad l20 l33 s8 s20 rng val last front count s6
  | 0, _, _, _, _, _, _, _, _, _, _, _, _, _, _ => by kernel_rfl
  | nn + 1, back, window, waiting, bad, l20, l33, s8, s20, rng, val, last, front, count, s6 => by
    have h : gainBack.loop32R N l rate lag taps (nn + 1) back window waiting bad l20 l33 s8 s20 rng val last front count s6 =
  (br (decide (s20 < ↑l20.length))
   (obind (Rc.greadnext.F (N) (s8) (rng) (val) (last) (front) (back) (window) (waiting) (count) (bad) (l33)) fun r0 =>
    (chk ((0 : Int) ≤ s20 ∧ s20 < ↑l20.length)
     (br (r0.fst != l20.getD s20.toNat (0 : Int))
      (omap
      (some (false)) .inr)
      (chkL (l20) (l20)
      (chkI (back) (back)
      (chkI (window) (window)
      (chkI (waiting) (waiting)
      (chkB (bad) (bad)
      (chkL (l33) (l33)
      (gainBack.loop32R N l rate lag taps (nn) (back) (window) (waiting) (bad) (l20) (l33) (r0.fst) (IntKind.i64.wrap (s20 + (1 : Int))) (r0.snd.fst) (r0.snd.snd.fst) (r0.snd.snd.snd.fst) (r0.snd.snd.snd.snd.fst) (r0.snd.snd.snd.snd.snd) (s6)))))))))))
   (chkL (l20) (l20)
   (chkI (back) (back)
   (chkI (window) (window)
   (chkI (waiting) (waiting)
   (chkB (bad) (bad)
   (chkL (l33) (l33)
   (some (Sum.inl (s8, rng, val, last, front, count, s6)))))))))) := by kernel_rfl
    rw [h, gainBack.loop32]
    try simp only [gainBack.loop32_eq N l rate lag taps nn]
noncomputable def gainBack.loop11 (N : Nat) (l : List Int) (rate : Int) (lag : Int) (taps : Int) : Nat → List Int → Int → Int → Int → Int → Int → Int → Bool → List Int → List Int → List Int → Option (gainBack.loop11.R ⊕ Bool)
  | 0, _, _, _, _, _, _, _, _, _, _, _ => none
  | nn + 1, s0, s8, s10, val, rng, rawBits, count, s6, s9, told, raw =>
  (br (decide (s10 < ↑s0.length))
   (chk ((0 : Int) ≤ s10 ∧ s10 < ↑s0.length)
    (obind (Rc.gwritenext.F (N) (s0.getD s10.toNat (0 : Int)) (s8) (val) (rng) (rawBits) (count) (told) (raw)) fun r0 =>
     (chk ((0 : Int) ≤ s10 ∧ s10 < ↑s0.length)
      (obind (Rc.rclamp.F (N) (s0.getD s10.toNat (0 : Int)) ((0 : Int)) ((63 : Int))) fun r1 =>
      (br (r0.snd.fst != (0 : Int))
      (omap
      (some (false)) .inr)
      (obind (Rc.rclamp.F (N) (IntKind.i64.wrap (r1 - s8)) ((-8 : Int)) ((8 : Int))) fun r2 =>
      (br (r0.fst != IntKind.i64.wrap (s8 + r2))
      (omap
      (some (false)) .inr)
      (chk (s9.length + [r0.fst].length ≤ (17592186043904 : Nat))
      (chkL (s0) (s0)
      (gainBack.loop11 N l rate lag taps (nn) (s0) (r0.fst) (IntKind.i64.wrap (s10 + (1 : Int))) (r0.snd.snd.fst) (r0.snd.snd.snd.fst) (r0.snd.snd.snd.snd.fst) (r0.snd.snd.snd.snd.snd.fst) (s6) (s9 ++ [r0.fst]) (r0.snd.snd.snd.snd.snd.snd.snd) (r0.snd.snd.snd.snd.snd.snd.fst)))))))))))
   (some (Sum.inl (s8, val, rng, rawBits, count, s6, s9, told, raw))))
noncomputable def gainBack.loop11R (N : Nat) (l : List Int) (rate : Int) (lag : Int) (taps : Int) (nn : Nat) (s0 : List Int) (s8 : Int) (s10 : Int) (val : Int) (rng : Int) (rawBits : Int) (count : Int) (s6 : Bool) (s9 : List Int) (told : List Int) (raw : List Int) : Option (gainBack.loop11.R ⊕ Bool) := loopR gainBack.loop11.ann (mkL [] [] [s0] []) (evCode ((gainBack.C N l rate lag taps).inLoop gainBack.loop11.ann) (gainBack.K N) (inlTab (gainBack.C N l rate lag taps) 0) (bodyAt 11 Try.f7)) (lawKr Try.prog Try.f7) nn (mkL [s8, s10, val, rng, rawBits, count] [s6] [s9, told, raw] [])
theorem gainBack.loop11_eq (N : Nat) (l : List Int) (rate : Int) (lag : Int) (taps : Int) : ∀ (nn : Nat) (s0 : List Int) (s8 : Int) (s10 : Int) (val : Int) (rng : Int) (rawBits : Int) (count : Int) (s6 : Bool) (s9 : List Int) (told : List Int) (raw : List Int), gainBack.loop11R N l rate lag taps nn s0 s8 s10 val rng rawBits count s6 s9 told raw = gainBack.loop11 N l rate lag taps nn s0 s8 s10 val rng rawBits count s6 s9 told raw
  | 0, _, _, _, _, _, _, _, _, _, _, _ => by kernel_rfl
  | nn + 1, s0, s8, s10, val, rng, rawBits, count, s6, s9, told, raw => by
    have h : gainBack.loop11R N l rate lag taps (nn + 1) s0 s8 s10 val rng rawBits count s6 s9 told raw =
  (br (decide (s10 < ↑s0.length))
   (chk ((0 : Int) ≤ s10 ∧ s10 < ↑s0.length)
    (obind (Rc.gwritenext.F (N) (s0.getD s10.toNat (0 : Int)) (s8) (val) (rng) (rawBits) (count) (told) (raw)) fun r0 =>
     (chk ((0 : Int) ≤ s10 ∧ s10 < ↑s0.length)
      (obind (Rc.rclamp.F (N) (s0.getD s10.toNat (0 : Int)) ((0 : Int)) ((63 : Int))) fun r1 =>
      (br (r0.snd.fst != (0 : Int))
      (omap
      (some (false)) .inr)
      (obind (Rc.rclamp.F (N) (IntKind.i64.wrap (r1 - s8)) ((-8 : Int)) ((8 : Int))) fun r2 =>
      (br (r0.fst != IntKind.i64.wrap (s8 + r2))
      (omap
      (some (false)) .inr)
      (chk (s9.length + [r0.fst].length ≤ (17592186043904 : Nat))
      (chkL (s0) (s0)
      (gainBack.loop11R N l rate lag taps (nn) (s0) (r0.fst) (IntKind.i64.wrap (s10 + (1 : Int))) (r0.snd.snd.fst) (r0.snd.snd.snd.fst) (r0.snd.snd.snd.snd.fst) (r0.snd.snd.snd.snd.snd.fst) (s6) (s9 ++ [r0.fst]) (r0.snd.snd.snd.snd.snd.snd.snd) (r0.snd.snd.snd.snd.snd.snd.fst)))))))))))
   (some (Sum.inl (s8, val, rng, rawBits, count, s6, s9, told, raw)))) := by kernel_rfl
    rw [h, gainBack.loop11]
    try simp only [gainBack.loop11_eq N l rate lag taps nn]
noncomputable def gainBack.F (N : Nat) (l : List Int) (rate : Int) (lag : Int) (taps : Int) : Option Bool :=
  (obind (Rc.awake8.F (N)) fun r0 =>
   (br (!r0)
    (some (false))
    (br (decide (↑l.length > (30 : Int)))
     (some (true))
     (br (↑l.length == (0 : Int))
      (some (true))
      (obind (Rc.enew.F (N)) fun r1 =>
      (chk ((0 : Int) ≤ (0 : Int) ∧ (0 : Int) < ↑l.length)
      (obind (Rc.gwritefirst.F (N) (l.getD (Int.toNat (0 : Int)) (0 : Int)) (r1.fst) (r1.snd.fst) (r1.snd.snd.fst) (r1.snd.snd.snd.fst) (r1.snd.snd.snd.snd.fst) (r1.snd.snd.snd.snd.snd)) fun r2 =>
      (br (r2.fst != (0 : Int))
      (chk ((0 : Int) ≤ (0 : Int) ∧ (0 : Int) < ↑l.length)
      (br (decide (l.getD (Int.toNat (0 : Int)) (0 : Int) < (0 : Int)))
      (some (true))
      (chk ((0 : Int) ≤ (0 : Int) ∧ (0 : Int) < ↑l.length)
      (some (decide (l.getD (Int.toNat (0 : Int)) (0 : Int) > (63 : Int)))))))
      (chk ((0 : Int) ≤ (0 : Int) ∧ (0 : Int) < ↑l.length)
      (osum (gainBack.loop11 N l rate lag taps (N) (l) (l.getD (Int.toNat (0 : Int)) (0 : Int)) ((1 : Int)) (r2.snd.fst) (r2.snd.snd.fst) (r2.snd.snd.snd.fst) (r2.snd.snd.snd.snd.fst) (false) (([] : List Int)) (r2.snd.snd.snd.snd.snd.fst) (r2.snd.snd.snd.snd.snd.snd)) fun r3 =>
      (obind (Rc.rlags.F (N) (rate)) fun r4 =>
      (br (decide (r4.snd > (0 : Int)))
      (br (decide (lag ≥ r4.fst))
      (br (decide (lag ≤ r4.snd))
      (br (decide (taps ≥ (0 : Int)))
      (obind (Rc.gwriteltp.F (N) (rate) (lag) (taps) (r3.snd.fst) (r3.snd.snd.fst) (r3.snd.snd.snd.fst) (r3.snd.snd.snd.snd.fst) (r3.snd.snd.snd.snd.snd.snd.snd.fst) (r3.snd.snd.snd.snd.snd.snd.snd.snd)) fun r5 =>
      (br (!(r5.fst == (0 : Int)) == decide (taps ≤ (7 : Int)))
      (some (false))
      (br (r5.fst != (0 : Int))
      (br (r5.fst != (1 : Int))
      (some (false))
      (obind (Rc.edone.F (N) ((200 : Int)) (r5.snd.fst) (r5.snd.snd.fst) (r5.snd.snd.snd.fst) (r5.snd.snd.snd.snd.fst) (r5.snd.snd.snd.snd.snd.fst) (r5.snd.snd.snd.snd.snd.snd)) fun r6 =>
      (br (r6.fst != (0 : Int))
      (some (false))
      (obind (Rc.new.F (N) (r6.snd)) fun r7 =>
      (obind (Rc.greadfirst.F (N) (r7.fst) (r7.snd.fst) (r7.snd.snd.fst) (r7.snd.snd.snd.fst) (r7.snd.snd.snd.snd.fst) (r7.snd.snd.snd.snd.snd.fst) (r7.snd.snd.snd.snd.snd.snd.fst) (r7.snd.snd.snd.snd.snd.snd.snd.fst) (r7.snd.snd.snd.snd.snd.snd.snd.snd.fst) (r7.snd.snd.snd.snd.snd.snd.snd.snd.snd)) fun r8 =>
      (chk ((0 : Int) ≤ (0 : Int) ∧ (0 : Int) < ↑l.length)
      (br (r8.fst != l.getD (Int.toNat (0 : Int)) (0 : Int))
      (some (false))
      (chk ((0 : Int) ≤ (0 : Int) ∧ (0 : Int) < ↑l.length)
      (osum (gainBack.loop32 N l rate lag taps (N) (r8.snd.snd.snd.snd.snd.fst) (r8.snd.snd.snd.snd.snd.snd.fst) (r8.snd.snd.snd.snd.snd.snd.snd.fst) (r8.snd.snd.snd.snd.snd.snd.snd.snd.snd) (r3.snd.snd.snd.snd.snd.snd.fst) (r7.snd.snd.snd.snd.snd.snd.snd.snd.snd) (l.getD (Int.toNat (0 : Int)) (0 : Int)) ((0 : Int)) (r8.snd.fst) (r8.snd.snd.fst) (r8.snd.snd.snd.fst) (r8.snd.snd.snd.snd.fst) (r8.snd.snd.snd.snd.snd.snd.snd.snd.fst) (r3.snd.snd.snd.snd.snd.fst)) fun r9 =>
      (br (!decide (taps ≤ (7 : Int)))
      (some (true))
      (obind (Rc.greadltp.F (N) (rate) (r9.snd.fst) (r9.snd.snd.fst) (r9.snd.snd.snd.fst) (r9.snd.snd.snd.snd.fst) (r8.snd.snd.snd.snd.snd.fst) (r8.snd.snd.snd.snd.snd.snd.fst) (r8.snd.snd.snd.snd.snd.snd.snd.fst) (r9.snd.snd.snd.snd.snd.fst) (r8.snd.snd.snd.snd.snd.snd.snd.snd.snd) (r7.snd.snd.snd.snd.snd.snd.snd.snd.snd)) fun r10 =>
      (chkI (lag) (lag)
      (chkI (taps) (taps)
      (some (r10.fst == lag && (r10.snd.fst == taps && true))))))))))))))))
      (obind (Rc.edone.F (N) ((200 : Int)) (r5.snd.fst) (r5.snd.snd.fst) (r5.snd.snd.snd.fst) (r5.snd.snd.snd.snd.fst) (r5.snd.snd.snd.snd.snd.fst) (r5.snd.snd.snd.snd.snd.snd)) fun r11 =>
      (br (r11.fst != (0 : Int))
      (some (false))
      (obind (Rc.new.F (N) (r11.snd)) fun r12 =>
      (obind (Rc.greadfirst.F (N) (r12.fst) (r12.snd.fst) (r12.snd.snd.fst) (r12.snd.snd.snd.fst) (r12.snd.snd.snd.snd.fst) (r12.snd.snd.snd.snd.snd.fst) (r12.snd.snd.snd.snd.snd.snd.fst) (r12.snd.snd.snd.snd.snd.snd.snd.fst) (r12.snd.snd.snd.snd.snd.snd.snd.snd.fst) (r12.snd.snd.snd.snd.snd.snd.snd.snd.snd)) fun r13 =>
      (chk ((0 : Int) ≤ (0 : Int) ∧ (0 : Int) < ↑l.length)
      (br (r13.fst != l.getD (Int.toNat (0 : Int)) (0 : Int))
      (some (false))
      (chk ((0 : Int) ≤ (0 : Int) ∧ (0 : Int) < ↑l.length)
      (osum (gainBack.loop32 N l rate lag taps (N) (r13.snd.snd.snd.snd.snd.fst) (r13.snd.snd.snd.snd.snd.snd.fst) (r13.snd.snd.snd.snd.snd.snd.snd.fst) (r13.snd.snd.snd.snd.snd.snd.snd.snd.snd) (r3.snd.snd.snd.snd.snd.snd.fst) (r12.snd.snd.snd.snd.snd.snd.snd.snd.snd) (l.getD (Int.toNat (0 : Int)) (0 : Int)) ((0 : Int)) (r13.snd.fst) (r13.snd.snd.fst) (r13.snd.snd.snd.fst) (r13.snd.snd.snd.snd.fst) (r13.snd.snd.snd.snd.snd.snd.snd.snd.fst) (r3.snd.snd.snd.snd.snd.fst)) fun r14 =>
      (br (!decide (taps ≤ (7 : Int)))
      (some (true))
      (obind (Rc.greadltp.F (N) (rate) (r14.snd.fst) (r14.snd.snd.fst) (r14.snd.snd.snd.fst) (r14.snd.snd.snd.snd.fst) (r13.snd.snd.snd.snd.snd.fst) (r13.snd.snd.snd.snd.snd.snd.fst) (r13.snd.snd.snd.snd.snd.snd.snd.fst) (r14.snd.snd.snd.snd.snd.fst) (r13.snd.snd.snd.snd.snd.snd.snd.snd.snd) (r12.snd.snd.snd.snd.snd.snd.snd.snd.snd)) fun r15 =>
      (chkI (lag) (lag)
      (chkI (taps) (taps)
      (some (r15.fst == lag && (r15.snd.fst == taps && true))))))))))))))))))
      (obind (Rc.gwriteltp.F (N) (rate) (lag) (taps) (r3.snd.fst) (r3.snd.snd.fst) (r3.snd.snd.snd.fst) (r3.snd.snd.snd.snd.fst) (r3.snd.snd.snd.snd.snd.snd.snd.fst) (r3.snd.snd.snd.snd.snd.snd.snd.snd)) fun r16 =>
      (br (!(r16.fst == (0 : Int)) == false)
      (some (false))
      (br (r16.fst != (0 : Int))
      (br (r16.fst != (1 : Int))
      (some (false))
      (obind (Rc.edone.F (N) ((200 : Int)) (r16.snd.fst) (r16.snd.snd.fst) (r16.snd.snd.snd.fst) (r16.snd.snd.snd.snd.fst) (r16.snd.snd.snd.snd.snd.fst) (r16.snd.snd.snd.snd.snd.snd)) fun r17 =>
      (br (r17.fst != (0 : Int))
      (some (false))
      (obind (Rc.new.F (N) (r17.snd)) fun r18 =>
      (obind (Rc.greadfirst.F (N) (r18.fst) (r18.snd.fst) (r18.snd.snd.fst) (r18.snd.snd.snd.fst) (r18.snd.snd.snd.snd.fst) (r18.snd.snd.snd.snd.snd.fst) (r18.snd.snd.snd.snd.snd.snd.fst) (r18.snd.snd.snd.snd.snd.snd.snd.fst) (r18.snd.snd.snd.snd.snd.snd.snd.snd.fst) (r18.snd.snd.snd.snd.snd.snd.snd.snd.snd)) fun r19 =>
      (chk ((0 : Int) ≤ (0 : Int) ∧ (0 : Int) < ↑l.length)
      (br (r19.fst != l.getD (Int.toNat (0 : Int)) (0 : Int))
      (some (false))
      (chk ((0 : Int) ≤ (0 : Int) ∧ (0 : Int) < ↑l.length)
      (osum (gainBack.loop32 N l rate lag taps (N) (r19.snd.snd.snd.snd.snd.fst) (r19.snd.snd.snd.snd.snd.snd.fst) (r19.snd.snd.snd.snd.snd.snd.snd.fst) (r19.snd.snd.snd.snd.snd.snd.snd.snd.snd) (r3.snd.snd.snd.snd.snd.snd.fst) (r18.snd.snd.snd.snd.snd.snd.snd.snd.snd) (l.getD (Int.toNat (0 : Int)) (0 : Int)) ((0 : Int)) (r19.snd.fst) (r19.snd.snd.fst) (r19.snd.snd.snd.fst) (r19.snd.snd.snd.snd.fst) (r19.snd.snd.snd.snd.snd.snd.snd.snd.fst) (r3.snd.snd.snd.snd.snd.fst)) fun r20 =>
      (some (true)))))))))))
      (obind (Rc.edone.F (N) ((200 : Int)) (r16.snd.fst) (r16.snd.snd.fst) (r16.snd.snd.snd.fst) (r16.snd.snd.snd.snd.fst) (r16.snd.snd.snd.snd.snd.fst) (r16.snd.snd.snd.snd.snd.snd)) fun r21 =>
      (br (r21.fst != (0 : Int))
      (some (false))
      (obind (Rc.new.F (N) (r21.snd)) fun r22 =>
      (obind (Rc.greadfirst.F (N) (r22.fst) (r22.snd.fst) (r22.snd.snd.fst) (r22.snd.snd.snd.fst) (r22.snd.snd.snd.snd.fst) (r22.snd.snd.snd.snd.snd.fst) (r22.snd.snd.snd.snd.snd.snd.fst) (r22.snd.snd.snd.snd.snd.snd.snd.fst) (r22.snd.snd.snd.snd.snd.snd.snd.snd.fst) (r22.snd.snd.snd.snd.snd.snd.snd.snd.snd)) fun r23 =>
      (chk ((0 : Int) ≤ (0 : Int) ∧ (0 : Int) < ↑l.length)
      (br (r23.fst != l.getD (Int.toNat (0 : Int)) (0 : Int))
      (some (false))
      (chk ((0 : Int) ≤ (0 : Int) ∧ (0 : Int) < ↑l.length)
      (osum (gainBack.loop32 N l rate lag taps (N) (r23.snd.snd.snd.snd.snd.fst) (r23.snd.snd.snd.snd.snd.snd.fst) (r23.snd.snd.snd.snd.snd.snd.snd.fst) (r23.snd.snd.snd.snd.snd.snd.snd.snd.snd) (r3.snd.snd.snd.snd.snd.snd.fst) (r22.snd.snd.snd.snd.snd.snd.snd.snd.snd) (l.getD (Int.toNat (0 : Int)) (0 : Int)) ((0 : Int)) (r23.snd.fst) (r23.snd.snd.fst) (r23.snd.snd.snd.fst) (r23.snd.snd.snd.snd.fst) (r23.snd.snd.snd.snd.snd.snd.snd.snd.fst) (r3.snd.snd.snd.snd.snd.fst)) fun r24 =>
      (some (true))))))))))))))
      (obind (Rc.gwriteltp.F (N) (rate) (lag) (taps) (r3.snd.fst) (r3.snd.snd.fst) (r3.snd.snd.snd.fst) (r3.snd.snd.snd.snd.fst) (r3.snd.snd.snd.snd.snd.snd.snd.fst) (r3.snd.snd.snd.snd.snd.snd.snd.snd)) fun r25 =>
      (br (!(r25.fst == (0 : Int)) == false)
      (some (false))
      (br (r25.fst != (0 : Int))
      (br (r25.fst != (1 : Int))
      (some (false))
      (obind (Rc.edone.F (N) ((200 : Int)) (r25.snd.fst) (r25.snd.snd.fst) (r25.snd.snd.snd.fst) (r25.snd.snd.snd.snd.fst) (r25.snd.snd.snd.snd.snd.fst) (r25.snd.snd.snd.snd.snd.snd)) fun r26 =>
      (br (r26.fst != (0 : Int))
      (some (false))
      (obind (Rc.new.F (N) (r26.snd)) fun r27 =>
      (obind (Rc.greadfirst.F (N) (r27.fst) (r27.snd.fst) (r27.snd.snd.fst) (r27.snd.snd.snd.fst) (r27.snd.snd.snd.snd.fst) (r27.snd.snd.snd.snd.snd.fst) (r27.snd.snd.snd.snd.snd.snd.fst) (r27.snd.snd.snd.snd.snd.snd.snd.fst) (r27.snd.snd.snd.snd.snd.snd.snd.snd.fst) (r27.snd.snd.snd.snd.snd.snd.snd.snd.snd)) fun r28 =>
      (chk ((0 : Int) ≤ (0 : Int) ∧ (0 : Int) < ↑l.length)
      (br (r28.fst != l.getD (Int.toNat (0 : Int)) (0 : Int))
      (some (false))
      (chk ((0 : Int) ≤ (0 : Int) ∧ (0 : Int) < ↑l.length)
      (osum (gainBack.loop32 N l rate lag taps (N) (r28.snd.snd.snd.snd.snd.fst) (r28.snd.snd.snd.snd.snd.snd.fst) (r28.snd.snd.snd.snd.snd.snd.snd.fst) (r28.snd.snd.snd.snd.snd.snd.snd.snd.snd) (r3.snd.snd.snd.snd.snd.snd.fst) (r27.snd.snd.snd.snd.snd.snd.snd.snd.snd) (l.getD (Int.toNat (0 : Int)) (0 : Int)) ((0 : Int)) (r28.snd.fst) (r28.snd.snd.fst) (r28.snd.snd.snd.fst) (r28.snd.snd.snd.snd.fst) (r28.snd.snd.snd.snd.snd.snd.snd.snd.fst) (r3.snd.snd.snd.snd.snd.fst)) fun r29 =>
      (some (true)))))))))))
      (obind (Rc.edone.F (N) ((200 : Int)) (r25.snd.fst) (r25.snd.snd.fst) (r25.snd.snd.snd.fst) (r25.snd.snd.snd.snd.fst) (r25.snd.snd.snd.snd.snd.fst) (r25.snd.snd.snd.snd.snd.snd)) fun r30 =>
      (br (r30.fst != (0 : Int))
      (some (false))
      (obind (Rc.new.F (N) (r30.snd)) fun r31 =>
      (obind (Rc.greadfirst.F (N) (r31.fst) (r31.snd.fst) (r31.snd.snd.fst) (r31.snd.snd.snd.fst) (r31.snd.snd.snd.snd.fst) (r31.snd.snd.snd.snd.snd.fst) (r31.snd.snd.snd.snd.snd.snd.fst) (r31.snd.snd.snd.snd.snd.snd.snd.fst) (r31.snd.snd.snd.snd.snd.snd.snd.snd.fst) (r31.snd.snd.snd.snd.snd.snd.snd.snd.snd)) fun r32 =>
      (chk ((0 : Int) ≤ (0 : Int) ∧ (0 : Int) < ↑l.length)
      (br (r32.fst != l.getD (Int.toNat (0 : Int)) (0 : Int))
      (some (false))
      (chk ((0 : Int) ≤ (0 : Int) ∧ (0 : Int) < ↑l.length)
      (osum (gainBack.loop32 N l rate lag taps (N) (r32.snd.snd.snd.snd.snd.fst) (r32.snd.snd.snd.snd.snd.snd.fst) (r32.snd.snd.snd.snd.snd.snd.snd.fst) (r32.snd.snd.snd.snd.snd.snd.snd.snd.snd) (r3.snd.snd.snd.snd.snd.snd.fst) (r31.snd.snd.snd.snd.snd.snd.snd.snd.snd) (l.getD (Int.toNat (0 : Int)) (0 : Int)) ((0 : Int)) (r32.snd.fst) (r32.snd.snd.fst) (r32.snd.snd.snd.fst) (r32.snd.snd.snd.snd.fst) (r32.snd.snd.snd.snd.snd.snd.snd.snd.fst) (r3.snd.snd.snd.snd.snd.fst)) fun r33 =>
      (some (true))))))))))))))
      (obind (Rc.gwriteltp.F (N) (rate) (lag) (taps) (r3.snd.fst) (r3.snd.snd.fst) (r3.snd.snd.snd.fst) (r3.snd.snd.snd.snd.fst) (r3.snd.snd.snd.snd.snd.snd.snd.fst) (r3.snd.snd.snd.snd.snd.snd.snd.snd)) fun r34 =>
      (br (!(r34.fst == (0 : Int)) == false)
      (some (false))
      (br (r34.fst != (0 : Int))
      (br (r34.fst != (1 : Int))
      (some (false))
      (obind (Rc.edone.F (N) ((200 : Int)) (r34.snd.fst) (r34.snd.snd.fst) (r34.snd.snd.snd.fst) (r34.snd.snd.snd.snd.fst) (r34.snd.snd.snd.snd.snd.fst) (r34.snd.snd.snd.snd.snd.snd)) fun r35 =>
      (br (r35.fst != (0 : Int))
      (some (false))
      (obind (Rc.new.F (N) (r35.snd)) fun r36 =>
      (obind (Rc.greadfirst.F (N) (r36.fst) (r36.snd.fst) (r36.snd.snd.fst) (r36.snd.snd.snd.fst) (r36.snd.snd.snd.snd.fst) (r36.snd.snd.snd.snd.snd.fst) (r36.snd.snd.snd.snd.snd.snd.fst) (r36.snd.snd.snd.snd.snd.snd.snd.fst) (r36.snd.snd.snd.snd.snd.snd.snd.snd.fst) (r36.snd.snd.snd.snd.snd.snd.snd.snd.snd)) fun r37 =>
      (chk ((0 : Int) ≤ (0 : Int) ∧ (0 : Int) < ↑l.length)
      (br (r37.fst != l.getD (Int.toNat (0 : Int)) (0 : Int))
      (some (false))
      (chk ((0 : Int) ≤ (0 : Int) ∧ (0 : Int) < ↑l.length)
      (osum (gainBack.loop32 N l rate lag taps (N) (r37.snd.snd.snd.snd.snd.fst) (r37.snd.snd.snd.snd.snd.snd.fst) (r37.snd.snd.snd.snd.snd.snd.snd.fst) (r37.snd.snd.snd.snd.snd.snd.snd.snd.snd) (r3.snd.snd.snd.snd.snd.snd.fst) (r36.snd.snd.snd.snd.snd.snd.snd.snd.snd) (l.getD (Int.toNat (0 : Int)) (0 : Int)) ((0 : Int)) (r37.snd.fst) (r37.snd.snd.fst) (r37.snd.snd.snd.fst) (r37.snd.snd.snd.snd.fst) (r37.snd.snd.snd.snd.snd.snd.snd.snd.fst) (r3.snd.snd.snd.snd.snd.fst)) fun r38 =>
      (some (true)))))))))))
      (obind (Rc.edone.F (N) ((200 : Int)) (r34.snd.fst) (r34.snd.snd.fst) (r34.snd.snd.snd.fst) (r34.snd.snd.snd.snd.fst) (r34.snd.snd.snd.snd.snd.fst) (r34.snd.snd.snd.snd.snd.snd)) fun r39 =>
      (br (r39.fst != (0 : Int))
      (some (false))
      (obind (Rc.new.F (N) (r39.snd)) fun r40 =>
      (obind (Rc.greadfirst.F (N) (r40.fst) (r40.snd.fst) (r40.snd.snd.fst) (r40.snd.snd.snd.fst) (r40.snd.snd.snd.snd.fst) (r40.snd.snd.snd.snd.snd.fst) (r40.snd.snd.snd.snd.snd.snd.fst) (r40.snd.snd.snd.snd.snd.snd.snd.fst) (r40.snd.snd.snd.snd.snd.snd.snd.snd.fst) (r40.snd.snd.snd.snd.snd.snd.snd.snd.snd)) fun r41 =>
      (chk ((0 : Int) ≤ (0 : Int) ∧ (0 : Int) < ↑l.length)
      (br (r41.fst != l.getD (Int.toNat (0 : Int)) (0 : Int))
      (some (false))
      (chk ((0 : Int) ≤ (0 : Int) ∧ (0 : Int) < ↑l.length)
      (osum (gainBack.loop32 N l rate lag taps (N) (r41.snd.snd.snd.snd.snd.fst) (r41.snd.snd.snd.snd.snd.snd.fst) (r41.snd.snd.snd.snd.snd.snd.snd.fst) (r41.snd.snd.snd.snd.snd.snd.snd.snd.snd) (r3.snd.snd.snd.snd.snd.snd.fst) (r40.snd.snd.snd.snd.snd.snd.snd.snd.snd) (l.getD (Int.toNat (0 : Int)) (0 : Int)) ((0 : Int)) (r41.snd.fst) (r41.snd.snd.fst) (r41.snd.snd.snd.fst) (r41.snd.snd.snd.snd.fst) (r41.snd.snd.snd.snd.snd.snd.snd.snd.fst) (r3.snd.snd.snd.snd.snd.fst)) fun r42 =>
      (some (true))))))))))))))
      (obind (Rc.gwriteltp.F (N) (rate) (lag) (taps) (r3.snd.fst) (r3.snd.snd.fst) (r3.snd.snd.snd.fst) (r3.snd.snd.snd.snd.fst) (r3.snd.snd.snd.snd.snd.snd.snd.fst) (r3.snd.snd.snd.snd.snd.snd.snd.snd)) fun r43 =>
      (br (!(r43.fst == (0 : Int)) == false)
      (some (false))
      (br (r43.fst != (0 : Int))
      (br (r43.fst != (1 : Int))
      (some (false))
      (obind (Rc.edone.F (N) ((200 : Int)) (r43.snd.fst) (r43.snd.snd.fst) (r43.snd.snd.snd.fst) (r43.snd.snd.snd.snd.fst) (r43.snd.snd.snd.snd.snd.fst) (r43.snd.snd.snd.snd.snd.snd)) fun r44 =>
      (br (r44.fst != (0 : Int))
      (some (false))
      (obind (Rc.new.F (N) (r44.snd)) fun r45 =>
      (obind (Rc.greadfirst.F (N) (r45.fst) (r45.snd.fst) (r45.snd.snd.fst) (r45.snd.snd.snd.fst) (r45.snd.snd.snd.snd.fst) (r45.snd.snd.snd.snd.snd.fst) (r45.snd.snd.snd.snd.snd.snd.fst) (r45.snd.snd.snd.snd.snd.snd.snd.fst) (r45.snd.snd.snd.snd.snd.snd.snd.snd.fst) (r45.snd.snd.snd.snd.snd.snd.snd.snd.snd)) fun r46 =>
      (chk ((0 : Int) ≤ (0 : Int) ∧ (0 : Int) < ↑l.length)
      (br (r46.fst != l.getD (Int.toNat (0 : Int)) (0 : Int))
      (some (false))
      (chk ((0 : Int) ≤ (0 : Int) ∧ (0 : Int) < ↑l.length)
      (osum (gainBack.loop32 N l rate lag taps (N) (r46.snd.snd.snd.snd.snd.fst) (r46.snd.snd.snd.snd.snd.snd.fst) (r46.snd.snd.snd.snd.snd.snd.snd.fst) (r46.snd.snd.snd.snd.snd.snd.snd.snd.snd) (r3.snd.snd.snd.snd.snd.snd.fst) (r45.snd.snd.snd.snd.snd.snd.snd.snd.snd) (l.getD (Int.toNat (0 : Int)) (0 : Int)) ((0 : Int)) (r46.snd.fst) (r46.snd.snd.fst) (r46.snd.snd.snd.fst) (r46.snd.snd.snd.snd.fst) (r46.snd.snd.snd.snd.snd.snd.snd.snd.fst) (r3.snd.snd.snd.snd.snd.fst)) fun r47 =>
      (some (true)))))))))))
      (obind (Rc.edone.F (N) ((200 : Int)) (r43.snd.fst) (r43.snd.snd.fst) (r43.snd.snd.snd.fst) (r43.snd.snd.snd.snd.fst) (r43.snd.snd.snd.snd.snd.fst) (r43.snd.snd.snd.snd.snd.snd)) fun r48 =>
      (br (r48.fst != (0 : Int))
      (some (false))
      (obind (Rc.new.F (N) (r48.snd)) fun r49 =>
      (obind (Rc.greadfirst.F (N) (r49.fst) (r49.snd.fst) (r49.snd.snd.fst) (r49.snd.snd.snd.fst) (r49.snd.snd.snd.snd.fst) (r49.snd.snd.snd.snd.snd.fst) (r49.snd.snd.snd.snd.snd.snd.fst) (r49.snd.snd.snd.snd.snd.snd.snd.fst) (r49.snd.snd.snd.snd.snd.snd.snd.snd.fst) (r49.snd.snd.snd.snd.snd.snd.snd.snd.snd)) fun r50 =>
      (chk ((0 : Int) ≤ (0 : Int) ∧ (0 : Int) < ↑l.length)
      (br (r50.fst != l.getD (Int.toNat (0 : Int)) (0 : Int))
      (some (false))
      (chk ((0 : Int) ≤ (0 : Int) ∧ (0 : Int) < ↑l.length)
      (osum (gainBack.loop32 N l rate lag taps (N) (r50.snd.snd.snd.snd.snd.fst) (r50.snd.snd.snd.snd.snd.snd.fst) (r50.snd.snd.snd.snd.snd.snd.snd.fst) (r50.snd.snd.snd.snd.snd.snd.snd.snd.snd) (r3.snd.snd.snd.snd.snd.snd.fst) (r49.snd.snd.snd.snd.snd.snd.snd.snd.snd) (l.getD (Int.toNat (0 : Int)) (0 : Int)) ((0 : Int)) (r50.snd.fst) (r50.snd.snd.fst) (r50.snd.snd.snd.fst) (r50.snd.snd.snd.snd.fst) (r50.snd.snd.snd.snd.snd.snd.snd.snd.fst) (r3.snd.snd.snd.snd.snd.fst)) fun r51 =>
      (some (true)))))))))))))))))))))))))
theorem gainBack.F_eq (N : Nat) (l : List Int) (rate : Int) (lag : Int) (taps : Int) : evLaw (gainBack.C N l rate lag taps) (gainBack.K N) 0 Try.f7 [.at (.roi .i64 l), .at (.int .i64 rate), .agg [.int .i64 lag, .int .i64 taps]] = gainBack.F N l rate lag taps := by
  have h : evLaw (gainBack.C N l rate lag taps) (gainBack.K N) 0 Try.f7 [.at (.roi .i64 l), .at (.int .i64 rate), .agg [.int .i64 lag, .int .i64 taps]] =
  (obind (Rc.awake8.F (N)) fun r0 =>
   (br (!r0)
    (some (false))
    (br (decide (↑l.length > (30 : Int)))
     (some (true))
     (br (↑l.length == (0 : Int))
      (some (true))
      (obind (Rc.enew.F (N)) fun r1 =>
      (chk ((0 : Int) ≤ (0 : Int) ∧ (0 : Int) < ↑l.length)
      (obind (Rc.gwritefirst.F (N) (l.getD (Int.toNat (0 : Int)) (0 : Int)) (r1.fst) (r1.snd.fst) (r1.snd.snd.fst) (r1.snd.snd.snd.fst) (r1.snd.snd.snd.snd.fst) (r1.snd.snd.snd.snd.snd)) fun r2 =>
      (br (r2.fst != (0 : Int))
      (chk ((0 : Int) ≤ (0 : Int) ∧ (0 : Int) < ↑l.length)
      (br (decide (l.getD (Int.toNat (0 : Int)) (0 : Int) < (0 : Int)))
      (some (true))
      (chk ((0 : Int) ≤ (0 : Int) ∧ (0 : Int) < ↑l.length)
      (some (decide (l.getD (Int.toNat (0 : Int)) (0 : Int) > (63 : Int)))))))
      (chk ((0 : Int) ≤ (0 : Int) ∧ (0 : Int) < ↑l.length)
      (osum (gainBack.loop11R N l rate lag taps (N) (l) (l.getD (Int.toNat (0 : Int)) (0 : Int)) ((1 : Int)) (r2.snd.fst) (r2.snd.snd.fst) (r2.snd.snd.snd.fst) (r2.snd.snd.snd.snd.fst) (false) (([] : List Int)) (r2.snd.snd.snd.snd.snd.fst) (r2.snd.snd.snd.snd.snd.snd)) fun r3 =>
      (obind (Rc.rlags.F (N) (rate)) fun r4 =>
      (br (decide (r4.snd > (0 : Int)))
      (br (decide (lag ≥ r4.fst))
      (br (decide (lag ≤ r4.snd))
      (br (decide (taps ≥ (0 : Int)))
      (obind (Rc.gwriteltp.F (N) (rate) (lag) (taps) (r3.snd.fst) (r3.snd.snd.fst) (r3.snd.snd.snd.fst) (r3.snd.snd.snd.snd.fst) (r3.snd.snd.snd.snd.snd.snd.snd.fst) (r3.snd.snd.snd.snd.snd.snd.snd.snd)) fun r5 =>
      (br (!(r5.fst == (0 : Int)) == decide (taps ≤ (7 : Int)))
      (some (false))
      (br (r5.fst != (0 : Int))
      (br (r5.fst != (1 : Int))
      (some (false))
      (obind (Rc.edone.F (N) ((200 : Int)) (r5.snd.fst) (r5.snd.snd.fst) (r5.snd.snd.snd.fst) (r5.snd.snd.snd.snd.fst) (r5.snd.snd.snd.snd.snd.fst) (r5.snd.snd.snd.snd.snd.snd)) fun r6 =>
      (br (r6.fst != (0 : Int))
      (some (false))
      (obind (Rc.new.F (N) (r6.snd)) fun r7 =>
      (obind (Rc.greadfirst.F (N) (r7.fst) (r7.snd.fst) (r7.snd.snd.fst) (r7.snd.snd.snd.fst) (r7.snd.snd.snd.snd.fst) (r7.snd.snd.snd.snd.snd.fst) (r7.snd.snd.snd.snd.snd.snd.fst) (r7.snd.snd.snd.snd.snd.snd.snd.fst) (r7.snd.snd.snd.snd.snd.snd.snd.snd.fst) (r7.snd.snd.snd.snd.snd.snd.snd.snd.snd)) fun r8 =>
      (chk ((0 : Int) ≤ (0 : Int) ∧ (0 : Int) < ↑l.length)
      (br (r8.fst != l.getD (Int.toNat (0 : Int)) (0 : Int))
      (some (false))
      (chk ((0 : Int) ≤ (0 : Int) ∧ (0 : Int) < ↑l.length)
      (osum (gainBack.loop32R N l rate lag taps (N) (r8.snd.snd.snd.snd.snd.fst) (r8.snd.snd.snd.snd.snd.snd.fst) (r8.snd.snd.snd.snd.snd.snd.snd.fst) (r8.snd.snd.snd.snd.snd.snd.snd.snd.snd) (r3.snd.snd.snd.snd.snd.snd.fst) (r7.snd.snd.snd.snd.snd.snd.snd.snd.snd) (l.getD (Int.toNat (0 : Int)) (0 : Int)) ((0 : Int)) (r8.snd.fst) (r8.snd.snd.fst) (r8.snd.snd.snd.fst) (r8.snd.snd.snd.snd.fst) (r8.snd.snd.snd.snd.snd.snd.snd.snd.fst) (r3.snd.snd.snd.snd.snd.fst)) fun r9 =>
      (br (!decide (taps ≤ (7 : Int)))
      (some (true))
      (obind (Rc.greadltp.F (N) (rate) (r9.snd.fst) (r9.snd.snd.fst) (r9.snd.snd.snd.fst) (r9.snd.snd.snd.snd.fst) (r8.snd.snd.snd.snd.snd.fst) (r8.snd.snd.snd.snd.snd.snd.fst) (r8.snd.snd.snd.snd.snd.snd.snd.fst) (r9.snd.snd.snd.snd.snd.fst) (r8.snd.snd.snd.snd.snd.snd.snd.snd.snd) (r7.snd.snd.snd.snd.snd.snd.snd.snd.snd)) fun r10 =>
      (chkI (lag) (lag)
      (chkI (taps) (taps)
      (some (r10.fst == lag && (r10.snd.fst == taps && true))))))))))))))))
      (obind (Rc.edone.F (N) ((200 : Int)) (r5.snd.fst) (r5.snd.snd.fst) (r5.snd.snd.snd.fst) (r5.snd.snd.snd.snd.fst) (r5.snd.snd.snd.snd.snd.fst) (r5.snd.snd.snd.snd.snd.snd)) fun r11 =>
      (br (r11.fst != (0 : Int))
      (some (false))
      (obind (Rc.new.F (N) (r11.snd)) fun r12 =>
      (obind (Rc.greadfirst.F (N) (r12.fst) (r12.snd.fst) (r12.snd.snd.fst) (r12.snd.snd.snd.fst) (r12.snd.snd.snd.snd.fst) (r12.snd.snd.snd.snd.snd.fst) (r12.snd.snd.snd.snd.snd.snd.fst) (r12.snd.snd.snd.snd.snd.snd.snd.fst) (r12.snd.snd.snd.snd.snd.snd.snd.snd.fst) (r12.snd.snd.snd.snd.snd.snd.snd.snd.snd)) fun r13 =>
      (chk ((0 : Int) ≤ (0 : Int) ∧ (0 : Int) < ↑l.length)
      (br (r13.fst != l.getD (Int.toNat (0 : Int)) (0 : Int))
      (some (false))
      (chk ((0 : Int) ≤ (0 : Int) ∧ (0 : Int) < ↑l.length)
      (osum (gainBack.loop32R N l rate lag taps (N) (r13.snd.snd.snd.snd.snd.fst) (r13.snd.snd.snd.snd.snd.snd.fst) (r13.snd.snd.snd.snd.snd.snd.snd.fst) (r13.snd.snd.snd.snd.snd.snd.snd.snd.snd) (r3.snd.snd.snd.snd.snd.snd.fst) (r12.snd.snd.snd.snd.snd.snd.snd.snd.snd) (l.getD (Int.toNat (0 : Int)) (0 : Int)) ((0 : Int)) (r13.snd.fst) (r13.snd.snd.fst) (r13.snd.snd.snd.fst) (r13.snd.snd.snd.snd.fst) (r13.snd.snd.snd.snd.snd.snd.snd.snd.fst) (r3.snd.snd.snd.snd.snd.fst)) fun r14 =>
      (br (!decide (taps ≤ (7 : Int)))
      (some (true))
      (obind (Rc.greadltp.F (N) (rate) (r14.snd.fst) (r14.snd.snd.fst) (r14.snd.snd.snd.fst) (r14.snd.snd.snd.snd.fst) (r13.snd.snd.snd.snd.snd.fst) (r13.snd.snd.snd.snd.snd.snd.fst) (r13.snd.snd.snd.snd.snd.snd.snd.fst) (r14.snd.snd.snd.snd.snd.fst) (r13.snd.snd.snd.snd.snd.snd.snd.snd.snd) (r12.snd.snd.snd.snd.snd.snd.snd.snd.snd)) fun r15 =>
      (chkI (lag) (lag)
      (chkI (taps) (taps)
      (some (r15.fst == lag && (r15.snd.fst == taps && true))))))))))))))))))
      (obind (Rc.gwriteltp.F (N) (rate) (lag) (taps) (r3.snd.fst) (r3.snd.snd.fst) (r3.snd.snd.snd.fst) (r3.snd.snd.snd.snd.fst) (r3.snd.snd.snd.snd.snd.snd.snd.fst) (r3.snd.snd.snd.snd.snd.snd.snd.snd)) fun r16 =>
      (br (!(r16.fst == (0 : Int)) == false)
      (some (false))
      (br (r16.fst != (0 : Int))
      (br (r16.fst != (1 : Int))
      (some (false))
      (obind (Rc.edone.F (N) ((200 : Int)) (r16.snd.fst) (r16.snd.snd.fst) (r16.snd.snd.snd.fst) (r16.snd.snd.snd.snd.fst) (r16.snd.snd.snd.snd.snd.fst) (r16.snd.snd.snd.snd.snd.snd)) fun r17 =>
      (br (r17.fst != (0 : Int))
      (some (false))
      (obind (Rc.new.F (N) (r17.snd)) fun r18 =>
      (obind (Rc.greadfirst.F (N) (r18.fst) (r18.snd.fst) (r18.snd.snd.fst) (r18.snd.snd.snd.fst) (r18.snd.snd.snd.snd.fst) (r18.snd.snd.snd.snd.snd.fst) (r18.snd.snd.snd.snd.snd.snd.fst) (r18.snd.snd.snd.snd.snd.snd.snd.fst) (r18.snd.snd.snd.snd.snd.snd.snd.snd.fst) (r18.snd.snd.snd.snd.snd.snd.snd.snd.snd)) fun r19 =>
      (chk ((0 : Int) ≤ (0 : Int) ∧ (0 : Int) < ↑l.length)
      (br (r19.fst != l.getD (Int.toNat (0 : Int)) (0 : Int))
      (some (false))
      (chk ((0 : Int) ≤ (0 : Int) ∧ (0 : Int) < ↑l.length)
      (osum (gainBack.loop32R N l rate lag taps (N) (r19.snd.snd.snd.snd.snd.fst) (r19.snd.snd.snd.snd.snd.snd.fst) (r19.snd.snd.snd.snd.snd.snd.snd.fst) (r19.snd.snd.snd.snd.snd.snd.snd.snd.snd) (r3.snd.snd.snd.snd.snd.snd.fst) (r18.snd.snd.snd.snd.snd.snd.snd.snd.snd) (l.getD (Int.toNat (0 : Int)) (0 : Int)) ((0 : Int)) (r19.snd.fst) (r19.snd.snd.fst) (r19.snd.snd.snd.fst) (r19.snd.snd.snd.snd.fst) (r19.snd.snd.snd.snd.snd.snd.snd.snd.fst) (r3.snd.snd.snd.snd.snd.fst)) fun r20 =>
      (some (true)))))))))))
      (obind (Rc.edone.F (N) ((200 : Int)) (r16.snd.fst) (r16.snd.snd.fst) (r16.snd.snd.snd.fst) (r16.snd.snd.snd.snd.fst) (r16.snd.snd.snd.snd.snd.fst) (r16.snd.snd.snd.snd.snd.snd)) fun r21 =>
      (br (r21.fst != (0 : Int))
      (some (false))
      (obind (Rc.new.F (N) (r21.snd)) fun r22 =>
      (obind (Rc.greadfirst.F (N) (r22.fst) (r22.snd.fst) (r22.snd.snd.fst) (r22.snd.snd.snd.fst) (r22.snd.snd.snd.snd.fst) (r22.snd.snd.snd.snd.snd.fst) (r22.snd.snd.snd.snd.snd.snd.fst) (r22.snd.snd.snd.snd.snd.snd.snd.fst) (r22.snd.snd.snd.snd.snd.snd.snd.snd.fst) (r22.snd.snd.snd.snd.snd.snd.snd.snd.snd)) fun r23 =>
      (chk ((0 : Int) ≤ (0 : Int) ∧ (0 : Int) < ↑l.length)
      (br (r23.fst != l.getD (Int.toNat (0 : Int)) (0 : Int))
      (some (false))
      (chk ((0 : Int) ≤ (0 : Int) ∧ (0 : Int) < ↑l.length)
      (osum (gainBack.loop32R N l rate lag taps (N) (r23.snd.snd.snd.snd.snd.fst) (r23.snd.snd.snd.snd.snd.snd.fst) (r23.snd.snd.snd.snd.snd.snd.snd.fst) (r23.snd.snd.snd.snd.snd.snd.snd.snd.snd) (r3.snd.snd.snd.snd.snd.snd.fst) (r22.snd.snd.snd.snd.snd.snd.snd.snd.snd) (l.getD (Int.toNat (0 : Int)) (0 : Int)) ((0 : Int)) (r23.snd.fst) (r23.snd.snd.fst) (r23.snd.snd.snd.fst) (r23.snd.snd.snd.snd.fst) (r23.snd.snd.snd.snd.snd.snd.snd.snd.fst) (r3.snd.snd.snd.snd.snd.fst)) fun r24 =>
      (some (true))))))))))))))
      (obind (Rc.gwriteltp.F (N) (rate) (lag) (taps) (r3.snd.fst) (r3.snd.snd.fst) (r3.snd.snd.snd.fst) (r3.snd.snd.snd.snd.fst) (r3.snd.snd.snd.snd.snd.snd.snd.fst) (r3.snd.snd.snd.snd.snd.snd.snd.snd)) fun r25 =>
      (br (!(r25.fst == (0 : Int)) == false)
      (some (false))
      (br (r25.fst != (0 : Int))
      (br (r25.fst != (1 : Int))
      (some (false))
      (obind (Rc.edone.F (N) ((200 : Int)) (r25.snd.fst) (r25.snd.snd.fst) (r25.snd.snd.snd.fst) (r25.snd.snd.snd.snd.fst) (r25.snd.snd.snd.snd.snd.fst) (r25.snd.snd.snd.snd.snd.snd)) fun r26 =>
      (br (r26.fst != (0 : Int))
      (some (false))
      (obind (Rc.new.F (N) (r26.snd)) fun r27 =>
      (obind (Rc.greadfirst.F (N) (r27.fst) (r27.snd.fst) (r27.snd.snd.fst) (r27.snd.snd.snd.fst) (r27.snd.snd.snd.snd.fst) (r27.snd.snd.snd.snd.snd.fst) (r27.snd.snd.snd.snd.snd.snd.fst) (r27.snd.snd.snd.snd.snd.snd.snd.fst) (r27.snd.snd.snd.snd.snd.snd.snd.snd.fst) (r27.snd.snd.snd.snd.snd.snd.snd.snd.snd)) fun r28 =>
      (chk ((0 : Int) ≤ (0 : Int) ∧ (0 : Int) < ↑l.length)
      (br (r28.fst != l.getD (Int.toNat (0 : Int)) (0 : Int))
      (some (false))
      (chk ((0 : Int) ≤ (0 : Int) ∧ (0 : Int) < ↑l.length)
      (osum (gainBack.loop32R N l rate lag taps (N) (r28.snd.snd.snd.snd.snd.fst) (r28.snd.snd.snd.snd.snd.snd.fst) (r28.snd.snd.snd.snd.snd.snd.snd.fst) (r28.snd.snd.snd.snd.snd.snd.snd.snd.snd) (r3.snd.snd.snd.snd.snd.snd.fst) (r27.snd.snd.snd.snd.snd.snd.snd.snd.snd) (l.getD (Int.toNat (0 : Int)) (0 : Int)) ((0 : Int)) (r28.snd.fst) (r28.snd.snd.fst) (r28.snd.snd.snd.fst) (r28.snd.snd.snd.snd.fst) (r28.snd.snd.snd.snd.snd.snd.snd.snd.fst) (r3.snd.snd.snd.snd.snd.fst)) fun r29 =>
      (some (true)))))))))))
      (obind (Rc.edone.F (N) ((200 : Int)) (r25.snd.fst) (r25.snd.snd.fst) (r25.snd.snd.snd.fst) (r25.snd.snd.snd.snd.fst) (r25.snd.snd.snd.snd.snd.fst) (r25.snd.snd.snd.snd.snd.snd)) fun r30 =>
      (br (r30.fst != (0 : Int))
      (some (false))
      (obind (Rc.new.F (N) (r30.snd)) fun r31 =>
      (obind (Rc.greadfirst.F (N) (r31.fst) (r31.snd.fst) (r31.snd.snd.fst) (r31.snd.snd.snd.fst) (r31.snd.snd.snd.snd.fst) (r31.snd.snd.snd.snd.snd.fst) (r31.snd.snd.snd.snd.snd.snd.fst) (r31.snd.snd.snd.snd.snd.snd.snd.fst) (r31.snd.snd.snd.snd.snd.snd.snd.snd.fst) (r31.snd.snd.snd.snd.snd.snd.snd.snd.snd)) fun r32 =>
      (chk ((0 : Int) ≤ (0 : Int) ∧ (0 : Int) < ↑l.length)
      (br (r32.fst != l.getD (Int.toNat (0 : Int)) (0 : Int))
      (some (false))
      (chk ((0 : Int) ≤ (0 : Int) ∧ (0 : Int) < ↑l.length)
      (osum (gainBack.loop32R N l rate lag taps (N) (r32.snd.snd.snd.snd.snd.fst) (r32.snd.snd.snd.snd.snd.snd.fst) (r32.snd.snd.snd.snd.snd.snd.snd.fst) (r32.snd.snd.snd.snd.snd.snd.snd.snd.snd) (r3.snd.snd.snd.snd.snd.snd.fst) (r31.snd.snd.snd.snd.snd.snd.snd.snd.snd) (l.getD (Int.toNat (0 : Int)) (0 : Int)) ((0 : Int)) (r32.snd.fst) (r32.snd.snd.fst) (r32.snd.snd.snd.fst) (r32.snd.snd.snd.snd.fst) (r32.snd.snd.snd.snd.snd.snd.snd.snd.fst) (r3.snd.snd.snd.snd.snd.fst)) fun r33 =>
      (some (true))))))))))))))
      (obind (Rc.gwriteltp.F (N) (rate) (lag) (taps) (r3.snd.fst) (r3.snd.snd.fst) (r3.snd.snd.snd.fst) (r3.snd.snd.snd.snd.fst) (r3.snd.snd.snd.snd.snd.snd.snd.fst) (r3.snd.snd.snd.snd.snd.snd.snd.snd)) fun r34 =>
      (br (!(r34.fst == (0 : Int)) == false)
      (some (false))
      (br (r34.fst != (0 : Int))
      (br (r34.fst != (1 : Int))
      (some (false))
      (obind (Rc.edone.F (N) ((200 : Int)) (r34.snd.fst) (r34.snd.snd.fst) (r34.snd.snd.snd.fst) (r34.snd.snd.snd.snd.fst) (r34.snd.snd.snd.snd.snd.fst) (r34.snd.snd.snd.snd.snd.snd)) fun r35 =>
      (br (r35.fst != (0 : Int))
      (some (false))
      (obind (Rc.new.F (N) (r35.snd)) fun r36 =>
      (obind (Rc.greadfirst.F (N) (r36.fst) (r36.snd.fst) (r36.snd.snd.fst) (r36.snd.snd.snd.fst) (r36.snd.snd.snd.snd.fst) (r36.snd.snd.snd.snd.snd.fst) (r36.snd.snd.snd.snd.snd.snd.fst) (r36.snd.snd.snd.snd.snd.snd.snd.fst) (r36.snd.snd.snd.snd.snd.snd.snd.snd.fst) (r36.snd.snd.snd.snd.snd.snd.snd.snd.snd)) fun r37 =>
      (chk ((0 : Int) ≤ (0 : Int) ∧ (0 : Int) < ↑l.length)
      (br (r37.fst != l.getD (Int.toNat (0 : Int)) (0 : Int))
      (some (false))
      (chk ((0 : Int) ≤ (0 : Int) ∧ (0 : Int) < ↑l.length)
      (osum (gainBack.loop32R N l rate lag taps (N) (r37.snd.snd.snd.snd.snd.fst) (r37.snd.snd.snd.snd.snd.snd.fst) (r37.snd.snd.snd.snd.snd.snd.snd.fst) (r37.snd.snd.snd.snd.snd.snd.snd.snd.snd) (r3.snd.snd.snd.snd.snd.snd.fst) (r36.snd.snd.snd.snd.snd.snd.snd.snd.snd) (l.getD (Int.toNat (0 : Int)) (0 : Int)) ((0 : Int)) (r37.snd.fst) (r37.snd.snd.fst) (r37.snd.snd.snd.fst) (r37.snd.snd.snd.snd.fst) (r37.snd.snd.snd.snd.snd.snd.snd.snd.fst) (r3.snd.snd.snd.snd.snd.fst)) fun r38 =>
      (some (true)))))))))))
      (obind (Rc.edone.F (N) ((200 : Int)) (r34.snd.fst) (r34.snd.snd.fst) (r34.snd.snd.snd.fst) (r34.snd.snd.snd.snd.fst) (r34.snd.snd.snd.snd.snd.fst) (r34.snd.snd.snd.snd.snd.snd)) fun r39 =>
      (br (r39.fst != (0 : Int))
      (some (false))
      (obind (Rc.new.F (N) (r39.snd)) fun r40 =>
      (obind (Rc.greadfirst.F (N) (r40.fst) (r40.snd.fst) (r40.snd.snd.fst) (r40.snd.snd.snd.fst) (r40.snd.snd.snd.snd.fst) (r40.snd.snd.snd.snd.snd.fst) (r40.snd.snd.snd.snd.snd.snd.fst) (r40.snd.snd.snd.snd.snd.snd.snd.fst) (r40.snd.snd.snd.snd.snd.snd.snd.snd.fst) (r40.snd.snd.snd.snd.snd.snd.snd.snd.snd)) fun r41 =>
      (chk ((0 : Int) ≤ (0 : Int) ∧ (0 : Int) < ↑l.length)
      (br (r41.fst != l.getD (Int.toNat (0 : Int)) (0 : Int))
      (some (false))
      (chk ((0 : Int) ≤ (0 : Int) ∧ (0 : Int) < ↑l.length)
      (osum (gainBack.loop32R N l rate lag taps (N) (r41.snd.snd.snd.snd.snd.fst) (r41.snd.snd.snd.snd.snd.snd.fst) (r41.snd.snd.snd.snd.snd.snd.snd.fst) (r41.snd.snd.snd.snd.snd.snd.snd.snd.snd) (r3.snd.snd.snd.snd.snd.snd.fst) (r40.snd.snd.snd.snd.snd.snd.snd.snd.snd) (l.getD (Int.toNat (0 : Int)) (0 : Int)) ((0 : Int)) (r41.snd.fst) (r41.snd.snd.fst) (r41.snd.snd.snd.fst) (r41.snd.snd.snd.snd.fst) (r41.snd.snd.snd.snd.snd.snd.snd.snd.fst) (r3.snd.snd.snd.snd.snd.fst)) fun r42 =>
      (some (true))))))))))))))
      (obind (Rc.gwriteltp.F (N) (rate) (lag) (taps) (r3.snd.fst) (r3.snd.snd.fst) (r3.snd.snd.snd.fst) (r3.snd.snd.snd.snd.fst) (r3.snd.snd.snd.snd.snd.snd.snd.fst) (r3.snd.snd.snd.snd.snd.snd.snd.snd)) fun r43 =>
      (br (!(r43.fst == (0 : Int)) == false)
      (some (false))
      (br (r43.fst != (0 : Int))
      (br (r43.fst != (1 : Int))
      (some (false))
      (obind (Rc.edone.F (N) ((200 : Int)) (r43.snd.fst) (r43.snd.snd.fst) (r43.snd.snd.snd.fst) (r43.snd.snd.snd.snd.fst) (r43.snd.snd.snd.snd.snd.fst) (r43.snd.snd.snd.snd.snd.snd)) fun r44 =>
      (br (r44.fst != (0 : Int))
      (some (false))
      (obind (Rc.new.F (N) (r44.snd)) fun r45 =>
      (obind (Rc.greadfirst.F (N) (r45.fst) (r45.snd.fst) (r45.snd.snd.fst) (r45.snd.snd.snd.fst) (r45.snd.snd.snd.snd.fst) (r45.snd.snd.snd.snd.snd.fst) (r45.snd.snd.snd.snd.snd.snd.fst) (r45.snd.snd.snd.snd.snd.snd.snd.fst) (r45.snd.snd.snd.snd.snd.snd.snd.snd.fst) (r45.snd.snd.snd.snd.snd.snd.snd.snd.snd)) fun r46 =>
      (chk ((0 : Int) ≤ (0 : Int) ∧ (0 : Int) < ↑l.length)
      (br (r46.fst != l.getD (Int.toNat (0 : Int)) (0 : Int))
      (some (false))
      (chk ((0 : Int) ≤ (0 : Int) ∧ (0 : Int) < ↑l.length)
      (osum (gainBack.loop32R N l rate lag taps (N) (r46.snd.snd.snd.snd.snd.fst) (r46.snd.snd.snd.snd.snd.snd.fst) (r46.snd.snd.snd.snd.snd.snd.snd.fst) (r46.snd.snd.snd.snd.snd.snd.snd.snd.snd) (r3.snd.snd.snd.snd.snd.snd.fst) (r45.snd.snd.snd.snd.snd.snd.snd.snd.snd) (l.getD (Int.toNat (0 : Int)) (0 : Int)) ((0 : Int)) (r46.snd.fst) (r46.snd.snd.fst) (r46.snd.snd.snd.fst) (r46.snd.snd.snd.snd.fst) (r46.snd.snd.snd.snd.snd.snd.snd.snd.fst) (r3.snd.snd.snd.snd.snd.fst)) fun r47 =>
      (some (true)))))))))))
      (obind (Rc.edone.F (N) ((200 : Int)) (r43.snd.fst) (r43.snd.snd.fst) (r43.snd.snd.snd.fst) (r43.snd.snd.snd.snd.fst) (r43.snd.snd.snd.snd.snd.fst) (r43.snd.snd.snd.snd.snd.snd)) fun r48 =>
      (br (r48.fst != (0 : Int))
      (some (false))
      (obind (Rc.new.F (N) (r48.snd)) fun r49 =>
      (obind (Rc.greadfirst.F (N) (r49.fst) (r49.snd.fst) (r49.snd.snd.fst) (r49.snd.snd.snd.fst) (r49.snd.snd.snd.snd.fst) (r49.snd.snd.snd.snd.snd.fst) (r49.snd.snd.snd.snd.snd.snd.fst) (r49.snd.snd.snd.snd.snd.snd.snd.fst) (r49.snd.snd.snd.snd.snd.snd.snd.snd.fst) (r49.snd.snd.snd.snd.snd.snd.snd.snd.snd)) fun r50 =>
      (chk ((0 : Int) ≤ (0 : Int) ∧ (0 : Int) < ↑l.length)
      (br (r50.fst != l.getD (Int.toNat (0 : Int)) (0 : Int))
      (some (false))
      (chk ((0 : Int) ≤ (0 : Int) ∧ (0 : Int) < ↑l.length)
      (osum (gainBack.loop32R N l rate lag taps (N) (r50.snd.snd.snd.snd.snd.fst) (r50.snd.snd.snd.snd.snd.snd.fst) (r50.snd.snd.snd.snd.snd.snd.snd.fst) (r50.snd.snd.snd.snd.snd.snd.snd.snd.snd) (r3.snd.snd.snd.snd.snd.snd.fst) (r49.snd.snd.snd.snd.snd.snd.snd.snd.snd) (l.getD (Int.toNat (0 : Int)) (0 : Int)) ((0 : Int)) (r50.snd.fst) (r50.snd.snd.fst) (r50.snd.snd.snd.fst) (r50.snd.snd.snd.snd.fst) (r50.snd.snd.snd.snd.snd.snd.snd.snd.fst) (r3.snd.snd.snd.snd.snd.fst)) fun r51 =>
      (some (true))))))))))))))))))))))))) := by kernel_rfl
  rw [h, gainBack.F]
  try simp only [gainBack.loop11_eq N l rate lag taps, gainBack.loop32_eq N l rate lag taps]
theorem gainBack.cok (N : Nat) (l : List Int) (rate : Int) (lag : Int) (taps : Int) : CfgOK (gainBack.C N l rate lag taps) := ⟨fun _ _ _ _ h => by simp [gainBack.C, noRT] at h, wide, by
  simp only [gainBack.C, List.mem_cons, List.not_mem_nil, or_false, forall_eq_or_imp, forall_eq, false_imp_iff, implies_true]
  exact ⟨⟨awake8.ok, by kernel_rfl⟩, ⟨enew.ok, by kernel_rfl⟩, ⟨gwritefirst.ok, by kernel_rfl⟩, ⟨gwritenext.ok, by kernel_rfl⟩, ⟨rclamp.ok, by kernel_rfl⟩, ⟨rlags.ok, by kernel_rfl⟩, ⟨gwriteltp.ok, by kernel_rfl⟩, ⟨edone.ok, by kernel_rfl⟩, ⟨new.ok, by kernel_rfl⟩, ⟨greadfirst.ok, by kernel_rfl⟩, ⟨greadnext.ok, by kernel_rfl⟩, ⟨greadltp.ok, by kernel_rfl⟩⟩, fun g hg => by simp [gainBack.C] at hg, fun m hm => by simp [gainBack.C] at hm⟩
theorem gainBack.aok (N : Nat) : AnnsOK (gainBack.K N) := by
  intro q hq
  simp only [gainBack.K, List.mem_cons, List.not_mem_nil, or_false] at hq
  rcases hq with rfl | rfl
  · exact fun _ _ => ⟨rfl, rfl⟩
  · exact fun _ _ => ⟨rfl, rfl⟩
theorem gainBack.walk {w : World} {N : Nat} (l : List Int) (rate : Int) (lag : Int) (taps : Int) {cargs : Array Value} (ha : All2 (RV noRT (lawE w)) [.at (.roi .i64 l), .at (.int .i64 rate), .agg [.int .i64 lag, .int .i64 taps]] cargs.toList) (h : gainBack.F N l rate lag taps = some true) :
    Calls Try.prog 7 cargs w fun e w' => e = .returned (.bool true) ∧ Frm w (fun _ => False) w' :=
  law_sound (C := gainBack.C N l rate lag taps) (K := gainBack.K N) (d := 0) (fn := Try.f7) (gainBack.cok N l rate lag taps) (fun q hq => by simp [gainBack.C] at hq) (gainBack.aok N) (by kernel_rfl) ha ((gainBack.F_eq N l rate lag taps).trans h)

end Go.Proofs.Rc
