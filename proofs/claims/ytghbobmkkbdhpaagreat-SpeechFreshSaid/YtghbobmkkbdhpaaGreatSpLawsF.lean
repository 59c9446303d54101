/-
 Functions of the program: what each comes to, and its contract (written by a program).
 Conditions: none: each contract is proved for every input of its shape.
-/
import Derived.Test.YtghbobmkkbdhpaaGreatEngRegToEngRow3
import Derived.Laws.Externs
import Derived.Test.YtghbobmkkbdhpaaGreatProg
import Derived.Test.YtghbobmkkbdhpaaGreatSpEFns
set_option linter.unusedVariables false
set_option linter.unusedSimpArgs false
namespace Go.Proofs.Rc
open Go.Eng
set_option maxRecDepth 100000
noncomputable def speechFresh.C (N : Nat) (rate : Int) (a : List (List Int)) (b : List (List Int)) (fb : List Int) (fms : Int) (more : List (List Int)) : Cfg := { P := Tryz.prog, N := N, RT := noRT, specs := [(10, awake14.spec), (32, played14.spec), (13, new.spec), (30, plgain.spec), (12, spreadf.spec), (16, plplay.spec), (19, same14.spec), (33, plsame.spec), (34, torder.spec), (40, synew.spec), (36, plreset.spec)], inl := [(11, FCfg.none)], hi := 0, mv := [] }
noncomputable def speechFresh.K (N : Nat) : FCfg := { anns := [], unr := [], lits := [], lets := [], flt := [15, 17] }
noncomputable def speechFresh.F (N : Nat) (rate : Int) (a : List (List Int)) (b : List (List Int)) (fb : List Int) (fms : Int) (more : List (List Int)) : Option Bool :=
 (obind (Rc.awake14.F (N)) fun r0 =>
  (br (!r0)
  (some (false))
  (br (decide (↑a.length > (4 : Int)))
   (some (true))
   (br (decide (↑b.length > (4 : Int)))
   (some (true))
   (br (decide (↑more.length > (4 : Int)))
    (some (true))
    (obind (Rc.torder.F (N) (rate)) fun r1 =>
    (br (r1 == (0 : Int))
     (obind (Rc.torder.F (N) (rate)) fun r2 =>
     (br (r2 == (0 : Int))
      (some ((1 : Int) == (1 : Int)))
      (obind (Rc.synew.F (N)) fun r3 =>
      (obind (Rc.plreset.F (N) (rate) ((0 : Int)) (r3) (([] : List Int))) fun r4 =>
       (some ((1 : Int) == (0 : Int)))))))
     (obind (Rc.synew.F (N)) fun r5 =>
     (obind (Rc.plreset.F (N) (rate) ((0 : Int)) (r5) (([] : List Int))) fun r6 =>
      (obind (Rc.torder.F (N) (rate)) fun r7 =>
      (br (r7 == (0 : Int))
       (some ((0 : Int) == (1 : Int)))
       (obind (Rc.synew.F (N)) fun r8 =>
       (obind (Rc.plreset.F (N) (rate) ((0 : Int)) (r8) (([] : List Int))) fun r9 =>
        (obind (Rc.played14.F (N) (rate) (r6.fst) (r6.snd.fst) (r6.snd.snd) (a)) fun r10 =>
        (obind (Rc.played14.F (N) (rate) (r9.fst) (r9.snd.fst) (r9.snd.snd) (b)) fun r11 =>
         (obind (Rc.new.F (N) (fb)) fun r12 =>
         (obind (Rc.plgain.F (N) (rate) (r10.fst) (r10.snd.fst) (r10.snd.snd.snd)) fun r13 =>
          (obind (Rc.spreadf.F (N) (rate) (fms) (r13) (r12.fst) (r12.snd.fst) (r12.snd.snd.fst) (r12.snd.snd.snd.fst) (r12.snd.snd.snd.snd.fst) (r12.snd.snd.snd.snd.snd.fst) (r12.snd.snd.snd.snd.snd.snd.fst) (r12.snd.snd.snd.snd.snd.snd.snd.fst) (r12.snd.snd.snd.snd.snd.snd.snd.snd.fst) (r12.snd.snd.snd.snd.snd.snd.snd.snd.snd)) fun r14 =>
          (chkI (fms) (fms)
          (chkI (fms) (fms)
          (br (r14.snd.snd.snd.fst != (0 : Int))
           (some (true))
           (br (decide (↑fb.length > (1500 : Int)))
           (some (true))
           (obind (Rc.new.F (N) (fb)) fun r15 =>
            (obind (Rc.plgain.F (N) (rate) (r11.fst) (r11.snd.fst) (r11.snd.snd.snd)) fun r16 =>
            (obind (Rc.spreadf.F (N) (rate) (fms) (r16) (r15.fst) (r15.snd.fst) (r15.snd.snd.fst) (r15.snd.snd.snd.fst) (r15.snd.snd.snd.snd.fst) (r15.snd.snd.snd.snd.snd.fst) (r15.snd.snd.snd.snd.snd.snd.fst) (r15.snd.snd.snd.snd.snd.snd.snd.fst) (r15.snd.snd.snd.snd.snd.snd.snd.snd.fst) (r15.snd.snd.snd.snd.snd.snd.snd.snd.snd)) fun r17 =>
             (chkI (fms) (fms)
             (chkI (fms) (fms)
             (br (!r14.snd.snd.snd.snd.snd.snd.snd.snd.snd.snd.snd.snd.fst)
             (some (true))
             (obind (Rc.plplay.F (N) (fms) (r14.fst) (r14.snd.fst) (r14.snd.snd.fst) (rate) (r10.fst) (r14.snd.snd.snd.snd.snd.snd.snd.snd.snd.snd.snd.snd.fst) (r14.snd.snd.snd.snd.snd.snd.snd.snd.snd.snd.snd.snd.snd.snd.fst) (r14.snd.snd.snd.snd.snd.snd.snd.snd.snd.snd.snd.snd.snd.snd.snd.fst) (r14.snd.snd.snd.snd.snd.snd.snd.snd.snd.snd.snd.snd.snd.snd.snd.snd.fst) (r10.snd.fst) (r10.snd.snd.snd) (r14.snd.snd.snd.snd.snd.snd.snd.snd.snd.snd.snd.snd.snd.snd.snd.snd.snd)) fun r18 =>
              (obind (Rc.plplay.F (N) (fms) (r17.fst) (r17.snd.fst) (r17.snd.snd.fst) (rate) (r11.fst) (r17.snd.snd.snd.snd.snd.snd.snd.snd.snd.snd.snd.snd.fst) (r17.snd.snd.snd.snd.snd.snd.snd.snd.snd.snd.snd.snd.snd.snd.fst) (r17.snd.snd.snd.snd.snd.snd.snd.snd.snd.snd.snd.snd.snd.snd.snd.fst) (r17.snd.snd.snd.snd.snd.snd.snd.snd.snd.snd.snd.snd.snd.snd.snd.snd.fst) (r11.snd.fst) (r11.snd.snd.snd) (r17.snd.snd.snd.snd.snd.snd.snd.snd.snd.snd.snd.snd.snd.snd.snd.snd.snd)) fun r19 =>
              (obind (Rc.same14.F (N) (r18.snd.snd.snd.fst) (r19.snd.snd.snd.fst)) fun r20 =>
               (br (!r20)
               (some (false))
               (obind (Rc.plsame.F (N) (rate) (r18.snd.fst) (rate) (r19.snd.fst) (r18.snd.snd.fst) (r18.snd.snd.snd.snd) (r19.snd.snd.fst) (r19.snd.snd.snd.snd)) fun r21 =>
                (br (!r21.snd.snd.snd.snd.fst)
                (some (false))
                (obind (Rc.plsame.F (N) (r21.snd.snd.fst) (r21.snd.snd.snd.fst) (r21.fst) (r21.snd.fst) (r21.snd.snd.snd.snd.snd.snd.snd.fst) (r21.snd.snd.snd.snd.snd.snd.snd.snd) (r21.snd.snd.snd.snd.snd.fst) (r21.snd.snd.snd.snd.snd.snd.fst)) fun r22 =>
                 (br (!r22.snd.snd.snd.snd.fst)
                 (some (false))
                 (obind (Rc.played14.F (N) (r22.snd.snd.fst) (r22.snd.snd.snd.fst) (r22.snd.snd.snd.snd.snd.snd.snd.fst) (r22.snd.snd.snd.snd.snd.snd.snd.snd) (more)) fun r23 =>
                  (obind (Rc.played14.F (N) (r22.fst) (r22.snd.fst) (r22.snd.snd.snd.snd.snd.fst) (r22.snd.snd.snd.snd.snd.snd.fst) (more)) fun r24 =>
                  (obind (Rc.same14.F (N) (r23.snd.snd.fst) (r24.snd.snd.fst)) fun r25 =>
                   (br (r25)
                   (obind (Rc.plsame.F (N) (r22.snd.snd.fst) (r23.fst) (r22.fst) (r24.fst) (r23.snd.fst) (r23.snd.snd.snd) (r24.snd.fst) (r24.snd.snd.snd)) fun r26 =>
                    (some (r26.snd.snd.snd.snd.fst)))
                   (some (false))))))))))))))))))))))))))))))))))))))))))
theorem speechFresh.F_eq (N : Nat) (rate : Int) (a : List (List Int)) (b : List (List Int)) (fb : List Int) (fms : Int) (more : List (List Int)) : evLaw (speechFresh.C N rate a b fb fms more) (speechFresh.K N) 1 Tryz.f6 [.at (.int .i64 rate), .at (.rro ⟨[.i64], some .u8, true⟩ a), .at (.rro ⟨[.i64], some .u8, true⟩ b), .agg [.roi .u8 fb, .int .i64 fms], .at (.rro ⟨[.i64], some .u8, true⟩ more)] = speechFresh.F N rate a b fb fms more := by
 kernel_rfl
theorem speechFresh.cok (N : Nat) (rate : Int) (a : List (List Int)) (b : List (List Int)) (fb : List Int) (fms : Int) (more : List (List Int)) : CfgOK (speechFresh.C N rate a b fb fms more) := ⟨fun _ _ _ _ h => by simp [speechFresh.C, noRT] at h, wide, by
 simp only [speechFresh.C, List.mem_cons, List.not_mem_nil, or_false, forall_eq_or_imp, forall_eq, false_imp_iff, implies_true]
 exact ⟨⟨awake14.ok, by kernel_rfl⟩, ⟨played14.ok, by kernel_rfl⟩, ⟨new.ok, by kernel_rfl⟩, ⟨plgain.ok, by kernel_rfl⟩, ⟨spreadf.ok, by kernel_rfl⟩, ⟨plplay.ok, by kernel_rfl⟩, ⟨same14.ok, by kernel_rfl⟩, ⟨plsame.ok, by kernel_rfl⟩, ⟨torder.ok, by kernel_rfl⟩, ⟨synew.ok, by kernel_rfl⟩, ⟨plreset.ok, by kernel_rfl⟩⟩, fun g hg => by simp [speechFresh.C] at hg, fun m hm => by simp [speechFresh.C] at hm, fun q hq => by simp [speechFresh.C] at hq⟩
theorem speechFresh.aok (N : Nat) : AnnsOK (speechFresh.K N) := by
 intro q hq
 simp only [speechFresh.K, List.mem_cons, List.not_mem_nil, or_false] at hq
theorem speechFresh.walk {w : World} {N : Nat} (rate : Int) (a : List (List Int)) (b : List (List Int)) (fb : List Int) (fms : Int) (more : List (List Int)) {cargs : Array Value} (ha : All2 (RV noRT (lawE w)) [.at (.int .i64 rate), .at (.rro ⟨[.i64], some .u8, true⟩ a), .at (.rro ⟨[.i64], some .u8, true⟩ b), .agg [.roi .u8 fb, .int .i64 fms], .at (.rro ⟨[.i64], some .u8, true⟩ more)] cargs.toList) (h : speechFresh.F N rate a b fb fms more = some true) :
  Calls Tryz.prog 6 cargs w fun e w' => e = .returned (.bool true) /\ Frm w (fun _ => False) w' :=
 law_sound (C := speechFresh.C N rate a b fb fms more) (K := speechFresh.K N) (d := 1) (fn := Tryz.f6) (speechFresh.cok N rate a b fb fms more) (fun q hq => by
   simp only [speechFresh.C, List.mem_cons, List.not_mem_nil, or_false] at hq
   subst hq
   exact ⟨fun q hq => by simp [FCfg.none] at hq, by kernel_rfl⟩) (speechFresh.aok N) (by kernel_rfl) ha ((speechFresh.F_eq N rate a b fb fms more).trans h)
end Go.Proofs.Rc
