/-
 Functions of the program: what each comes to, and its contract (written by a program).
 Conditions: none: each contract is proved for every input of its shape.
-/
import Derived.Test.YtghbobmkkbdhpaaGreatEngRegToEngRow3
import Derived.Laws.Externs
import Derived.Test.YtghbobmkkbdhpaaGreatProg
import Derived.Test.YtghbobmkkbdhpaaGreatSpEFns
set_option linter.unusedVariables false
set_option linter.unusedSimpArgs false
namespace Go.Proofs.Rc
open Go.Eng
set_option maxRecDepth 100000
noncomputable def speechCopies.C (N : Nat) (rate : Int) (l : List (List Int)) (more : List (List Int)) : Cfg := { P := Tryz.prog, N := N, RT := noRT, specs := [(10, awake14.spec), (34, torder.spec), (32, played14.spec), (35, plcopy.spec), (19, same14.spec), (33, plsame.spec), (36, plreset.spec), (40, synew.spec)], inl := [(11, FCfg.none)], hi := 0, mv := [] }
noncomputable def speechCopies.K (N : Nat) : FCfg := { anns := [], unr := [], lits := [], lets := [] }
noncomputable def speechCopies.F (N : Nat) (rate : Int) (l : List (List Int)) (more : List (List Int)) : Option Bool :=
 (obind (Rc.awake14.F (N)) fun r0 =>
  (br (!r0)
  (some (false))
  (br (decide (↑l.length > (3 : Int)))
   (some (true))
   (br (decide (↑more.length > (2 : Int)))
   (some (true))
   (obind (Rc.torder.F (N) (rate)) fun r1 =>
    (br (r1 == (0 : Int))
    (some (true))
    (obind (Rc.torder.F (N) (rate)) fun r2 =>
     (br (r2 == (0 : Int))
     (some (false))
     (obind (Rc.synew.F (N)) fun r3 =>
      (obind (Rc.plreset.F (N) (rate) ((0 : Int)) (r3) (([] : List Int))) fun r4 =>
      (obind (Rc.played14.F (N) (rate) (r4.fst) (r4.snd.fst) (r4.snd.snd) (l)) fun r5 =>
       (obind (Rc.plcopy.F (N) (rate) (r5.fst) (r5.snd.fst) (r5.snd.snd.snd)) fun r6 =>
       (obind (Rc.plcopy.F (N) (rate) (r5.fst) (r5.snd.fst) (r5.snd.snd.snd)) fun r7 =>
        (obind (Rc.played14.F (N) (rate) (r5.fst) (r5.snd.fst) (r5.snd.snd.snd) (more)) fun r8 =>
        (obind (Rc.played14.F (N) (r6.fst) (r6.snd.fst) (r6.snd.snd.fst) (r6.snd.snd.snd) (more)) fun r9 =>
         (obind (Rc.same14.F (N) (r8.snd.snd.fst) (r9.snd.snd.fst)) fun r10 =>
         (br (!r10)
          (some (false))
          (obind (Rc.plsame.F (N) (rate) (r8.fst) (r6.fst) (r9.fst) (r8.snd.fst) (r8.snd.snd.snd) (r9.snd.fst) (r9.snd.snd.snd)) fun r11 =>
          (br (!r11.snd.snd.snd.snd.fst)
           (some (false))
           (obind (Rc.plreset.F (N) (r11.snd.snd.fst) (r11.snd.snd.snd.fst) (r11.snd.snd.snd.snd.snd.snd.snd.fst) (r11.snd.snd.snd.snd.snd.snd.snd.snd)) fun r12 =>
           (obind (Rc.torder.F (N) (rate)) fun r13 =>
            (br (r13 == (0 : Int))
            (obind (Rc.played14.F (N) (r7.fst) (r7.snd.fst) (r7.snd.snd.fst) (r7.snd.snd.snd) (more)) fun r14 =>
             none /- WHY OfNat.ofNat.{0} Nat 834 (instOfNatNat 834) -/)
            (obind (Rc.synew.F (N)) fun r15 =>
             (obind (Rc.plreset.F (N) (rate) ((0 : Int)) (r15) (([] : List Int))) fun r16 =>
             (obind (Rc.played14.F (N) (r7.fst) (r7.snd.fst) (r7.snd.snd.fst) (r7.snd.snd.snd) (more)) fun r17 =>
              (obind (Rc.plsame.F (N) (r11.snd.snd.fst) (r12.fst) (rate) (r16.fst) (r12.snd.fst) (r12.snd.snd) (r16.snd.fst) (r16.snd.snd)) fun r18 =>
              (br (r18.snd.snd.snd.snd.fst)
               (obind (Rc.same14.F (N) (r8.snd.snd.fst) (r17.snd.snd.fst)) fun r19 =>
               (br (r19)
                (obind (Rc.plsame.F (N) (r11.fst) (r11.snd.fst) (r7.fst) (r17.fst) (r11.snd.snd.snd.snd.snd.fst) (r11.snd.snd.snd.snd.snd.snd.fst) (r17.snd.fst) (r17.snd.snd.snd)) fun r20 =>
                (some (r20.snd.snd.snd.snd.fst)))
                (some (false))))
               (some (false)))))))))))))))))))))))))))))
theorem speechCopies.F_eq (N : Nat) (rate : Int) (l : List (List Int)) (more : List (List Int)) : evLaw (speechCopies.C N rate l more) (speechCopies.K N) 1 Tryz.f8 [.at (.int .i64 rate), .at (.rro ⟨[.i64], some .u8, true⟩ l), .at (.rro ⟨[.i64], some .u8, true⟩ more)] = speechCopies.F N rate l more := by
 kernel_rfl
theorem speechCopies.cok (N : Nat) (rate : Int) (l : List (List Int)) (more : List (List Int)) : CfgOK (speechCopies.C N rate l more) := ⟨fun _ _ _ _ h => by simp [speechCopies.C, noRT] at h, wide, by
 simp only [speechCopies.C, List.mem_cons, List.not_mem_nil, or_false, forall_eq_or_imp, forall_eq, false_imp_iff, implies_true]
 exact ⟨⟨awake14.ok, by kernel_rfl⟩, ⟨torder.ok, by kernel_rfl⟩, ⟨played14.ok, by kernel_rfl⟩, ⟨plcopy.ok, by kernel_rfl⟩, ⟨same14.ok, by kernel_rfl⟩, ⟨plsame.ok, by kernel_rfl⟩, ⟨plreset.ok, by kernel_rfl⟩, ⟨synew.ok, by kernel_rfl⟩⟩, fun g hg => by simp [speechCopies.C] at hg, fun m hm => by simp [speechCopies.C] at hm, fun q hq => by simp [speechCopies.C] at hq⟩
theorem speechCopies.aok (N : Nat) : AnnsOK (speechCopies.K N) := by
 intro q hq
 simp only [speechCopies.K, List.mem_cons, List.not_mem_nil, or_false] at hq
theorem speechCopies.walk {w : World} {N : Nat} (rate : Int) (l : List (List Int)) (more : List (List Int)) {cargs : Array Value} (ha : All2 (RV noRT (lawE w)) [.at (.int .i64 rate), .at (.rro ⟨[.i64], some .u8, true⟩ l), .at (.rro ⟨[.i64], some .u8, true⟩ more)] cargs.toList) (h : speechCopies.F N rate l more = some true) :
  Calls Tryz.prog 8 cargs w fun e w' => e = .returned (.bool true) /\ Frm w (fun _ => False) w' :=
 law_sound (C := speechCopies.C N rate l more) (K := speechCopies.K N) (d := 1) (fn := Tryz.f8) (speechCopies.cok N rate l more) (fun q hq => by
   simp only [speechCopies.C, List.mem_cons, List.not_mem_nil, or_false] at hq
   subst hq
   exact ⟨fun q hq => by simp [FCfg.none] at hq, by kernel_rfl⟩) (speechCopies.aok N) (by kernel_rfl) ha ((speechCopies.F_eq N rate l more).trans h)
end Go.Proofs.Rc
