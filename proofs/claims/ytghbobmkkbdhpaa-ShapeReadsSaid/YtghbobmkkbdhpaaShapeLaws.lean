/-
  Functions of the program: what each comes to, and its contract (written by a program).
  Conditions: none: each contract is proved for every input of its shape.
-/
import Derived.Test.YtghbobmkkbdhpaaEngMkToEngWords
import Derived.Laws.Externs
import Derived.Test.YtghbobmkkbdhpaaProg
import Derived.Test.YtghbobmkkbdhpaaShapeFns
set_option linter.unusedVariables false
set_option linter.unusedSimpArgs false
namespace Go.Proofs.Rc
open Go.Eng
set_option maxRecDepth 100000
noncomputable def shapeReads.C (N : Nat) (b : List Int) (n : Int) (bits : Int) (eq : Int) (seed : Int) : Cfg := { P := Try.prog, N := N, RT := noRT, specs := [(10, awake20.spec), (13, new.spec), (12, sread.spec), (29, tell.spec), (25, rnew.spec), (26, rband.spec), (16, same20.spec), (27, rtell.spec)], inl := [], hi := 0, mv := [] }
noncomputable def shapeReads.K (N : Nat) : FCfg := { anns := [], unr := [], lits := [], lets := [] }
noncomputable def shapeReads.F (N : Nat) (b : List Int) (n : Int) (bits : Int) (eq : Int) (seed : Int) : Option Bool :=
  (obind (Rc.awake20.F (N)) fun r0 =>
   (br (!r0)
    (some (false))
    (br (decide (↑b.length > (500 : Int)))
     (some (true))
     (br (decide (n > (200 : Int)))
      (some (true))
      (obind (Rc.new.F (N) (b)) fun r1 =>
      (obind (Rc.sread.F (N) (n) (bits) (eq) (r1.fst) (r1.snd.fst) (r1.snd.snd.fst) (r1.snd.snd.snd.fst) (r1.snd.snd.snd.snd.fst) (r1.snd.snd.snd.snd.snd.fst) (r1.snd.snd.snd.snd.snd.snd.fst) (r1.snd.snd.snd.snd.snd.snd.snd.fst) (seed) (r1.snd.snd.snd.snd.snd.snd.snd.snd.fst) (r1.snd.snd.snd.snd.snd.snd.snd.snd.snd)) fun r2 =>
      (br (decide (n < (1 : Int)))
      (br (r2.fst == (1 : Int))
      (br (↑r2.snd.snd.snd.snd.snd.snd.snd.snd.snd.snd.snd.length == (0 : Int))
      (obind (Rc.tell.F (N) (r2.snd.fst) (r2.snd.snd.fst) (r2.snd.snd.snd.fst) (r2.snd.snd.snd.snd.fst) (r2.snd.snd.snd.snd.snd.fst) (r2.snd.snd.snd.snd.snd.snd.fst) (r2.snd.snd.snd.snd.snd.snd.snd.fst) (r2.snd.snd.snd.snd.snd.snd.snd.snd.fst) (r2.snd.snd.snd.snd.snd.snd.snd.snd.snd.snd.fst) (r1.snd.snd.snd.snd.snd.snd.snd.snd.snd)) fun r3 =>
      (br (r3 == (1 : Int))
      (some (r2.snd.snd.snd.snd.snd.snd.snd.snd.snd.fst == seed))
      (some (false))))
      (some (false)))
      (some (false)))
      (br (decide (bits < (0 : Int)))
      (br (r2.fst == (1 : Int))
      (br (↑r2.snd.snd.snd.snd.snd.snd.snd.snd.snd.snd.snd.length == (0 : Int))
      (obind (Rc.tell.F (N) (r2.snd.fst) (r2.snd.snd.fst) (r2.snd.snd.snd.fst) (r2.snd.snd.snd.snd.fst) (r2.snd.snd.snd.snd.snd.fst) (r2.snd.snd.snd.snd.snd.snd.fst) (r2.snd.snd.snd.snd.snd.snd.snd.fst) (r2.snd.snd.snd.snd.snd.snd.snd.snd.fst) (r2.snd.snd.snd.snd.snd.snd.snd.snd.snd.snd.fst) (r1.snd.snd.snd.snd.snd.snd.snd.snd.snd)) fun r4 =>
      (br (r4 == (1 : Int))
      (some (r2.snd.snd.snd.snd.snd.snd.snd.snd.snd.fst == seed))
      (some (false))))
      (some (false)))
      (some (false)))
      (br (decide (bits > (1048576 : Int)))
      (br (r2.fst == (1 : Int))
      (br (↑r2.snd.snd.snd.snd.snd.snd.snd.snd.snd.snd.snd.length == (0 : Int))
      (obind (Rc.tell.F (N) (r2.snd.fst) (r2.snd.snd.fst) (r2.snd.snd.snd.fst) (r2.snd.snd.snd.snd.fst) (r2.snd.snd.snd.snd.snd.fst) (r2.snd.snd.snd.snd.snd.snd.fst) (r2.snd.snd.snd.snd.snd.snd.snd.fst) (r2.snd.snd.snd.snd.snd.snd.snd.snd.fst) (r2.snd.snd.snd.snd.snd.snd.snd.snd.snd.snd.fst) (r1.snd.snd.snd.snd.snd.snd.snd.snd.snd)) fun r5 =>
      (br (r5 == (1 : Int))
      (some (r2.snd.snd.snd.snd.snd.snd.snd.snd.snd.fst == seed))
      (some (false))))
      (some (false)))
      (some (false)))
      (obind (Rc.rnew.F (N) (b)) fun r6 =>
      (br (r2.fst == (0 : Int))
      (obind (Rc.rband.F (N) (n) (bits) (eq) (r6.fst) (r6.snd.fst) (r6.snd.snd.fst) (r6.snd.snd.snd.fst) (r6.snd.snd.snd.snd.fst) (r6.snd.snd.snd.snd.snd.fst) (r6.snd.snd.snd.snd.snd.snd.fst) (r6.snd.snd.snd.snd.snd.snd.snd.fst) (r6.snd.snd.snd.snd.snd.snd.snd.snd.fst) (seed) (r6.snd.snd.snd.snd.snd.snd.snd.snd.snd.fst) (r6.snd.snd.snd.snd.snd.snd.snd.snd.snd.snd)) fun r7 =>
      (obind (Rc.same20.F (N) (r2.snd.snd.snd.snd.snd.snd.snd.snd.snd.snd.snd) (r7.snd.snd.snd.snd.snd.snd.snd.snd.snd.snd.snd)) fun r8 =>
      (br (r8)
      (obind (Rc.tell.F (N) (r2.snd.fst) (r2.snd.snd.fst) (r2.snd.snd.snd.fst) (r2.snd.snd.snd.snd.fst) (r2.snd.snd.snd.snd.snd.fst) (r2.snd.snd.snd.snd.snd.snd.fst) (r2.snd.snd.snd.snd.snd.snd.snd.fst) (r2.snd.snd.snd.snd.snd.snd.snd.snd.fst) (r2.snd.snd.snd.snd.snd.snd.snd.snd.snd.snd.fst) (r1.snd.snd.snd.snd.snd.snd.snd.snd.snd)) fun r9 =>
      (obind (Rc.rtell.F (N) (r7.fst) (r7.snd.fst) (r7.snd.snd.fst) (r7.snd.snd.snd.fst) (r7.snd.snd.snd.snd.fst) (r7.snd.snd.snd.snd.snd.fst) (r7.snd.snd.snd.snd.snd.snd.fst) (r7.snd.snd.snd.snd.snd.snd.snd.fst) (r7.snd.snd.snd.snd.snd.snd.snd.snd.fst) (r7.snd.snd.snd.snd.snd.snd.snd.snd.snd.snd.fst) (r6.snd.snd.snd.snd.snd.snd.snd.snd.snd.snd)) fun r10 =>
      (br (r9 == r10)
      (some (r2.snd.snd.snd.snd.snd.snd.snd.snd.snd.fst == r7.snd.snd.snd.snd.snd.snd.snd.snd.snd.fst))
      (some (false)))))
      (some (false)))))
      (some (false)))))))))))))
theorem shapeReads.F_eq (N : Nat) (b : List Int) (n : Int) (bits : Int) (eq : Int) (seed : Int) : evLaw (shapeReads.C N b n bits eq seed) (shapeReads.K N) 0 Try.f8 [.at (.roi .u8 b), .at (.int .i64 n), .at (.int .i64 bits), .at (.int .i64 eq), .at (.int .u32 seed)] = shapeReads.F N b n bits eq seed := by
  kernel_rfl
theorem shapeReads.cok (N : Nat) (b : List Int) (n : Int) (bits : Int) (eq : Int) (seed : Int) : CfgOK (shapeReads.C N b n bits eq seed) := ⟨fun _ _ _ _ h => by simp [shapeReads.C, noRT] at h, wide, by
  simp only [shapeReads.C, List.mem_cons, List.not_mem_nil, or_false, forall_eq_or_imp, forall_eq, false_imp_iff, implies_true]
  exact ⟨⟨awake20.ok, by kernel_rfl⟩, ⟨new.ok, by kernel_rfl⟩, ⟨sread.ok, by kernel_rfl⟩, ⟨tell.ok, by kernel_rfl⟩, ⟨rnew.ok, by kernel_rfl⟩, ⟨rband.ok, by kernel_rfl⟩, ⟨same20.ok, by kernel_rfl⟩, ⟨rtell.ok, by kernel_rfl⟩⟩, fun g hg => by simp [shapeReads.C] at hg, fun m hm => by simp [shapeReads.C] at hm, fun q hq => by simp [shapeReads.C] at hq⟩
theorem shapeReads.aok (N : Nat) : AnnsOK (shapeReads.K N) := by
  intro q hq
  simp only [shapeReads.K, List.mem_cons, List.not_mem_nil, or_false] at hq
theorem shapeReads.walk {w : World} {N : Nat} (b : List Int) (n : Int) (bits : Int) (eq : Int) (seed : Int) {cargs : Array Value} (ha : All2 (RV noRT (lawE w)) [.at (.roi .u8 b), .at (.int .i64 n), .at (.int .i64 bits), .at (.int .i64 eq), .at (.int .u32 seed)] cargs.toList) (h : shapeReads.F N b n bits eq seed = some true) :
    Calls Try.prog 8 cargs w fun e w' => e = .returned (.bool true) ∧ Frm w (fun _ => False) w' :=
  law_sound (C := shapeReads.C N b n bits eq seed) (K := shapeReads.K N) (d := 0) (fn := Try.f8) (shapeReads.cok N b n bits eq seed) (fun q hq => by simp [shapeReads.C] at hq) (shapeReads.aok N) (by kernel_rfl) ha ((shapeReads.F_eq N b n bits eq seed).trans h)

end Go.Proofs.Rc
