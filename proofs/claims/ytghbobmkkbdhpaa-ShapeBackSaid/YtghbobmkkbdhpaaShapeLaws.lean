/-
  Functions of the program: what each comes to, and its contract (written by a program).
  Conditions: none: each contract is proved for every input of its shape.
-/
import Derived.Test.YtghbobmkkbdhpaaEngMkToEngWords
import Derived.Laws.Externs
import Derived.Test.YtghbobmkkbdhpaaProg
import Derived.Test.YtghbobmkkbdhpaaShapeFns
set_option linter.unusedVariables false
set_option linter.unusedSimpArgs false
namespace Go.Proofs.Rc
open Go.Eng
set_option maxRecDepth 100000
noncomputable def shapeBack.C (N : Nat) (f : List Int) (bits : Int) (eq : Int) (seed : Int) : Cfg := { P := Try.prog, N := N, RT := noRT, specs := [(10, awake20.spec), (15, enew.spec), (14, swrite.spec), (23, etell.spec), (24, edone.spec), (25, rnew.spec), (26, rband.spec), (16, same20.spec), (27, rtell.spec)], inl := [], hi := 0, mv := [] }
noncomputable def shapeBack.K (N : Nat) : FCfg := { anns := [], unr := [], lits := [], lets := [], frz := [13] }
noncomputable def shapeBack.F (N : Nat) (f : List Int) (bits : Int) (eq : Int) (seed : Int) : Option Bool :=
  (obind (Rc.awake20.F N) fun r0 =>
   (br (!r0)
   (some false)
   (br (decide (↑f.length > (200 : Int)))
   (some true)
   (obind (Rc.enew.F N) fun r1 =>
   (chk (([] : List Int).length + f.length ≤ (17592186043904 : Nat))
   (obind (Rc.swrite.F N bits eq r1.fst r1.snd.fst r1.snd.snd.fst r1.snd.snd.snd.fst seed (([] : List Int) ++ f) r1.snd.snd.snd.snd.fst r1.snd.snd.snd.snd.snd) fun r2 =>
   (br (decide (↑f.length < (1 : Int)))
   (br (r2.fst == (1 : Int))
   (br (↑r2.snd.snd.snd.snd.snd.snd.fst.length == (0 : Int))
   (obind (Rc.etell.F N r2.snd.fst r2.snd.snd.fst r2.snd.snd.snd.fst r2.snd.snd.snd.snd.fst r2.snd.snd.snd.snd.snd.snd.snd.fst r2.snd.snd.snd.snd.snd.snd.snd.snd) fun r3 =>
   (some (r3 == (1 : Int))))
   (some false))
   (some false))
   (br (decide (bits < (0 : Int)))
   (br (r2.fst == (1 : Int))
   (br (↑r2.snd.snd.snd.snd.snd.snd.fst.length == (0 : Int))
   (obind (Rc.etell.F N r2.snd.fst r2.snd.snd.fst r2.snd.snd.snd.fst r2.snd.snd.snd.snd.fst r2.snd.snd.snd.snd.snd.snd.snd.fst r2.snd.snd.snd.snd.snd.snd.snd.snd) fun r4 =>
   (some (r4 == (1 : Int))))
   (some false))
   (some false))
   (br (decide (bits > (1048576 : Int)))
   (br (r2.fst == (1 : Int))
   (br (↑r2.snd.snd.snd.snd.snd.snd.fst.length == (0 : Int))
   (obind (Rc.etell.F N r2.snd.fst r2.snd.snd.fst r2.snd.snd.snd.fst r2.snd.snd.snd.snd.fst r2.snd.snd.snd.snd.snd.snd.snd.fst r2.snd.snd.snd.snd.snd.snd.snd.snd) fun r5 =>
   (some (r5 == (1 : Int))))
   (some false))
   (some false))
   (obind (Rc.etell.F N r2.snd.fst r2.snd.snd.fst r2.snd.snd.snd.fst r2.snd.snd.snd.snd.fst r2.snd.snd.snd.snd.snd.snd.snd.fst r2.snd.snd.snd.snd.snd.snd.snd.snd) fun r6 =>
   (br (decide (r6 > IntKind.i64.wrap (IntKind.i64.wrap (bits + (3 : Int)) + ↑f.length)))
   (some false)
   (obind (Rc.edone.F N ((1275 : Int)) r2.snd.fst r2.snd.snd.fst r2.snd.snd.snd.fst r2.snd.snd.snd.snd.fst r2.snd.snd.snd.snd.snd.snd.snd.fst r2.snd.snd.snd.snd.snd.snd.snd.snd) fun r7 =>
   (br (r2.fst != (0 : Int))
   (br (r2.fst == (0 : Int))
   (some (r7.fst == (2 : Int)))
   (some false))
   (br (r7.fst != (0 : Int))
   (br (r2.fst == (0 : Int))
   (some (r7.fst == (2 : Int)))
   (some false))
   (obind (Rc.rnew.F N r7.snd) fun r8 =>
   (obind (Rc.rband.F N (↑f.length) bits eq r8.fst r8.snd.fst r8.snd.snd.fst r8.snd.snd.snd.fst r8.snd.snd.snd.snd.fst r8.snd.snd.snd.snd.snd.fst r8.snd.snd.snd.snd.snd.snd.fst r8.snd.snd.snd.snd.snd.snd.snd.fst r8.snd.snd.snd.snd.snd.snd.snd.snd.fst seed r8.snd.snd.snd.snd.snd.snd.snd.snd.snd.fst r8.snd.snd.snd.snd.snd.snd.snd.snd.snd.snd) fun r9 =>
   (obind (Rc.same20.F N r2.snd.snd.snd.snd.snd.snd.fst r9.snd.snd.snd.snd.snd.snd.snd.snd.snd.snd.snd) fun r10 =>
   (br r10
   (br (r2.snd.snd.snd.snd.snd.fst == r9.snd.snd.snd.snd.snd.snd.snd.snd.snd.fst)
   (obind (Rc.rtell.F N r9.fst r9.snd.fst r9.snd.snd.fst r9.snd.snd.snd.fst r9.snd.snd.snd.snd.fst r9.snd.snd.snd.snd.snd.fst r9.snd.snd.snd.snd.snd.snd.fst r9.snd.snd.snd.snd.snd.snd.snd.fst r9.snd.snd.snd.snd.snd.snd.snd.snd.fst r9.snd.snd.snd.snd.snd.snd.snd.snd.snd.snd.fst r8.snd.snd.snd.snd.snd.snd.snd.snd.snd.snd) fun r11 =>
   (obind (Rc.etell.F N r2.snd.fst r2.snd.snd.fst r2.snd.snd.snd.fst r2.snd.snd.snd.snd.fst r2.snd.snd.snd.snd.snd.snd.snd.fst r2.snd.snd.snd.snd.snd.snd.snd.snd) fun r12 =>
   (some (r11 == r12))))
   (some false))
   (some false)))))))))))))))))))
theorem shapeBack.F_eq (N : Nat) (f : List Int) (bits : Int) (eq : Int) (seed : Int) : evLaw (shapeBack.C N f bits eq seed) (shapeBack.K N) 0 Try.f6 [.at (.roi .i64 f), .at (.int .i64 bits), .at (.int .i64 eq), .at (.int .u32 seed)] = shapeBack.F N f bits eq seed := by
  kernel_rfl
theorem shapeBack.cok (N : Nat) (f : List Int) (bits : Int) (eq : Int) (seed : Int) : CfgOK (shapeBack.C N f bits eq seed) := ⟨fun _ _ _ _ h => by simp [shapeBack.C, noRT] at h, wide, by
  simp only [shapeBack.C, List.mem_cons, List.not_mem_nil, or_false, forall_eq_or_imp, forall_eq, false_imp_iff, implies_true]
  exact ⟨⟨awake20.ok, by kernel_rfl⟩, ⟨enew.ok, by kernel_rfl⟩, ⟨swrite.ok, by kernel_rfl⟩, ⟨etell.ok, by kernel_rfl⟩, ⟨edone.ok, by kernel_rfl⟩, ⟨rnew.ok, by kernel_rfl⟩, ⟨rband.ok, by kernel_rfl⟩, ⟨same20.ok, by kernel_rfl⟩, ⟨rtell.ok, by kernel_rfl⟩⟩, fun g hg => by simp [shapeBack.C] at hg, fun m hm => by simp [shapeBack.C] at hm, fun q hq => by simp [shapeBack.C] at hq⟩
theorem shapeBack.aok (N : Nat) : AnnsOK (shapeBack.K N) := by
  intro q hq
  simp only [shapeBack.K, List.mem_cons, List.not_mem_nil, or_false] at hq
theorem shapeBack.walk {w : World} {N : Nat} (f : List Int) (bits : Int) (eq : Int) (seed : Int) {cargs : Array Value} (ha : All2 (RV noRT (lawE w)) [.at (.roi .i64 f), .at (.int .i64 bits), .at (.int .i64 eq), .at (.int .u32 seed)] cargs.toList) (h : shapeBack.F N f bits eq seed = some true) :
    Calls Try.prog 6 cargs w fun e w' => e = .returned (.bool true) ∧ Frm w (fun _ => False) w' :=
  law_sound (C := shapeBack.C N f bits eq seed) (K := shapeBack.K N) (d := 0) (fn := Try.f6) (shapeBack.cok N f bits eq seed) (fun q hq => by simp [shapeBack.C] at hq) (shapeBack.aok N) (by kernel_rfl) ha ((shapeBack.F_eq N f bits eq seed).trans h)
end Go.Proofs.Rc
