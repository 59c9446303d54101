/-
  Functions of the program: what each comes to, and its contract (written by a program).
  Conditions: none: each contract is proved for every input of its shape.
-/
import Derived.Test.YtghbobmkkbdhpaaEngFn
import Derived.Laws.Externs
import Derived.Test.YtghbobmkkbdhpaaProg
import Derived.Test.YtghbobmkkbdhpaaShapeFns
namespace Go.Proofs.Rc
open Go.Eng
set_option maxRecDepth 100000
set_option linter.unusedVariables false
set_option linter.unusedSimpArgs false
noncomputable def shapeKnown.C (N : Nat)  : Cfg := { P := Try.prog, N := N, RT := noRT, specs := [(10, awake20.spec), (11, sfill.spec), (13, new.spec), (12, sread.spec), (15, enew.spec), (14, swrite.spec), (16, same20.spec), (17, nnext.spec), (18, shush.spec)], inl := [], hi := 0, mv := [] }
noncomputable def shapeKnown.K (N : Nat) : FCfg := { anns := [], unr := [], lits := [], lets := [] }
noncomputable def shapeKnown.F (N : Nat)  : Option Bool :=
  (obind (Rc.awake20.F (N)) fun r0 =>
   (br (!r0)
    (some (false))
    (obind (Rc.sfill.F (N) ((1 : Int)) (([] : List Int))) fun r1 =>
     (obind (Rc.sfill.F (N) ((1 : Int)) ([(65 : Int)])) fun r2 =>
      (obind (Rc.new.F (N) (([] : List Int))) fun r3 =>
      (obind (Rc.sread.F (N) ((0 : Int)) ((1 : Int)) ((1 : Int)) (r3.fst) (r3.snd.fst) (r3.snd.snd.fst) (r3.snd.snd.snd.fst) (r3.snd.snd.snd.snd.fst) (r3.snd.snd.snd.snd.snd.fst) (r3.snd.snd.snd.snd.snd.snd.fst) (r3.snd.snd.snd.snd.snd.snd.snd.fst) ((0 : Int)) (r3.snd.snd.snd.snd.snd.snd.snd.snd.fst) (r3.snd.snd.snd.snd.snd.snd.snd.snd.snd)) fun r4 =>
      (obind (Rc.enew.F (N)) fun r5 =>
      (obind (Rc.swrite.F (N) ((1 : Int)) ((1 : Int)) (r5.fst) (r5.snd.fst) (r5.snd.snd.fst) (r5.snd.snd.snd.fst) (r4.snd.snd.snd.snd.snd.snd.snd.snd.snd.fst) (([] : List Int)) (r5.snd.snd.snd.snd.fst) (r5.snd.snd.snd.snd.snd)) fun r6 =>
      (obind (Rc.sfill.F (N) ((9 : Int)) ([(0 : Int), (0 : Int)])) fun r7 =>
      (br (r1.fst == (1 : Int))
      (br (r2.fst == (1 : Int))
      (br (r4.fst == (1 : Int))
      (br (r6.fst == (1 : Int))
      (br (r7.fst == (0 : Int))
      (obind (Rc.same20.F (N) (r7.snd) ([(0 : Int), (0 : Int)])) fun r8 =>
      (br (r8)
      (br (r6.snd.snd.snd.snd.snd.fst == (0 : Int))
      (obind (Rc.nnext.F (N) (r6.snd.snd.snd.snd.snd.fst)) fun r9 =>
      (br (r9.fst == (1013904223 : Int))
      (obind (Rc.shush.F (N) ((0 : Int)) ((5 : Int)) (r9.snd)) fun r10 =>
      (some (↑r10.snd.length == (0 : Int))))
      (some (false))))
      (some (false)))
      (some (false))))
      (some (false)))
      (some (false)))
      (some (false)))
      (some (false)))
      (some (false))))))))))))
theorem shapeKnown.F_eq (N : Nat)  : evLaw (shapeKnown.C N ) (shapeKnown.K N) 0 Try.f3 [] = shapeKnown.F N  := by
  kernel_rfl
theorem shapeKnown.cok (N : Nat)  : CfgOK (shapeKnown.C N ) := ⟨fun _ _ _ _ h => by simp [shapeKnown.C, noRT] at h, wide, by
  simp only [shapeKnown.C, List.mem_cons, List.not_mem_nil, or_false, forall_eq_or_imp, forall_eq, false_imp_iff, implies_true]
  exact ⟨⟨awake20.ok, by kernel_rfl⟩, ⟨sfill.ok, by kernel_rfl⟩, ⟨new.ok, by kernel_rfl⟩, ⟨sread.ok, by kernel_rfl⟩, ⟨enew.ok, by kernel_rfl⟩, ⟨swrite.ok, by kernel_rfl⟩, ⟨same20.ok, by kernel_rfl⟩, ⟨nnext.ok, by kernel_rfl⟩, ⟨shush.ok, by kernel_rfl⟩⟩, fun g hg => by simp [shapeKnown.C] at hg, fun m hm => by simp [shapeKnown.C] at hm, fun q hq => by simp [shapeKnown.C] at hq⟩
theorem shapeKnown.aok (N : Nat) : AnnsOK (shapeKnown.K N) := by
  intro q hq
  simp only [shapeKnown.K, List.mem_cons, List.not_mem_nil, or_false] at hq
theorem shapeKnown.walk {w : World} {N : Nat}  {cargs : Array Value} (ha : All2 (RV noRT (lawE w)) [] cargs.toList) (h : shapeKnown.F N  = some true) :
    Calls Try.prog 3 cargs w fun e w' => e = .returned (.bool true) ∧ Frm w (fun _ => False) w' :=
  law_sound (C := shapeKnown.C N ) (K := shapeKnown.K N) (d := 0) (fn := Try.f3) (shapeKnown.cok N ) (fun q hq => by simp [shapeKnown.C] at hq) (shapeKnown.aok N) (by kernel_rfl) ha ((shapeKnown.F_eq N ).trans h)

noncomputable def shapeNoise.C (N : Nat) (seed : Int) (n : Int) (size : Int) : Cfg := { P := Try.prog, N := N, RT := noRT, specs := [(10, awake20.spec), (18, shush.spec), (19, rhush.spec), (16, same20.spec), (20, nsign.spec), (21, rsign.spec), (17, nnext.spec)], inl := [], hi := 0, mv := [] }
noncomputable def shapeNoise.K (N : Nat) : FCfg := { anns := [], unr := [], lits := [], lets := [] }
noncomputable def shapeNoise.F (N : Nat) (seed : Int) (n : Int) (size : Int) : Option Bool :=
  (obind (Rc.awake20.F (N)) fun r0 =>
   (br (!r0)
    (some (false))
    (br (decide (n < (0 : Int)))
     (some (true))
     (br (decide (n > (1100 : Int)))
      (some (true))
      (obind (Rc.shush.F (N) (n) (size) (seed)) fun r1 =>
      (obind (Rc.rhush.F (N) (n) (size) (seed)) fun r2 =>
      (obind (Rc.same20.F (N) (r1.snd) (r2.snd)) fun r3 =>
      (br (!r3)
      (some (false))
      (br (r1.fst != r2.fst)
      (some (false))
      (obind (Rc.nsign.F (N) (r1.fst)) fun r4 =>
      (obind (Rc.rsign.F (N) (r2.fst)) fun r5 =>
      (br (r4.fst != r5.fst)
      (some (false))
      (obind (Rc.nnext.F (N) (r4.snd)) fun r6 =>
      (obind (Rc.rsign.F (N) (r5.snd)) fun r7 =>
      (br (r6.fst == r7.snd)
      (some (r6.snd == r7.snd))
      (some (false)))))))))))))))))
theorem shapeNoise.F_eq (N : Nat) (seed : Int) (n : Int) (size : Int) : evLaw (shapeNoise.C N seed n size) (shapeNoise.K N) 0 Try.f4 [.at (.int .u32 seed), .at (.int .i64 n), .at (.int .i64 size)] = shapeNoise.F N seed n size := by
  kernel_rfl
theorem shapeNoise.cok (N : Nat) (seed : Int) (n : Int) (size : Int) : CfgOK (shapeNoise.C N seed n size) := ⟨fun _ _ _ _ h => by simp [shapeNoise.C, noRT] at h, wide, by
  simp only [shapeNoise.C, List.mem_cons, List.not_mem_nil, or_false, forall_eq_or_imp, forall_eq, false_imp_iff, implies_true]
  exact ⟨⟨awake20.ok, by kernel_rfl⟩, ⟨shush.ok, by kernel_rfl⟩, ⟨rhush.ok, by kernel_rfl⟩, ⟨same20.ok, by kernel_rfl⟩, ⟨nsign.ok, by kernel_rfl⟩, ⟨rsign.ok, by kernel_rfl⟩, ⟨nnext.ok, by kernel_rfl⟩⟩, fun g hg => by simp [shapeNoise.C] at hg, fun m hm => by simp [shapeNoise.C] at hm, fun q hq => by simp [shapeNoise.C] at hq⟩
theorem shapeNoise.aok (N : Nat) : AnnsOK (shapeNoise.K N) := by
  intro q hq
  simp only [shapeNoise.K, List.mem_cons, List.not_mem_nil, or_false] at hq
theorem shapeNoise.walk {w : World} {N : Nat} (seed : Int) (n : Int) (size : Int) {cargs : Array Value} (ha : All2 (RV noRT (lawE w)) [.at (.int .u32 seed), .at (.int .i64 n), .at (.int .i64 size)] cargs.toList) (h : shapeNoise.F N seed n size = some true) :
    Calls Try.prog 4 cargs w fun e w' => e = .returned (.bool true) ∧ Frm w (fun _ => False) w' :=
  law_sound (C := shapeNoise.C N seed n size) (K := shapeNoise.K N) (d := 0) (fn := Try.f4) (shapeNoise.cok N seed n size) (fun q hq => by simp [shapeNoise.C] at hq) (shapeNoise.aok N) (by kernel_rfl) ha ((shapeNoise.F_eq N seed n size).trans h)

noncomputable def shapeFills.C (N : Nat) (y : List Int) (size : Int) : Cfg := { P := Try.prog, N := N, RT := noRT, specs := [(10, awake20.spec), (11, sfill.spec), (22, rfill.spec), (16, same20.spec)], inl := [], hi := 0, mv := [] }
abbrev shapeFills.loop9.R : Type := Bool × Bool
noncomputable def shapeFills.loop9.ann : Ann := { nx := 20, slots := [(0, .at (.froi .i64 0)), (7, .at (.bool 0)), (8, .at (.bool 1)), (9, .at (.int .i64 0))], blks := [], mov := [], exId := 0, xslots := [(7, .at (.bool 0)), (8, .at (.bool 1))], xblks := [], T := shapeFills.loop9.R, dec := fun L => (L.b 0, L.b 1), enc := fun r => mkL [] [r.1, r.2] [] [], ret := false }
abbrev shapeFills.loop21.R : Type := Int
noncomputable def shapeFills.loop21.ann : Ann := { nx := 21, slots := [(5, .at (.full 2 false)), (10, .at (.int .i64 0)), (11, .at (.int .i64 1))], blks := [(2, .fints true .i64 0)], mov := [], exId := 2, xslots := [(5, .at (.full 2 false)), (10, .at (.int .i64 0))], xblks := [(2, .fints true .i64 0)], T := shapeFills.loop21.R, dec := fun L => (L.i 0), enc := fun r => mkL [r] [] [] [], ret := false }
noncomputable def shapeFills.K (N : Nat) : FCfg := { anns := [(9, shapeFills.loop9.ann), (21, shapeFills.loop21.ann)], unr := [], lits := [], lets := [] }
noncomputable def shapeFills.loop21 (N : Nat) (y : List Int) (size : Int) : Nat → List Int → Int → Int → Option shapeFills.loop21.R
  | 0, _, _, _ => none
  | nn + 1, l2, s10, s11 =>
  (br (decide (s11 < ↑l2.length))
   (chk ((0 : Int) ≤ s11 ∧ s11 < ↑l2.length)
    (chk ((0 : Int) ≤ s11 ∧ s11 < ↑l2.length)
     (chkL (l2) (l2)
     (shapeFills.loop21 N y size (nn) (l2) (IntKind.i64.wrap (s10 + IntKind.i64.wrap (l2.getD s11.toNat (0 : Int) * l2.getD s11.toNat (0 : Int)))) (IntKind.i64.wrap (s11 + (1 : Int)))))))
   (chkL (l2) (l2)
   (some (s10))))
noncomputable def shapeFills.loop21R (N : Nat) (y : List Int) (size : Int) (nn : Nat) (l2 : List Int) (s10 : Int) (s11 : Int) : Option shapeFills.loop21.R := loopF shapeFills.loop21.ann (mkL [] [] [l2] []) (evCode ((shapeFills.C N y size).inLoop shapeFills.loop21.ann) (shapeFills.K N) (inlTab (shapeFills.C N y size) 0) (bodyAt 21 Try.f5)) nn (mkL [s10, s11] [] [] [])
theorem shapeFills.loop21_eq (N : Nat) (y : List Int) (size : Int) : ∀ (nn : Nat) (l2 : List Int) (s10 : Int) (s11 : Int), shapeFills.loop21R N y size nn l2 s10 s11 = shapeFills.loop21 N y size nn l2 s10 s11
  | 0, _, _, _ => by kernel_rfl
  | nn + 1, l2, s10, s11 => by
    have h : shapeFills.loop21R N y size (nn + 1) l2 s10 s11 =
  (br (decide (s11 < ↑l2.length))
   (chk ((0 : Int) ≤ s11 ∧ s11 < ↑l2.length)
    (chk ((0 : Int) ≤ s11 ∧ s11 < ↑l2.length)
     (chkL (l2) (l2)
     (shapeFills.loop21R N y size (nn) (l2) (IntKind.i64.wrap (s10 + IntKind.i64.wrap (l2.getD s11.toNat (0 : Int) * l2.getD s11.toNat (0 : Int)))) (IntKind.i64.wrap (s11 + (1 : Int)))))))
   (chkL (l2) (l2)
   (some (s10)))) := by kernel_rfl
    rw [h, shapeFills.loop21]
    try simp only [shapeFills.loop21_eq N y size nn]
noncomputable def shapeFills.loop9 (N : Nat) (y : List Int) (size : Int) : Nat → List Int → Int → Bool → Bool → Option shapeFills.loop9.R
  | 0, _, _, _, _ => none
  | nn + 1, s0, s9, s7, s8 =>
  (br (decide (s9 < ↑s0.length))
   (br (s7)
    (chk ((0 : Int) ≤ s9 ∧ s9 < ↑s0.length)
     (br (decide (s0.getD s9.toNat (0 : Int) ≥ (-64 : Int)))
      (chk ((0 : Int) ≤ s9 ∧ s9 < ↑s0.length)
      (br (s8)
      (chkL (s0) (s0)
      (shapeFills.loop9 N y size (nn) (s0) (IntKind.i64.wrap (s9 + (1 : Int))) (decide (s0.getD s9.toNat (0 : Int) ≤ (64 : Int))) (true)))
      (chk ((0 : Int) ≤ s9 ∧ s9 < ↑s0.length)
      (chkL (s0) (s0)
      (shapeFills.loop9 N y size (nn) (s0) (IntKind.i64.wrap (s9 + (1 : Int))) (decide (s0.getD s9.toNat (0 : Int) ≤ (64 : Int))) (s0.getD s9.toNat (0 : Int) != (0 : Int)))))))
      (br (s8)
      (chkL (s0) (s0)
      (shapeFills.loop9 N y size (nn) (s0) (IntKind.i64.wrap (s9 + (1 : Int))) (false) (true)))
      (chk ((0 : Int) ≤ s9 ∧ s9 < ↑s0.length)
      (chkL (s0) (s0)
      (shapeFills.loop9 N y size (nn) (s0) (IntKind.i64.wrap (s9 + (1 : Int))) (false) (s0.getD s9.toNat (0 : Int) != (0 : Int))))))))
    (br (s8)
     (chkL (s0) (s0)
     (shapeFills.loop9 N y size (nn) (s0) (IntKind.i64.wrap (s9 + (1 : Int))) (false) (true)))
     (chk ((0 : Int) ≤ s9 ∧ s9 < ↑s0.length)
      (chkL (s0) (s0)
      (shapeFills.loop9 N y size (nn) (s0) (IntKind.i64.wrap (s9 + (1 : Int))) (false) (s0.getD s9.toNat (0 : Int) != (0 : Int)))))))
   (some ((s7, s8))))
noncomputable def shapeFills.loop9R (N : Nat) (y : List Int) (size : Int) (nn : Nat) (s0 : List Int) (s9 : Int) (s7 : Bool) (s8 : Bool) : Option shapeFills.loop9.R := loopF shapeFills.loop9.ann (mkL [] [] [s0] []) (evCode ((shapeFills.C N y size).inLoop shapeFills.loop9.ann) (shapeFills.K N) (inlTab (shapeFills.C N y size) 0) (bodyAt 9 Try.f5)) nn (mkL [s9] [s7, s8] [] [])
theorem shapeFills.loop9_eq (N : Nat) (y : List Int) (size : Int) : ∀ (nn : Nat) (s0 : List Int) (s9 : Int) (s7 : Bool) (s8 : Bool), shapeFills.loop9R N y size nn s0 s9 s7 s8 = shapeFills.loop9 N y size nn s0 s9 s7 s8
  | 0, _, _, _, _ => by kernel_rfl
  | nn + 1, s0, s9, s7, s8 => by
    have h : shapeFills.loop9R N y size (nn + 1) s0 s9 s7 s8 =
  (br (decide (s9 < ↑s0.length))
   (br (s7)
    (chk ((0 : Int) ≤ s9 ∧ s9 < ↑s0.length)
     (br (decide (s0.getD s9.toNat (0 : Int) ≥ (-64 : Int)))
      (chk ((0 : Int) ≤ s9 ∧ s9 < ↑s0.length)
      (br (s8)
      (chkL (s0) (s0)
      (shapeFills.loop9R N y size (nn) (s0) (IntKind.i64.wrap (s9 + (1 : Int))) (decide (s0.getD s9.toNat (0 : Int) ≤ (64 : Int))) (true)))
      (chk ((0 : Int) ≤ s9 ∧ s9 < ↑s0.length)
      (chkL (s0) (s0)
      (shapeFills.loop9R N y size (nn) (s0) (IntKind.i64.wrap (s9 + (1 : Int))) (decide (s0.getD s9.toNat (0 : Int) ≤ (64 : Int))) (s0.getD s9.toNat (0 : Int) != (0 : Int)))))))
      (br (s8)
      (chkL (s0) (s0)
      (shapeFills.loop9R N y size (nn) (s0) (IntKind.i64.wrap (s9 + (1 : Int))) (false) (true)))
      (chk ((0 : Int) ≤ s9 ∧ s9 < ↑s0.length)
      (chkL (s0) (s0)
      (shapeFills.loop9R N y size (nn) (s0) (IntKind.i64.wrap (s9 + (1 : Int))) (false) (s0.getD s9.toNat (0 : Int) != (0 : Int))))))))
    (br (s8)
     (chkL (s0) (s0)
     (shapeFills.loop9R N y size (nn) (s0) (IntKind.i64.wrap (s9 + (1 : Int))) (false) (true)))
     (chk ((0 : Int) ≤ s9 ∧ s9 < ↑s0.length)
      (chkL (s0) (s0)
      (shapeFills.loop9R N y size (nn) (s0) (IntKind.i64.wrap (s9 + (1 : Int))) (false) (s0.getD s9.toNat (0 : Int) != (0 : Int)))))))
   (some ((s7, s8)))) := by kernel_rfl
    rw [h, shapeFills.loop9]
    try simp only [shapeFills.loop9_eq N y size nn]
noncomputable def shapeFills.F (N : Nat) (y : List Int) (size : Int) : Option Bool :=
  (obind (Rc.awake20.F (N)) fun r0 =>
   (br (!r0)
    (some (false))
    (br (decide (↑y.length > (40 : Int)))
     (some (true))
     (chk (([] : List Int).length + y.length ≤ (17592186043904 : Nat))
      (obind (Rc.sfill.F (N) (size) (([] : List Int) ++ y)) fun r1 =>
      (br (decide (↑y.length ≥ (1 : Int)))
      (br (decide (↑y.length ≤ (16 : Int)))
      (br (decide (size ≥ (0 : Int)))
      (obind (shapeFills.loop9 N y size (N) (y) ((0 : Int)) (decide (size ≤ (33554432 : Int))) (false)) fun r2 =>
      (br (!r2.fst)
      (br (r1.fst == (1 : Int))
      (some (↑r1.snd.length == (0 : Int)))
      (some (false)))
      (br (r1.fst != (0 : Int))
      (some (false))
      (obind (Rc.rfill.F (N) (size) (y)) fun r3 =>
      (obind (Rc.same20.F (N) (r1.snd) (r3)) fun r4 =>
      (br (!r4)
      (some (false))
      (br (!r2.snd)
      (some (true))
      (br (decide (size < (1000 : Int)))
      (some (true))
      (br (decide (size > (16777216 : Int)))
      (some (true))
      (obind (shapeFills.loop21 N y size (N) (r1.snd) ((0 : Int)) ((0 : Int))) fun r5 =>
      (br (decide (IntKind.i64.wrap (r5 - IntKind.i64.wrap (IntKind.i64.wrap (size * size) * ↑y.length)) ≤ IntKind.i64.wrap ((IntKind.i64.wrap (size * size)).tdiv (5 : Int))))
      (some (decide (IntKind.i64.wrap (r5 - IntKind.i64.wrap (IntKind.i64.wrap (size * size) * ↑y.length)) ≥ IntKind.i64.wrap ((IntKind.i64.wrap (IntKind.i64.wrap ((0 : Int) - size) * size)).tdiv (5 : Int)))))
      (some (false)))))))))))))
      (obind (shapeFills.loop9 N y size (N) (y) ((0 : Int)) (false) (false)) fun r6 =>
      (br (!r6.fst)
      (br (r1.fst == (1 : Int))
      (some (↑r1.snd.length == (0 : Int)))
      (some (false)))
      (br (r1.fst != (0 : Int))
      (some (false))
      (obind (Rc.rfill.F (N) (size) (y)) fun r7 =>
      (obind (Rc.same20.F (N) (r1.snd) (r7)) fun r8 =>
      (br (!r8)
      (some (false))
      (br (!r6.snd)
      (some (true))
      (br (decide (size < (1000 : Int)))
      (some (true))
      (br (decide (size > (16777216 : Int)))
      (some (true))
      (obind (shapeFills.loop21 N y size (N) (r1.snd) ((0 : Int)) ((0 : Int))) fun r9 =>
      (br (decide (IntKind.i64.wrap (r9 - IntKind.i64.wrap (IntKind.i64.wrap (size * size) * ↑y.length)) ≤ IntKind.i64.wrap ((IntKind.i64.wrap (size * size)).tdiv (5 : Int))))
      (some (decide (IntKind.i64.wrap (r9 - IntKind.i64.wrap (IntKind.i64.wrap (size * size) * ↑y.length)) ≥ IntKind.i64.wrap ((IntKind.i64.wrap (IntKind.i64.wrap ((0 : Int) - size) * size)).tdiv (5 : Int)))))
      (some (false))))))))))))))
      (obind (shapeFills.loop9 N y size (N) (y) ((0 : Int)) (false) (false)) fun r10 =>
      (br (!r10.fst)
      (br (r1.fst == (1 : Int))
      (some (↑r1.snd.length == (0 : Int)))
      (some (false)))
      (br (r1.fst != (0 : Int))
      (some (false))
      (obind (Rc.rfill.F (N) (size) (y)) fun r11 =>
      (obind (Rc.same20.F (N) (r1.snd) (r11)) fun r12 =>
      (br (!r12)
      (some (false))
      (br (!r10.snd)
      (some (true))
      (br (decide (size < (1000 : Int)))
      (some (true))
      (br (decide (size > (16777216 : Int)))
      (some (true))
      (obind (shapeFills.loop21 N y size (N) (r1.snd) ((0 : Int)) ((0 : Int))) fun r13 =>
      (br (decide (IntKind.i64.wrap (r13 - IntKind.i64.wrap (IntKind.i64.wrap (size * size) * ↑y.length)) ≤ IntKind.i64.wrap ((IntKind.i64.wrap (size * size)).tdiv (5 : Int))))
      (some (decide (IntKind.i64.wrap (r13 - IntKind.i64.wrap (IntKind.i64.wrap (size * size) * ↑y.length)) ≥ IntKind.i64.wrap ((IntKind.i64.wrap (IntKind.i64.wrap ((0 : Int) - size) * size)).tdiv (5 : Int)))))
      (some (false))))))))))))))
      (obind (shapeFills.loop9 N y size (N) (y) ((0 : Int)) (false) (false)) fun r14 =>
      (br (!r14.fst)
      (br (r1.fst == (1 : Int))
      (some (↑r1.snd.length == (0 : Int)))
      (some (false)))
      (br (r1.fst != (0 : Int))
      (some (false))
      (obind (Rc.rfill.F (N) (size) (y)) fun r15 =>
      (obind (Rc.same20.F (N) (r1.snd) (r15)) fun r16 =>
      (br (!r16)
      (some (false))
      (br (!r14.snd)
      (some (true))
      (br (decide (size < (1000 : Int)))
      (some (true))
      (br (decide (size > (16777216 : Int)))
      (some (true))
      (obind (shapeFills.loop21 N y size (N) (r1.snd) ((0 : Int)) ((0 : Int))) fun r17 =>
      (br (decide (IntKind.i64.wrap (r17 - IntKind.i64.wrap (IntKind.i64.wrap (size * size) * ↑y.length)) ≤ IntKind.i64.wrap ((IntKind.i64.wrap (size * size)).tdiv (5 : Int))))
      (some (decide (IntKind.i64.wrap (r17 - IntKind.i64.wrap (IntKind.i64.wrap (size * size) * ↑y.length)) ≥ IntKind.i64.wrap ((IntKind.i64.wrap (IntKind.i64.wrap ((0 : Int) - size) * size)).tdiv (5 : Int)))))
      (some (false)))))))))))))))))))
theorem shapeFills.F_eq (N : Nat) (y : List Int) (size : Int) : evLaw (shapeFills.C N y size) (shapeFills.K N) 0 Try.f5 [.at (.roi .i64 y), .at (.int .i64 size)] = shapeFills.F N y size := by
  have h : evLaw (shapeFills.C N y size) (shapeFills.K N) 0 Try.f5 [.at (.roi .i64 y), .at (.int .i64 size)] =
  (obind (Rc.awake20.F (N)) fun r0 =>
   (br (!r0)
    (some (false))
    (br (decide (↑y.length > (40 : Int)))
     (some (true))
     (chk (([] : List Int).length + y.length ≤ (17592186043904 : Nat))
      (obind (Rc.sfill.F (N) (size) (([] : List Int) ++ y)) fun r1 =>
      (br (decide (↑y.length ≥ (1 : Int)))
      (br (decide (↑y.length ≤ (16 : Int)))
      (br (decide (size ≥ (0 : Int)))
      (obind (shapeFills.loop9R N y size (N) (y) ((0 : Int)) (decide (size ≤ (33554432 : Int))) (false)) fun r2 =>
      (br (!r2.fst)
      (br (r1.fst == (1 : Int))
      (some (↑r1.snd.length == (0 : Int)))
      (some (false)))
      (br (r1.fst != (0 : Int))
      (some (false))
      (obind (Rc.rfill.F (N) (size) (y)) fun r3 =>
      (obind (Rc.same20.F (N) (r1.snd) (r3)) fun r4 =>
      (br (!r4)
      (some (false))
      (br (!r2.snd)
      (some (true))
      (br (decide (size < (1000 : Int)))
      (some (true))
      (br (decide (size > (16777216 : Int)))
      (some (true))
      (obind (shapeFills.loop21R N y size (N) (r1.snd) ((0 : Int)) ((0 : Int))) fun r5 =>
      (br (decide (IntKind.i64.wrap (r5 - IntKind.i64.wrap (IntKind.i64.wrap (size * size) * ↑y.length)) ≤ IntKind.i64.wrap ((IntKind.i64.wrap (size * size)).tdiv (5 : Int))))
      (some (decide (IntKind.i64.wrap (r5 - IntKind.i64.wrap (IntKind.i64.wrap (size * size) * ↑y.length)) ≥ IntKind.i64.wrap ((IntKind.i64.wrap (IntKind.i64.wrap ((0 : Int) - size) * size)).tdiv (5 : Int)))))
      (some (false)))))))))))))
      (obind (shapeFills.loop9R N y size (N) (y) ((0 : Int)) (false) (false)) fun r6 =>
      (br (!r6.fst)
      (br (r1.fst == (1 : Int))
      (some (↑r1.snd.length == (0 : Int)))
      (some (false)))
      (br (r1.fst != (0 : Int))
      (some (false))
      (obind (Rc.rfill.F (N) (size) (y)) fun r7 =>
      (obind (Rc.same20.F (N) (r1.snd) (r7)) fun r8 =>
      (br (!r8)
      (some (false))
      (br (!r6.snd)
      (some (true))
      (br (decide (size < (1000 : Int)))
      (some (true))
      (br (decide (size > (16777216 : Int)))
      (some (true))
      (obind (shapeFills.loop21R N y size (N) (r1.snd) ((0 : Int)) ((0 : Int))) fun r9 =>
      (br (decide (IntKind.i64.wrap (r9 - IntKind.i64.wrap (IntKind.i64.wrap (size * size) * ↑y.length)) ≤ IntKind.i64.wrap ((IntKind.i64.wrap (size * size)).tdiv (5 : Int))))
      (some (decide (IntKind.i64.wrap (r9 - IntKind.i64.wrap (IntKind.i64.wrap (size * size) * ↑y.length)) ≥ IntKind.i64.wrap ((IntKind.i64.wrap (IntKind.i64.wrap ((0 : Int) - size) * size)).tdiv (5 : Int)))))
      (some (false))))))))))))))
      (obind (shapeFills.loop9R N y size (N) (y) ((0 : Int)) (false) (false)) fun r10 =>
      (br (!r10.fst)
      (br (r1.fst == (1 : Int))
      (some (↑r1.snd.length == (0 : Int)))
      (some (false)))
      (br (r1.fst != (0 : Int))
      (some (false))
      (obind (Rc.rfill.F (N) (size) (y)) fun r11 =>
      (obind (Rc.same20.F (N) (r1.snd) (r11)) fun r12 =>
      (br (!r12)
      (some (false))
      (br (!r10.snd)
      (some (true))
      (br (decide (size < (1000 : Int)))
      (some (true))
      (br (decide (size > (16777216 : Int)))
      (some (true))
      (obind (shapeFills.loop21R N y size (N) (r1.snd) ((0 : Int)) ((0 : Int))) fun r13 =>
      (br (decide (IntKind.i64.wrap (r13 - IntKind.i64.wrap (IntKind.i64.wrap (size * size) * ↑y.length)) ≤ IntKind.i64.wrap ((IntKind.i64.wrap (size * size)).tdiv (5 : Int))))
      (some (decide (IntKind.i64.wrap (r13 - IntKind.i64.wrap (IntKind.i64.wrap (size * size) * ↑y.length)) ≥ IntKind.i64.wrap ((IntKind.i64.wrap (IntKind.i64.wrap ((0 : Int) - size) * size)).tdiv (5 : Int)))))
      (some (false))))))))))))))
      (obind (shapeFills.loop9R N y size (N) (y) ((0 : Int)) (false) (false)) fun r14 =>
      (br (!r14.fst)
      (br (r1.fst == (1 : Int))
      (some (↑r1.snd.length == (0 : Int)))
      (some (false)))
      (br (r1.fst != (0 : Int))
      (some (false))
      (obind (Rc.rfill.F (N) (size) (y)) fun r15 =>
      (obind (Rc.same20.F (N) (r1.snd) (r15)) fun r16 =>
      (br (!r16)
      (some (false))
      (br (!r14.snd)
      (some (true))
      (br (decide (size < (1000 : Int)))
      (some (true))
      (br (decide (size > (16777216 : Int)))
      (some (true))
      (obind (shapeFills.loop21R N y size (N) (r1.snd) ((0 : Int)) ((0 : Int))) fun r17 =>
      (br (decide (IntKind.i64.wrap (r17 - IntKind.i64.wrap (IntKind.i64.wrap (size * size) * ↑y.length)) ≤ IntKind.i64.wrap ((IntKind.i64.wrap (size * size)).tdiv (5 : Int))))
      (some (decide (IntKind.i64.wrap (r17 - IntKind.i64.wrap (IntKind.i64.wrap (size * size) * ↑y.length)) ≥ IntKind.i64.wrap ((IntKind.i64.wrap (IntKind.i64.wrap ((0 : Int) - size) * size)).tdiv (5 : Int)))))
      (some (false))))))))))))))))))) := by kernel_rfl
  rw [h, shapeFills.F]
  try simp only [shapeFills.loop9_eq N y size, shapeFills.loop21_eq N y size]
theorem shapeFills.cok (N : Nat) (y : List Int) (size : Int) : CfgOK (shapeFills.C N y size) := ⟨fun _ _ _ _ h => by simp [shapeFills.C, noRT] at h, wide, by
  simp only [shapeFills.C, List.mem_cons, List.not_mem_nil, or_false, forall_eq_or_imp, forall_eq, false_imp_iff, implies_true]
  exact ⟨⟨awake20.ok, by kernel_rfl⟩, ⟨sfill.ok, by kernel_rfl⟩, ⟨rfill.ok, by kernel_rfl⟩, ⟨same20.ok, by kernel_rfl⟩⟩, fun g hg => by simp [shapeFills.C] at hg, fun m hm => by simp [shapeFills.C] at hm, fun q hq => by simp [shapeFills.C] at hq⟩
theorem shapeFills.aok (N : Nat) : AnnsOK (shapeFills.K N) := by
  intro q hq
  simp only [shapeFills.K, List.mem_cons, List.not_mem_nil, or_false] at hq
  rcases hq with rfl | rfl
  · exact fun _ _ => ⟨rfl, rfl⟩
  · exact fun _ _ => ⟨rfl, rfl⟩
theorem shapeFills.walk {w : World} {N : Nat} (y : List Int) (size : Int) {cargs : Array Value} (ha : All2 (RV noRT (lawE w)) [.at (.roi .i64 y), .at (.int .i64 size)] cargs.toList) (h : shapeFills.F N y size = some true) :
    Calls Try.prog 5 cargs w fun e w' => e = .returned (.bool true) ∧ Frm w (fun _ => False) w' :=
  law_sound (C := shapeFills.C N y size) (K := shapeFills.K N) (d := 0) (fn := Try.f5) (shapeFills.cok N y size) (fun q hq => by simp [shapeFills.C] at hq) (shapeFills.aok N) (by kernel_rfl) ha ((shapeFills.F_eq N y size).trans h)

noncomputable def shapeReads.C (N : Nat) (b : List Int) (n : Int) (bits : Int) (eq : Int) (seed : Int) : Cfg := { P := Try.prog, N := N, RT := noRT, specs := [(10, awake20.spec), (13, new.spec), (12, sread.spec), (29, tell.spec), (25, rnew.spec), (26, rband.spec), (16, same20.spec), (27, rtell.spec)], inl := [], hi := 0, mv := [] }
noncomputable def shapeReads.K (N : Nat) : FCfg := { anns := [], unr := [], lits := [], lets := [] }
noncomputable def shapeReads.F (N : Nat) (b : List Int) (n : Int) (bits : Int) (eq : Int) (seed : Int) : Option Bool :=
  (obind (Rc.awake20.F (N)) fun r0 =>
   (br (!r0)
    (some (false))
    (br (decide (↑b.length > (500 : Int)))
     (some (true))
     (br (decide (n > (200 : Int)))
      (some (true))
      (obind (Rc.new.F (N) (b)) fun r1 =>
      (obind (Rc.sread.F (N) (n) (bits) (eq) (r1.fst) (r1.snd.fst) (r1.snd.snd.fst) (r1.snd.snd.snd.fst) (r1.snd.snd.snd.snd.fst) (r1.snd.snd.snd.snd.snd.fst) (r1.snd.snd.snd.snd.snd.snd.fst) (r1.snd.snd.snd.snd.snd.snd.snd.fst) (seed) (r1.snd.snd.snd.snd.snd.snd.snd.snd.fst) (r1.snd.snd.snd.snd.snd.snd.snd.snd.snd)) fun r2 =>
      (br (decide (n < (1 : Int)))
      (br (r2.fst == (1 : Int))
      (br (↑r2.snd.snd.snd.snd.snd.snd.snd.snd.snd.snd.snd.length == (0 : Int))
      (obind (Rc.tell.F (N) (r2.snd.fst) (r2.snd.snd.fst) (r2.snd.snd.snd.fst) (r2.snd.snd.snd.snd.fst) (r2.snd.snd.snd.snd.snd.fst) (r2.snd.snd.snd.snd.snd.snd.fst) (r2.snd.snd.snd.snd.snd.snd.snd.fst) (r2.snd.snd.snd.snd.snd.snd.snd.snd.fst) (r2.snd.snd.snd.snd.snd.snd.snd.snd.snd.snd.fst) (r1.snd.snd.snd.snd.snd.snd.snd.snd.snd)) fun r3 =>
      (br (r3 == (1 : Int))
      (some (r2.snd.snd.snd.snd.snd.snd.snd.snd.snd.fst == seed))
      (some (false))))
      (some (false)))
      (some (false)))
      (br (decide (bits < (0 : Int)))
      (br (r2.fst == (1 : Int))
      (br (↑r2.snd.snd.snd.snd.snd.snd.snd.snd.snd.snd.snd.length == (0 : Int))
      (obind (Rc.tell.F (N) (r2.snd.fst) (r2.snd.snd.fst) (r2.snd.snd.snd.fst) (r2.snd.snd.snd.snd.fst) (r2.snd.snd.snd.snd.snd.fst) (r2.snd.snd.snd.snd.snd.snd.fst) (r2.snd.snd.snd.snd.snd.snd.snd.fst) (r2.snd.snd.snd.snd.snd.snd.snd.snd.fst) (r2.snd.snd.snd.snd.snd.snd.snd.snd.snd.snd.fst) (r1.snd.snd.snd.snd.snd.snd.snd.snd.snd)) fun r4 =>
      (br (r4 == (1 : Int))
      (some (r2.snd.snd.snd.snd.snd.snd.snd.snd.snd.fst == seed))
      (some (false))))
      (some (false)))
      (some (false)))
      (br (decide (bits > (1048576 : Int)))
      (br (r2.fst == (1 : Int))
      (br (↑r2.snd.snd.snd.snd.snd.snd.snd.snd.snd.snd.snd.length == (0 : Int))
      (obind (Rc.tell.F (N) (r2.snd.fst) (r2.snd.snd.fst) (r2.snd.snd.snd.fst) (r2.snd.snd.snd.snd.fst) (r2.snd.snd.snd.snd.snd.fst) (r2.snd.snd.snd.snd.snd.snd.fst) (r2.snd.snd.snd.snd.snd.snd.snd.fst) (r2.snd.snd.snd.snd.snd.snd.snd.snd.fst) (r2.snd.snd.snd.snd.snd.snd.snd.snd.snd.snd.fst) (r1.snd.snd.snd.snd.snd.snd.snd.snd.snd)) fun r5 =>
      (br (r5 == (1 : Int))
      (some (r2.snd.snd.snd.snd.snd.snd.snd.snd.snd.fst == seed))
      (some (false))))
      (some (false)))
      (some (false)))
      (obind (Rc.rnew.F (N) (b)) fun r6 =>
      (br (r2.fst == (0 : Int))
      (obind (Rc.rband.F (N) (n) (bits) (eq) (r6.fst) (r6.snd.fst) (r6.snd.snd.fst) (r6.snd.snd.snd.fst) (r6.snd.snd.snd.snd.fst) (r6.snd.snd.snd.snd.snd.fst) (r6.snd.snd.snd.snd.snd.snd.fst) (r6.snd.snd.snd.snd.snd.snd.snd.fst) (r6.snd.snd.snd.snd.snd.snd.snd.snd.fst) (seed) (r6.snd.snd.snd.snd.snd.snd.snd.snd.snd.fst) (r6.snd.snd.snd.snd.snd.snd.snd.snd.snd.snd)) fun r7 =>
      (obind (Rc.same20.F (N) (r2.snd.snd.snd.snd.snd.snd.snd.snd.snd.snd.snd) (r7.snd.snd.snd.snd.snd.snd.snd.snd.snd.snd.snd)) fun r8 =>
      (br (r8)
      (obind (Rc.tell.F (N) (r2.snd.fst) (r2.snd.snd.fst) (r2.snd.snd.snd.fst) (r2.snd.snd.snd.snd.fst) (r2.snd.snd.snd.snd.snd.fst) (r2.snd.snd.snd.snd.snd.snd.fst) (r2.snd.snd.snd.snd.snd.snd.snd.fst) (r2.snd.snd.snd.snd.snd.snd.snd.snd.fst) (r2.snd.snd.snd.snd.snd.snd.snd.snd.snd.snd.fst) (r1.snd.snd.snd.snd.snd.snd.snd.snd.snd)) fun r9 =>
      (obind (Rc.rtell.F (N) (r7.fst) (r7.snd.fst) (r7.snd.snd.fst) (r7.snd.snd.snd.fst) (r7.snd.snd.snd.snd.fst) (r7.snd.snd.snd.snd.snd.fst) (r7.snd.snd.snd.snd.snd.snd.fst) (r7.snd.snd.snd.snd.snd.snd.snd.fst) (r7.snd.snd.snd.snd.snd.snd.snd.snd.fst) (r7.snd.snd.snd.snd.snd.snd.snd.snd.snd.snd.fst) (r6.snd.snd.snd.snd.snd.snd.snd.snd.snd.snd)) fun r10 =>
      (br (r9 == r10)
      (some (r2.snd.snd.snd.snd.snd.snd.snd.snd.snd.fst == r7.snd.snd.snd.snd.snd.snd.snd.snd.snd.fst))
      (some (false)))))
      (some (false)))))
      (some (false)))))))))))))
theorem shapeReads.F_eq (N : Nat) (b : List Int) (n : Int) (bits : Int) (eq : Int) (seed : Int) : evLaw (shapeReads.C N b n bits eq seed) (shapeReads.K N) 0 Try.f8 [.at (.roi .u8 b), .at (.int .i64 n), .at (.int .i64 bits), .at (.int .i64 eq), .at (.int .u32 seed)] = shapeReads.F N b n bits eq seed := by
  kernel_rfl
theorem shapeReads.cok (N : Nat) (b : List Int) (n : Int) (bits : Int) (eq : Int) (seed : Int) : CfgOK (shapeReads.C N b n bits eq seed) := ⟨fun _ _ _ _ h => by simp [shapeReads.C, noRT] at h, wide, by
  simp only [shapeReads.C, List.mem_cons, List.not_mem_nil, or_false, forall_eq_or_imp, forall_eq, false_imp_iff, implies_true]
  exact ⟨⟨awake20.ok, by kernel_rfl⟩, ⟨new.ok, by kernel_rfl⟩, ⟨sread.ok, by kernel_rfl⟩, ⟨tell.ok, by kernel_rfl⟩, ⟨rnew.ok, by kernel_rfl⟩, ⟨rband.ok, by kernel_rfl⟩, ⟨same20.ok, by kernel_rfl⟩, ⟨rtell.ok, by kernel_rfl⟩⟩, fun g hg => by simp [shapeReads.C] at hg, fun m hm => by simp [shapeReads.C] at hm, fun q hq => by simp [shapeReads.C] at hq⟩
theorem shapeReads.aok (N : Nat) : AnnsOK (shapeReads.K N) := by
  intro q hq
  simp only [shapeReads.K, List.mem_cons, List.not_mem_nil, or_false] at hq
theorem shapeReads.walk {w : World} {N : Nat} (b : List Int) (n : Int) (bits : Int) (eq : Int) (seed : Int) {cargs : Array Value} (ha : All2 (RV noRT (lawE w)) [.at (.roi .u8 b), .at (.int .i64 n), .at (.int .i64 bits), .at (.int .i64 eq), .at (.int .u32 seed)] cargs.toList) (h : shapeReads.F N b n bits eq seed = some true) :
    Calls Try.prog 8 cargs w fun e w' => e = .returned (.bool true) ∧ Frm w (fun _ => False) w' :=
  law_sound (C := shapeReads.C N b n bits eq seed) (K := shapeReads.K N) (d := 0) (fn := Try.f8) (shapeReads.cok N b n bits eq seed) (fun q hq => by simp [shapeReads.C] at hq) (shapeReads.aok N) (by kernel_rfl) ha ((shapeReads.F_eq N b n bits eq seed).trans h)

noncomputable def shapeBack.C (N : Nat) (f : List Int) (bits : Int) (eq : Int) (seed : Int) : Cfg := { P := Try.prog, N := N, RT := noRT, specs := [(10, awake20.spec), (15, enew.spec), (14, swrite.spec), (23, etell.spec), (24, edone.spec), (25, rnew.spec), (26, rband.spec), (16, same20.spec), (27, rtell.spec)], inl := [], hi := 0, mv := [] }
noncomputable def shapeBack.K (N : Nat) : FCfg := { anns := [], unr := [], lits := [], lets := [], frz := [13] }
noncomputable def shapeBack.F (N : Nat) (f : List Int) (bits : Int) (eq : Int) (seed : Int) : Option Bool :=
  (obind (Rc.awake20.F (N)) fun r0 =>
   (br (!r0)
    (some (false))
    (br (decide (↑f.length > (200 : Int)))
     (some (true))
     (obind (Rc.enew.F (N)) fun r1 =>
      (chk (([] : List Int).length + f.length ≤ (17592186043904 : Nat))
      (obind (Rc.swrite.F (N) (bits) (eq) (r1.fst) (r1.snd.fst) (r1.snd.snd.fst) (r1.snd.snd.snd.fst) (seed) (([] : List Int) ++ f) (r1.snd.snd.snd.snd.fst) (r1.snd.snd.snd.snd.snd)) fun r2 =>
      (br (decide (↑f.length < (1 : Int)))
      (br (r2.fst == (1 : Int))
      (br (↑r2.snd.snd.snd.snd.snd.snd.fst.length == (0 : Int))
      (obind (Rc.etell.F (N) (r2.snd.fst) (r2.snd.snd.fst) (r2.snd.snd.snd.fst) (r2.snd.snd.snd.snd.fst) (r2.snd.snd.snd.snd.snd.snd.snd.fst) (r2.snd.snd.snd.snd.snd.snd.snd.snd)) fun r3 =>
      (some (r3 == (1 : Int))))
      (some (false)))
      (some (false)))
      (br (decide (bits < (0 : Int)))
      (br (r2.fst == (1 : Int))
      (br (↑r2.snd.snd.snd.snd.snd.snd.fst.length == (0 : Int))
      (obind (Rc.etell.F (N) (r2.snd.fst) (r2.snd.snd.fst) (r2.snd.snd.snd.fst) (r2.snd.snd.snd.snd.fst) (r2.snd.snd.snd.snd.snd.snd.snd.fst) (r2.snd.snd.snd.snd.snd.snd.snd.snd)) fun r4 =>
      (some (r4 == (1 : Int))))
      (some (false)))
      (some (false)))
      (br (decide (bits > (1048576 : Int)))
      (br (r2.fst == (1 : Int))
      (br (↑r2.snd.snd.snd.snd.snd.snd.fst.length == (0 : Int))
      (obind (Rc.etell.F (N) (r2.snd.fst) (r2.snd.snd.fst) (r2.snd.snd.snd.fst) (r2.snd.snd.snd.snd.fst) (r2.snd.snd.snd.snd.snd.snd.snd.fst) (r2.snd.snd.snd.snd.snd.snd.snd.snd)) fun r5 =>
      (some (r5 == (1 : Int))))
      (some (false)))
      (some (false)))
      (obind (Rc.etell.F (N) (r2.snd.fst) (r2.snd.snd.fst) (r2.snd.snd.snd.fst) (r2.snd.snd.snd.snd.fst) (r2.snd.snd.snd.snd.snd.snd.snd.fst) (r2.snd.snd.snd.snd.snd.snd.snd.snd)) fun r6 =>
      (br (decide (r6 > IntKind.i64.wrap (IntKind.i64.wrap (bits + (3 : Int)) + ↑f.length)))
      (some (false))
      (obind (Rc.edone.F (N) ((1275 : Int)) (r2.snd.fst) (r2.snd.snd.fst) (r2.snd.snd.snd.fst) (r2.snd.snd.snd.snd.fst) (r2.snd.snd.snd.snd.snd.snd.snd.fst) (r2.snd.snd.snd.snd.snd.snd.snd.snd)) fun r7 =>
      (br (r2.fst != (0 : Int))
      (br (r2.fst == (0 : Int))
      (some (r7.fst == (2 : Int)))
      (some (false)))
      (br (r7.fst != (0 : Int))
      (br (r2.fst == (0 : Int))
      (some (r7.fst == (2 : Int)))
      (some (false)))
      (obind (Rc.rnew.F (N) (r7.snd)) fun r8 =>
      (obind (Rc.rband.F (N) (↑f.length) (bits) (eq) (r8.fst) (r8.snd.fst) (r8.snd.snd.fst) (r8.snd.snd.snd.fst) (r8.snd.snd.snd.snd.fst) (r8.snd.snd.snd.snd.snd.fst) (r8.snd.snd.snd.snd.snd.snd.fst) (r8.snd.snd.snd.snd.snd.snd.snd.fst) (r8.snd.snd.snd.snd.snd.snd.snd.snd.fst) (seed) (r8.snd.snd.snd.snd.snd.snd.snd.snd.snd.fst) (r8.snd.snd.snd.snd.snd.snd.snd.snd.snd.snd)) fun r9 =>
      (obind (Rc.same20.F (N) (r2.snd.snd.snd.snd.snd.snd.fst) (r9.snd.snd.snd.snd.snd.snd.snd.snd.snd.snd.snd)) fun r10 =>
      (br (r10)
      (br (r2.snd.snd.snd.snd.snd.fst == r9.snd.snd.snd.snd.snd.snd.snd.snd.snd.fst)
      (obind (Rc.rtell.F (N) (r9.fst) (r9.snd.fst) (r9.snd.snd.fst) (r9.snd.snd.snd.fst) (r9.snd.snd.snd.snd.fst) (r9.snd.snd.snd.snd.snd.fst) (r9.snd.snd.snd.snd.snd.snd.fst) (r9.snd.snd.snd.snd.snd.snd.snd.fst) (r9.snd.snd.snd.snd.snd.snd.snd.snd.fst) (r9.snd.snd.snd.snd.snd.snd.snd.snd.snd.snd.fst) (r8.snd.snd.snd.snd.snd.snd.snd.snd.snd.snd)) fun r11 =>
      (obind (Rc.etell.F (N) (r2.snd.fst) (r2.snd.snd.fst) (r2.snd.snd.snd.fst) (r2.snd.snd.snd.snd.fst) (r2.snd.snd.snd.snd.snd.snd.snd.fst) (r2.snd.snd.snd.snd.snd.snd.snd.snd)) fun r12 =>
      (some (r11 == r12))))
      (some (false)))
      (some (false))))))))))))))))))))
theorem shapeBack.F_eq (N : Nat) (f : List Int) (bits : Int) (eq : Int) (seed : Int) : evLaw (shapeBack.C N f bits eq seed) (shapeBack.K N) 0 Try.f6 [.at (.roi .i64 f), .at (.int .i64 bits), .at (.int .i64 eq), .at (.int .u32 seed)] = shapeBack.F N f bits eq seed := by
  kernel_rfl
theorem shapeBack.cok (N : Nat) (f : List Int) (bits : Int) (eq : Int) (seed : Int) : CfgOK (shapeBack.C N f bits eq seed) := ⟨fun _ _ _ _ h => by simp [shapeBack.C, noRT] at h, wide, by
  simp only [shapeBack.C, List.mem_cons, List.not_mem_nil, or_false, forall_eq_or_imp, forall_eq, false_imp_iff, implies_true]
  exact ⟨⟨awake20.ok, by kernel_rfl⟩, ⟨enew.ok, by kernel_rfl⟩, ⟨swrite.ok, by kernel_rfl⟩, ⟨etell.ok, by kernel_rfl⟩, ⟨edone.ok, by kernel_rfl⟩, ⟨rnew.ok, by kernel_rfl⟩, ⟨rband.ok, by kernel_rfl⟩, ⟨same20.ok, by kernel_rfl⟩, ⟨rtell.ok, by kernel_rfl⟩⟩, fun g hg => by simp [shapeBack.C] at hg, fun m hm => by simp [shapeBack.C] at hm, fun q hq => by simp [shapeBack.C] at hq⟩
theorem shapeBack.aok (N : Nat) : AnnsOK (shapeBack.K N) := by
  intro q hq
  simp only [shapeBack.K, List.mem_cons, List.not_mem_nil, or_false] at hq
theorem shapeBack.walk {w : World} {N : Nat} (f : List Int) (bits : Int) (eq : Int) (seed : Int) {cargs : Array Value} (ha : All2 (RV noRT (lawE w)) [.at (.roi .i64 f), .at (.int .i64 bits), .at (.int .i64 eq), .at (.int .u32 seed)] cargs.toList) (h : shapeBack.F N f bits eq seed = some true) :
    Calls Try.prog 6 cargs w fun e w' => e = .returned (.bool true) ∧ Frm w (fun _ => False) w' :=
  law_sound (C := shapeBack.C N f bits eq seed) (K := shapeBack.K N) (d := 0) (fn := Try.f6) (shapeBack.cok N f bits eq seed) (fun q hq => by simp [shapeBack.C] at hq) (shapeBack.aok N) (by kernel_rfl) ha ((shapeBack.F_eq N f bits eq seed).trans h)

noncomputable def shapeSigns.C (N : Nat) (f : List Int) (eq : Int) : Cfg := { P := Try.prog, N := N, RT := noRT, specs := [(10, awake20.spec), (28, size20.spec), (15, enew.spec), (14, swrite.spec)], inl := [], hi := 0, mv := [] }
abbrev shapeSigns.loop7.R : Type := Int × Bool
noncomputable def shapeSigns.loop7.ann : Ann := { nx := 20, slots := [(0, .at (.froi .i64 0)), (4, .at (.bool 0)), (5, .at (.int .i64 0)), (6, .at (.int .i64 1))], blks := [], mov := [], exId := 0, xslots := [(4, .at (.bool 0)), (5, .at (.int .i64 0))], xblks := [], T := shapeSigns.loop7.R, dec := fun L => (L.i 0, L.b 0), enc := fun r => mkL [r.1] [r.2] [] [], ret := true }
noncomputable def shapeSigns.K (N : Nat) : FCfg := { anns := [(7, shapeSigns.loop7.ann)], unr := [], lits := [], lets := [] }
noncomputable def shapeSigns.loop7 (N : Nat) (f : List Int) (eq : Int) : Nat → List Int → Int → Int → Bool → Option (shapeSigns.loop7.R ⊕ Bool)
  | 0, _, _, _, _ => none
  | nn + 1, s0, s5, s6, s4 =>
  (br (decide (s6 < ↑s0.length))
   (chk ((0 : Int) ≤ s6 ∧ s6 < ↑s0.length)
    (br (decide (s0.getD s6.toNat (0 : Int) > (16777216 : Int)))
     (omap
      (some (true)) .inr)
     (chk ((0 : Int) ≤ s6 ∧ s6 < ↑s0.length)
      (br (decide (s0.getD s6.toNat (0 : Int) < (-16777216 : Int)))
      (omap
      (some (true)) .inr)
      (chk ((0 : Int) ≤ s6 ∧ s6 < ↑s0.length)
      (obind (Rc.size20.F (N) (s0.getD s6.toNat (0 : Int))) fun r0 =>
      (chk ((0 : Int) ≤ s5 ∧ s5 < ↑s0.length)
      (obind (Rc.size20.F (N) (s0.getD s5.toNat (0 : Int))) fun r1 =>
      (br (decide (r0 > r1))
      (chkL (s0) (s0)
      (shapeSigns.loop7 N f eq (nn) (s0) (s6) (IntKind.i64.wrap (s6 + (1 : Int))) (s4)))
      (chkL (s0) (s0)
      (shapeSigns.loop7 N f eq (nn) (s0) (s5) (IntKind.i64.wrap (s6 + (1 : Int))) (s4))))))))))))
   (some (Sum.inl (s5, s4))))
noncomputable def shapeSigns.loop7R (N : Nat) (f : List Int) (eq : Int) (nn : Nat) (s0 : List Int) (s5 : Int) (s6 : Int) (s4 : Bool) : Option (shapeSigns.loop7.R ⊕ Bool) := loopR shapeSigns.loop7.ann (mkL [] [] [s0] []) (evCode ((shapeSigns.C N f eq).inLoop shapeSigns.loop7.ann) (shapeSigns.K N) (inlTab (shapeSigns.C N f eq) 0) (bodyAt 7 Try.f7)) (lawKr Try.prog Try.f7) nn (mkL [s5, s6] [s4] [] [])
theorem shapeSigns.loop7_eq (N : Nat) (f : List Int) (eq : Int) : ∀ (nn : Nat) (s0 : List Int) (s5 : Int) (s6 : Int) (s4 : Bool), shapeSigns.loop7R N f eq nn s0 s5 s6 s4 = shapeSigns.loop7 N f eq nn s0 s5 s6 s4
  | 0, _, _, _, _ => by kernel_rfl
  | nn + 1, s0, s5, s6, s4 => by
    have h : shapeSigns.loop7R N f eq (nn + 1) s0 s5 s6 s4 =
  (br (decide (s6 < ↑s0.length))
   (chk ((0 : Int) ≤ s6 ∧ s6 < ↑s0.length)
    (br (decide (s0.getD s6.toNat (0 : Int) > (16777216 : Int)))
     (omap
      (some (true)) .inr)
     (chk ((0 : Int) ≤ s6 ∧ s6 < ↑s0.length)
      (br (decide (s0.getD s6.toNat (0 : Int) < (-16777216 : Int)))
      (omap
      (some (true)) .inr)
      (chk ((0 : Int) ≤ s6 ∧ s6 < ↑s0.length)
      (obind (Rc.size20.F (N) (s0.getD s6.toNat (0 : Int))) fun r0 =>
      (chk ((0 : Int) ≤ s5 ∧ s5 < ↑s0.length)
      (obind (Rc.size20.F (N) (s0.getD s5.toNat (0 : Int))) fun r1 =>
      (br (decide (r0 > r1))
      (chkL (s0) (s0)
      (shapeSigns.loop7R N f eq (nn) (s0) (s6) (IntKind.i64.wrap (s6 + (1 : Int))) (s4)))
      (chkL (s0) (s0)
      (shapeSigns.loop7R N f eq (nn) (s0) (s5) (IntKind.i64.wrap (s6 + (1 : Int))) (s4))))))))))))
   (some (Sum.inl (s5, s4)))) := by kernel_rfl
    rw [h, shapeSigns.loop7]
    try simp only [shapeSigns.loop7_eq N f eq nn]
noncomputable def shapeSigns.F (N : Nat) (f : List Int) (eq : Int) : Option Bool :=
  (obind (Rc.awake20.F (N)) fun r0 =>
   (br (!r0)
    (some (false))
    (br (decide (↑f.length < (1 : Int)))
     (some (true))
     (br (decide (↑f.length > (16 : Int)))
      (some (true))
      (br (decide (eq < (8 : Int)))
      (some (true))
      (br (decide (eq > (100 : Int)))
      (some (true))
      (osum (shapeSigns.loop7 N f eq (N) (f) ((0 : Int)) ((0 : Int)) (false)) fun r1 =>
      (chk ((0 : Int) ≤ r1.fst ∧ r1.fst < ↑f.length)
      (br (f.getD r1.fst.toNat (0 : Int) == (0 : Int))
      (some (true))
      (obind (Rc.enew.F (N)) fun r2 =>
      (obind (Rc.swrite.F (N) ((32 : Int)) (eq) (r2.fst) (r2.snd.fst) (r2.snd.snd.fst) (r2.snd.snd.snd.fst) ((0 : Int)) (f) (r2.snd.snd.snd.snd.fst) (r2.snd.snd.snd.snd.snd)) fun r3 =>
      (br (r3.fst != (0 : Int))
      (some (false))
      (br ((r3.snd.snd.snd.snd.snd.snd.fst.length : Int) != ↑f.length)
      (some (false))
      (chk ((0 : Int) ≤ r1.fst ∧ r1.fst < ↑r3.snd.snd.snd.snd.snd.snd.fst.length)
      (br (decide (r3.snd.snd.snd.snd.snd.snd.fst.getD r1.fst.toNat (0 : Int) > (0 : Int)))
      (chk ((0 : Int) ≤ r1.fst ∧ r1.fst < ↑f.length)
      (br (decide (f.getD r1.fst.toNat (0 : Int) > (0 : Int)))
      (some (true))
      (chk ((0 : Int) ≤ r1.fst ∧ r1.fst < ↑r3.snd.snd.snd.snd.snd.snd.fst.length)
      (br (decide (r3.snd.snd.snd.snd.snd.snd.fst.getD r1.fst.toNat (0 : Int) < (0 : Int)))
      (chk ((0 : Int) ≤ r1.fst ∧ r1.fst < ↑f.length)
      (some (decide (f.getD r1.fst.toNat (0 : Int) < (0 : Int)))))
      (some (false))))))
      (chk ((0 : Int) ≤ r1.fst ∧ r1.fst < ↑r3.snd.snd.snd.snd.snd.snd.fst.length)
      (br (decide (r3.snd.snd.snd.snd.snd.snd.fst.getD r1.fst.toNat (0 : Int) < (0 : Int)))
      (chk ((0 : Int) ≤ r1.fst ∧ r1.fst < ↑f.length)
      (some (decide (f.getD r1.fst.toNat (0 : Int) < (0 : Int)))))
      (some (false)))))))))))))))))))
theorem shapeSigns.F_eq (N : Nat) (f : List Int) (eq : Int) : evLaw (shapeSigns.C N f eq) (shapeSigns.K N) 0 Try.f7 [.at (.roi .i64 f), .at (.int .i64 eq)] = shapeSigns.F N f eq := by
  have h : evLaw (shapeSigns.C N f eq) (shapeSigns.K N) 0 Try.f7 [.at (.roi .i64 f), .at (.int .i64 eq)] =
  (obind (Rc.awake20.F (N)) fun r0 =>
   (br (!r0)
    (some (false))
    (br (decide (↑f.length < (1 : Int)))
     (some (true))
     (br (decide (↑f.length > (16 : Int)))
      (some (true))
      (br (decide (eq < (8 : Int)))
      (some (true))
      (br (decide (eq > (100 : Int)))
      (some (true))
      (osum (shapeSigns.loop7R N f eq (N) (f) ((0 : Int)) ((0 : Int)) (false)) fun r1 =>
      (chk ((0 : Int) ≤ r1.fst ∧ r1.fst < ↑f.length)
      (br (f.getD r1.fst.toNat (0 : Int) == (0 : Int))
      (some (true))
      (obind (Rc.enew.F (N)) fun r2 =>
      (obind (Rc.swrite.F (N) ((32 : Int)) (eq) (r2.fst) (r2.snd.fst) (r2.snd.snd.fst) (r2.snd.snd.snd.fst) ((0 : Int)) (f) (r2.snd.snd.snd.snd.fst) (r2.snd.snd.snd.snd.snd)) fun r3 =>
      (br (r3.fst != (0 : Int))
      (some (false))
      (br ((r3.snd.snd.snd.snd.snd.snd.fst.length : Int) != ↑f.length)
      (some (false))
      (chk ((0 : Int) ≤ r1.fst ∧ r1.fst < ↑r3.snd.snd.snd.snd.snd.snd.fst.length)
      (br (decide (r3.snd.snd.snd.snd.snd.snd.fst.getD r1.fst.toNat (0 : Int) > (0 : Int)))
      (chk ((0 : Int) ≤ r1.fst ∧ r1.fst < ↑f.length)
      (br (decide (f.getD r1.fst.toNat (0 : Int) > (0 : Int)))
      (some (true))
      (chk ((0 : Int) ≤ r1.fst ∧ r1.fst < ↑r3.snd.snd.snd.snd.snd.snd.fst.length)
      (br (decide (r3.snd.snd.snd.snd.snd.snd.fst.getD r1.fst.toNat (0 : Int) < (0 : Int)))
      (chk ((0 : Int) ≤ r1.fst ∧ r1.fst < ↑f.length)
      (some (decide (f.getD r1.fst.toNat (0 : Int) < (0 : Int)))))
      (some (false))))))
      (chk ((0 : Int) ≤ r1.fst ∧ r1.fst < ↑r3.snd.snd.snd.snd.snd.snd.fst.length)
      (br (decide (r3.snd.snd.snd.snd.snd.snd.fst.getD r1.fst.toNat (0 : Int) < (0 : Int)))
      (chk ((0 : Int) ≤ r1.fst ∧ r1.fst < ↑f.length)
      (some (decide (f.getD r1.fst.toNat (0 : Int) < (0 : Int)))))
      (some (false))))))))))))))))))) := by kernel_rfl
  rw [h, shapeSigns.F]
  try simp only [shapeSigns.loop7_eq N f eq]
theorem shapeSigns.cok (N : Nat) (f : List Int) (eq : Int) : CfgOK (shapeSigns.C N f eq) := ⟨fun _ _ _ _ h => by simp [shapeSigns.C, noRT] at h, wide, by
  simp only [shapeSigns.C, List.mem_cons, List.not_mem_nil, or_false, forall_eq_or_imp, forall_eq, false_imp_iff, implies_true]
  exact ⟨⟨awake20.ok, by kernel_rfl⟩, ⟨size20.ok, by kernel_rfl⟩, ⟨enew.ok, by kernel_rfl⟩, ⟨swrite.ok, by kernel_rfl⟩⟩, fun g hg => by simp [shapeSigns.C] at hg, fun m hm => by simp [shapeSigns.C] at hm, fun q hq => by simp [shapeSigns.C] at hq⟩
theorem shapeSigns.aok (N : Nat) : AnnsOK (shapeSigns.K N) := by
  intro q hq
  simp only [shapeSigns.K, List.mem_cons, List.not_mem_nil, or_false] at hq
  subst hq
  exact fun _ _ => ⟨rfl, rfl⟩
theorem shapeSigns.walk {w : World} {N : Nat} (f : List Int) (eq : Int) {cargs : Array Value} (ha : All2 (RV noRT (lawE w)) [.at (.roi .i64 f), .at (.int .i64 eq)] cargs.toList) (h : shapeSigns.F N f eq = some true) :
    Calls Try.prog 7 cargs w fun e w' => e = .returned (.bool true) ∧ Frm w (fun _ => False) w' :=
  law_sound (C := shapeSigns.C N f eq) (K := shapeSigns.K N) (d := 0) (fn := Try.f7) (shapeSigns.cok N f eq) (fun q hq => by simp [shapeSigns.C] at hq) (shapeSigns.aok N) (by kernel_rfl) ha ((shapeSigns.F_eq N f eq).trans h)

noncomputable def shapeEmpty.C (N : Nat) (b : List Int) (n : Int) (eq : Int) (seed : Int) : Cfg := { P := Try.prog, N := N, RT := noRT, specs := [(10, awake20.spec), (13, new.spec), (12, sread.spec), (29, tell.spec), (30, esize.spec)], inl := [], hi := 0, mv := [] }
abbrev shapeEmpty.loop14.R : Type := Bool
noncomputable def shapeEmpty.loop14.ann : Ann := { nx := 20, slots := [(1, .at (.fint .i64 0)), (8, .at (.bool 0)), (11, .at (.full 3 false)), (13, .at (.fint .i64 1)), (14, .at (.int .i64 0))], blks := [(3, .fints true .i64 0)], mov := [], exId := 0, xslots := [(11, .at (.full 3 false)), (8, .at (.bool 0))], xblks := [(3, .fints true .i64 0)], T := shapeEmpty.loop14.R, dec := fun L => (L.b 0), enc := fun r => mkL [] [r] [] [], ret := true }
noncomputable def shapeEmpty.K (N : Nat) : FCfg := { anns := [(14, shapeEmpty.loop14.ann)], unr := [], lits := [], lets := [] }
noncomputable def shapeEmpty.loop14 (N : Nat) (b : List Int) (n : Int) (eq : Int) (seed : Int) : Nat → Int → Int → List Int → Int → Bool → Option (shapeEmpty.loop14.R ⊕ Bool)
  | 0, _, _, _, _, _ => none
  | nn + 1, s1, s13, l3, s14, s8 =>
  (br (decide (s14 < s1))
   (chk ((0 : Int) ≤ s14 ∧ s14 < ↑l3.length)
    (br (l3.getD s14.toNat (0 : Int) != s13)
     (chk ((0 : Int) ≤ s14 ∧ s14 < ↑l3.length)
      (br (l3.getD s14.toNat (0 : Int) != IntKind.i64.wrap ((0 : Int) - s13))
      (omap
      (some (false)) .inr)
      (chkI (s1) (s1)
      (chkI (s13) (s13)
      (chkL (l3) (l3)
      (shapeEmpty.loop14 N b n eq seed (nn) (s1) (s13) (l3) (IntKind.i64.wrap (s14 + (1 : Int))) (s8)))))))
     (chkI (s1) (s1)
     (chkI (s13) (s13)
     (chkL (l3) (l3)
     (shapeEmpty.loop14 N b n eq seed (nn) (s1) (s13) (l3) (IntKind.i64.wrap (s14 + (1 : Int))) (s8)))))))
   (chkL (l3) (l3)
   (some (Sum.inl s8))))
noncomputable def shapeEmpty.loop14R (N : Nat) (b : List Int) (n : Int) (eq : Int) (seed : Int) (nn : Nat) (s1 : Int) (s13 : Int) (l3 : List Int) (s14 : Int) (s8 : Bool) : Option (shapeEmpty.loop14.R ⊕ Bool) := loopR shapeEmpty.loop14.ann (mkL [s1, s13] [] [l3] []) (evCode ((shapeEmpty.C N b n eq seed).inLoop shapeEmpty.loop14.ann) (shapeEmpty.K N) (inlTab (shapeEmpty.C N b n eq seed) 0) (bodyAt 14 Try.f9)) (lawKr Try.prog Try.f9) nn (mkL [s14] [s8] [] [])
theorem shapeEmpty.loop14_eq (N : Nat) (b : List Int) (n : Int) (eq : Int) (seed : Int) : ∀ (nn : Nat) (s1 : Int) (s13 : Int) (l3 : List Int) (s14 : Int) (s8 : Bool), shapeEmpty.loop14R N b n eq seed nn s1 s13 l3 s14 s8 = shapeEmpty.loop14 N b n eq seed nn s1 s13 l3 s14 s8
  | 0, _, _, _, _, _ => by kernel_rfl
  | nn + 1, s1, s13, l3, s14, s8 => by
    have h : shapeEmpty.loop14R N b n eq seed (nn + 1) s1 s13 l3 s14 s8 =
  (br (decide (s14 < s1))
   (chk ((0 : Int) ≤ s14 ∧ s14 < ↑l3.length)
    (br (l3.getD s14.toNat (0 : Int) != s13)
     (chk ((0 : Int) ≤ s14 ∧ s14 < ↑l3.length)
      (br (l3.getD s14.toNat (0 : Int) != IntKind.i64.wrap ((0 : Int) - s13))
      (omap
      (some (false)) .inr)
      (chkI (s1) (s1)
      (chkI (s13) (s13)
      (chkL (l3) (l3)
      (shapeEmpty.loop14R N b n eq seed (nn) (s1) (s13) (l3) (IntKind.i64.wrap (s14 + (1 : Int))) (s8)))))))
     (chkI (s1) (s1)
     (chkI (s13) (s13)
     (chkL (l3) (l3)
     (shapeEmpty.loop14R N b n eq seed (nn) (s1) (s13) (l3) (IntKind.i64.wrap (s14 + (1 : Int))) (s8)))))))
   (chkL (l3) (l3)
   (some (Sum.inl s8)))) := by kernel_rfl
    rw [h, shapeEmpty.loop14]
    try simp only [shapeEmpty.loop14_eq N b n eq seed nn]
noncomputable def shapeEmpty.F (N : Nat) (b : List Int) (n : Int) (eq : Int) (seed : Int) : Option Bool :=
  (obind (Rc.awake20.F (N)) fun r0 =>
   (br (!r0)
    (some (false))
    (br (decide (n < (2 : Int)))
     (some (true))
     (br (decide (n > (200 : Int)))
      (some (true))
      (br (decide (eq < (0 : Int)))
      (some (true))
      (br (decide (eq > (100 : Int)))
      (some (true))
      (obind (Rc.new.F (N) (b)) fun r1 =>
      (obind (Rc.sread.F (N) (n) ((0 : Int)) (eq) (r1.fst) (r1.snd.fst) (r1.snd.snd.fst) (r1.snd.snd.snd.fst) (r1.snd.snd.snd.snd.fst) (r1.snd.snd.snd.snd.snd.fst) (r1.snd.snd.snd.snd.snd.snd.fst) (r1.snd.snd.snd.snd.snd.snd.snd.fst) (seed) (r1.snd.snd.snd.snd.snd.snd.snd.snd.fst) (r1.snd.snd.snd.snd.snd.snd.snd.snd.snd)) fun r2 =>
      (br (r2.fst != (0 : Int))
      (some (false))
      (br (↑r2.snd.snd.snd.snd.snd.snd.snd.snd.snd.snd.snd.length != n)
      (some (false))
      (obind (Rc.tell.F (N) (r2.snd.fst) (r2.snd.snd.fst) (r2.snd.snd.snd.fst) (r2.snd.snd.snd.snd.fst) (r2.snd.snd.snd.snd.snd.fst) (r2.snd.snd.snd.snd.snd.snd.fst) (r2.snd.snd.snd.snd.snd.snd.snd.fst) (r2.snd.snd.snd.snd.snd.snd.snd.snd.fst) (r2.snd.snd.snd.snd.snd.snd.snd.snd.snd.snd.fst) (r1.snd.snd.snd.snd.snd.snd.snd.snd.snd)) fun r3 =>
      (br (r3 != (1 : Int))
      (some (false))
      (obind (Rc.esize.F (N) (eq)) fun r4 =>
      (br (n.tmod (16 : Int) == (1 : Int))
      (some (true))
      (osum (shapeEmpty.loop14 N b n eq seed (N) (n) (IntKind.i64.wrap ((IntKind.i64.wrap (r4 + (1 : Int))).tdiv (2 : Int))) (r2.snd.snd.snd.snd.snd.snd.snd.snd.snd.snd.snd) ((0 : Int)) (false)) fun r5 =>
      (some (true)))))))))))))))))
theorem shapeEmpty.F_eq (N : Nat) (b : List Int) (n : Int) (eq : Int) (seed : Int) : evLaw (shapeEmpty.C N b n eq seed) (shapeEmpty.K N) 0 Try.f9 [.at (.roi .u8 b), .at (.int .i64 n), .at (.int .i64 eq), .at (.int .u32 seed)] = shapeEmpty.F N b n eq seed := by
  have h : evLaw (shapeEmpty.C N b n eq seed) (shapeEmpty.K N) 0 Try.f9 [.at (.roi .u8 b), .at (.int .i64 n), .at (.int .i64 eq), .at (.int .u32 seed)] =
  (obind (Rc.awake20.F (N)) fun r0 =>
   (br (!r0)
    (some (false))
    (br (decide (n < (2 : Int)))
     (some (true))
     (br (decide (n > (200 : Int)))
      (some (true))
      (br (decide (eq < (0 : Int)))
      (some (true))
      (br (decide (eq > (100 : Int)))
      (some (true))
      (obind (Rc.new.F (N) (b)) fun r1 =>
      (obind (Rc.sread.F (N) (n) ((0 : Int)) (eq) (r1.fst) (r1.snd.fst) (r1.snd.snd.fst) (r1.snd.snd.snd.fst) (r1.snd.snd.snd.snd.fst) (r1.snd.snd.snd.snd.snd.fst) (r1.snd.snd.snd.snd.snd.snd.fst) (r1.snd.snd.snd.snd.snd.snd.snd.fst) (seed) (r1.snd.snd.snd.snd.snd.snd.snd.snd.fst) (r1.snd.snd.snd.snd.snd.snd.snd.snd.snd)) fun r2 =>
      (br (r2.fst != (0 : Int))
      (some (false))
      (br (↑r2.snd.snd.snd.snd.snd.snd.snd.snd.snd.snd.snd.length != n)
      (some (false))
      (obind (Rc.tell.F (N) (r2.snd.fst) (r2.snd.snd.fst) (r2.snd.snd.snd.fst) (r2.snd.snd.snd.snd.fst) (r2.snd.snd.snd.snd.snd.fst) (r2.snd.snd.snd.snd.snd.snd.fst) (r2.snd.snd.snd.snd.snd.snd.snd.fst) (r2.snd.snd.snd.snd.snd.snd.snd.snd.fst) (r2.snd.snd.snd.snd.snd.snd.snd.snd.snd.snd.fst) (r1.snd.snd.snd.snd.snd.snd.snd.snd.snd)) fun r3 =>
      (br (r3 != (1 : Int))
      (some (false))
      (obind (Rc.esize.F (N) (eq)) fun r4 =>
      (br (n.tmod (16 : Int) == (1 : Int))
      (some (true))
      (osum (shapeEmpty.loop14R N b n eq seed (N) (n) (IntKind.i64.wrap ((IntKind.i64.wrap (r4 + (1 : Int))).tdiv (2 : Int))) (r2.snd.snd.snd.snd.snd.snd.snd.snd.snd.snd.snd) ((0 : Int)) (false)) fun r5 =>
      (some (true))))))))))))))))) := by kernel_rfl
  rw [h, shapeEmpty.F]
  try simp only [shapeEmpty.loop14_eq N b n eq seed]
theorem shapeEmpty.cok (N : Nat) (b : List Int) (n : Int) (eq : Int) (seed : Int) : CfgOK (shapeEmpty.C N b n eq seed) := ⟨fun _ _ _ _ h => by simp [shapeEmpty.C, noRT] at h, wide, by
  simp only [shapeEmpty.C, List.mem_cons, List.not_mem_nil, or_false, forall_eq_or_imp, forall_eq, false_imp_iff, implies_true]
  exact ⟨⟨awake20.ok, by kernel_rfl⟩, ⟨new.ok, by kernel_rfl⟩, ⟨sread.ok, by kernel_rfl⟩, ⟨tell.ok, by kernel_rfl⟩, ⟨esize.ok, by kernel_rfl⟩⟩, fun g hg => by simp [shapeEmpty.C] at hg, fun m hm => by simp [shapeEmpty.C] at hm, fun q hq => by simp [shapeEmpty.C] at hq⟩
theorem shapeEmpty.aok (N : Nat) : AnnsOK (shapeEmpty.K N) := by
  intro q hq
  simp only [shapeEmpty.K, List.mem_cons, List.not_mem_nil, or_false] at hq
  subst hq
  exact fun _ _ => ⟨rfl, rfl⟩
theorem shapeEmpty.walk {w : World} {N : Nat} (b : List Int) (n : Int) (eq : Int) (seed : Int) {cargs : Array Value} (ha : All2 (RV noRT (lawE w)) [.at (.roi .u8 b), .at (.int .i64 n), .at (.int .i64 eq), .at (.int .u32 seed)] cargs.toList) (h : shapeEmpty.F N b n eq seed = some true) :
    Calls Try.prog 9 cargs w fun e w' => e = .returned (.bool true) ∧ Frm w (fun _ => False) w' :=
  law_sound (C := shapeEmpty.C N b n eq seed) (K := shapeEmpty.K N) (d := 0) (fn := Try.f9) (shapeEmpty.cok N b n eq seed) (fun q hq => by simp [shapeEmpty.C] at hq) (shapeEmpty.aok N) (by kernel_rfl) ha ((shapeEmpty.F_eq N b n eq seed).trans h)

end Go.Proofs.Rc
