/-
  Functions of the program: what each comes to, and its contract (written by a program).
  Conditions: none: each contract is proved for every input of its shape.
-/
import Derived.Test.YtghbobmkkbdhpaaEngMkToEngReach
import Derived.Laws.Externs
import Derived.Test.YtghbobmkkbdhpaaProg
import Derived.Test.YtghbobmkkbdhpaaShapeFns
set_option linter.unusedVariables false
set_option linter.unusedSimpArgs false
namespace Go.Proofs.Rc
open Go.Eng
set_option maxRecDepth 100000
noncomputable def shapeEmpty.C (N : Nat) (b : List Int) (n : Int) (eq : Int) (seed : Int) : Cfg := { P := Try.prog, N := N, RT := noRT, specs := [(10, awake20.spec), (13, new.spec), (12, sread.spec), (29, tell.spec), (30, esize.spec)], inl := [], hi := 0, mv := [] }
abbrev shapeEmpty.loop14.R : Type := Bool
noncomputable def shapeEmpty.loop14.ann : Ann := { nx := 20, slots := [(1, .at (.fint .i64 0)), (8, .at (.bool 0)), (11, .at (.full 3 false)), (13, .at (.fint .i64 1)), (14, .at (.int .i64 0))], blks := [(3, .fints true .i64 0)], mov := [], exId := 0, xslots := [(11, .at (.full 3 false)), (8, .at (.bool 0))], xblks := [(3, .fints true .i64 0)], T := shapeEmpty.loop14.R, dec := fun L => (L.b 0), enc := fun r => mkL [] [r] [] [], ret := true }
noncomputable def shapeEmpty.K (N : Nat) : FCfg := { anns := [(14, shapeEmpty.loop14.ann)], unr := [], lits := [], lets := [] }
noncomputable def shapeEmpty.loop14 (N : Nat) (b : List Int) (n : Int) (eq : Int) (seed : Int) : Nat → Int → Int → List Int → Int → Bool → Option (shapeEmpty.loop14.R ⊕ Bool)
  | 0, _, _, _, _, _ => none
  | nn + 1, s1, s13, l3, s14, s8 =>
  (br (decide (s14 < s1))
   (chk ((0 : Int) ≤ s14 ∧ s14 < ↑l3.length)
    (br (l3.getD s14.toNat (0 : Int) != s13)
     (chk ((0 : Int) ≤ s14 ∧ s14 < ↑l3.length)
      (br (l3.getD s14.toNat (0 : Int) != IntKind.i64.wrap ((0 : Int) - s13))
      (omap
      (some (false)) .inr)
      (chkI (s1) (s1)
      (chkI (s13) (s13)
      (chkL (l3) (l3)
      (shapeEmpty.loop14 N b n eq seed (nn) (s1) (s13) (l3) (IntKind.i64.wrap (s14 + (1 : Int))) (s8)))))))
     (chkI (s1) (s1)
     (chkI (s13) (s13)
     (chkL (l3) (l3)
     (shapeEmpty.loop14 N b n eq seed (nn) (s1) (s13) (l3) (IntKind.i64.wrap (s14 + (1 : Int))) (s8)))))))
   (chkL (l3) (l3)
   (some (Sum.inl s8))))
noncomputable def shapeEmpty.loop14R (N : Nat) (b : List Int) (n : Int) (eq : Int) (seed : Int) (nn : Nat) (s1 : Int) (s13 : Int) (l3 : List Int) (s14 : Int) (s8 : Bool) : Option (shapeEmpty.loop14.R ⊕ Bool) := loopR shapeEmpty.loop14.ann (mkL [s1, s13] [] [l3] []) (evCode ((shapeEmpty.C N b n eq seed).inLoop shapeEmpty.loop14.ann) (shapeEmpty.K N) (inlTab (shapeEmpty.C N b n eq seed) 0) (bodyAt 14 Try.f9)) (lawKr Try.prog Try.f9) nn (mkL [s14] [s8] [] [])
theorem shapeEmpty.loop14_eq (N : Nat) (b : List Int) (n : Int) (eq : Int) (seed : Int) : ∀ (nn : Nat) (s1 : Int) (s13 : Int) (l3 : List Int) (s14 : Int) (s8 : Bool), shapeEmpty.loop14R N b n eq seed nn s1 s13 l3 s14 s8 = shapeEmpty.loop14 N b n eq seed nn s1 s13 l3 s14 s8
  | 0, _, _, _, _, _ => by kernel_rfl
  | nn + 1, s1, s13, l3, s14, s8 => by
    have h : shapeEmpty.loop14R N b n eq seed (nn + 1) s1 s13 l3 s14 s8 =
  (br (decide (s14 < s1))
   (chk ((0 : Int) ≤ s14 ∧ s14 < ↑l3.length)
    (br (l3.getD s14.toNat (0 : Int) != s13)
     (chk ((0 : Int) ≤ s14 ∧ s14 < ↑l3.length)
      (br (l3.getD s14.toNat (0 : Int) != IntKind.i64.wrap ((0 : Int) - s13))
      (omap
      (some (false)) .inr)
      (chkI (s1) (s1)
      (chkI (s13) (s13)
      (chkL (l3) (l3)
      (shapeEmpty.loop14R N b n eq seed (nn) (s1) (s13) (l3) (IntKind.i64.wrap (s14 + (1 : Int))) (s8)))))))
     (chkI (s1) (s1)
     (chkI (s13) (s13)
     (chkL (l3) (l3)
     (shapeEmpty.loop14R N b n eq seed (nn) (s1) (s13) (l3) (IntKind.i64.wrap (s14 + (1 : Int))) (s8)))))))
   (chkL (l3) (l3)
   (some (Sum.inl s8)))) := by kernel_rfl
    rw [h, shapeEmpty.loop14]
    try simp only [shapeEmpty.loop14_eq N b n eq seed nn]
noncomputable def shapeEmpty.F (N : Nat) (b : List Int) (n : Int) (eq : Int) (seed : Int) : Option Bool :=
  (obind (Rc.awake20.F (N)) fun r0 =>
   (br (!r0)
    (some (false))
    (br (decide (n < (2 : Int)))
     (some (true))
     (br (decide (n > (200 : Int)))
      (some (true))
      (br (decide (eq < (0 : Int)))
      (some (true))
      (br (decide (eq > (100 : Int)))
      (some (true))
      (obind (Rc.new.F (N) (b)) fun r1 =>
      (obind (Rc.sread.F (N) (n) ((0 : Int)) (eq) (r1.fst) (r1.snd.fst) (r1.snd.snd.fst) (r1.snd.snd.snd.fst) (r1.snd.snd.snd.snd.fst) (r1.snd.snd.snd.snd.snd.fst) (r1.snd.snd.snd.snd.snd.snd.fst) (r1.snd.snd.snd.snd.snd.snd.snd.fst) (seed) (r1.snd.snd.snd.snd.snd.snd.snd.snd.fst) (r1.snd.snd.snd.snd.snd.snd.snd.snd.snd)) fun r2 =>
      (br (r2.fst != (0 : Int))
      (some (false))
      (br (↑r2.snd.snd.snd.snd.snd.snd.snd.snd.snd.snd.snd.length != n)
      (some (false))
      (obind (Rc.tell.F (N) (r2.snd.fst) (r2.snd.snd.fst) (r2.snd.snd.snd.fst) (r2.snd.snd.snd.snd.fst) (r2.snd.snd.snd.snd.snd.fst) (r2.snd.snd.snd.snd.snd.snd.fst) (r2.snd.snd.snd.snd.snd.snd.snd.fst) (r2.snd.snd.snd.snd.snd.snd.snd.snd.fst) (r2.snd.snd.snd.snd.snd.snd.snd.snd.snd.snd.fst) (r1.snd.snd.snd.snd.snd.snd.snd.snd.snd)) fun r3 =>
      (br (r3 != (1 : Int))
      (some (false))
      (obind (Rc.esize.F (N) (eq)) fun r4 =>
      (br (n.tmod (16 : Int) == (1 : Int))
      (some (true))
      (osum (shapeEmpty.loop14 N b n eq seed (N) (n) (IntKind.i64.wrap ((IntKind.i64.wrap (r4 + (1 : Int))).tdiv (2 : Int))) (r2.snd.snd.snd.snd.snd.snd.snd.snd.snd.snd.snd) ((0 : Int)) (false)) fun r5 =>
      (some (true)))))))))))))))))
theorem shapeEmpty.F_eq (N : Nat) (b : List Int) (n : Int) (eq : Int) (seed : Int) : evLaw (shapeEmpty.C N b n eq seed) (shapeEmpty.K N) 0 Try.f9 [.at (.roi .u8 b), .at (.int .i64 n), .at (.int .i64 eq), .at (.int .u32 seed)] = shapeEmpty.F N b n eq seed := by
  have h : evLaw (shapeEmpty.C N b n eq seed) (shapeEmpty.K N) 0 Try.f9 [.at (.roi .u8 b), .at (.int .i64 n), .at (.int .i64 eq), .at (.int .u32 seed)] =
  (obind (Rc.awake20.F (N)) fun r0 =>
   (br (!r0)
    (some (false))
    (br (decide (n < (2 : Int)))
     (some (true))
     (br (decide (n > (200 : Int)))
      (some (true))
      (br (decide (eq < (0 : Int)))
      (some (true))
      (br (decide (eq > (100 : Int)))
      (some (true))
      (obind (Rc.new.F (N) (b)) fun r1 =>
      (obind (Rc.sread.F (N) (n) ((0 : Int)) (eq) (r1.fst) (r1.snd.fst) (r1.snd.snd.fst) (r1.snd.snd.snd.fst) (r1.snd.snd.snd.snd.fst) (r1.snd.snd.snd.snd.snd.fst) (r1.snd.snd.snd.snd.snd.snd.fst) (r1.snd.snd.snd.snd.snd.snd.snd.fst) (seed) (r1.snd.snd.snd.snd.snd.snd.snd.snd.fst) (r1.snd.snd.snd.snd.snd.snd.snd.snd.snd)) fun r2 =>
      (br (r2.fst != (0 : Int))
      (some (false))
      (br (↑r2.snd.snd.snd.snd.snd.snd.snd.snd.snd.snd.snd.length != n)
      (some (false))
      (obind (Rc.tell.F (N) (r2.snd.fst) (r2.snd.snd.fst) (r2.snd.snd.snd.fst) (r2.snd.snd.snd.snd.fst) (r2.snd.snd.snd.snd.snd.fst) (r2.snd.snd.snd.snd.snd.snd.fst) (r2.snd.snd.snd.snd.snd.snd.snd.fst) (r2.snd.snd.snd.snd.snd.snd.snd.snd.fst) (r2.snd.snd.snd.snd.snd.snd.snd.snd.snd.snd.fst) (r1.snd.snd.snd.snd.snd.snd.snd.snd.snd)) fun r3 =>
      (br (r3 != (1 : Int))
      (some (false))
      (obind (Rc.esize.F (N) (eq)) fun r4 =>
      (br (n.tmod (16 : Int) == (1 : Int))
      (some (true))
      (osum (shapeEmpty.loop14R N b n eq seed (N) (n) (IntKind.i64.wrap ((IntKind.i64.wrap (r4 + (1 : Int))).tdiv (2 : Int))) (r2.snd.snd.snd.snd.snd.snd.snd.snd.snd.snd.snd) ((0 : Int)) (false)) fun r5 =>
      (some (true))))))))))))))))) := by kernel_rfl
  rw [h, shapeEmpty.F]
  try simp only [shapeEmpty.loop14_eq N b n eq seed]
theorem shapeEmpty.cok (N : Nat) (b : List Int) (n : Int) (eq : Int) (seed : Int) : CfgOK (shapeEmpty.C N b n eq seed) := ⟨fun _ _ _ _ h => by simp [shapeEmpty.C, noRT] at h, wide, by
  simp only [shapeEmpty.C, List.mem_cons, List.not_mem_nil, or_false, forall_eq_or_imp, forall_eq, false_imp_iff, implies_true]
  exact ⟨⟨awake20.ok, by kernel_rfl⟩, ⟨new.ok, by kernel_rfl⟩, ⟨sread.ok, by kernel_rfl⟩, ⟨tell.ok, by kernel_rfl⟩, ⟨esize.ok, by kernel_rfl⟩⟩, fun g hg => by simp [shapeEmpty.C] at hg, fun m hm => by simp [shapeEmpty.C] at hm, fun q hq => by simp [shapeEmpty.C] at hq⟩
theorem shapeEmpty.aok (N : Nat) : AnnsOK (shapeEmpty.K N) := by
  intro q hq
  simp only [shapeEmpty.K, List.mem_cons, List.not_mem_nil, or_false] at hq
  subst hq
  exact fun _ _ => ⟨rfl, rfl⟩
theorem shapeEmpty.walk {w : World} {N : Nat} (b : List Int) (n : Int) (eq : Int) (seed : Int) {cargs : Array Value} (ha : All2 (RV noRT (lawE w)) [.at (.roi .u8 b), .at (.int .i64 n), .at (.int .i64 eq), .at (.int .u32 seed)] cargs.toList) (h : shapeEmpty.F N b n eq seed = some true) :
    Calls Try.prog 9 cargs w fun e w' => e = .returned (.bool true) ∧ Frm w (fun _ => False) w' :=
  law_sound (C := shapeEmpty.C N b n eq seed) (K := shapeEmpty.K N) (d := 0) (fn := Try.f9) (shapeEmpty.cok N b n eq seed) (fun q hq => by simp [shapeEmpty.C] at hq) (shapeEmpty.aok N) (by kernel_rfl) ha ((shapeEmpty.F_eq N b n eq seed).trans h)

end Go.Proofs.Rc
