/-
  Functions of the program: what each comes to, and its contract (written by a program).
  Conditions: none: each contract is proved for every input of its shape.
-/
import Derived.Test.YtghbobmkkbdhpaaEngMkToEngWords
import Derived.Laws.Externs
import Derived.Test.YtghbobmkkbdhpaaProg
import Derived.Test.YtghbobmkkbdhpaaShapeFns
set_option linter.unusedVariables false
set_option linter.unusedSimpArgs false
namespace Go.Proofs.Rc
open Go.Eng
set_option maxRecDepth 100000
noncomputable def shapeSigns.C (N : Nat) (f : List Int) (eq : Int) : Cfg := { P := Try.prog, N := N, RT := noRT, specs := [(10, awake20.spec), (28, size20.spec), (15, enew.spec), (14, swrite.spec)], inl := [], hi := 0, mv := [] }
abbrev shapeSigns.loop7.R : Type := Int × Bool
noncomputable def shapeSigns.loop7.ann : Ann := { nx := 20, slots := [(0, .at (.froi .i64 0)), (4, .at (.bool 0)), (5, .at (.int .i64 0)), (6, .at (.int .i64 1))], blks := [], mov := [], exId := 0, xslots := [(4, .at (.bool 0)), (5, .at (.int .i64 0))], xblks := [], T := shapeSigns.loop7.R, dec := fun L => (L.i 0, L.b 0), enc := fun r => mkL [r.1] [r.2] [] [], ret := true }
noncomputable def shapeSigns.K (N : Nat) : FCfg := { anns := [(7, shapeSigns.loop7.ann)], unr := [], lits := [], lets := [] }
noncomputable def shapeSigns.loop7 (N : Nat) (f : List Int) (eq : Int) : Nat → List Int → Int → Int → Bool → Option (shapeSigns.loop7.R ⊕ Bool)
  | 0, _, _, _, _ => none
  | nn + 1, s0, s5, s6, s4 =>
  (br (decide (s6 < ↑s0.length))
   (chk ((0 : Int) ≤ s6 ∧ s6 < ↑s0.length)
   (br (decide (s0.getD s6.toNat (0 : Int) > (16777216 : Int)))
   (omap
   (some (true)) .inr)
   (chk ((0 : Int) ≤ s6 ∧ s6 < ↑s0.length)
   (br (decide (s0.getD s6.toNat (0 : Int) < (-16777216 : Int)))
   (omap
   (some (true)) .inr)
   (chk ((0 : Int) ≤ s6 ∧ s6 < ↑s0.length)
   (obind (Rc.size20.F (N) (s0.getD s6.toNat (0 : Int))) fun r0 =>
   (chk ((0 : Int) ≤ s5 ∧ s5 < ↑s0.length)
   (obind (Rc.size20.F (N) (s0.getD s5.toNat (0 : Int))) fun r1 =>
   (br (decide (r0 > r1))
   (chkL (s0) (s0)
   (shapeSigns.loop7 N f eq (nn) (s0) (s6) (IntKind.i64.wrap (s6 + (1 : Int))) (s4)))
   (chkL (s0) (s0)
   (shapeSigns.loop7 N f eq (nn) (s0) (s5) (IntKind.i64.wrap (s6 + (1 : Int))) (s4))))))))))))
   (some (Sum.inl (s5, s4))))
noncomputable def shapeSigns.loop7R (N : Nat) (f : List Int) (eq : Int) (nn : Nat) (s0 : List Int) (s5 : Int) (s6 : Int) (s4 : Bool) : Option (shapeSigns.loop7.R ⊕ Bool) := loopR shapeSigns.loop7.ann (mkL [] [] [s0] []) (evCode ((shapeSigns.C N f eq).inLoop shapeSigns.loop7.ann) (shapeSigns.K N) (inlTab (shapeSigns.C N f eq) 0) (bodyAt 7 Try.f7)) (lawKr Try.prog Try.f7) nn (mkL [s5, s6] [s4] [] [])
theorem shapeSigns.loop7_eq (N : Nat) (f : List Int) (eq : Int) : ∀ (nn : Nat) (s0 : List Int) (s5 : Int) (s6 : Int) (s4 : Bool), shapeSigns.loop7R N f eq nn s0 s5 s6 s4 = shapeSigns.loop7 N f eq nn s0 s5 s6 s4
  | 0, _, _, _, _ => by kernel_rfl
  | nn + 1, s0, s5, s6, s4 => by
    have h : shapeSigns.loop7R N f eq (nn + 1) s0 s5 s6 s4 =
  (br (decide (s6 < ↑s0.length))
   (chk ((0 : Int) ≤ s6 ∧ s6 < ↑s0.length)
   (br (decide (s0.getD s6.toNat (0 : Int) > (16777216 : Int)))
   (omap
   (some (true)) .inr)
   (chk ((0 : Int) ≤ s6 ∧ s6 < ↑s0.length)
   (br (decide (s0.getD s6.toNat (0 : Int) < (-16777216 : Int)))
   (omap
   (some (true)) .inr)
   (chk ((0 : Int) ≤ s6 ∧ s6 < ↑s0.length)
   (obind (Rc.size20.F (N) (s0.getD s6.toNat (0 : Int))) fun r0 =>
   (chk ((0 : Int) ≤ s5 ∧ s5 < ↑s0.length)
   (obind (Rc.size20.F (N) (s0.getD s5.toNat (0 : Int))) fun r1 =>
   (br (decide (r0 > r1))
   (chkL (s0) (s0)
   (shapeSigns.loop7R N f eq (nn) (s0) (s6) (IntKind.i64.wrap (s6 + (1 : Int))) (s4)))
   (chkL (s0) (s0)
   (shapeSigns.loop7R N f eq (nn) (s0) (s5) (IntKind.i64.wrap (s6 + (1 : Int))) (s4))))))))))))
   (some (Sum.inl (s5, s4)))) := by kernel_rfl
    rw [h, shapeSigns.loop7]
    try simp only [shapeSigns.loop7_eq N f eq nn]
noncomputable def shapeSigns.F (N : Nat) (f : List Int) (eq : Int) : Option Bool :=
  (obind (Rc.awake20.F (N)) fun r0 =>
   (br (!r0)
   (some (false))
   (br (decide (↑f.length < (1 : Int)))
   (some (true))
   (br (decide (↑f.length > (16 : Int)))
   (some (true))
   (br (decide (eq < (8 : Int)))
   (some (true))
   (br (decide (eq > (100 : Int)))
   (some (true))
   (osum (shapeSigns.loop7 N f eq (N) (f) ((0 : Int)) ((0 : Int)) (false)) fun r1 =>
   (chk ((0 : Int) ≤ r1.fst ∧ r1.fst < ↑f.length)
   (br (f.getD r1.fst.toNat (0 : Int) == (0 : Int))
   (some (true))
   (obind (Rc.enew.F (N)) fun r2 =>
   (obind (Rc.swrite.F (N) ((32 : Int)) (eq) (r2.fst) (r2.snd.fst) (r2.snd.snd.fst) (r2.snd.snd.snd.fst) ((0 : Int)) (f) (r2.snd.snd.snd.snd.fst) (r2.snd.snd.snd.snd.snd)) fun r3 =>
   (br (r3.fst != (0 : Int))
   (some (false))
   (br ((r3.snd.snd.snd.snd.snd.snd.fst.length : Int) != ↑f.length)
   (some (false))
   (chk ((0 : Int) ≤ r1.fst ∧ r1.fst < ↑r3.snd.snd.snd.snd.snd.snd.fst.length)
   (br (decide (r3.snd.snd.snd.snd.snd.snd.fst.getD r1.fst.toNat (0 : Int) > (0 : Int)))
   (chk ((0 : Int) ≤ r1.fst ∧ r1.fst < ↑f.length)
   (br (decide (f.getD r1.fst.toNat (0 : Int) > (0 : Int)))
   (some (true))
   (chk ((0 : Int) ≤ r1.fst ∧ r1.fst < ↑r3.snd.snd.snd.snd.snd.snd.fst.length)
   (br (decide (r3.snd.snd.snd.snd.snd.snd.fst.getD r1.fst.toNat (0 : Int) < (0 : Int)))
   (chk ((0 : Int) ≤ r1.fst ∧ r1.fst < ↑f.length)
   (some (decide (f.getD r1.fst.toNat (0 : Int) < (0 : Int)))))
   (some (false))))))
   (chk ((0 : Int) ≤ r1.fst ∧ r1.fst < ↑r3.snd.snd.snd.snd.snd.snd.fst.length)
   (br (decide (r3.snd.snd.snd.snd.snd.snd.fst.getD r1.fst.toNat (0 : Int) < (0 : Int)))
   (chk ((0 : Int) ≤ r1.fst ∧ r1.fst < ↑f.length)
   (some (decide (f.getD r1.fst.toNat (0 : Int) < (0 : Int)))))
   (some (false)))))))))))))))))))
theorem shapeSigns.F_eq (N : Nat) (f : List Int) (eq : Int) : evLaw (shapeSigns.C N f eq) (shapeSigns.K N) 0 Try.f7 [.at (.roi .i64 f), .at (.int .i64 eq)] = shapeSigns.F N f eq := by
  have h : evLaw (shapeSigns.C N f eq) (shapeSigns.K N) 0 Try.f7 [.at (.roi .i64 f), .at (.int .i64 eq)] =
  (obind (Rc.awake20.F (N)) fun r0 =>
   (br (!r0)
   (some (false))
   (br (decide (↑f.length < (1 : Int)))
   (some (true))
   (br (decide (↑f.length > (16 : Int)))
   (some (true))
   (br (decide (eq < (8 : Int)))
   (some (true))
   (br (decide (eq > (100 : Int)))
   (some (true))
   (osum (shapeSigns.loop7R N f eq (N) (f) ((0 : Int)) ((0 : Int)) (false)) fun r1 =>
   (chk ((0 : Int) ≤ r1.fst ∧ r1.fst < ↑f.length)
   (br (f.getD r1.fst.toNat (0 : Int) == (0 : Int))
   (some (true))
   (obind (Rc.enew.F (N)) fun r2 =>
   (obind (Rc.swrite.F (N) ((32 : Int)) (eq) (r2.fst) (r2.snd.fst) (r2.snd.snd.fst) (r2.snd.snd.snd.fst) ((0 : Int)) (f) (r2.snd.snd.snd.snd.fst) (r2.snd.snd.snd.snd.snd)) fun r3 =>
   (br (r3.fst != (0 : Int))
   (some (false))
   (br ((r3.snd.snd.snd.snd.snd.snd.fst.length : Int) != ↑f.length)
   (some (false))
   (chk ((0 : Int) ≤ r1.fst ∧ r1.fst < ↑r3.snd.snd.snd.snd.snd.snd.fst.length)
   (br (decide (r3.snd.snd.snd.snd.snd.snd.fst.getD r1.fst.toNat (0 : Int) > (0 : Int)))
   (chk ((0 : Int) ≤ r1.fst ∧ r1.fst < ↑f.length)
   (br (decide (f.getD r1.fst.toNat (0 : Int) > (0 : Int)))
   (some (true))
   (chk ((0 : Int) ≤ r1.fst ∧ r1.fst < ↑r3.snd.snd.snd.snd.snd.snd.fst.length)
   (br (decide (r3.snd.snd.snd.snd.snd.snd.fst.getD r1.fst.toNat (0 : Int) < (0 : Int)))
   (chk ((0 : Int) ≤ r1.fst ∧ r1.fst < ↑f.length)
   (some (decide (f.getD r1.fst.toNat (0 : Int) < (0 : Int)))))
   (some (false))))))
   (chk ((0 : Int) ≤ r1.fst ∧ r1.fst < ↑r3.snd.snd.snd.snd.snd.snd.fst.length)
   (br (decide (r3.snd.snd.snd.snd.snd.snd.fst.getD r1.fst.toNat (0 : Int) < (0 : Int)))
   (chk ((0 : Int) ≤ r1.fst ∧ r1.fst < ↑f.length)
   (some (decide (f.getD r1.fst.toNat (0 : Int) < (0 : Int)))))
   (some (false))))))))))))))))))) := by kernel_rfl
  rw [h, shapeSigns.F]
  try simp only [shapeSigns.loop7_eq N f eq]
theorem shapeSigns.cok (N : Nat) (f : List Int) (eq : Int) : CfgOK (shapeSigns.C N f eq) := ⟨fun _ _ _ _ h => by simp [shapeSigns.C, noRT] at h, wide, by
  simp only [shapeSigns.C, List.mem_cons, List.not_mem_nil, or_false, forall_eq_or_imp, forall_eq, false_imp_iff, implies_true]
  exact ⟨⟨awake20.ok, by kernel_rfl⟩, ⟨size20.ok, by kernel_rfl⟩, ⟨enew.ok, by kernel_rfl⟩, ⟨swrite.ok, by kernel_rfl⟩⟩, fun g hg => by simp [shapeSigns.C] at hg, fun m hm => by simp [shapeSigns.C] at hm, fun q hq => by simp [shapeSigns.C] at hq⟩
theorem shapeSigns.aok (N : Nat) : AnnsOK (shapeSigns.K N) := by
  intro q hq
  simp only [shapeSigns.K, List.mem_cons, List.not_mem_nil, or_false] at hq
  subst hq
  exact fun _ _ => ⟨rfl, rfl⟩
theorem shapeSigns.walk {w : World} {N : Nat} (f : List Int) (eq : Int) {cargs : Array Value} (ha : All2 (RV noRT (lawE w)) [.at (.roi .i64 f), .at (.int .i64 eq)] cargs.toList) (h : shapeSigns.F N f eq = some true) :
    Calls Try.prog 7 cargs w fun e w' => e = .returned (.bool true) ∧ Frm w (fun _ => False) w' :=
  law_sound (C := shapeSigns.C N f eq) (K := shapeSigns.K N) (d := 0) (fn := Try.f7) (shapeSigns.cok N f eq) (fun q hq => by simp [shapeSigns.C] at hq) (shapeSigns.aok N) (by kernel_rfl) ha ((shapeSigns.F_eq N f eq).trans h)
end Go.Proofs.Rc
