/-
  Functions of the program: what each comes to, and its contract (written by a program).
  Conditions: none: each contract is proved for every input of its shape.
-/
import Derived.Test.YtlbdcahecabfkaaEngFn
import Derived.Laws.Externs
import Derived.Test.YtlbdcahecabfkaaProg
import Derived.Test.YtlbdcahecabfkaaPulseFns
namespace Go.Proofs.Rc
open Go.Eng
set_option maxRecDepth 100000
set_option linter.unusedVariables false
set_option linter.unusedSimpArgs false
noncomputable def pulseFewer.C (N : Nat) (l : List Int) (most : Int) : Cfg := { P := Try.prog, N := N, RT := noRT, specs := [(54, awake9.spec), (58, fewer9.spec), (62, rfewer9.spec), (60, same9.spec), (56, good9.spec)], inl := [], hi := 0, mv := [] }
abbrev pulseFewer.loop11.R : Type := Bool
noncomputable def pulseFewer.loop11.ann : Ann := { nx := 20, slots := [(0, .at (.froi .i64 0)), (4, .at (.bool 0)), (5, .at (.full 2 false)), (6, .at (.int .i64 0))], blks := [(2, .fints true .i64 1)], mov := [], exId := 0, xslots := [(5, .at (.full 2 false)), (4, .at (.bool 0))], xblks := [(2, .fints true .i64 1)], T := pulseFewer.loop11.R, dec := fun L => (L.b 0), enc := fun r => mkL [] [r] [] [], ret := true }
noncomputable def pulseFewer.K (N : Nat) : FCfg := { anns := [(11, pulseFewer.loop11.ann)], unr := [], lits := [], lets := [] }
noncomputable def pulseFewer.loop11 (N : Nat) (l : List Int) (most : Int) : Nat → List Int → List Int → Int → Bool → Option (pulseFewer.loop11.R ⊕ Bool)
  | 0, _, _, _, _ => none
  | nn + 1, s0, l2, s6, s4 =>
  (br (decide (s6 < ↑l2.length))
   (chk ((0 : Int) ≤ s6 ∧ s6 < ↑l2.length)
    (br (decide (l2.getD s6.toNat (0 : Int) > (0 : Int)))
     (chk ((0 : Int) ≤ s6 ∧ s6 < ↑s0.length)
      (chk ((0 : Int) ≤ s6 ∧ s6 < ↑l2.length)
      (br (decide (s0.getD s6.toNat (0 : Int) < l2.getD s6.toNat (0 : Int)))
      (omap
      (some (false)) .inr)
      (chk ((0 : Int) ≤ s6 ∧ s6 < ↑l2.length)
      (br (decide (l2.getD s6.toNat (0 : Int) < (0 : Int)))
      (chk ((0 : Int) ≤ s6 ∧ s6 < ↑s0.length)
      (chk ((0 : Int) ≤ s6 ∧ s6 < ↑l2.length)
      (br (decide (s0.getD s6.toNat (0 : Int) > l2.getD s6.toNat (0 : Int)))
      (omap
      (some (false)) .inr)
      (chkL (s0) (s0)
      (chkL (l2) (l2)
      (pulseFewer.loop11 N l most (nn) (s0) (l2) (IntKind.i64.wrap (s6 + (1 : Int))) (s4)))))))
      (chkL (s0) (s0)
      (chkL (l2) (l2)
      (pulseFewer.loop11 N l most (nn) (s0) (l2) (IntKind.i64.wrap (s6 + (1 : Int))) (s4)))))))))
     (chk ((0 : Int) ≤ s6 ∧ s6 < ↑l2.length)
      (br (decide (l2.getD s6.toNat (0 : Int) < (0 : Int)))
      (chk ((0 : Int) ≤ s6 ∧ s6 < ↑s0.length)
      (chk ((0 : Int) ≤ s6 ∧ s6 < ↑l2.length)
      (br (decide (s0.getD s6.toNat (0 : Int) > l2.getD s6.toNat (0 : Int)))
      (omap
      (some (false)) .inr)
      (chkL (s0) (s0)
      (chkL (l2) (l2)
      (pulseFewer.loop11 N l most (nn) (s0) (l2) (IntKind.i64.wrap (s6 + (1 : Int))) (s4)))))))
      (chkL (s0) (s0)
      (chkL (l2) (l2)
      (pulseFewer.loop11 N l most (nn) (s0) (l2) (IntKind.i64.wrap (s6 + (1 : Int))) (s4))))))))
   (chkL (l2) (l2)
   (some (Sum.inl s4))))
noncomputable def pulseFewer.loop11R (N : Nat) (l : List Int) (most : Int) (nn : Nat) (s0 : List Int) (l2 : List Int) (s6 : Int) (s4 : Bool) : Option (pulseFewer.loop11.R ⊕ Bool) := loopR pulseFewer.loop11.ann (mkL [] [] [s0, l2] []) (evCode ((pulseFewer.C N l most).inLoop pulseFewer.loop11.ann) (pulseFewer.K N) (inlTab (pulseFewer.C N l most) 0) (bodyAt 11 Try.f13)) (lawKr Try.prog Try.f13) nn (mkL [s6] [s4] [] [])
theorem pulseFewer.loop11_eq (N : Nat) (l : List Int) (most : Int) : ∀ (nn : Nat) (s0 : List Int) (l2 : List Int) (s6 : Int) (s4 : Bool), pulseFewer.loop11R N l most nn s0 l2 s6 s4 = pulseFewer.loop11 N l most nn s0 l2 s6 s4
  | 0, _, _, _, _ => by kernel_rfl
  | nn + 1, s0, l2, s6, s4 => by
    have h : pulseFewer.loop11R N l most (nn + 1) s0 l2 s6 s4 =
  (br (decide (s6 < ↑l2.length))
   (chk ((0 : Int) ≤ s6 ∧ s6 < ↑l2.length)
    (br (decide (l2.getD s6.toNat (0 : Int) > (0 : Int)))
     (chk ((0 : Int) ≤ s6 ∧ s6 < ↑s0.length)
      (chk ((0 : Int) ≤ s6 ∧ s6 < ↑l2.length)
      (br (decide (s0.getD s6.toNat (0 : Int) < l2.getD s6.toNat (0 : Int)))
      (omap
      (some (false)) .inr)
      (chk ((0 : Int) ≤ s6 ∧ s6 < ↑l2.length)
      (br (decide (l2.getD s6.toNat (0 : Int) < (0 : Int)))
      (chk ((0 : Int) ≤ s6 ∧ s6 < ↑s0.length)
      (chk ((0 : Int) ≤ s6 ∧ s6 < ↑l2.length)
      (br (decide (s0.getD s6.toNat (0 : Int) > l2.getD s6.toNat (0 : Int)))
      (omap
      (some (false)) .inr)
      (chkL (s0) (s0)
      (chkL (l2) (l2)
      (pulseFewer.loop11R N l most (nn) (s0) (l2) (IntKind.i64.wrap (s6 + (1 : Int))) (s4)))))))
      (chkL (s0) (s0)
      (chkL (l2) (l2)
      (pulseFewer.loop11R N l most (nn) (s0) (l2) (IntKind.i64.wrap (s6 + (1 : Int))) (s4)))))))))
     (chk ((0 : Int) ≤ s6 ∧ s6 < ↑l2.length)
      (br (decide (l2.getD s6.toNat (0 : Int) < (0 : Int)))
      (chk ((0 : Int) ≤ s6 ∧ s6 < ↑s0.length)
      (chk ((0 : Int) ≤ s6 ∧ s6 < ↑l2.length)
      (br (decide (s0.getD s6.toNat (0 : Int) > l2.getD s6.toNat (0 : Int)))
      (omap
      (some (false)) .inr)
      (chkL (s0) (s0)
      (chkL (l2) (l2)
      (pulseFewer.loop11R N l most (nn) (s0) (l2) (IntKind.i64.wrap (s6 + (1 : Int))) (s4)))))))
      (chkL (s0) (s0)
      (chkL (l2) (l2)
      (pulseFewer.loop11R N l most (nn) (s0) (l2) (IntKind.i64.wrap (s6 + (1 : Int))) (s4))))))))
   (chkL (l2) (l2)
   (some (Sum.inl s4)))) := by kernel_rfl
    rw [h, pulseFewer.loop11]
    try simp only [pulseFewer.loop11_eq N l most nn]
noncomputable def pulseFewer.F (N : Nat) (l : List Int) (most : Int) : Option Bool :=
  (obind (Rc.awake9.F (N)) fun r0 =>
   (br (!r0)
    (some (false))
    (br (decide (↑l.length > (600 : Int)))
     (some (true))
     (chk (([] : List Int).length + l.length ≤ (17592186043904 : Nat))
      (obind (Rc.fewer9.F (N) (most) (([] : List Int) ++ l)) fun r1 =>
      (obind (Rc.rfewer9.F (N) (most) (l)) fun r2 =>
      (obind (Rc.same9.F (N) (r1) (r2)) fun r3 =>
      (br (!r3)
      (some (false))
      (br (decide (↑l.length > (480 : Int)))
      (some (↑r1.length == (0 : Int)))
      (osum (pulseFewer.loop11 N l most (N) (l) (r1) ((0 : Int)) (false)) fun r4 =>
      (br ((↑l.length : Int).tmod (16 : Int) != (0 : Int))
      (some (true))
      (br (↑l.length == (0 : Int))
      (some (true))
      (obind (Rc.good9.F (N) (r1)) fun r5 =>
      (some (r5)))))))))))))))
theorem pulseFewer.F_eq (N : Nat) (l : List Int) (most : Int) : evLaw (pulseFewer.C N l most) (pulseFewer.K N) 0 Try.f13 [.at (.roi .i64 l), .at (.int .i64 most)] = pulseFewer.F N l most := by
  have h : evLaw (pulseFewer.C N l most) (pulseFewer.K N) 0 Try.f13 [.at (.roi .i64 l), .at (.int .i64 most)] =
  (obind (Rc.awake9.F (N)) fun r0 =>
   (br (!r0)
    (some (false))
    (br (decide (↑l.length > (600 : Int)))
     (some (true))
     (chk (([] : List Int).length + l.length ≤ (17592186043904 : Nat))
      (obind (Rc.fewer9.F (N) (most) (([] : List Int) ++ l)) fun r1 =>
      (obind (Rc.rfewer9.F (N) (most) (l)) fun r2 =>
      (obind (Rc.same9.F (N) (r1) (r2)) fun r3 =>
      (br (!r3)
      (some (false))
      (br (decide (↑l.length > (480 : Int)))
      (some (↑r1.length == (0 : Int)))
      (osum (pulseFewer.loop11R N l most (N) (l) (r1) ((0 : Int)) (false)) fun r4 =>
      (br ((↑l.length : Int).tmod (16 : Int) != (0 : Int))
      (some (true))
      (br (↑l.length == (0 : Int))
      (some (true))
      (obind (Rc.good9.F (N) (r1)) fun r5 =>
      (some (r5))))))))))))))) := by kernel_rfl
  rw [h, pulseFewer.F]
  try simp only [pulseFewer.loop11_eq N l most]
theorem pulseFewer.cok (N : Nat) (l : List Int) (most : Int) : CfgOK (pulseFewer.C N l most) := ⟨fun _ _ _ _ h => by simp [pulseFewer.C, noRT] at h, wide, by
  simp only [pulseFewer.C, List.mem_cons, List.not_mem_nil, or_false, forall_eq_or_imp, forall_eq, false_imp_iff, implies_true]
  exact ⟨⟨awake9.ok, by kernel_rfl⟩, ⟨fewer9.ok, by kernel_rfl⟩, ⟨rfewer9.ok, by kernel_rfl⟩, ⟨same9.ok, by kernel_rfl⟩, ⟨good9.ok, by kernel_rfl⟩⟩, fun g hg => by simp [pulseFewer.C] at hg, fun m hm => by simp [pulseFewer.C] at hm, fun q hq => by simp [pulseFewer.C] at hq⟩
theorem pulseFewer.aok (N : Nat) : AnnsOK (pulseFewer.K N) := by
  intro q hq
  simp only [pulseFewer.K, List.mem_cons, List.not_mem_nil, or_false] at hq
  subst hq
  exact fun _ _ => ⟨rfl, rfl⟩
theorem pulseFewer.walk {w : World} {N : Nat} (l : List Int) (most : Int) {cargs : Array Value} (ha : All2 (RV noRT (lawE w)) [.at (.roi .i64 l), .at (.int .i64 most)] cargs.toList) (h : pulseFewer.F N l most = some true) :
    Calls Try.prog 13 cargs w fun e w' => e = .returned (.bool true) ∧ Frm w (fun _ => False) w' :=
  law_sound (C := pulseFewer.C N l most) (K := pulseFewer.K N) (d := 0) (fn := Try.f13) (pulseFewer.cok N l most) (fun q hq => by simp [pulseFewer.C] at hq) (pulseFewer.aok N) (by kernel_rfl) ha ((pulseFewer.F_eq N l most).trans h)
noncomputable def pulseLeast.C (N : Nat) (l : List Int) (a : Int) (b : Int) : Cfg := { P := Try.prog, N := N, RT := noRT, specs := [(54, awake9.spec), (56, good9.spec), (58, fewer9.spec), (60, same9.spec)], inl := [], hi := 0, mv := [] }
noncomputable def pulseLeast.K (N : Nat) : FCfg := { anns := [], unr := [], lits := [], lets := [] }
noncomputable def pulseLeast.F (N : Nat) (l : List Int) (a : Int) (b : Int) : Option Bool :=
  (obind (Rc.awake9.F (N)) fun r0 =>
   (br (!r0)
    (some (false))
    (obind (Rc.good9.F (N) (l)) fun r1 =>
     (br (!r1)
      (some (true))
      (br (decide (a < b))
      (some (true))
      (br (decide (b < (0 : Int)))
      (some (true))
      (br (decide (a > (16 : Int)))
      (some (true))
      (obind (Rc.fewer9.F (N) ((16 : Int)) (l)) fun r2 =>
      (obind (Rc.fewer9.F (N) ((0 : Int)) (l)) fun r3 =>
      (obind (Rc.fewer9.F (N) (a) (l)) fun r4 =>
      (obind (Rc.fewer9.F (N) (b) (r4)) fun r5 =>
      (obind (Rc.same9.F (N) (r2) (l)) fun r6 =>
      (br (r6)
      (chk ((0 : Int) ≤ ↑l.length ∧ (l.length : Int) ≤ ↑l.length ∧ (l.length : Int) ≤ ↑(17592186043904 : Nat))
      (obind (Rc.same9.F (N) (r3) (List.replicate (↑l.length : Int).toNat (0 : Int))) fun r7 =>
      (br (r7)
      (obind (Rc.fewer9.F (N) (b) (l)) fun r8 =>
      (obind (Rc.same9.F (N) (r5) (r8)) fun r9 =>
      (some (r9))))
      (some (false)))))
      (some (false)))))))))))))))
theorem pulseLeast.F_eq (N : Nat) (l : List Int) (a : Int) (b : Int) : evLaw (pulseLeast.C N l a b) (pulseLeast.K N) 0 Try.f14 [.at (.roi .i64 l), .at (.int .i64 a), .at (.int .i64 b)] = pulseLeast.F N l a b := by
  kernel_rfl
theorem pulseLeast.cok (N : Nat) (l : List Int) (a : Int) (b : Int) : CfgOK (pulseLeast.C N l a b) := ⟨fun _ _ _ _ h => by simp [pulseLeast.C, noRT] at h, wide, by
  simp only [pulseLeast.C, List.mem_cons, List.not_mem_nil, or_false, forall_eq_or_imp, forall_eq, false_imp_iff, implies_true]
  exact ⟨⟨awake9.ok, by kernel_rfl⟩, ⟨good9.ok, by kernel_rfl⟩, ⟨fewer9.ok, by kernel_rfl⟩, ⟨same9.ok, by kernel_rfl⟩⟩, fun g hg => by simp [pulseLeast.C] at hg, fun m hm => by simp [pulseLeast.C] at hm, fun q hq => by simp [pulseLeast.C] at hq⟩
theorem pulseLeast.aok (N : Nat) : AnnsOK (pulseLeast.K N) := by
  intro q hq
  simp only [pulseLeast.K, List.mem_cons, List.not_mem_nil, or_false] at hq
theorem pulseLeast.walk {w : World} {N : Nat} (l : List Int) (a : Int) (b : Int) {cargs : Array Value} (ha : All2 (RV noRT (lawE w)) [.at (.roi .i64 l), .at (.int .i64 a), .at (.int .i64 b)] cargs.toList) (h : pulseLeast.F N l a b = some true) :
    Calls Try.prog 14 cargs w fun e w' => e = .returned (.bool true) ∧ Frm w (fun _ => False) w' :=
  law_sound (C := pulseLeast.C N l a b) (K := pulseLeast.K N) (d := 0) (fn := Try.f14) (pulseLeast.cok N l a b) (fun q hq => by simp [pulseLeast.C] at hq) (pulseLeast.aok N) (by kernel_rfl) ha ((pulseLeast.F_eq N l a b).trans h)
end Go.Proofs.Rc
