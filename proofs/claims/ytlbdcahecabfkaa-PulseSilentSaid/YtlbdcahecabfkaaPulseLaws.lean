/-
  Functions of the program: what each comes to, and its contract (written by a program).
  Conditions: none: each contract is proved for every input of its shape.
-/
import Derived.Test.YtlbdcahecabfkaaEngFn
import Derived.Laws.Externs
import Derived.Test.YtlbdcahecabfkaaProg
import Derived.Test.YtlbdcahecabfkaaPulseFns
namespace Go.Proofs.Rc
open Go.Eng
set_option maxRecDepth 100000
set_option linter.unusedVariables false
set_option linter.unusedSimpArgs false
noncomputable def pulseBackFn.sig : Eng.Sig := { args := [.at (.roi .i64 0)], n := 0, pre := [], post := [], m := 0, ret := .at (.bool 0) }
noncomputable def pulseBackFn.C (N : Nat) : Cfg := { P := Try.prog, N := N, RT := noRT, specs := [(54, awake9.spec), (25, enew.spec), (57, write9.spec), (59, rgood9.spec), (56, good9.spec), (26, etell.spec), (29, edone.spec), (30, rnew.spec), (61, rpulses.spec), (60, same9.spec), (33, rtell.spec)], inl := [], hi := 0, mv := [] }
abbrev pulseBackFn.R : Type := Bool
def pulseBackFn.dec (L : Eng.Leaves) : pulseBackFn.R := (L.b 0)
def pulseBackFn.enc (r : pulseBackFn.R) : Eng.Leaves := mkL [] [r] [] []
noncomputable def pulseBackFn.K (N : Nat) : FCfg := { anns := [], unr := [], lits := [], lets := [], frz := [6] }
noncomputable def pulseBackFn.F (N : Nat) (l : List Int) : Option pulseBackFn.R :=
  (obind (Rc.awake9.F (N)) fun r0 =>
   (br (!r0)
    (some (false))
    (obind (Rc.enew.F (N)) fun r1 =>
     (br (decide (↑l.length > (1000 : Int)))
      (obind (Rc.write9.F (N) (r1.fst) (r1.snd.fst) (r1.snd.snd.fst) (r1.snd.snd.snd.fst) (l) (r1.snd.snd.snd.snd.fst) (r1.snd.snd.snd.snd.snd)) fun r2 =>
      (some (r2.fst == (1 : Int))))
      (obind (Rc.rgood9.F (N) (l)) fun r3 =>
      (chk (([] : List Int).length + l.length ≤ (17592186043904 : Nat))
      (obind (Rc.write9.F (N) (r1.fst) (r1.snd.fst) (r1.snd.snd.fst) (r1.snd.snd.snd.fst) (([] : List Int) ++ l) (r1.snd.snd.snd.snd.fst) (r1.snd.snd.snd.snd.snd)) fun r4 =>
      (obind (Rc.good9.F (N) (l)) fun r5 =>
      (br (!r5 == r3)
      (some (false))
      (br (!r3 == (r4.fst == (0 : Int)))
      (some (false))
      (br (!r3)
      (br (r4.fst == (1 : Int))
      (obind (Rc.etell.F (N) (r4.snd.fst) (r4.snd.snd.fst) (r4.snd.snd.snd.fst) (r4.snd.snd.snd.snd.fst) (r4.snd.snd.snd.snd.snd.fst) (r4.snd.snd.snd.snd.snd.snd)) fun r6 =>
      (some (r6 == (1 : Int))))
      (some (false)))
      (obind (Rc.edone.F (N) ((1275 : Int)) (r4.snd.fst) (r4.snd.snd.fst) (r4.snd.snd.snd.fst) (r4.snd.snd.snd.snd.fst) (r4.snd.snd.snd.snd.snd.fst) (r4.snd.snd.snd.snd.snd.snd)) fun r7 =>
      (br (r7.fst != (0 : Int))
      (some (r7.fst == (2 : Int)))
      (obind (Rc.rnew.F (N) (r7.snd)) fun r8 =>
      (obind (Rc.rpulses.F (N) (↑l.length) (r8.fst) (r8.snd.fst) (r8.snd.snd.fst) (r8.snd.snd.snd.fst) (r8.snd.snd.snd.snd.fst) (r8.snd.snd.snd.snd.snd.fst) (r8.snd.snd.snd.snd.snd.snd.fst) (r8.snd.snd.snd.snd.snd.snd.snd.fst) (r8.snd.snd.snd.snd.snd.snd.snd.snd.fst) (r8.snd.snd.snd.snd.snd.snd.snd.snd.snd.fst) (r8.snd.snd.snd.snd.snd.snd.snd.snd.snd.snd)) fun r9 =>
      (obind (Rc.same9.F (N) (r9.snd.snd.snd.snd.snd.snd.snd.snd.snd.snd) (l)) fun r10 =>
      (br (r10)
      (obind (Rc.rtell.F (N) (r9.fst) (r9.snd.fst) (r9.snd.snd.fst) (r9.snd.snd.snd.fst) (r9.snd.snd.snd.snd.fst) (r9.snd.snd.snd.snd.snd.fst) (r9.snd.snd.snd.snd.snd.snd.fst) (r9.snd.snd.snd.snd.snd.snd.snd.fst) (r9.snd.snd.snd.snd.snd.snd.snd.snd.fst) (r9.snd.snd.snd.snd.snd.snd.snd.snd.snd.fst) (r8.snd.snd.snd.snd.snd.snd.snd.snd.snd.snd)) fun r11 =>
      (obind (Rc.etell.F (N) (r4.snd.fst) (r4.snd.snd.fst) (r4.snd.snd.snd.fst) (r4.snd.snd.snd.snd.fst) (r4.snd.snd.snd.snd.snd.fst) (r4.snd.snd.snd.snd.snd.snd)) fun r12 =>
      (some (r11 == r12))))
      (some (false)))))))))))))))))))
theorem pulseBackFn.F_eq (N : Nat) (L : Eng.Leaves) : evSig (pulseBackFn.C N) (pulseBackFn.K N) 0 Try.f12 pulseBackFn.sig L pulseBackFn.dec = pulseBackFn.F N (L.l 0) := by
  kernel_rfl
noncomputable def pulseBackFn.spec : Eng.Spec := pulseBackFn.sig.spec (fun N L => pulseBackFn.F N (L.l 0)) pulseBackFn.enc
theorem pulseBackFn.cok (N : Nat) : CfgOK (pulseBackFn.C N) := ⟨fun _ _ _ _ h => by simp [pulseBackFn.C, noRT] at h, wide, by
  simp only [pulseBackFn.C, List.mem_cons, List.not_mem_nil, or_false, forall_eq_or_imp, forall_eq, false_imp_iff, implies_true]
  exact ⟨⟨awake9.ok, by kernel_rfl⟩, ⟨enew.ok, by kernel_rfl⟩, ⟨write9.ok, by kernel_rfl⟩, ⟨rgood9.ok, by kernel_rfl⟩, ⟨good9.ok, by kernel_rfl⟩, ⟨etell.ok, by kernel_rfl⟩, ⟨edone.ok, by kernel_rfl⟩, ⟨rnew.ok, by kernel_rfl⟩, ⟨rpulses.ok, by kernel_rfl⟩, ⟨same9.ok, by kernel_rfl⟩, ⟨rtell.ok, by kernel_rfl⟩⟩, fun g hg => by simp [pulseBackFn.C] at hg, fun m hm => by simp [pulseBackFn.C] at hm, fun q hq => by simp [pulseBackFn.C] at hq⟩
theorem pulseBackFn.aok (N : Nat) : AnnsOK (pulseBackFn.K N) := by
  intro q hq
  simp only [pulseBackFn.K, List.mem_cons, List.not_mem_nil, or_false] at hq
theorem pulseBackFn.ok : CallOK Try.prog 12 pulseBackFn.spec :=
  callOK_of_sig (fn := Try.f12) (Cf := pulseBackFn.C) (K := pulseBackFn.K) (d := 0) (dec := pulseBackFn.dec) (by kernel_rfl) (fun _ => rfl) pulseBackFn.cok (fun _ q hq => by simp [pulseBackFn.C] at hq) pulseBackFn.aok
    (fun N L r h => (pulseBackFn.F_eq N L).trans h) (by kernel_rfl) (fun _ => ⟨rfl, rfl⟩) (fun _ _ => ⟨rfl, rfl⟩)
noncomputable def pulseBack.C (N : Nat) (l : List Int) : Cfg := { P := Try.prog, N := N, RT := noRT, specs := [(54, awake9.spec), (25, enew.spec), (57, write9.spec), (59, rgood9.spec), (56, good9.spec), (26, etell.spec), (29, edone.spec), (30, rnew.spec), (61, rpulses.spec), (60, same9.spec), (33, rtell.spec)], inl := [], hi := 0, mv := [] }
noncomputable def pulseBack.K (N : Nat) : FCfg := { anns := [], unr := [], lits := [], lets := [], frz := [6] }
noncomputable def pulseBack.F (N : Nat) (l : List Int) : Option Bool :=
  (obind (Rc.awake9.F (N)) fun r0 =>
   (br (!r0)
    (some (false))
    (obind (Rc.enew.F (N)) fun r1 =>
     (br (decide (↑l.length > (1000 : Int)))
      (obind (Rc.write9.F (N) (r1.fst) (r1.snd.fst) (r1.snd.snd.fst) (r1.snd.snd.snd.fst) (l) (r1.snd.snd.snd.snd.fst) (r1.snd.snd.snd.snd.snd)) fun r2 =>
      (some (r2.fst == (1 : Int))))
      (obind (Rc.rgood9.F (N) (l)) fun r3 =>
      (chk (([] : List Int).length + l.length ≤ (17592186043904 : Nat))
      (obind (Rc.write9.F (N) (r1.fst) (r1.snd.fst) (r1.snd.snd.fst) (r1.snd.snd.snd.fst) (([] : List Int) ++ l) (r1.snd.snd.snd.snd.fst) (r1.snd.snd.snd.snd.snd)) fun r4 =>
      (obind (Rc.good9.F (N) (l)) fun r5 =>
      (br (!r5 == r3)
      (some (false))
      (br (!r3 == (r4.fst == (0 : Int)))
      (some (false))
      (br (!r3)
      (br (r4.fst == (1 : Int))
      (obind (Rc.etell.F (N) (r4.snd.fst) (r4.snd.snd.fst) (r4.snd.snd.snd.fst) (r4.snd.snd.snd.snd.fst) (r4.snd.snd.snd.snd.snd.fst) (r4.snd.snd.snd.snd.snd.snd)) fun r6 =>
      (some (r6 == (1 : Int))))
      (some (false)))
      (obind (Rc.edone.F (N) ((1275 : Int)) (r4.snd.fst) (r4.snd.snd.fst) (r4.snd.snd.snd.fst) (r4.snd.snd.snd.snd.fst) (r4.snd.snd.snd.snd.snd.fst) (r4.snd.snd.snd.snd.snd.snd)) fun r7 =>
      (br (r7.fst != (0 : Int))
      (some (r7.fst == (2 : Int)))
      (obind (Rc.rnew.F (N) (r7.snd)) fun r8 =>
      (obind (Rc.rpulses.F (N) (↑l.length) (r8.fst) (r8.snd.fst) (r8.snd.snd.fst) (r8.snd.snd.snd.fst) (r8.snd.snd.snd.snd.fst) (r8.snd.snd.snd.snd.snd.fst) (r8.snd.snd.snd.snd.snd.snd.fst) (r8.snd.snd.snd.snd.snd.snd.snd.fst) (r8.snd.snd.snd.snd.snd.snd.snd.snd.fst) (r8.snd.snd.snd.snd.snd.snd.snd.snd.snd.fst) (r8.snd.snd.snd.snd.snd.snd.snd.snd.snd.snd)) fun r9 =>
      (obind (Rc.same9.F (N) (r9.snd.snd.snd.snd.snd.snd.snd.snd.snd.snd) (l)) fun r10 =>
      (br (r10)
      (obind (Rc.rtell.F (N) (r9.fst) (r9.snd.fst) (r9.snd.snd.fst) (r9.snd.snd.snd.fst) (r9.snd.snd.snd.snd.fst) (r9.snd.snd.snd.snd.snd.fst) (r9.snd.snd.snd.snd.snd.snd.fst) (r9.snd.snd.snd.snd.snd.snd.snd.fst) (r9.snd.snd.snd.snd.snd.snd.snd.snd.fst) (r9.snd.snd.snd.snd.snd.snd.snd.snd.snd.fst) (r8.snd.snd.snd.snd.snd.snd.snd.snd.snd.snd)) fun r11 =>
      (obind (Rc.etell.F (N) (r4.snd.fst) (r4.snd.snd.fst) (r4.snd.snd.snd.fst) (r4.snd.snd.snd.snd.fst) (r4.snd.snd.snd.snd.snd.fst) (r4.snd.snd.snd.snd.snd.snd)) fun r12 =>
      (some (r11 == r12))))
      (some (false)))))))))))))))))))
theorem pulseBack.F_eq (N : Nat) (l : List Int) : evLaw (pulseBack.C N l) (pulseBack.K N) 0 Try.f12 [.at (.roi .i64 l)] = pulseBack.F N l := by
  kernel_rfl
theorem pulseBack.cok (N : Nat) (l : List Int) : CfgOK (pulseBack.C N l) := ⟨fun _ _ _ _ h => by simp [pulseBack.C, noRT] at h, wide, by
  simp only [pulseBack.C, List.mem_cons, List.not_mem_nil, or_false, forall_eq_or_imp, forall_eq, false_imp_iff, implies_true]
  exact ⟨⟨awake9.ok, by kernel_rfl⟩, ⟨enew.ok, by kernel_rfl⟩, ⟨write9.ok, by kernel_rfl⟩, ⟨rgood9.ok, by kernel_rfl⟩, ⟨good9.ok, by kernel_rfl⟩, ⟨etell.ok, by kernel_rfl⟩, ⟨edone.ok, by kernel_rfl⟩, ⟨rnew.ok, by kernel_rfl⟩, ⟨rpulses.ok, by kernel_rfl⟩, ⟨same9.ok, by kernel_rfl⟩, ⟨rtell.ok, by kernel_rfl⟩⟩, fun g hg => by simp [pulseBack.C] at hg, fun m hm => by simp [pulseBack.C] at hm, fun q hq => by simp [pulseBack.C] at hq⟩
theorem pulseBack.aok (N : Nat) : AnnsOK (pulseBack.K N) := by
  intro q hq
  simp only [pulseBack.K, List.mem_cons, List.not_mem_nil, or_false] at hq
theorem pulseBack.walk {w : World} {N : Nat} (l : List Int) {cargs : Array Value} (ha : All2 (RV noRT (lawE w)) [.at (.roi .i64 l)] cargs.toList) (h : pulseBack.F N l = some true) :
    Calls Try.prog 12 cargs w fun e w' => e = .returned (.bool true) ∧ Frm w (fun _ => False) w' :=
  law_sound (C := pulseBack.C N l) (K := pulseBack.K N) (d := 0) (fn := Try.f12) (pulseBack.cok N l) (fun q hq => by simp [pulseBack.C] at hq) (pulseBack.aok N) (by kernel_rfl) ha ((pulseBack.F_eq N l).trans h)
noncomputable def pulseSilent.C (N : Nat) (n : Int) (at_ : Int) (minus : Bool) : Cfg := { P := Try.prog, N := N, RT := noRT, specs := [(54, awake9.spec), (56, good9.spec), (12, pulseBackFn.spec)], inl := [], hi := 0, mv := [] }
noncomputable def pulseSilent.K (N : Nat) : FCfg := { anns := [], unr := [], lits := [], lets := [] }
noncomputable def pulseSilent.F (N : Nat) (n : Int) (at_ : Int) (minus : Bool) : Option Bool :=
  (obind (Rc.awake9.F (N)) fun r0 =>
   (br (!r0)
    (some (false))
    (br (decide (n < (16 : Int)))
     (some (true))
     (br (decide (n > (320 : Int)))
      (some (true))
      (br (n.tmod (16 : Int) != (0 : Int))
      (some (true))
      (br (decide (at_ < (0 : Int)))
      (some (true))
      (br (decide (at_ ≥ n))
      (some (true))
      (chk ((0 : Int) ≤ n ∧ n ≤ n ∧ n ≤ ↑(17592186043904 : Nat))
      (obind (Rc.good9.F (N) (List.replicate n.toNat (0 : Int))) fun r1 =>
      (br (!r1)
      (some (false))
      (chk ((0 : Int) ≤ at_ ∧ at_ < ↑(List.replicate n.toNat (0 : Int)).length)
      (br (minus)
      (chk ((0 : Int) ≤ at_ ∧ at_ < ↑((List.replicate n.toNat (0 : Int)).set at_.toNat (1 : Int)).length)
      (obind (Rc.pulseBackFn.F (N) (((List.replicate n.toNat (0 : Int)).set at_.toNat (1 : Int)).set at_.toNat (-1 : Int))) fun r2 =>
      (br (r2)
      (chk ((0 : Int) ≤ n ∧ n ≤ n ∧ n ≤ ↑(17592186043904 : Nat))
      (obind (Rc.pulseBackFn.F (N) (List.replicate n.toNat (0 : Int))) fun r3 =>
      (br (r3)
      (obind (Rc.good9.F (N) (((List.replicate n.toNat (0 : Int)).set at_.toNat (1 : Int)).set at_.toNat (-1 : Int))) fun r4 =>
      (some (r4)))
      (some (false)))))
      (some (false)))))
      (obind (Rc.pulseBackFn.F (N) ((List.replicate n.toNat (0 : Int)).set at_.toNat (1 : Int))) fun r5 =>
      (br (r5)
      (chk ((0 : Int) ≤ n ∧ n ≤ n ∧ n ≤ ↑(17592186043904 : Nat))
      (obind (Rc.pulseBackFn.F (N) (List.replicate n.toNat (0 : Int))) fun r6 =>
      (br (r6)
      (obind (Rc.good9.F (N) ((List.replicate n.toNat (0 : Int)).set at_.toNat (1 : Int))) fun r7 =>
      (some (r7)))
      (some (false)))))
      (some (false))))))))))))))))
theorem pulseSilent.F_eq (N : Nat) (n : Int) (at_ : Int) (minus : Bool) : evLaw (pulseSilent.C N n at_ minus) (pulseSilent.K N) 0 Try.f15 [.at (.int .i64 n), .at (.int .i64 at_), .at (.bool minus)] = pulseSilent.F N n at_ minus := by
  kernel_rfl
theorem pulseSilent.cok (N : Nat) (n : Int) (at_ : Int) (minus : Bool) : CfgOK (pulseSilent.C N n at_ minus) := ⟨fun _ _ _ _ h => by simp [pulseSilent.C, noRT] at h, wide, by
  simp only [pulseSilent.C, List.mem_cons, List.not_mem_nil, or_false, forall_eq_or_imp, forall_eq, false_imp_iff, implies_true]
  exact ⟨⟨awake9.ok, by kernel_rfl⟩, ⟨good9.ok, by kernel_rfl⟩, ⟨pulseBackFn.ok, by kernel_rfl⟩⟩, fun g hg => by simp [pulseSilent.C] at hg, fun m hm => by simp [pulseSilent.C] at hm, fun q hq => by simp [pulseSilent.C] at hq⟩
theorem pulseSilent.aok (N : Nat) : AnnsOK (pulseSilent.K N) := by
  intro q hq
  simp only [pulseSilent.K, List.mem_cons, List.not_mem_nil, or_false] at hq
theorem pulseSilent.walk {w : World} {N : Nat} (n : Int) (at_ : Int) (minus : Bool) {cargs : Array Value} (ha : All2 (RV noRT (lawE w)) [.at (.int .i64 n), .at (.int .i64 at_), .at (.bool minus)] cargs.toList) (h : pulseSilent.F N n at_ minus = some true) :
    Calls Try.prog 15 cargs w fun e w' => e = .returned (.bool true) ∧ Frm w (fun _ => False) w' :=
  law_sound (C := pulseSilent.C N n at_ minus) (K := pulseSilent.K N) (d := 0) (fn := Try.f15) (pulseSilent.cok N n at_ minus) (fun q hq => by simp [pulseSilent.C] at hq) (pulseSilent.aok N) (by kernel_rfl) ha ((pulseSilent.F_eq N n at_ minus).trans h)
end Go.Proofs.Rc
