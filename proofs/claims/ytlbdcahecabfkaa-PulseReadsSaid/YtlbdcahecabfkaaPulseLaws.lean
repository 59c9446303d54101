/-
  Functions of the program: what each comes to, and its contract (written by a program).
  Conditions: none: each contract is proved for every input of its shape.
-/
import Derived.Test.YtlbdcahecabfkaaEngFn
import Derived.Laws.Externs
import Derived.Test.YtlbdcahecabfkaaProg
import Derived.Test.YtlbdcahecabfkaaPulseFns
namespace Go.Proofs.Rc
open Go.Eng
set_option maxRecDepth 100000
set_option linter.unusedVariables false
set_option linter.unusedSimpArgs false
noncomputable def pulseBackFn.sig : Eng.Sig := { args := [.at (.roi .i64 0)], n := 0, pre := [], post := [], m := 0, ret := .at (.bool 0) }
noncomputable def pulseBackFn.C (N : Nat) : Cfg := { P := Try.prog, N := N, RT := noRT, specs := [(54, awake9.spec), (25, enew.spec), (57, write9.spec), (59, rgood9.spec), (56, good9.spec), (26, etell.spec), (29, edone.spec), (30, rnew.spec), (61, rpulses.spec), (60, same9.spec), (33, rtell.spec)], inl := [], hi := 0, mv := [] }
abbrev pulseBackFn.R : Type := Bool
def pulseBackFn.dec (L : Eng.Leaves) : pulseBackFn.R := (L.b 0)
def pulseBackFn.enc (r : pulseBackFn.R) : Eng.Leaves := mkL [] [r] [] []
noncomputable def pulseBackFn.K (N : Nat) : FCfg := { anns := [], unr := [], lits := [], lets := [], frz := [6] }
noncomputable def pulseBackFn.F (N : Nat) (l : List Int) : Option pulseBackFn.R :=
  (obind (Rc.awake9.F (N)) fun r0 =>
   (br (!r0)
    (some (false))
    (obind (Rc.enew.F (N)) fun r1 =>
     (br (decide (↑l.length > (1000 : Int)))
      (obind (Rc.write9.F (N) (r1.fst) (r1.snd.fst) (r1.snd.snd.fst) (r1.snd.snd.snd.fst) (l) (r1.snd.snd.snd.snd.fst) (r1.snd.snd.snd.snd.snd)) fun r2 =>
      (some (r2.fst == (1 : Int))))
      (obind (Rc.rgood9.F (N) (l)) fun r3 =>
      (chk (([] : List Int).length + l.length ≤ (17592186043904 : Nat))
      (obind (Rc.write9.F (N) (r1.fst) (r1.snd.fst) (r1.snd.snd.fst) (r1.snd.snd.snd.fst) (([] : List Int) ++ l) (r1.snd.snd.snd.snd.fst) (r1.snd.snd.snd.snd.snd)) fun r4 =>
      (obind (Rc.good9.F (N) (l)) fun r5 =>
      (br (!r5 == r3)
      (some (false))
      (br (!r3 == (r4.fst == (0 : Int)))
      (some (false))
      (br (!r3)
      (br (r4.fst == (1 : Int))
      (obind (Rc.etell.F (N) (r4.snd.fst) (r4.snd.snd.fst) (r4.snd.snd.snd.fst) (r4.snd.snd.snd.snd.fst) (r4.snd.snd.snd.snd.snd.fst) (r4.snd.snd.snd.snd.snd.snd)) fun r6 =>
      (some (r6 == (1 : Int))))
      (some (false)))
      (obind (Rc.edone.F (N) ((1275 : Int)) (r4.snd.fst) (r4.snd.snd.fst) (r4.snd.snd.snd.fst) (r4.snd.snd.snd.snd.fst) (r4.snd.snd.snd.snd.snd.fst) (r4.snd.snd.snd.snd.snd.snd)) fun r7 =>
      (br (r7.fst != (0 : Int))
      (some (r7.fst == (2 : Int)))
      (obind (Rc.rnew.F (N) (r7.snd)) fun r8 =>
      (obind (Rc.rpulses.F (N) (↑l.length) (r8.fst) (r8.snd.fst) (r8.snd.snd.fst) (r8.snd.snd.snd.fst) (r8.snd.snd.snd.snd.fst) (r8.snd.snd.snd.snd.snd.fst) (r8.snd.snd.snd.snd.snd.snd.fst) (r8.snd.snd.snd.snd.snd.snd.snd.fst) (r8.snd.snd.snd.snd.snd.snd.snd.snd.fst) (r8.snd.snd.snd.snd.snd.snd.snd.snd.snd.fst) (r8.snd.snd.snd.snd.snd.snd.snd.snd.snd.snd)) fun r9 =>
      (obind (Rc.same9.F (N) (r9.snd.snd.snd.snd.snd.snd.snd.snd.snd.snd) (l)) fun r10 =>
      (br (r10)
      (obind (Rc.rtell.F (N) (r9.fst) (r9.snd.fst) (r9.snd.snd.fst) (r9.snd.snd.snd.fst) (r9.snd.snd.snd.snd.fst) (r9.snd.snd.snd.snd.snd.fst) (r9.snd.snd.snd.snd.snd.snd.fst) (r9.snd.snd.snd.snd.snd.snd.snd.fst) (r9.snd.snd.snd.snd.snd.snd.snd.snd.fst) (r9.snd.snd.snd.snd.snd.snd.snd.snd.snd.fst) (r8.snd.snd.snd.snd.snd.snd.snd.snd.snd.snd)) fun r11 =>
      (obind (Rc.etell.F (N) (r4.snd.fst) (r4.snd.snd.fst) (r4.snd.snd.snd.fst) (r4.snd.snd.snd.snd.fst) (r4.snd.snd.snd.snd.snd.fst) (r4.snd.snd.snd.snd.snd.snd)) fun r12 =>
      (some (r11 == r12))))
      (some (false)))))))))))))))))))
theorem pulseBackFn.F_eq (N : Nat) (L : Eng.Leaves) : evSig (pulseBackFn.C N) (pulseBackFn.K N) 0 Try.f12 pulseBackFn.sig L pulseBackFn.dec = pulseBackFn.F N (L.l 0) := by
  kernel_rfl
noncomputable def pulseBackFn.spec : Eng.Spec := pulseBackFn.sig.spec (fun N L => pulseBackFn.F N (L.l 0)) pulseBackFn.enc
theorem pulseBackFn.cok (N : Nat) : CfgOK (pulseBackFn.C N) := ⟨fun _ _ _ _ h => by simp [pulseBackFn.C, noRT] at h, wide, by
  simp only [pulseBackFn.C, List.mem_cons, List.not_mem_nil, or_false, forall_eq_or_imp, forall_eq, false_imp_iff, implies_true]
  exact ⟨⟨awake9.ok, by kernel_rfl⟩, ⟨enew.ok, by kernel_rfl⟩, ⟨write9.ok, by kernel_rfl⟩, ⟨rgood9.ok, by kernel_rfl⟩, ⟨good9.ok, by kernel_rfl⟩, ⟨etell.ok, by kernel_rfl⟩, ⟨edone.ok, by kernel_rfl⟩, ⟨rnew.ok, by kernel_rfl⟩, ⟨rpulses.ok, by kernel_rfl⟩, ⟨same9.ok, by kernel_rfl⟩, ⟨rtell.ok, by kernel_rfl⟩⟩, fun g hg => by simp [pulseBackFn.C] at hg, fun m hm => by simp [pulseBackFn.C] at hm, fun q hq => by simp [pulseBackFn.C] at hq⟩
theorem pulseBackFn.aok (N : Nat) : AnnsOK (pulseBackFn.K N) := by
  intro q hq
  simp only [pulseBackFn.K, List.mem_cons, List.not_mem_nil, or_false] at hq
theorem pulseBackFn.ok : CallOK Try.prog 12 pulseBackFn.spec :=
  callOK_of_sig (fn := Try.f12) (Cf := pulseBackFn.C) (K := pulseBackFn.K) (d := 0) (dec := pulseBackFn.dec) (by kernel_rfl) (fun _ => rfl) pulseBackFn.cok (fun _ q hq => by simp [pulseBackFn.C] at hq) pulseBackFn.aok
    (fun N L r h => (pulseBackFn.F_eq N L).trans h) (by kernel_rfl) (fun _ => ⟨rfl, rfl⟩) (fun _ _ => ⟨rfl, rfl⟩)

noncomputable def pulseKnown.C (N : Nat)  : Cfg := { P := Try.prog, N := N, RT := noRT, specs := [(54, awake9.spec), (41, new.spec), (55, read9.spec), (25, enew.spec), (56, good9.spec), (57, write9.spec), (26, etell.spec), (58, fewer9.spec)], inl := [], hi := 0, mv := [] }
noncomputable def pulseKnown.K (N : Nat) : FCfg := { anns := [], unr := [], lits := [], lets := [] }
noncomputable def pulseKnown.F (N : Nat)  : Option Bool :=
  (obind (Rc.awake9.F (N)) fun r0 =>
   (br (!r0)
    (some (false))
    (obind (Rc.new.F (N) (([] : List Int))) fun r1 =>
     (obind (Rc.read9.F (N) ((15 : Int)) (r1.fst) (r1.snd.fst) (r1.snd.snd.fst) (r1.snd.snd.snd.fst) (r1.snd.snd.snd.snd.fst) (r1.snd.snd.snd.snd.snd.fst) (r1.snd.snd.snd.snd.snd.snd.fst) (r1.snd.snd.snd.snd.snd.snd.snd.fst) (r1.snd.snd.snd.snd.snd.snd.snd.snd.fst) (r1.snd.snd.snd.snd.snd.snd.snd.snd.snd)) fun r2 =>
      (obind (Rc.enew.F (N)) fun r3 =>
      (obind (Rc.good9.F (N) (List.replicate (Int.toNat (16 : Int)) (0 : Int))) fun r4 =>
      (br (r4)
      (obind (Rc.good9.F (N) (([] : List Int))) fun r5 =>
      (br (!r5)
      (obind (Rc.good9.F (N) ((List.replicate (Int.toNat (16 : Int)) (0 : Int)).set (Int.toNat (0 : Int)) (17 : Int))) fun r6 =>
      (br (!r6)
      (br (r2.fst == (1 : Int))
      (obind (Rc.write9.F (N) (r3.fst) (r3.snd.fst) (r3.snd.snd.fst) (r3.snd.snd.snd.fst) ((List.replicate (Int.toNat (16 : Int)) (0 : Int)).set (Int.toNat (0 : Int)) (17 : Int)) (r3.snd.snd.snd.snd.fst) (r3.snd.snd.snd.snd.snd)) fun r7 =>
      (br (r7.fst == (1 : Int))
      (obind (Rc.etell.F (N) (r7.snd.fst) (r7.snd.snd.fst) (r7.snd.snd.snd.fst) (r7.snd.snd.snd.snd.fst) (r7.snd.snd.snd.snd.snd.fst) (r7.snd.snd.snd.snd.snd.snd)) fun r8 =>
      (br (r8 == (1 : Int))
      (obind (Rc.fewer9.F (N) ((3 : Int)) (List.replicate (Int.toNat (481 : Int)) (0 : Int))) fun r9 =>
      (some (↑r9.length == (0 : Int))))
      (some (false))))
      (some (false))))
      (some (false)))
      (some (false))))
      (some (false))))
      (some (false)))))))))
theorem pulseKnown.F_eq (N : Nat)  : evLaw (pulseKnown.C N ) (pulseKnown.K N) 0 Try.f11 [] = pulseKnown.F N  := by
  kernel_rfl
theorem pulseKnown.cok (N : Nat)  : CfgOK (pulseKnown.C N ) := ⟨fun _ _ _ _ h => by simp [pulseKnown.C, noRT] at h, wide, by
  simp only [pulseKnown.C, List.mem_cons, List.not_mem_nil, or_false, forall_eq_or_imp, forall_eq, false_imp_iff, implies_true]
  exact ⟨⟨awake9.ok, by kernel_rfl⟩, ⟨new.ok, by kernel_rfl⟩, ⟨read9.ok, by kernel_rfl⟩, ⟨enew.ok, by kernel_rfl⟩, ⟨good9.ok, by kernel_rfl⟩, ⟨write9.ok, by kernel_rfl⟩, ⟨etell.ok, by kernel_rfl⟩, ⟨fewer9.ok, by kernel_rfl⟩⟩, fun g hg => by simp [pulseKnown.C] at hg, fun m hm => by simp [pulseKnown.C] at hm, fun q hq => by simp [pulseKnown.C] at hq⟩
theorem pulseKnown.aok (N : Nat) : AnnsOK (pulseKnown.K N) := by
  intro q hq
  simp only [pulseKnown.K, List.mem_cons, List.not_mem_nil, or_false] at hq
theorem pulseKnown.walk {w : World} {N : Nat}  {cargs : Array Value} (ha : All2 (RV noRT (lawE w)) [] cargs.toList) (h : pulseKnown.F N  = some true) :
    Calls Try.prog 11 cargs w fun e w' => e = .returned (.bool true) ∧ Frm w (fun _ => False) w' :=
  law_sound (C := pulseKnown.C N ) (K := pulseKnown.K N) (d := 0) (fn := Try.f11) (pulseKnown.cok N ) (fun q hq => by simp [pulseKnown.C] at hq) (pulseKnown.aok N) (by kernel_rfl) ha ((pulseKnown.F_eq N ).trans h)

noncomputable def pulseReads.C (N : Nat) (b : List Int) (n : Int) : Cfg := { P := Try.prog, N := N, RT := noRT, specs := [(54, awake9.spec), (41, new.spec), (55, read9.spec), (51, tell.spec), (30, rnew.spec), (61, rpulses.spec), (60, same9.spec), (33, rtell.spec), (56, good9.spec)], inl := [], hi := 0, mv := [] }
noncomputable def pulseReads.K (N : Nat) : FCfg := { anns := [], unr := [], lits := [], lets := [] }
noncomputable def pulseReads.F (N : Nat) (b : List Int) (n : Int) : Option Bool :=
  (obind (Rc.awake9.F (N)) fun r0 =>
   (br (!r0)
    (some (false))
    (br (decide (↑b.length > (1000 : Int)))
     (some (true))
     (obind (Rc.new.F (N) (b)) fun r1 =>
      (obind (Rc.read9.F (N) (n) (r1.fst) (r1.snd.fst) (r1.snd.snd.fst) (r1.snd.snd.snd.fst) (r1.snd.snd.snd.snd.fst) (r1.snd.snd.snd.snd.snd.fst) (r1.snd.snd.snd.snd.snd.snd.fst) (r1.snd.snd.snd.snd.snd.snd.snd.fst) (r1.snd.snd.snd.snd.snd.snd.snd.snd.fst) (r1.snd.snd.snd.snd.snd.snd.snd.snd.snd)) fun r2 =>
      (br (decide (n < (16 : Int)))
      (br (r2.fst == (1 : Int))
      (br (↑r2.snd.snd.snd.snd.snd.snd.snd.snd.snd.snd.length == (0 : Int))
      (obind (Rc.tell.F (N) (r2.snd.fst) (r2.snd.snd.fst) (r2.snd.snd.snd.fst) (r2.snd.snd.snd.snd.fst) (r2.snd.snd.snd.snd.snd.fst) (r2.snd.snd.snd.snd.snd.snd.fst) (r2.snd.snd.snd.snd.snd.snd.snd.fst) (r2.snd.snd.snd.snd.snd.snd.snd.snd.fst) (r2.snd.snd.snd.snd.snd.snd.snd.snd.snd.fst) (r1.snd.snd.snd.snd.snd.snd.snd.snd.snd)) fun r3 =>
      (some (r3 == (1 : Int))))
      (some (false)))
      (some (false)))
      (br (decide (n > (480 : Int)))
      (br (r2.fst == (1 : Int))
      (br (↑r2.snd.snd.snd.snd.snd.snd.snd.snd.snd.snd.length == (0 : Int))
      (obind (Rc.tell.F (N) (r2.snd.fst) (r2.snd.snd.fst) (r2.snd.snd.snd.fst) (r2.snd.snd.snd.snd.fst) (r2.snd.snd.snd.snd.snd.fst) (r2.snd.snd.snd.snd.snd.snd.fst) (r2.snd.snd.snd.snd.snd.snd.snd.fst) (r2.snd.snd.snd.snd.snd.snd.snd.snd.fst) (r2.snd.snd.snd.snd.snd.snd.snd.snd.snd.fst) (r1.snd.snd.snd.snd.snd.snd.snd.snd.snd)) fun r4 =>
      (some (r4 == (1 : Int))))
      (some (false)))
      (some (false)))
      (br (n.tmod (16 : Int) != (0 : Int))
      (br (r2.fst == (1 : Int))
      (br (↑r2.snd.snd.snd.snd.snd.snd.snd.snd.snd.snd.length == (0 : Int))
      (obind (Rc.tell.F (N) (r2.snd.fst) (r2.snd.snd.fst) (r2.snd.snd.snd.fst) (r2.snd.snd.snd.snd.fst) (r2.snd.snd.snd.snd.snd.fst) (r2.snd.snd.snd.snd.snd.snd.fst) (r2.snd.snd.snd.snd.snd.snd.snd.fst) (r2.snd.snd.snd.snd.snd.snd.snd.snd.fst) (r2.snd.snd.snd.snd.snd.snd.snd.snd.snd.fst) (r1.snd.snd.snd.snd.snd.snd.snd.snd.snd)) fun r5 =>
      (some (r5 == (1 : Int))))
      (some (false)))
      (some (false)))
      (obind (Rc.rnew.F (N) (b)) fun r6 =>
      (obind (Rc.rpulses.F (N) (n) (r6.fst) (r6.snd.fst) (r6.snd.snd.fst) (r6.snd.snd.snd.fst) (r6.snd.snd.snd.snd.fst) (r6.snd.snd.snd.snd.snd.fst) (r6.snd.snd.snd.snd.snd.snd.fst) (r6.snd.snd.snd.snd.snd.snd.snd.fst) (r6.snd.snd.snd.snd.snd.snd.snd.snd.fst) (r6.snd.snd.snd.snd.snd.snd.snd.snd.snd.fst) (r6.snd.snd.snd.snd.snd.snd.snd.snd.snd.snd)) fun r7 =>
      (br (r2.fst == (0 : Int))
      (obind (Rc.same9.F (N) (r2.snd.snd.snd.snd.snd.snd.snd.snd.snd.snd) (r7.snd.snd.snd.snd.snd.snd.snd.snd.snd.snd)) fun r8 =>
      (br (r8)
      (obind (Rc.tell.F (N) (r2.snd.fst) (r2.snd.snd.fst) (r2.snd.snd.snd.fst) (r2.snd.snd.snd.snd.fst) (r2.snd.snd.snd.snd.snd.fst) (r2.snd.snd.snd.snd.snd.snd.fst) (r2.snd.snd.snd.snd.snd.snd.snd.fst) (r2.snd.snd.snd.snd.snd.snd.snd.snd.fst) (r2.snd.snd.snd.snd.snd.snd.snd.snd.snd.fst) (r1.snd.snd.snd.snd.snd.snd.snd.snd.snd)) fun r9 =>
      (obind (Rc.rtell.F (N) (r7.fst) (r7.snd.fst) (r7.snd.snd.fst) (r7.snd.snd.snd.fst) (r7.snd.snd.snd.snd.fst) (r7.snd.snd.snd.snd.snd.fst) (r7.snd.snd.snd.snd.snd.snd.fst) (r7.snd.snd.snd.snd.snd.snd.snd.fst) (r7.snd.snd.snd.snd.snd.snd.snd.snd.fst) (r7.snd.snd.snd.snd.snd.snd.snd.snd.snd.fst) (r6.snd.snd.snd.snd.snd.snd.snd.snd.snd.snd)) fun r10 =>
      (br (r9 == r10)
      (obind (Rc.good9.F (N) (r2.snd.snd.snd.snd.snd.snd.snd.snd.snd.snd)) fun r11 =>
      (some (r11)))
      (some (false)))))
      (some (false))))
      (some (false)))))))))))))
theorem pulseReads.F_eq (N : Nat) (b : List Int) (n : Int) : evLaw (pulseReads.C N b n) (pulseReads.K N) 0 Try.f16 [.at (.roi .u8 b), .at (.int .i64 n)] = pulseReads.F N b n := by
  kernel_rfl
theorem pulseReads.cok (N : Nat) (b : List Int) (n : Int) : CfgOK (pulseReads.C N b n) := ⟨fun _ _ _ _ h => by simp [pulseReads.C, noRT] at h, wide, by
  simp only [pulseReads.C, List.mem_cons, List.not_mem_nil, or_false, forall_eq_or_imp, forall_eq, false_imp_iff, implies_true]
  exact ⟨⟨awake9.ok, by kernel_rfl⟩, ⟨new.ok, by kernel_rfl⟩, ⟨read9.ok, by kernel_rfl⟩, ⟨tell.ok, by kernel_rfl⟩, ⟨rnew.ok, by kernel_rfl⟩, ⟨rpulses.ok, by kernel_rfl⟩, ⟨same9.ok, by kernel_rfl⟩, ⟨rtell.ok, by kernel_rfl⟩, ⟨good9.ok, by kernel_rfl⟩⟩, fun g hg => by simp [pulseReads.C] at hg, fun m hm => by simp [pulseReads.C] at hm, fun q hq => by simp [pulseReads.C] at hq⟩
theorem pulseReads.aok (N : Nat) : AnnsOK (pulseReads.K N) := by
  intro q hq
  simp only [pulseReads.K, List.mem_cons, List.not_mem_nil, or_false] at hq
theorem pulseReads.walk {w : World} {N : Nat} (b : List Int) (n : Int) {cargs : Array Value} (ha : All2 (RV noRT (lawE w)) [.at (.roi .u8 b), .at (.int .i64 n)] cargs.toList) (h : pulseReads.F N b n = some true) :
    Calls Try.prog 16 cargs w fun e w' => e = .returned (.bool true) ∧ Frm w (fun _ => False) w' :=
  law_sound (C := pulseReads.C N b n) (K := pulseReads.K N) (d := 0) (fn := Try.f16) (pulseReads.cok N b n) (fun q hq => by simp [pulseReads.C] at hq) (pulseReads.aok N) (by kernel_rfl) ha ((pulseReads.F_eq N b n).trans h)

noncomputable def pulseBack.C (N : Nat) (l : List Int) : Cfg := { P := Try.prog, N := N, RT := noRT, specs := [(54, awake9.spec), (25, enew.spec), (57, write9.spec), (59, rgood9.spec), (56, good9.spec), (26, etell.spec), (29, edone.spec), (30, rnew.spec), (61, rpulses.spec), (60, same9.spec), (33, rtell.spec)], inl := [], hi := 0, mv := [] }
noncomputable def pulseBack.K (N : Nat) : FCfg := { anns := [], unr := [], lits := [], lets := [], frz := [6] }
noncomputable def pulseBack.F (N : Nat) (l : List Int) : Option Bool :=
  (obind (Rc.awake9.F (N)) fun r0 =>
   (br (!r0)
    (some (false))
    (obind (Rc.enew.F (N)) fun r1 =>
     (br (decide (↑l.length > (1000 : Int)))
      (obind (Rc.write9.F (N) (r1.fst) (r1.snd.fst) (r1.snd.snd.fst) (r1.snd.snd.snd.fst) (l) (r1.snd.snd.snd.snd.fst) (r1.snd.snd.snd.snd.snd)) fun r2 =>
      (some (r2.fst == (1 : Int))))
      (obind (Rc.rgood9.F (N) (l)) fun r3 =>
      (chk (([] : List Int).length + l.length ≤ (17592186043904 : Nat))
      (obind (Rc.write9.F (N) (r1.fst) (r1.snd.fst) (r1.snd.snd.fst) (r1.snd.snd.snd.fst) (([] : List Int) ++ l) (r1.snd.snd.snd.snd.fst) (r1.snd.snd.snd.snd.snd)) fun r4 =>
      (obind (Rc.good9.F (N) (l)) fun r5 =>
      (br (!r5 == r3)
      (some (false))
      (br (!r3 == (r4.fst == (0 : Int)))
      (some (false))
      (br (!r3)
      (br (r4.fst == (1 : Int))
      (obind (Rc.etell.F (N) (r4.snd.fst) (r4.snd.snd.fst) (r4.snd.snd.snd.fst) (r4.snd.snd.snd.snd.fst) (r4.snd.snd.snd.snd.snd.fst) (r4.snd.snd.snd.snd.snd.snd)) fun r6 =>
      (some (r6 == (1 : Int))))
      (some (false)))
      (obind (Rc.edone.F (N) ((1275 : Int)) (r4.snd.fst) (r4.snd.snd.fst) (r4.snd.snd.snd.fst) (r4.snd.snd.snd.snd.fst) (r4.snd.snd.snd.snd.snd.fst) (r4.snd.snd.snd.snd.snd.snd)) fun r7 =>
      (br (r7.fst != (0 : Int))
      (some (r7.fst == (2 : Int)))
      (obind (Rc.rnew.F (N) (r7.snd)) fun r8 =>
      (obind (Rc.rpulses.F (N) (↑l.length) (r8.fst) (r8.snd.fst) (r8.snd.snd.fst) (r8.snd.snd.snd.fst) (r8.snd.snd.snd.snd.fst) (r8.snd.snd.snd.snd.snd.fst) (r8.snd.snd.snd.snd.snd.snd.fst) (r8.snd.snd.snd.snd.snd.snd.snd.fst) (r8.snd.snd.snd.snd.snd.snd.snd.snd.fst) (r8.snd.snd.snd.snd.snd.snd.snd.snd.snd.fst) (r8.snd.snd.snd.snd.snd.snd.snd.snd.snd.snd)) fun r9 =>
      (obind (Rc.same9.F (N) (r9.snd.snd.snd.snd.snd.snd.snd.snd.snd.snd) (l)) fun r10 =>
      (br (r10)
      (obind (Rc.rtell.F (N) (r9.fst) (r9.snd.fst) (r9.snd.snd.fst) (r9.snd.snd.snd.fst) (r9.snd.snd.snd.snd.fst) (r9.snd.snd.snd.snd.snd.fst) (r9.snd.snd.snd.snd.snd.snd.fst) (r9.snd.snd.snd.snd.snd.snd.snd.fst) (r9.snd.snd.snd.snd.snd.snd.snd.snd.fst) (r9.snd.snd.snd.snd.snd.snd.snd.snd.snd.fst) (r8.snd.snd.snd.snd.snd.snd.snd.snd.snd.snd)) fun r11 =>
      (obind (Rc.etell.F (N) (r4.snd.fst) (r4.snd.snd.fst) (r4.snd.snd.snd.fst) (r4.snd.snd.snd.snd.fst) (r4.snd.snd.snd.snd.snd.fst) (r4.snd.snd.snd.snd.snd.snd)) fun r12 =>
      (some (r11 == r12))))
      (some (false)))))))))))))))))))
theorem pulseBack.F_eq (N : Nat) (l : List Int) : evLaw (pulseBack.C N l) (pulseBack.K N) 0 Try.f12 [.at (.roi .i64 l)] = pulseBack.F N l := by
  kernel_rfl
theorem pulseBack.cok (N : Nat) (l : List Int) : CfgOK (pulseBack.C N l) := ⟨fun _ _ _ _ h => by simp [pulseBack.C, noRT] at h, wide, by
  simp only [pulseBack.C, List.mem_cons, List.not_mem_nil, or_false, forall_eq_or_imp, forall_eq, false_imp_iff, implies_true]
  exact ⟨⟨awake9.ok, by kernel_rfl⟩, ⟨enew.ok, by kernel_rfl⟩, ⟨write9.ok, by kernel_rfl⟩, ⟨rgood9.ok, by kernel_rfl⟩, ⟨good9.ok, by kernel_rfl⟩, ⟨etell.ok, by kernel_rfl⟩, ⟨edone.ok, by kernel_rfl⟩, ⟨rnew.ok, by kernel_rfl⟩, ⟨rpulses.ok, by kernel_rfl⟩, ⟨same9.ok, by kernel_rfl⟩, ⟨rtell.ok, by kernel_rfl⟩⟩, fun g hg => by simp [pulseBack.C] at hg, fun m hm => by simp [pulseBack.C] at hm, fun q hq => by simp [pulseBack.C] at hq⟩
theorem pulseBack.aok (N : Nat) : AnnsOK (pulseBack.K N) := by
  intro q hq
  simp only [pulseBack.K, List.mem_cons, List.not_mem_nil, or_false] at hq
theorem pulseBack.walk {w : World} {N : Nat} (l : List Int) {cargs : Array Value} (ha : All2 (RV noRT (lawE w)) [.at (.roi .i64 l)] cargs.toList) (h : pulseBack.F N l = some true) :
    Calls Try.prog 12 cargs w fun e w' => e = .returned (.bool true) ∧ Frm w (fun _ => False) w' :=
  law_sound (C := pulseBack.C N l) (K := pulseBack.K N) (d := 0) (fn := Try.f12) (pulseBack.cok N l) (fun q hq => by simp [pulseBack.C] at hq) (pulseBack.aok N) (by kernel_rfl) ha ((pulseBack.F_eq N l).trans h)

noncomputable def pulseFewer.C (N : Nat) (l : List Int) (most : Int) : Cfg := { P := Try.prog, N := N, RT := noRT, specs := [(54, awake9.spec), (58, fewer9.spec), (62, rfewer9.spec), (60, same9.spec), (56, good9.spec)], inl := [], hi := 0, mv := [] }
abbrev pulseFewer.loop11.R : Type := Bool
noncomputable def pulseFewer.loop11.ann : Ann := { nx := 20, slots := [(0, .at (.froi .i64 0)), (4, .at (.bool 0)), (5, .at (.full 2 false)), (6, .at (.int .i64 0))], blks := [(2, .fints true .i64 1)], mov := [], exId := 0, xslots := [(5, .at (.full 2 false)), (4, .at (.bool 0))], xblks := [(2, .fints true .i64 1)], T := pulseFewer.loop11.R, dec := fun L => (L.b 0), enc := fun r => mkL [] [r] [] [], ret := true }
noncomputable def pulseFewer.K (N : Nat) : FCfg := { anns := [(11, pulseFewer.loop11.ann)], unr := [], lits := [], lets := [] }
noncomputable def pulseFewer.loop11 (N : Nat) (l : List Int) (most : Int) : Nat → List Int → List Int → Int → Bool → Option (pulseFewer.loop11.R ⊕ Bool)
  | 0, _, _, _, _ => none
  | nn + 1, s0, l2, s6, s4 =>
  (br (decide (s6 < ↑l2.length))
   (chk ((0 : Int) ≤ s6 ∧ s6 < ↑l2.length)
    (br (decide (l2.getD s6.toNat (0 : Int) > (0 : Int)))
     (chk ((0 : Int) ≤ s6 ∧ s6 < ↑s0.length)
      (chk ((0 : Int) ≤ s6 ∧ s6 < ↑l2.length)
      (br (decide (s0.getD s6.toNat (0 : Int) < l2.getD s6.toNat (0 : Int)))
      (omap
      (some (false)) .inr)
      (chk ((0 : Int) ≤ s6 ∧ s6 < ↑l2.length)
      (br (decide (l2.getD s6.toNat (0 : Int) < (0 : Int)))
      (chk ((0 : Int) ≤ s6 ∧ s6 < ↑s0.length)
      (chk ((0 : Int) ≤ s6 ∧ s6 < ↑l2.length)
      (br (decide (s0.getD s6.toNat (0 : Int) > l2.getD s6.toNat (0 : Int)))
      (omap
      (some (false)) .inr)
      (chkL (s0) (s0)
      (chkL (l2) (l2)
      (pulseFewer.loop11 N l most (nn) (s0) (l2) (IntKind.i64.wrap (s6 + (1 : Int))) (s4)))))))
      (chkL (s0) (s0)
      (chkL (l2) (l2)
      (pulseFewer.loop11 N l most (nn) (s0) (l2) (IntKind.i64.wrap (s6 + (1 : Int))) (s4)))))))))
     (chk ((0 : Int) ≤ s6 ∧ s6 < ↑l2.length)
      (br (decide (l2.getD s6.toNat (0 : Int) < (0 : Int)))
      (chk ((0 : Int) ≤ s6 ∧ s6 < ↑s0.length)
      (chk ((0 : Int) ≤ s6 ∧ s6 < ↑l2.length)
      (br (decide (s0.getD s6.toNat (0 : Int) > l2.getD s6.toNat (0 : Int)))
      (omap
      (some (false)) .inr)
      (chkL (s0) (s0)
      (chkL (l2) (l2)
      (pulseFewer.loop11 N l most (nn) (s0) (l2) (IntKind.i64.wrap (s6 + (1 : Int))) (s4)))))))
      (chkL (s0) (s0)
      (chkL (l2) (l2)
      (pulseFewer.loop11 N l most (nn) (s0) (l2) (IntKind.i64.wrap (s6 + (1 : Int))) (s4))))))))
   (chkL (l2) (l2)
   (some (Sum.inl s4))))
noncomputable def pulseFewer.loop11R (N : Nat) (l : List Int) (most : Int) (nn : Nat) (s0 : List Int) (l2 : List Int) (s6 : Int) (s4 : Bool) : Option (pulseFewer.loop11.R ⊕ Bool) := loopR pulseFewer.loop11.ann (mkL [] [] [s0, l2] []) (evCode ((pulseFewer.C N l most).inLoop pulseFewer.loop11.ann) (pulseFewer.K N) (inlTab (pulseFewer.C N l most) 0) (bodyAt 11 Try.f13)) (lawKr Try.prog Try.f13) nn (mkL [s6] [s4] [] [])
theorem pulseFewer.loop11_eq (N : Nat) (l : List Int) (most : Int) : ∀ (nn : Nat) (s0 : List Int) (l2 : List Int) (s6 : Int) (s4 : Bool), pulseFewer.loop11R N l most nn s0 l2 s6 s4 = pulseFewer.loop11 N l most nn s0 l2 s6 s4
  | 0, _, _, _, _ => by kernel_rfl
  | nn + 1, s0, l2, s6, s4 => by
    have h : pulseFewer.loop11R N l most (nn + 1) s0 l2 s6 s4 =
  (br (decide (s6 < ↑l2.length))
   (chk ((0 : Int) ≤ s6 ∧ s6 < ↑l2.length)
    (br (decide (l2.getD s6.toNat (0 : Int) > (0 : Int)))
     (chk ((0 : Int) ≤ s6 ∧ s6 < ↑s0.length)
      (chk ((0 : Int) ≤ s6 ∧ s6 < ↑l2.length)
      (br (decide (s0.getD s6.toNat (0 : Int) < l2.getD s6.toNat (0 : Int)))
      (omap
      (some (false)) .inr)
      (chk ((0 : Int) ≤ s6 ∧ s6 < ↑l2.length)
      (br (decide (l2.getD s6.toNat (0 : Int) < (0 : Int)))
      (chk ((0 : Int) ≤ s6 ∧ s6 < ↑s0.length)
      (chk ((0 : Int) ≤ s6 ∧ s6 < ↑l2.length)
      (br (decide (s0.getD s6.toNat (0 : Int) > l2.getD s6.toNat (0 : Int)))
      (omap
      (some (false)) .inr)
      (chkL (s0) (s0)
      (chkL (l2) (l2)
      (pulseFewer.loop11R N l most (nn) (s0) (l2) (IntKind.i64.wrap (s6 + (1 : Int))) (s4)))))))
      (chkL (s0) (s0)
      (chkL (l2) (l2)
      (pulseFewer.loop11R N l most (nn) (s0) (l2) (IntKind.i64.wrap (s6 + (1 : Int))) (s4)))))))))
     (chk ((0 : Int) ≤ s6 ∧ s6 < ↑l2.length)
      (br (decide (l2.getD s6.toNat (0 : Int) < (0 : Int)))
      (chk ((0 : Int) ≤ s6 ∧ s6 < ↑s0.length)
      (chk ((0 : Int) ≤ s6 ∧ s6 < ↑l2.length)
      (br (decide (s0.getD s6.toNat (0 : Int) > l2.getD s6.toNat (0 : Int)))
      (omap
      (some (false)) .inr)
      (chkL (s0) (s0)
      (chkL (l2) (l2)
      (pulseFewer.loop11R N l most (nn) (s0) (l2) (IntKind.i64.wrap (s6 + (1 : Int))) (s4)))))))
      (chkL (s0) (s0)
      (chkL (l2) (l2)
      (pulseFewer.loop11R N l most (nn) (s0) (l2) (IntKind.i64.wrap (s6 + (1 : Int))) (s4))))))))
   (chkL (l2) (l2)
   (some (Sum.inl s4)))) := by kernel_rfl
    rw [h, pulseFewer.loop11]
    try simp only [pulseFewer.loop11_eq N l most nn]
noncomputable def pulseFewer.F (N : Nat) (l : List Int) (most : Int) : Option Bool :=
  (obind (Rc.awake9.F (N)) fun r0 =>
   (br (!r0)
    (some (false))
    (br (decide (↑l.length > (600 : Int)))
     (some (true))
     (chk (([] : List Int).length + l.length ≤ (17592186043904 : Nat))
      (obind (Rc.fewer9.F (N) (most) (([] : List Int) ++ l)) fun r1 =>
      (obind (Rc.rfewer9.F (N) (most) (l)) fun r2 =>
      (obind (Rc.same9.F (N) (r1) (r2)) fun r3 =>
      (br (!r3)
      (some (false))
      (br (decide (↑l.length > (480 : Int)))
      (some (↑r1.length == (0 : Int)))
      (osum (pulseFewer.loop11 N l most (N) (l) (r1) ((0 : Int)) (false)) fun r4 =>
      (br ((↑l.length : Int).tmod (16 : Int) != (0 : Int))
      (some (true))
      (br (↑l.length == (0 : Int))
      (some (true))
      (obind (Rc.good9.F (N) (r1)) fun r5 =>
      (some (r5)))))))))))))))
theorem pulseFewer.F_eq (N : Nat) (l : List Int) (most : Int) : evLaw (pulseFewer.C N l most) (pulseFewer.K N) 0 Try.f13 [.at (.roi .i64 l), .at (.int .i64 most)] = pulseFewer.F N l most := by
  have h : evLaw (pulseFewer.C N l most) (pulseFewer.K N) 0 Try.f13 [.at (.roi .i64 l), .at (.int .i64 most)] =
  (obind (Rc.awake9.F (N)) fun r0 =>
   (br (!r0)
    (some (false))
    (br (decide (↑l.length > (600 : Int)))
     (some (true))
     (chk (([] : List Int).length + l.length ≤ (17592186043904 : Nat))
      (obind (Rc.fewer9.F (N) (most) (([] : List Int) ++ l)) fun r1 =>
      (obind (Rc.rfewer9.F (N) (most) (l)) fun r2 =>
      (obind (Rc.same9.F (N) (r1) (r2)) fun r3 =>
      (br (!r3)
      (some (false))
      (br (decide (↑l.length > (480 : Int)))
      (some (↑r1.length == (0 : Int)))
      (osum (pulseFewer.loop11R N l most (N) (l) (r1) ((0 : Int)) (false)) fun r4 =>
      (br ((↑l.length : Int).tmod (16 : Int) != (0 : Int))
      (some (true))
      (br (↑l.length == (0 : Int))
      (some (true))
      (obind (Rc.good9.F (N) (r1)) fun r5 =>
      (some (r5))))))))))))))) := by kernel_rfl
  rw [h, pulseFewer.F]
  try simp only [pulseFewer.loop11_eq N l most]
theorem pulseFewer.cok (N : Nat) (l : List Int) (most : Int) : CfgOK (pulseFewer.C N l most) := ⟨fun _ _ _ _ h => by simp [pulseFewer.C, noRT] at h, wide, by
  simp only [pulseFewer.C, List.mem_cons, List.not_mem_nil, or_false, forall_eq_or_imp, forall_eq, false_imp_iff, implies_true]
  exact ⟨⟨awake9.ok, by kernel_rfl⟩, ⟨fewer9.ok, by kernel_rfl⟩, ⟨rfewer9.ok, by kernel_rfl⟩, ⟨same9.ok, by kernel_rfl⟩, ⟨good9.ok, by kernel_rfl⟩⟩, fun g hg => by simp [pulseFewer.C] at hg, fun m hm => by simp [pulseFewer.C] at hm, fun q hq => by simp [pulseFewer.C] at hq⟩
theorem pulseFewer.aok (N : Nat) : AnnsOK (pulseFewer.K N) := by
  intro q hq
  simp only [pulseFewer.K, List.mem_cons, List.not_mem_nil, or_false] at hq
  subst hq
  exact fun _ _ => ⟨rfl, rfl⟩
theorem pulseFewer.walk {w : World} {N : Nat} (l : List Int) (most : Int) {cargs : Array Value} (ha : All2 (RV noRT (lawE w)) [.at (.roi .i64 l), .at (.int .i64 most)] cargs.toList) (h : pulseFewer.F N l most = some true) :
    Calls Try.prog 13 cargs w fun e w' => e = .returned (.bool true) ∧ Frm w (fun _ => False) w' :=
  law_sound (C := pulseFewer.C N l most) (K := pulseFewer.K N) (d := 0) (fn := Try.f13) (pulseFewer.cok N l most) (fun q hq => by simp [pulseFewer.C] at hq) (pulseFewer.aok N) (by kernel_rfl) ha ((pulseFewer.F_eq N l most).trans h)

noncomputable def pulseLeast.C (N : Nat) (l : List Int) (a : Int) (b : Int) : Cfg := { P := Try.prog, N := N, RT := noRT, specs := [(54, awake9.spec), (56, good9.spec), (58, fewer9.spec), (60, same9.spec)], inl := [], hi := 0, mv := [] }
noncomputable def pulseLeast.K (N : Nat) : FCfg := { anns := [], unr := [], lits := [], lets := [] }
noncomputable def pulseLeast.F (N : Nat) (l : List Int) (a : Int) (b : Int) : Option Bool :=
  (obind (Rc.awake9.F (N)) fun r0 =>
   (br (!r0)
    (some (false))
    (obind (Rc.good9.F (N) (l)) fun r1 =>
     (br (!r1)
      (some (true))
      (br (decide (a < b))
      (some (true))
      (br (decide (b < (0 : Int)))
      (some (true))
      (br (decide (a > (16 : Int)))
      (some (true))
      (obind (Rc.fewer9.F (N) ((16 : Int)) (l)) fun r2 =>
      (obind (Rc.fewer9.F (N) ((0 : Int)) (l)) fun r3 =>
      (obind (Rc.fewer9.F (N) (a) (l)) fun r4 =>
      (obind (Rc.fewer9.F (N) (b) (r4)) fun r5 =>
      (obind (Rc.same9.F (N) (r2) (l)) fun r6 =>
      (br (r6)
      (chk ((0 : Int) ≤ ↑l.length ∧ (l.length : Int) ≤ ↑l.length ∧ (l.length : Int) ≤ ↑(17592186043904 : Nat))
      (obind (Rc.same9.F (N) (r3) (List.replicate (↑l.length : Int).toNat (0 : Int))) fun r7 =>
      (br (r7)
      (obind (Rc.fewer9.F (N) (b) (l)) fun r8 =>
      (obind (Rc.same9.F (N) (r5) (r8)) fun r9 =>
      (some (r9))))
      (some (false)))))
      (some (false)))))))))))))))
theorem pulseLeast.F_eq (N : Nat) (l : List Int) (a : Int) (b : Int) : evLaw (pulseLeast.C N l a b) (pulseLeast.K N) 0 Try.f14 [.at (.roi .i64 l), .at (.int .i64 a), .at (.int .i64 b)] = pulseLeast.F N l a b := by
  kernel_rfl
theorem pulseLeast.cok (N : Nat) (l : List Int) (a : Int) (b : Int) : CfgOK (pulseLeast.C N l a b) := ⟨fun _ _ _ _ h => by simp [pulseLeast.C, noRT] at h, wide, by
  simp only [pulseLeast.C, List.mem_cons, List.not_mem_nil, or_false, forall_eq_or_imp, forall_eq, false_imp_iff, implies_true]
  exact ⟨⟨awake9.ok, by kernel_rfl⟩, ⟨good9.ok, by kernel_rfl⟩, ⟨fewer9.ok, by kernel_rfl⟩, ⟨same9.ok, by kernel_rfl⟩⟩, fun g hg => by simp [pulseLeast.C] at hg, fun m hm => by simp [pulseLeast.C] at hm, fun q hq => by simp [pulseLeast.C] at hq⟩
theorem pulseLeast.aok (N : Nat) : AnnsOK (pulseLeast.K N) := by
  intro q hq
  simp only [pulseLeast.K, List.mem_cons, List.not_mem_nil, or_false] at hq
theorem pulseLeast.walk {w : World} {N : Nat} (l : List Int) (a : Int) (b : Int) {cargs : Array Value} (ha : All2 (RV noRT (lawE w)) [.at (.roi .i64 l), .at (.int .i64 a), .at (.int .i64 b)] cargs.toList) (h : pulseLeast.F N l a b = some true) :
    Calls Try.prog 14 cargs w fun e w' => e = .returned (.bool true) ∧ Frm w (fun _ => False) w' :=
  law_sound (C := pulseLeast.C N l a b) (K := pulseLeast.K N) (d := 0) (fn := Try.f14) (pulseLeast.cok N l a b) (fun q hq => by simp [pulseLeast.C] at hq) (pulseLeast.aok N) (by kernel_rfl) ha ((pulseLeast.F_eq N l a b).trans h)

noncomputable def pulseSilent.C (N : Nat) (n : Int) (at_ : Int) (minus : Bool) : Cfg := { P := Try.prog, N := N, RT := noRT, specs := [(54, awake9.spec), (56, good9.spec), (12, pulseBackFn.spec)], inl := [], hi := 0, mv := [] }
noncomputable def pulseSilent.K (N : Nat) : FCfg := { anns := [], unr := [], lits := [], lets := [] }
noncomputable def pulseSilent.F (N : Nat) (n : Int) (at_ : Int) (minus : Bool) : Option Bool :=
  (obind (Rc.awake9.F (N)) fun r0 =>
   (br (!r0)
    (some (false))
    (br (decide (n < (16 : Int)))
     (some (true))
     (br (decide (n > (320 : Int)))
      (some (true))
      (br (n.tmod (16 : Int) != (0 : Int))
      (some (true))
      (br (decide (at_ < (0 : Int)))
      (some (true))
      (br (decide (at_ ≥ n))
      (some (true))
      (chk ((0 : Int) ≤ n ∧ n ≤ n ∧ n ≤ ↑(17592186043904 : Nat))
      (obind (Rc.good9.F (N) (List.replicate n.toNat (0 : Int))) fun r1 =>
      (br (!r1)
      (some (false))
      (chk ((0 : Int) ≤ at_ ∧ at_ < ↑(List.replicate n.toNat (0 : Int)).length)
      (br (minus)
      (chk ((0 : Int) ≤ at_ ∧ at_ < ↑((List.replicate n.toNat (0 : Int)).set at_.toNat (1 : Int)).length)
      (obind (Rc.pulseBackFn.F (N) (((List.replicate n.toNat (0 : Int)).set at_.toNat (1 : Int)).set at_.toNat (-1 : Int))) fun r2 =>
      (br (r2)
      (chk ((0 : Int) ≤ n ∧ n ≤ n ∧ n ≤ ↑(17592186043904 : Nat))
      (obind (Rc.pulseBackFn.F (N) (List.replicate n.toNat (0 : Int))) fun r3 =>
      (br (r3)
      (obind (Rc.good9.F (N) (((List.replicate n.toNat (0 : Int)).set at_.toNat (1 : Int)).set at_.toNat (-1 : Int))) fun r4 =>
      (some (r4)))
      (some (false)))))
      (some (false)))))
      (obind (Rc.pulseBackFn.F (N) ((List.replicate n.toNat (0 : Int)).set at_.toNat (1 : Int))) fun r5 =>
      (br (r5)
      (chk ((0 : Int) ≤ n ∧ n ≤ n ∧ n ≤ ↑(17592186043904 : Nat))
      (obind (Rc.pulseBackFn.F (N) (List.replicate n.toNat (0 : Int))) fun r6 =>
      (br (r6)
      (obind (Rc.good9.F (N) ((List.replicate n.toNat (0 : Int)).set at_.toNat (1 : Int))) fun r7 =>
      (some (r7)))
      (some (false)))))
      (some (false))))))))))))))))
theorem pulseSilent.F_eq (N : Nat) (n : Int) (at_ : Int) (minus : Bool) : evLaw (pulseSilent.C N n at_ minus) (pulseSilent.K N) 0 Try.f15 [.at (.int .i64 n), .at (.int .i64 at_), .at (.bool minus)] = pulseSilent.F N n at_ minus := by
  kernel_rfl
theorem pulseSilent.cok (N : Nat) (n : Int) (at_ : Int) (minus : Bool) : CfgOK (pulseSilent.C N n at_ minus) := ⟨fun _ _ _ _ h => by simp [pulseSilent.C, noRT] at h, wide, by
  simp only [pulseSilent.C, List.mem_cons, List.not_mem_nil, or_false, forall_eq_or_imp, forall_eq, false_imp_iff, implies_true]
  exact ⟨⟨awake9.ok, by kernel_rfl⟩, ⟨good9.ok, by kernel_rfl⟩, ⟨pulseBackFn.ok, by kernel_rfl⟩⟩, fun g hg => by simp [pulseSilent.C] at hg, fun m hm => by simp [pulseSilent.C] at hm, fun q hq => by simp [pulseSilent.C] at hq⟩
theorem pulseSilent.aok (N : Nat) : AnnsOK (pulseSilent.K N) := by
  intro q hq
  simp only [pulseSilent.K, List.mem_cons, List.not_mem_nil, or_false] at hq
theorem pulseSilent.walk {w : World} {N : Nat} (n : Int) (at_ : Int) (minus : Bool) {cargs : Array Value} (ha : All2 (RV noRT (lawE w)) [.at (.int .i64 n), .at (.int .i64 at_), .at (.bool minus)] cargs.toList) (h : pulseSilent.F N n at_ minus = some true) :
    Calls Try.prog 15 cargs w fun e w' => e = .returned (.bool true) ∧ Frm w (fun _ => False) w' :=
  law_sound (C := pulseSilent.C N n at_ minus) (K := pulseSilent.K N) (d := 0) (fn := Try.f15) (pulseSilent.cok N n at_ minus) (fun q hq => by simp [pulseSilent.C] at hq) (pulseSilent.aok N) (by kernel_rfl) ha ((pulseSilent.F_eq N n at_ minus).trans h)

end Go.Proofs.Rc
