/-
  Functions of the program: what each comes to, and its contract (written by a program).
  Conditions: none: each contract is proved for every input of its shape.
-/
import Derived.Test.YtgimkkepagcpkaaEngFn
import Derived.Laws.Externs
import Derived.Test.YtgimkkepagcpkaaProg
import Derived.Test.YtgimkkepagcpkaaEnFns
namespace Go.Proofs.Rc
open Go.Eng
set_option maxRecDepth 100000
set_option linter.unusedVariables false
set_option linter.unusedSimpArgs false
noncomputable def energyKnown.C (N : Nat)  : Cfg := { P := Try.prog, N := N, RT := noRT, specs := [(62, awake19.spec), (30, new.spec), (63, eread.spec), (26, enew.spec), (64, ewrite.spec), (65, eexpect.spec), (66, emeasure.spec), (67, esize.spec)], inl := [], hi := 0, mv := [] }
noncomputable def energyKnown.K (N : Nat) : FCfg := { anns := [], unr := [], lits := [], lets := [] }
noncomputable def energyKnown.F (N : Nat)  : Option Bool :=
  (obind (Rc.awake19.F (N)) fun r0 =>
   (br (!r0)
    (some (false))
    (obind (Rc.new.F (N) (([] : List Int))) fun r1 =>
     (obind (Rc.eread.F (N) (r1.fst) (r1.snd.fst) (r1.snd.snd.fst) (r1.snd.snd.snd.fst) (r1.snd.snd.snd.snd.fst) (r1.snd.snd.snd.snd.snd.fst) (r1.snd.snd.snd.snd.snd.snd.fst) (r1.snd.snd.snd.snd.snd.snd.snd.fst) (true) (r1.snd.snd.snd.snd.snd.snd.snd.snd.fst) (([] : List Int)) (r1.snd.snd.snd.snd.snd.snd.snd.snd.snd)) fun r2 =>
      (obind (Rc.enew.F (N)) fun r3 =>
       (obind (Rc.ewrite.F (N) (r3.fst) (r3.snd.fst) (r3.snd.snd.fst) (r3.snd.snd.snd.fst) (true) ([(1 : Int)]) ([(1 : Int), (2 : Int)]) (r3.snd.snd.snd.snd.fst) (r3.snd.snd.snd.snd.snd)) fun r4 =>
        (br (r2.fst == (1 : Int))
         (br (r4.fst == (1 : Int))
          (obind (Rc.eexpect.F (N) ((1 : Int)) (true) ([(5 : Int)]) ([(5 : Int)])) fun r5 =>
           (br (r5 == (0 : Int))
            (obind (Rc.eexpect.F (N) ((-1 : Int)) (true) ([(5 : Int)]) (([] : List Int))) fun r6 =>
             (br (r6 == (0 : Int))
              (obind (Rc.eexpect.F (N) ((0 : Int)) (true) ([(5 : Int)]) (([] : List Int))) fun r7 =>
               (br (r7 == (30 : Int))
                (obind (Rc.emeasure.F (N) (([] : List Int))) fun r8 =>
                 (br (r8 == (0 : Int))
                  (obind (Rc.esize.F (N) ((-5 : Int))) fun r9 =>
                   (some (r9 == (1 : Int))))
                  (some (false))))
                (some (false))))
              (some (false))))
            (some (false))))
          (some (false)))
         (some (false)))))))))
theorem energyKnown.F_eq (N : Nat)  : evLaw (energyKnown.C N ) (energyKnown.K N) 0 Try.f19 [] = energyKnown.F N  := by
  kernel_rfl
theorem energyKnown.cok (N : Nat)  : CfgOK (energyKnown.C N ) := ⟨fun _ _ _ _ h => by simp [energyKnown.C, noRT] at h, wide, by
  simp only [energyKnown.C, List.mem_cons, List.not_mem_nil, or_false, forall_eq_or_imp, forall_eq, false_imp_iff, implies_true]
  exact ⟨⟨awake19.ok, by kernel_rfl⟩, ⟨new.ok, by kernel_rfl⟩, ⟨eread.ok, by kernel_rfl⟩, ⟨enew.ok, by kernel_rfl⟩, ⟨ewrite.ok, by kernel_rfl⟩, ⟨eexpect.ok, by kernel_rfl⟩, ⟨emeasure.ok, by kernel_rfl⟩, ⟨esize.ok, by kernel_rfl⟩⟩, fun g hg => by simp [energyKnown.C] at hg⟩
theorem energyKnown.aok (N : Nat) : AnnsOK (energyKnown.K N) := by
  intro q hq
  simp only [energyKnown.K, List.mem_cons, List.not_mem_nil, or_false] at hq
theorem energyKnown.walk {w : World} {N : Nat}  {cargs : Array Value} (ha : All2 (RV noRT (lawE w)) [] cargs.toList) (h : energyKnown.F N  = some true) :
    Calls Try.prog 19 cargs w fun e w' => e = .returned (.bool true) ∧ Frm w (fun _ => False) w' :=
  law_sound (C := energyKnown.C N ) (K := energyKnown.K N) (d := 0) (fn := Try.f19) (energyKnown.cok N ) (fun q hq => by simp [energyKnown.C] at hq) (energyKnown.aok N) (by kernel_rfl) ha ((energyKnown.F_eq N ).trans h)

noncomputable def energySays.C (N : Nat) (e : Int) (v : Int) (b : Int) (was : List Int) (now : List Int) (intra : Bool) (f : List Int) : Cfg := { P := Try.prog, N := N, RT := noRT, specs := [(62, awake19.spec), (67, esize.spec), (68, rsize.spec), (69, enearest.spec), (70, rnearest.spec), (65, eexpect.spec), (71, rexpect.spec), (66, emeasure.spec), (72, rmeasure.spec)], inl := [], hi := 0, mv := [] }
noncomputable def energySays.K (N : Nat) : FCfg := { anns := [], unr := [], lits := [], lets := [] }
noncomputable def energySays.F (N : Nat) (e : Int) (v : Int) (b : Int) (was : List Int) (now : List Int) (intra : Bool) (f : List Int) : Option Bool :=
  (obind (Rc.awake19.F (N)) fun r0 =>
   (br (!r0)
    (some (false))
    (br (decide (↑was.length > (100 : Int)))
     (some (true))
     (br (decide (↑now.length > (100 : Int)))
      (some (true))
      (br (decide (↑f.length > (1500 : Int)))
       (some (true))
       (obind (Rc.esize.F (N) (e)) fun r1 =>
        (obind (Rc.rsize.F (N) (e)) fun r2 =>
         (br (r1 == r2)
          (obind (Rc.enearest.F (N) (v)) fun r3 =>
           (obind (Rc.rnearest.F (N) (v)) fun r4 =>
            (br (r3 == r4)
             (obind (Rc.eexpect.F (N) (b) (intra) (was) (now)) fun r5 =>
              (obind (Rc.rexpect.F (N) (b) (intra) (was) (now)) fun r6 =>
               (br (r5 == r6)
                (chk (([] : List Int).length + f.length ≤ (17592186043904 : Nat))
                 (obind (Rc.emeasure.F (N) (([] : List Int) ++ f)) fun r7 =>
                  (obind (Rc.rmeasure.F (N) (f)) fun r8 =>
                   (some (r7 == r8)))))
                (some (false)))))
             (some (false)))))
          (some (false))))))))))
theorem energySays.F_eq (N : Nat) (e : Int) (v : Int) (b : Int) (was : List Int) (now : List Int) (intra : Bool) (f : List Int) : evLaw (energySays.C N e v b was now intra f) (energySays.K N) 0 Try.f20 [.at (.int .i64 e), .at (.int .i64 v), .at (.int .i64 b), .at (.roi .i64 was), .at (.roi .i64 now), .at (.bool intra), .at (.roi .i64 f)] = energySays.F N e v b was now intra f := by
  kernel_rfl
theorem energySays.cok (N : Nat) (e : Int) (v : Int) (b : Int) (was : List Int) (now : List Int) (intra : Bool) (f : List Int) : CfgOK (energySays.C N e v b was now intra f) := ⟨fun _ _ _ _ h => by simp [energySays.C, noRT] at h, wide, by
  simp only [energySays.C, List.mem_cons, List.not_mem_nil, or_false, forall_eq_or_imp, forall_eq, false_imp_iff, implies_true]
  exact ⟨⟨awake19.ok, by kernel_rfl⟩, ⟨esize.ok, by kernel_rfl⟩, ⟨rsize.ok, by kernel_rfl⟩, ⟨enearest.ok, by kernel_rfl⟩, ⟨rnearest.ok, by kernel_rfl⟩, ⟨eexpect.ok, by kernel_rfl⟩, ⟨rexpect.ok, by kernel_rfl⟩, ⟨emeasure.ok, by kernel_rfl⟩, ⟨rmeasure.ok, by kernel_rfl⟩⟩, fun g hg => by simp [energySays.C] at hg⟩
theorem energySays.aok (N : Nat) : AnnsOK (energySays.K N) := by
  intro q hq
  simp only [energySays.K, List.mem_cons, List.not_mem_nil, or_false] at hq
theorem energySays.walk {w : World} {N : Nat} (e : Int) (v : Int) (b : Int) (was : List Int) (now : List Int) (intra : Bool) (f : List Int) {cargs : Array Value} (ha : All2 (RV noRT (lawE w)) [.at (.int .i64 e), .at (.int .i64 v), .at (.int .i64 b), .at (.roi .i64 was), .at (.roi .i64 now), .at (.bool intra), .at (.roi .i64 f)] cargs.toList) (h : energySays.F N e v b was now intra f = some true) :
    Calls Try.prog 20 cargs w fun e w' => e = .returned (.bool true) ∧ Frm w (fun _ => False) w' :=
  law_sound (C := energySays.C N e v b was now intra f) (K := energySays.K N) (d := 0) (fn := Try.f20) (energySays.cok N e v b was now intra f) (fun q hq => by simp [energySays.C] at hq) (energySays.aok N) (by kernel_rfl) ha ((energySays.F_eq N e v b was now intra f).trans h)

noncomputable def energyBack.C (N : Nat) (want : List Int) (was : List Int) (intra : Bool) : Cfg := { P := Try.prog, N := N, RT := noRT, specs := [(62, awake19.spec), (26, enew.spec), (64, ewrite.spec), (28, etell.spec), (29, edone.spec), (34, rnew.spec), (74, energies.spec), (73, ints19.spec), (37, rtell.spec), (71, rexpect.spec)], inl := [], hi := 0, mv := [] }
abbrev energyBack.loop16.R : Type := Bool
noncomputable def energyBack.loop16.ann : Ann := { nx := 23, slots := [(0, .at (.froi .i64 0)), (1, .at (.froi .i64 1)), (2, .at (.fbool 0)), (6, .at (.bool 0)), (8, .at (.full 7 false)), (13, .at (.int .i64 0))], blks := [(7, .fints true .i64 2)], mov := [], exId := 0, xslots := [(8, .at (.full 7 false)), (6, .at (.bool 0))], xblks := [(7, .fints true .i64 2)], T := energyBack.loop16.R, dec := fun L => (L.b 0), enc := fun r => mkL [] [r] [] [], ret := true }
noncomputable def energyBack.K (N : Nat) : FCfg := { anns := [(16, energyBack.loop16.ann)], unr := [], lits := [], lets := [], frz := [68] }
noncomputable def energyBack.loop16 (N : Nat) (want : List Int) (was : List Int) (intra : Bool) : Nat → Bool → List Int → List Int → List Int → Int → Bool → Option (energyBack.loop16.R ⊕ Bool)
  | 0, _, _, _, _, _, _ => none
  | nn + 1, s2, s0, s1, l7, s13, s6 =>
  (br (decide (s13 < ↑l7.length))
   (chk ((0 : Int) ≤ s13 ∧ s13 ≤ ↑l7.length)
    (obind (Rc.rexpect.F (N) (s13) (s2) (s1) (List.take (s13.toNat - (0 : Nat)) (List.drop (0 : Nat) l7))) fun r0 =>
     (chk ((0 : Int) ≤ s13 ∧ s13 < ↑s0.length)
      (br (decide (s0.getD s13.toNat (0 : Int) ≥ (0 : Int)))
       (chk ((0 : Int) ≤ s13 ∧ s13 < ↑s0.length)
        (br (decide (s0.getD s13.toNat (0 : Int) ≤ (100 : Int)))
         (chk ((0 : Int) ≤ s13 ∧ s13 < ↑s0.length)
          (br (decide (Go.IntKind.i64.wrap (s0.getD s13.toNat (0 : Int) - r0) ≤ (12 : Int)))
           (chk ((0 : Int) ≤ s13 ∧ s13 < ↑s0.length)
            (br (decide (Go.IntKind.i64.wrap (r0 - s0.getD s13.toNat (0 : Int)) ≤ (12 : Int)))
             (chk ((0 : Int) ≤ s13 ∧ s13 < ↑l7.length)
              (chk ((0 : Int) ≤ s13 ∧ s13 < ↑s0.length)
               (br (l7.getD s13.toNat (0 : Int) != s0.getD s13.toNat (0 : Int))
                (omap
                 (some (false)) .inr)
                (chkL (s0) (s0)
                (chkL (s1) (s1)
                (chkB (s2) (s2)
                (chkL (l7) (l7)
                (energyBack.loop16 N want was intra (nn) (s2) (s0) (s1) (l7) (Go.IntKind.i64.wrap (s13 + (1 : Int))) (s6)))))))))
             (chkL (s0) (s0)
             (chkL (s1) (s1)
             (chkB (s2) (s2)
             (chkL (l7) (l7)
             (energyBack.loop16 N want was intra (nn) (s2) (s0) (s1) (l7) (Go.IntKind.i64.wrap (s13 + (1 : Int))) (s6))))))))
           (chkL (s0) (s0)
           (chkL (s1) (s1)
           (chkB (s2) (s2)
           (chkL (l7) (l7)
           (energyBack.loop16 N want was intra (nn) (s2) (s0) (s1) (l7) (Go.IntKind.i64.wrap (s13 + (1 : Int))) (s6))))))))
         (chkL (s0) (s0)
         (chkL (s1) (s1)
         (chkB (s2) (s2)
         (chkL (l7) (l7)
         (energyBack.loop16 N want was intra (nn) (s2) (s0) (s1) (l7) (Go.IntKind.i64.wrap (s13 + (1 : Int))) (s6))))))))
       (chkL (s0) (s0)
       (chkL (s1) (s1)
       (chkB (s2) (s2)
       (chkL (l7) (l7)
       (energyBack.loop16 N want was intra (nn) (s2) (s0) (s1) (l7) (Go.IntKind.i64.wrap (s13 + (1 : Int))) (s6))))))))))
   (chkL (l7) (l7)
   (some (Sum.inl s6))))
noncomputable def energyBack.loop16R (N : Nat) (want : List Int) (was : List Int) (intra : Bool) (nn : Nat) (s2 : Bool) (s0 : List Int) (s1 : List Int) (l7 : List Int) (s13 : Int) (s6 : Bool) : Option (energyBack.loop16.R ⊕ Bool) := loopR energyBack.loop16.ann (mkL [] [s2] [s0, s1, l7] []) (evCode ((energyBack.C N want was intra).inLoop energyBack.loop16.ann) (energyBack.K N) (inlTab (energyBack.C N want was intra) 0) (bodyAt 16 Try.f21)) (lawKr Try.prog Try.f21) nn (mkL [s13] [s6] [] [])
theorem energyBack.loop16_eq (N : Nat) (want : List Int) (was : List Int) (intra : Bool) : ∀ (nn : Nat) (s2 : Bool) (s0 : List Int) (s1 : List Int) (l7 : List Int) (s13 : Int) (s6 : Bool), energyBack.loop16R N want was intra nn s2 s0 s1 l7 s13 s6 = energyBack.loop16 N want was intra nn s2 s0 s1 l7 s13 s6
  | 0, _, _, _, _, _, _ => by kernel_rfl
  | nn + 1, s2, s0, s1, l7, s13, s6 => by
    have h : energyBack.loop16R N want was intra (nn + 1) s2 s0 s1 l7 s13 s6 =
  (br (decide (s13 < ↑l7.length))
   (chk ((0 : Int) ≤ s13 ∧ s13 ≤ ↑l7.length)
    (obind (Rc.rexpect.F (N) (s13) (s2) (s1) (List.take (s13.toNat - (0 : Nat)) (List.drop (0 : Nat) l7))) fun r0 =>
     (chk ((0 : Int) ≤ s13 ∧ s13 < ↑s0.length)
      (br (decide (s0.getD s13.toNat (0 : Int) ≥ (0 : Int)))
       (chk ((0 : Int) ≤ s13 ∧ s13 < ↑s0.length)
        (br (decide (s0.getD s13.toNat (0 : Int) ≤ (100 : Int)))
         (chk ((0 : Int) ≤ s13 ∧ s13 < ↑s0.length)
          (br (decide (Go.IntKind.i64.wrap (s0.getD s13.toNat (0 : Int) - r0) ≤ (12 : Int)))
           (chk ((0 : Int) ≤ s13 ∧ s13 < ↑s0.length)
            (br (decide (Go.IntKind.i64.wrap (r0 - s0.getD s13.toNat (0 : Int)) ≤ (12 : Int)))
             (chk ((0 : Int) ≤ s13 ∧ s13 < ↑l7.length)
              (chk ((0 : Int) ≤ s13 ∧ s13 < ↑s0.length)
               (br (l7.getD s13.toNat (0 : Int) != s0.getD s13.toNat (0 : Int))
                (omap
                 (some (false)) .inr)
                (chkL (s0) (s0)
                (chkL (s1) (s1)
                (chkB (s2) (s2)
                (chkL (l7) (l7)
                (energyBack.loop16R N want was intra (nn) (s2) (s0) (s1) (l7) (Go.IntKind.i64.wrap (s13 + (1 : Int))) (s6)))))))))
             (chkL (s0) (s0)
             (chkL (s1) (s1)
             (chkB (s2) (s2)
             (chkL (l7) (l7)
             (energyBack.loop16R N want was intra (nn) (s2) (s0) (s1) (l7) (Go.IntKind.i64.wrap (s13 + (1 : Int))) (s6))))))))
           (chkL (s0) (s0)
           (chkL (s1) (s1)
           (chkB (s2) (s2)
           (chkL (l7) (l7)
           (energyBack.loop16R N want was intra (nn) (s2) (s0) (s1) (l7) (Go.IntKind.i64.wrap (s13 + (1 : Int))) (s6))))))))
         (chkL (s0) (s0)
         (chkL (s1) (s1)
         (chkB (s2) (s2)
         (chkL (l7) (l7)
         (energyBack.loop16R N want was intra (nn) (s2) (s0) (s1) (l7) (Go.IntKind.i64.wrap (s13 + (1 : Int))) (s6))))))))
       (chkL (s0) (s0)
       (chkL (s1) (s1)
       (chkB (s2) (s2)
       (chkL (l7) (l7)
       (energyBack.loop16R N want was intra (nn) (s2) (s0) (s1) (l7) (Go.IntKind.i64.wrap (s13 + (1 : Int))) (s6))))))))))
   (chkL (l7) (l7)
   (some (Sum.inl s6)))) := by kernel_rfl
    rw [h, energyBack.loop16]
    try simp only [energyBack.loop16_eq N want was intra nn]
noncomputable def energyBack.F (N : Nat) (want : List Int) (was : List Int) (intra : Bool) : Option Bool :=
  (obind (Rc.awake19.F (N)) fun r0 =>
   (br (!r0)
    (some (false))
    (br (decide (↑want.length > (100 : Int)))
     (some (true))
     (br (decide (↑was.length > (100 : Int)))
      (some (true))
      (obind (Rc.enew.F (N)) fun r1 =>
       (chk (([] : List Int).length + want.length ≤ (17592186043904 : Nat))
        (chk (([] : List Int).length + was.length ≤ (17592186043904 : Nat))
         (obind (Rc.ewrite.F (N) (r1.fst) (r1.snd.fst) (r1.snd.snd.fst) (r1.snd.snd.snd.fst) (intra) (([] : List Int) ++ want) (([] : List Int) ++ was) (r1.snd.snd.snd.snd.fst) (r1.snd.snd.snd.snd.snd)) fun r2 =>
          (br (decide (↑was.length < (1 : Int)))
           (br (r2.fst == (1 : Int))
            (br (↑r2.snd.snd.snd.snd.snd.snd.fst.length == (0 : Int))
             (obind (Rc.etell.F (N) (r2.snd.fst) (r2.snd.snd.fst) (r2.snd.snd.snd.fst) (r2.snd.snd.snd.snd.fst) (r2.snd.snd.snd.snd.snd.snd.snd) (r2.snd.snd.snd.snd.snd.fst)) fun r3 =>
              (some (r3 == (1 : Int))))
             (some (false)))
            (some (false)))
           (br (decide (↑was.length > (40 : Int)))
            (br (r2.fst == (1 : Int))
             (br (↑r2.snd.snd.snd.snd.snd.snd.fst.length == (0 : Int))
              (obind (Rc.etell.F (N) (r2.snd.fst) (r2.snd.snd.fst) (r2.snd.snd.snd.fst) (r2.snd.snd.snd.snd.fst) (r2.snd.snd.snd.snd.snd.snd.snd) (r2.snd.snd.snd.snd.snd.fst)) fun r4 =>
               (some (r4 == (1 : Int))))
              (some (false)))
             (some (false)))
            (br ((want.length : Int) != ↑was.length)
             (br (r2.fst == (1 : Int))
              (br (↑r2.snd.snd.snd.snd.snd.snd.fst.length == (0 : Int))
               (obind (Rc.etell.F (N) (r2.snd.fst) (r2.snd.snd.fst) (r2.snd.snd.snd.fst) (r2.snd.snd.snd.snd.fst) (r2.snd.snd.snd.snd.snd.snd.snd) (r2.snd.snd.snd.snd.snd.fst)) fun r5 =>
                (some (r5 == (1 : Int))))
               (some (false)))
              (some (false)))
             (obind (Rc.edone.F (N) ((1275 : Int)) (r2.snd.fst) (r2.snd.snd.fst) (r2.snd.snd.snd.fst) (r2.snd.snd.snd.snd.fst) (r2.snd.snd.snd.snd.snd.snd.snd) (r2.snd.snd.snd.snd.snd.fst)) fun r6 =>
              (br (r2.fst != (0 : Int))
               (br (r2.fst == (0 : Int))
                (some (r6.fst == (2 : Int)))
                (some (false)))
               (br (r6.fst != (0 : Int))
                (br (r2.fst == (0 : Int))
                 (some (r6.fst == (2 : Int)))
                 (some (false)))
                (obind (Rc.rnew.F (N) (r6.snd)) fun r7 =>
                 (obind (Rc.energies.F (N) (r7.fst) (r7.snd.fst) (r7.snd.snd.fst) (r7.snd.snd.snd.fst) (r7.snd.snd.snd.snd.fst) (r7.snd.snd.snd.snd.snd.fst) (r7.snd.snd.snd.snd.snd.snd.fst) (r7.snd.snd.snd.snd.snd.snd.snd.fst) (r7.snd.snd.snd.snd.snd.snd.snd.snd.fst) (intra) (r7.snd.snd.snd.snd.snd.snd.snd.snd.snd.fst) (was) (r7.snd.snd.snd.snd.snd.snd.snd.snd.snd.snd)) fun r8 =>
                  (obind (Rc.ints19.F (N) (r2.snd.snd.snd.snd.snd.snd.fst) (r8.snd.snd.snd.snd.snd.snd)) fun r9 =>
                   (br (!r9)
                    (some (false))
                    (obind (Rc.rtell.F (N) (r8.fst) (r8.snd.fst) (r8.snd.snd.fst) (r8.snd.snd.snd.fst) (r7.snd.snd.snd.snd.fst) (r7.snd.snd.snd.snd.snd.fst) (r7.snd.snd.snd.snd.snd.snd.fst) (r8.snd.snd.snd.snd.fst) (r8.snd.snd.snd.snd.snd.fst) (r7.snd.snd.snd.snd.snd.snd.snd.snd.snd.fst) (r7.snd.snd.snd.snd.snd.snd.snd.snd.snd.snd)) fun r10 =>
                     (obind (Rc.etell.F (N) (r2.snd.fst) (r2.snd.snd.fst) (r2.snd.snd.snd.fst) (r2.snd.snd.snd.snd.fst) (r2.snd.snd.snd.snd.snd.snd.snd) (r2.snd.snd.snd.snd.snd.fst)) fun r11 =>
                      (br (r10 != r11)
                       (some (false))
                       (osum (energyBack.loop16 N want was intra (N) (intra) (want) (was) (r2.snd.snd.snd.snd.snd.snd.fst) ((0 : Int)) (false)) fun r12 =>
                        (some (true))))))))))))))))))))))))
theorem energyBack.F_eq (N : Nat) (want : List Int) (was : List Int) (intra : Bool) : evLaw (energyBack.C N want was intra) (energyBack.K N) 0 Try.f21 [.at (.roi .i64 want), .at (.roi .i64 was), .at (.bool intra)] = energyBack.F N want was intra := by
  have h : evLaw (energyBack.C N want was intra) (energyBack.K N) 0 Try.f21 [.at (.roi .i64 want), .at (.roi .i64 was), .at (.bool intra)] =
  (obind (Rc.awake19.F (N)) fun r0 =>
   (br (!r0)
    (some (false))
    (br (decide (↑want.length > (100 : Int)))
     (some (true))
     (br (decide (↑was.length > (100 : Int)))
      (some (true))
      (obind (Rc.enew.F (N)) fun r1 =>
       (chk (([] : List Int).length + want.length ≤ (17592186043904 : Nat))
        (chk (([] : List Int).length + was.length ≤ (17592186043904 : Nat))
         (obind (Rc.ewrite.F (N) (r1.fst) (r1.snd.fst) (r1.snd.snd.fst) (r1.snd.snd.snd.fst) (intra) (([] : List Int) ++ want) (([] : List Int) ++ was) (r1.snd.snd.snd.snd.fst) (r1.snd.snd.snd.snd.snd)) fun r2 =>
          (br (decide (↑was.length < (1 : Int)))
           (br (r2.fst == (1 : Int))
            (br (↑r2.snd.snd.snd.snd.snd.snd.fst.length == (0 : Int))
             (obind (Rc.etell.F (N) (r2.snd.fst) (r2.snd.snd.fst) (r2.snd.snd.snd.fst) (r2.snd.snd.snd.snd.fst) (r2.snd.snd.snd.snd.snd.snd.snd) (r2.snd.snd.snd.snd.snd.fst)) fun r3 =>
              (some (r3 == (1 : Int))))
             (some (false)))
            (some (false)))
           (br (decide (↑was.length > (40 : Int)))
            (br (r2.fst == (1 : Int))
             (br (↑r2.snd.snd.snd.snd.snd.snd.fst.length == (0 : Int))
              (obind (Rc.etell.F (N) (r2.snd.fst) (r2.snd.snd.fst) (r2.snd.snd.snd.fst) (r2.snd.snd.snd.snd.fst) (r2.snd.snd.snd.snd.snd.snd.snd) (r2.snd.snd.snd.snd.snd.fst)) fun r4 =>
               (some (r4 == (1 : Int))))
              (some (false)))
             (some (false)))
            (br ((want.length : Int) != ↑was.length)
             (br (r2.fst == (1 : Int))
              (br (↑r2.snd.snd.snd.snd.snd.snd.fst.length == (0 : Int))
               (obind (Rc.etell.F (N) (r2.snd.fst) (r2.snd.snd.fst) (r2.snd.snd.snd.fst) (r2.snd.snd.snd.snd.fst) (r2.snd.snd.snd.snd.snd.snd.snd) (r2.snd.snd.snd.snd.snd.fst)) fun r5 =>
                (some (r5 == (1 : Int))))
               (some (false)))
              (some (false)))
             (obind (Rc.edone.F (N) ((1275 : Int)) (r2.snd.fst) (r2.snd.snd.fst) (r2.snd.snd.snd.fst) (r2.snd.snd.snd.snd.fst) (r2.snd.snd.snd.snd.snd.snd.snd) (r2.snd.snd.snd.snd.snd.fst)) fun r6 =>
              (br (r2.fst != (0 : Int))
               (br (r2.fst == (0 : Int))
                (some (r6.fst == (2 : Int)))
                (some (false)))
               (br (r6.fst != (0 : Int))
                (br (r2.fst == (0 : Int))
                 (some (r6.fst == (2 : Int)))
                 (some (false)))
                (obind (Rc.rnew.F (N) (r6.snd)) fun r7 =>
                 (obind (Rc.energies.F (N) (r7.fst) (r7.snd.fst) (r7.snd.snd.fst) (r7.snd.snd.snd.fst) (r7.snd.snd.snd.snd.fst) (r7.snd.snd.snd.snd.snd.fst) (r7.snd.snd.snd.snd.snd.snd.fst) (r7.snd.snd.snd.snd.snd.snd.snd.fst) (r7.snd.snd.snd.snd.snd.snd.snd.snd.fst) (intra) (r7.snd.snd.snd.snd.snd.snd.snd.snd.snd.fst) (was) (r7.snd.snd.snd.snd.snd.snd.snd.snd.snd.snd)) fun r8 =>
                  (obind (Rc.ints19.F (N) (r2.snd.snd.snd.snd.snd.snd.fst) (r8.snd.snd.snd.snd.snd.snd)) fun r9 =>
                   (br (!r9)
                    (some (false))
                    (obind (Rc.rtell.F (N) (r8.fst) (r8.snd.fst) (r8.snd.snd.fst) (r8.snd.snd.snd.fst) (r7.snd.snd.snd.snd.fst) (r7.snd.snd.snd.snd.snd.fst) (r7.snd.snd.snd.snd.snd.snd.fst) (r8.snd.snd.snd.snd.fst) (r8.snd.snd.snd.snd.snd.fst) (r7.snd.snd.snd.snd.snd.snd.snd.snd.snd.fst) (r7.snd.snd.snd.snd.snd.snd.snd.snd.snd.snd)) fun r10 =>
                     (obind (Rc.etell.F (N) (r2.snd.fst) (r2.snd.snd.fst) (r2.snd.snd.snd.fst) (r2.snd.snd.snd.snd.fst) (r2.snd.snd.snd.snd.snd.snd.snd) (r2.snd.snd.snd.snd.snd.fst)) fun r11 =>
                      (br (r10 != r11)
                       (some (false))
                       (osum (energyBack.loop16R N want was intra (N) (intra) (want) (was) (r2.snd.snd.snd.snd.snd.snd.fst) ((0 : Int)) (false)) fun r12 =>
                        (some (true)))))))))))))))))))))))) := by kernel_rfl
  rw [h, energyBack.F]
  try simp only [energyBack.loop16_eq N want was intra]
theorem energyBack.cok (N : Nat) (want : List Int) (was : List Int) (intra : Bool) : CfgOK (energyBack.C N want was intra) := ⟨fun _ _ _ _ h => by simp [energyBack.C, noRT] at h, wide, by
  simp only [energyBack.C, List.mem_cons, List.not_mem_nil, or_false, forall_eq_or_imp, forall_eq, false_imp_iff, implies_true]
  exact ⟨⟨awake19.ok, by kernel_rfl⟩, ⟨enew.ok, by kernel_rfl⟩, ⟨ewrite.ok, by kernel_rfl⟩, ⟨etell.ok, by kernel_rfl⟩, ⟨edone.ok, by kernel_rfl⟩, ⟨rnew.ok, by kernel_rfl⟩, ⟨energies.ok, by kernel_rfl⟩, ⟨ints19.ok, by kernel_rfl⟩, ⟨rtell.ok, by kernel_rfl⟩, ⟨rexpect.ok, by kernel_rfl⟩⟩, fun g hg => by simp [energyBack.C] at hg⟩
theorem energyBack.aok (N : Nat) : AnnsOK (energyBack.K N) := by
  intro q hq
  simp only [energyBack.K, List.mem_cons, List.not_mem_nil, or_false] at hq
  subst hq
  exact fun _ _ => ⟨rfl, rfl⟩
theorem energyBack.walk {w : World} {N : Nat} (want : List Int) (was : List Int) (intra : Bool) {cargs : Array Value} (ha : All2 (RV noRT (lawE w)) [.at (.roi .i64 want), .at (.roi .i64 was), .at (.bool intra)] cargs.toList) (h : energyBack.F N want was intra = some true) :
    Calls Try.prog 21 cargs w fun e w' => e = .returned (.bool true) ∧ Frm w (fun _ => False) w' :=
  law_sound (C := energyBack.C N want was intra) (K := energyBack.K N) (d := 0) (fn := Try.f21) (energyBack.cok N want was intra) (fun q hq => by simp [energyBack.C] at hq) (energyBack.aok N) (by kernel_rfl) ha ((energyBack.F_eq N want was intra).trans h)

noncomputable def energyRises.C (N : Nat) (a : Int) (b : Int) (f : List Int) : Cfg := { P := Try.prog, N := N, RT := noRT, specs := [(62, awake19.spec), (67, esize.spec), (69, enearest.spec), (66, emeasure.spec)], inl := [], hi := 0, mv := [] }
abbrev energyRises.loop7.R : Type := Bool × List Int
noncomputable def energyRises.loop7.ann : Ann := { nx := 21, slots := [(2, .at (.froi .i64 0)), (6, .at (.bool 0)), (7, .at (.full 20 false)), (8, .at (.int .i64 0))], blks := [(20, .ints true .i64 0)], mov := [20], exId := 0, xslots := [(6, .at (.bool 0)), (7, .at (.full 20 false))], xblks := [(20, .ints true .i64 0)], T := energyRises.loop7.R, dec := fun L => (L.b 0, L.l 0), enc := fun r => mkL [] [r.1] [r.2] [], ret := true }
noncomputable def energyRises.K (N : Nat) : FCfg := { anns := [(7, energyRises.loop7.ann)], unr := [], lits := [], lets := [] }
noncomputable def energyRises.loop7 (N : Nat) (a : Int) (b : Int) (f : List Int) : Nat → List Int → Int → Bool → List Int → Option (energyRises.loop7.R ⊕ Bool)
  | 0, _, _, _, _ => none
  | nn + 1, s2, s8, s6, s7 =>
  (br (decide (s8 < ↑s2.length))
   (chk ((0 : Int) ≤ s8 ∧ s8 < ↑s2.length)
    (br (decide (s2.getD s8.toNat (0 : Int) > (1048576 : Int)))
     (omap
      (some (true)) .inr)
     (chk ((0 : Int) ≤ s8 ∧ s8 < ↑s2.length)
      (br (decide (s2.getD s8.toNat (0 : Int) < (-1048576 : Int)))
       (omap
        (some (true)) .inr)
       (chk ((0 : Int) ≤ s8 ∧ s8 < ↑s2.length)
        (chk (s7.length + [Go.IntKind.i64.wrap ((2 : Int) * s2.getD s8.toNat (0 : Int))].length ≤ (17592186043904 : Nat))
         (chkL (s2) (s2)
         (energyRises.loop7 N a b f (nn) (s2) (Go.IntKind.i64.wrap (s8 + (1 : Int))) (s6) (s7 ++ [Go.IntKind.i64.wrap ((2 : Int) * s2.getD s8.toNat (0 : Int))])))))))))
   (some (Sum.inl (s6, s7))))
noncomputable def energyRises.loop7R (N : Nat) (a : Int) (b : Int) (f : List Int) (nn : Nat) (s2 : List Int) (s8 : Int) (s6 : Bool) (s7 : List Int) : Option (energyRises.loop7.R ⊕ Bool) := loopR energyRises.loop7.ann (mkL [] [] [s2] []) (evCode ((energyRises.C N a b f).inLoop energyRises.loop7.ann) (energyRises.K N) (inlTab (energyRises.C N a b f) 0) (bodyAt 7 Try.f22)) (lawKr Try.prog Try.f22) nn (mkL [s8] [s6] [s7] [])
theorem energyRises.loop7_eq (N : Nat) (a : Int) (b : Int) (f : List Int) : ∀ (nn : Nat) (s2 : List Int) (s8 : Int) (s6 : Bool) (s7 : List Int), energyRises.loop7R N a b f nn s2 s8 s6 s7 = energyRises.loop7 N a b f nn s2 s8 s6 s7
  | 0, _, _, _, _ => by kernel_rfl
  | nn + 1, s2, s8, s6, s7 => by
    have h : energyRises.loop7R N a b f (nn + 1) s2 s8 s6 s7 =
  (br (decide (s8 < ↑s2.length))
   (chk ((0 : Int) ≤ s8 ∧ s8 < ↑s2.length)
    (br (decide (s2.getD s8.toNat (0 : Int) > (1048576 : Int)))
     (omap
      (some (true)) .inr)
     (chk ((0 : Int) ≤ s8 ∧ s8 < ↑s2.length)
      (br (decide (s2.getD s8.toNat (0 : Int) < (-1048576 : Int)))
       (omap
        (some (true)) .inr)
       (chk ((0 : Int) ≤ s8 ∧ s8 < ↑s2.length)
        (chk (s7.length + [Go.IntKind.i64.wrap ((2 : Int) * s2.getD s8.toNat (0 : Int))].length ≤ (17592186043904 : Nat))
         (chkL (s2) (s2)
         (energyRises.loop7R N a b f (nn) (s2) (Go.IntKind.i64.wrap (s8 + (1 : Int))) (s6) (s7 ++ [Go.IntKind.i64.wrap ((2 : Int) * s2.getD s8.toNat (0 : Int))])))))))))
   (some (Sum.inl (s6, s7)))) := by kernel_rfl
    rw [h, energyRises.loop7]
    try simp only [energyRises.loop7_eq N a b f nn]
noncomputable def energyRises.F (N : Nat) (a : Int) (b : Int) (f : List Int) : Option Bool :=
  (obind (Rc.awake19.F (N)) fun r0 =>
   (br (!r0)
    (some (false))
    (br (decide (a > b))
     (some (true))
     (br (decide (↑f.length > (500 : Int)))
      (some (true))
      (osum (energyRises.loop7 N a b f (N) (f) ((0 : Int)) (false) (([] : List Int))) fun r1 =>
       (obind (Rc.esize.F (N) (a)) fun r2 =>
        (obind (Rc.esize.F (N) (b)) fun r3 =>
         (br (decide (r2 ≤ r3))
          (obind (Rc.esize.F (N) (b)) fun r4 =>
           (obind (Rc.enearest.F (N) (r4)) fun r5 =>
            (obind (Rc.esize.F (N) (r5)) fun r6 =>
             (obind (Rc.esize.F (N) (b)) fun r7 =>
              (br (r6 == r7)
               (obind (Rc.emeasure.F (N) (f)) fun r8 =>
                (obind (Rc.emeasure.F (N) (r1.snd)) fun r9 =>
                 (some (decide (r8 ≤ r9)))))
               (some (false)))))))
          (some (false))))))))))
theorem energyRises.F_eq (N : Nat) (a : Int) (b : Int) (f : List Int) : evLaw (energyRises.C N a b f) (energyRises.K N) 0 Try.f22 [.at (.int .i64 a), .at (.int .i64 b), .at (.roi .i64 f)] = energyRises.F N a b f := by
  have h : evLaw (energyRises.C N a b f) (energyRises.K N) 0 Try.f22 [.at (.int .i64 a), .at (.int .i64 b), .at (.roi .i64 f)] =
  (obind (Rc.awake19.F (N)) fun r0 =>
   (br (!r0)
    (some (false))
    (br (decide (a > b))
     (some (true))
     (br (decide (↑f.length > (500 : Int)))
      (some (true))
      (osum (energyRises.loop7R N a b f (N) (f) ((0 : Int)) (false) (([] : List Int))) fun r1 =>
       (obind (Rc.esize.F (N) (a)) fun r2 =>
        (obind (Rc.esize.F (N) (b)) fun r3 =>
         (br (decide (r2 ≤ r3))
          (obind (Rc.esize.F (N) (b)) fun r4 =>
           (obind (Rc.enearest.F (N) (r4)) fun r5 =>
            (obind (Rc.esize.F (N) (r5)) fun r6 =>
             (obind (Rc.esize.F (N) (b)) fun r7 =>
              (br (r6 == r7)
               (obind (Rc.emeasure.F (N) (f)) fun r8 =>
                (obind (Rc.emeasure.F (N) (r1.snd)) fun r9 =>
                 (some (decide (r8 ≤ r9)))))
               (some (false)))))))
          (some (false)))))))))) := by kernel_rfl
  rw [h, energyRises.F]
  try simp only [energyRises.loop7_eq N a b f]
theorem energyRises.cok (N : Nat) (a : Int) (b : Int) (f : List Int) : CfgOK (energyRises.C N a b f) := ⟨fun _ _ _ _ h => by simp [energyRises.C, noRT] at h, wide, by
  simp only [energyRises.C, List.mem_cons, List.not_mem_nil, or_false, forall_eq_or_imp, forall_eq, false_imp_iff, implies_true]
  exact ⟨⟨awake19.ok, by kernel_rfl⟩, ⟨esize.ok, by kernel_rfl⟩, ⟨enearest.ok, by kernel_rfl⟩, ⟨emeasure.ok, by kernel_rfl⟩⟩, fun g hg => by simp [energyRises.C] at hg⟩
theorem energyRises.aok (N : Nat) : AnnsOK (energyRises.K N) := by
  intro q hq
  simp only [energyRises.K, List.mem_cons, List.not_mem_nil, or_false] at hq
  subst hq
  exact fun _ _ => ⟨rfl, rfl⟩
theorem energyRises.walk {w : World} {N : Nat} (a : Int) (b : Int) (f : List Int) {cargs : Array Value} (ha : All2 (RV noRT (lawE w)) [.at (.int .i64 a), .at (.int .i64 b), .at (.roi .i64 f)] cargs.toList) (h : energyRises.F N a b f = some true) :
    Calls Try.prog 22 cargs w fun e w' => e = .returned (.bool true) ∧ Frm w (fun _ => False) w' :=
  law_sound (C := energyRises.C N a b f) (K := energyRises.K N) (d := 0) (fn := Try.f22) (energyRises.cok N a b f) (fun q hq => by simp [energyRises.C] at hq) (energyRises.aok N) (by kernel_rfl) ha ((energyRises.F_eq N a b f).trans h)

noncomputable def energyBounds.C (N : Nat) (b : List Int) (was : List Int) (other : List Int) : Cfg := { P := Try.prog, N := N, RT := noRT, specs := [(62, awake19.spec), (30, new.spec), (63, eread.spec), (73, ints19.spec), (65, eexpect.spec)], inl := [], hi := 0, mv := [] }
abbrev energyBounds.loop11.R : Type := Bool
noncomputable def energyBounds.loop11.ann : Ann := { nx := 20, slots := [(1, .at (.froi .i64 0)), (6, .at (.bool 0)), (7, .at (.full 2 false)), (11, .at (.full 12 false)), (13, .at (.int .i64 0))], blks := [(2, .fints true .i64 1), (12, .fints true .i64 2)], mov := [], exId := 0, xslots := [(7, .at (.full 2 false)), (11, .at (.full 12 false)), (6, .at (.bool 0))], xblks := [(2, .fints true .i64 1), (12, .fints true .i64 2)], T := energyBounds.loop11.R, dec := fun L => (L.b 0), enc := fun r => mkL [] [r] [] [], ret := true }
noncomputable def energyBounds.K (N : Nat) : FCfg := { anns := [(11, energyBounds.loop11.ann)], unr := [], lits := [], lets := [] }
noncomputable def energyBounds.loop11 (N : Nat) (b : List Int) (was : List Int) (other : List Int) : Nat → List Int → List Int → List Int → Int → Bool → Option (energyBounds.loop11.R ⊕ Bool)
  | 0, _, _, _, _, _ => none
  | nn + 1, s1, l2, l12, s13, s6 =>
  (br (decide (s13 < ↑l2.length))
   (chk ((0 : Int) ≤ s13 ∧ s13 ≤ ↑l12.length)
    (obind (Rc.eexpect.F (N) (s13) (false) (s1) (List.take (s13.toNat - (0 : Nat)) (List.drop (0 : Nat) l12))) fun r0 =>
     (chk ((0 : Int) ≤ s13 ∧ s13 < ↑l2.length)
      (br (decide (l2.getD s13.toNat (0 : Int) < (0 : Int)))
       (omap
        (some (false)) .inr)
       (chk ((0 : Int) ≤ s13 ∧ s13 < ↑l2.length)
        (br (decide (l2.getD s13.toNat (0 : Int) > (100 : Int)))
         (omap
          (some (false)) .inr)
         (chk ((0 : Int) ≤ s13 ∧ s13 < ↑l12.length)
          (br (decide (l12.getD s13.toNat (0 : Int) < (0 : Int)))
           (omap
            (some (false)) .inr)
           (chk ((0 : Int) ≤ s13 ∧ s13 < ↑l12.length)
            (br (decide (l12.getD s13.toNat (0 : Int) > (100 : Int)))
             (omap
              (some (false)) .inr)
             (br (decide (r0 < (0 : Int)))
              (omap
               (some (false)) .inr)
              (br (decide (r0 > (100 : Int)))
               (omap
                (some (false)) .inr)
               (chkL (s1) (s1)
               (chkL (l2) (l2)
               (chkL (l12) (l12)
               (energyBounds.loop11 N b was other (nn) (s1) (l2) (l12) (Go.IntKind.i64.wrap (s13 + (1 : Int))) (s6)))))))))))))))))
   (chkL (l2) (l2)
   (chkL (l12) (l12)
   (some (Sum.inl s6)))))
noncomputable def energyBounds.loop11R (N : Nat) (b : List Int) (was : List Int) (other : List Int) (nn : Nat) (s1 : List Int) (l2 : List Int) (l12 : List Int) (s13 : Int) (s6 : Bool) : Option (energyBounds.loop11.R ⊕ Bool) := loopR energyBounds.loop11.ann (mkL [] [] [s1, l2, l12] []) (evCode ((energyBounds.C N b was other).inLoop energyBounds.loop11.ann) (energyBounds.K N) (inlTab (energyBounds.C N b was other) 0) (bodyAt 11 Try.f23)) (lawKr Try.prog Try.f23) nn (mkL [s13] [s6] [] [])
theorem energyBounds.loop11_eq (N : Nat) (b : List Int) (was : List Int) (other : List Int) : ∀ (nn : Nat) (s1 : List Int) (l2 : List Int) (l12 : List Int) (s13 : Int) (s6 : Bool), energyBounds.loop11R N b was other nn s1 l2 l12 s13 s6 = energyBounds.loop11 N b was other nn s1 l2 l12 s13 s6
  | 0, _, _, _, _, _ => by kernel_rfl
  | nn + 1, s1, l2, l12, s13, s6 => by
    have h : energyBounds.loop11R N b was other (nn + 1) s1 l2 l12 s13 s6 =
  (br (decide (s13 < ↑l2.length))
   (chk ((0 : Int) ≤ s13 ∧ s13 ≤ ↑l12.length)
    (obind (Rc.eexpect.F (N) (s13) (false) (s1) (List.take (s13.toNat - (0 : Nat)) (List.drop (0 : Nat) l12))) fun r0 =>
     (chk ((0 : Int) ≤ s13 ∧ s13 < ↑l2.length)
      (br (decide (l2.getD s13.toNat (0 : Int) < (0 : Int)))
       (omap
        (some (false)) .inr)
       (chk ((0 : Int) ≤ s13 ∧ s13 < ↑l2.length)
        (br (decide (l2.getD s13.toNat (0 : Int) > (100 : Int)))
         (omap
          (some (false)) .inr)
         (chk ((0 : Int) ≤ s13 ∧ s13 < ↑l12.length)
          (br (decide (l12.getD s13.toNat (0 : Int) < (0 : Int)))
           (omap
            (some (false)) .inr)
           (chk ((0 : Int) ≤ s13 ∧ s13 < ↑l12.length)
            (br (decide (l12.getD s13.toNat (0 : Int) > (100 : Int)))
             (omap
              (some (false)) .inr)
             (br (decide (r0 < (0 : Int)))
              (omap
               (some (false)) .inr)
              (br (decide (r0 > (100 : Int)))
               (omap
                (some (false)) .inr)
               (chkL (s1) (s1)
               (chkL (l2) (l2)
               (chkL (l12) (l12)
               (energyBounds.loop11R N b was other (nn) (s1) (l2) (l12) (Go.IntKind.i64.wrap (s13 + (1 : Int))) (s6)))))))))))))))))
   (chkL (l2) (l2)
   (chkL (l12) (l12)
   (some (Sum.inl s6))))) := by kernel_rfl
    rw [h, energyBounds.loop11]
    try simp only [energyBounds.loop11_eq N b was other nn]
noncomputable def energyBounds.F (N : Nat) (b : List Int) (was : List Int) (other : List Int) : Option Bool :=
  (obind (Rc.awake19.F (N)) fun r0 =>
   (br (!r0)
    (some (false))
    (br (decide (↑was.length < (1 : Int)))
     (some (true))
     (br (decide (↑was.length > (40 : Int)))
      (some (true))
      (br ((other.length : Int) != ↑was.length)
       (some (true))
       (br (decide (↑b.length > (300 : Int)))
        (some (true))
        (obind (Rc.new.F (N) (b)) fun r1 =>
         (obind (Rc.eread.F (N) (r1.fst) (r1.snd.fst) (r1.snd.snd.fst) (r1.snd.snd.snd.fst) (r1.snd.snd.snd.snd.fst) (r1.snd.snd.snd.snd.snd.fst) (r1.snd.snd.snd.snd.snd.snd.fst) (r1.snd.snd.snd.snd.snd.snd.snd.fst) (true) (r1.snd.snd.snd.snd.snd.snd.snd.snd.fst) (was) (r1.snd.snd.snd.snd.snd.snd.snd.snd.snd)) fun r2 =>
          (obind (Rc.new.F (N) (b)) fun r3 =>
           (obind (Rc.eread.F (N) (r3.fst) (r3.snd.fst) (r3.snd.snd.fst) (r3.snd.snd.snd.fst) (r3.snd.snd.snd.snd.fst) (r3.snd.snd.snd.snd.snd.fst) (r3.snd.snd.snd.snd.snd.snd.fst) (r3.snd.snd.snd.snd.snd.snd.snd.fst) (true) (r3.snd.snd.snd.snd.snd.snd.snd.snd.fst) (other) (r3.snd.snd.snd.snd.snd.snd.snd.snd.snd)) fun r4 =>
            (obind (Rc.new.F (N) (b)) fun r5 =>
             (obind (Rc.eread.F (N) (r5.fst) (r5.snd.fst) (r5.snd.snd.fst) (r5.snd.snd.snd.fst) (r5.snd.snd.snd.snd.fst) (r5.snd.snd.snd.snd.snd.fst) (r5.snd.snd.snd.snd.snd.snd.fst) (r5.snd.snd.snd.snd.snd.snd.snd.fst) (false) (r5.snd.snd.snd.snd.snd.snd.snd.snd.fst) (was) (r5.snd.snd.snd.snd.snd.snd.snd.snd.snd)) fun r6 =>
              (br (r2.fst != (0 : Int))
               (some (false))
               (br (r4.fst != (0 : Int))
                (some (false))
                (br (r6.fst != (0 : Int))
                 (some (false))
                 (obind (Rc.ints19.F (N) (r2.snd.snd.snd.snd.snd.snd) (r4.snd.snd.snd.snd.snd.snd)) fun r7 =>
                  (br (!r7)
                   (some (false))
                   (br ((r6.snd.snd.snd.snd.snd.snd.length : Int) != ↑was.length)
                    (some (false))
                    (osum (energyBounds.loop11 N b was other (N) (was) (r2.snd.snd.snd.snd.snd.snd) (r6.snd.snd.snd.snd.snd.snd) ((0 : Int)) (false)) fun r8 =>
                     (some (true)))))))))))))))))))))
theorem energyBounds.F_eq (N : Nat) (b : List Int) (was : List Int) (other : List Int) : evLaw (energyBounds.C N b was other) (energyBounds.K N) 0 Try.f23 [.at (.roi .u8 b), .at (.roi .i64 was), .at (.roi .i64 other)] = energyBounds.F N b was other := by
  have h : evLaw (energyBounds.C N b was other) (energyBounds.K N) 0 Try.f23 [.at (.roi .u8 b), .at (.roi .i64 was), .at (.roi .i64 other)] =
  (obind (Rc.awake19.F (N)) fun r0 =>
   (br (!r0)
    (some (false))
    (br (decide (↑was.length < (1 : Int)))
     (some (true))
     (br (decide (↑was.length > (40 : Int)))
      (some (true))
      (br ((other.length : Int) != ↑was.length)
       (some (true))
       (br (decide (↑b.length > (300 : Int)))
        (some (true))
        (obind (Rc.new.F (N) (b)) fun r1 =>
         (obind (Rc.eread.F (N) (r1.fst) (r1.snd.fst) (r1.snd.snd.fst) (r1.snd.snd.snd.fst) (r1.snd.snd.snd.snd.fst) (r1.snd.snd.snd.snd.snd.fst) (r1.snd.snd.snd.snd.snd.snd.fst) (r1.snd.snd.snd.snd.snd.snd.snd.fst) (true) (r1.snd.snd.snd.snd.snd.snd.snd.snd.fst) (was) (r1.snd.snd.snd.snd.snd.snd.snd.snd.snd)) fun r2 =>
          (obind (Rc.new.F (N) (b)) fun r3 =>
           (obind (Rc.eread.F (N) (r3.fst) (r3.snd.fst) (r3.snd.snd.fst) (r3.snd.snd.snd.fst) (r3.snd.snd.snd.snd.fst) (r3.snd.snd.snd.snd.snd.fst) (r3.snd.snd.snd.snd.snd.snd.fst) (r3.snd.snd.snd.snd.snd.snd.snd.fst) (true) (r3.snd.snd.snd.snd.snd.snd.snd.snd.fst) (other) (r3.snd.snd.snd.snd.snd.snd.snd.snd.snd)) fun r4 =>
            (obind (Rc.new.F (N) (b)) fun r5 =>
             (obind (Rc.eread.F (N) (r5.fst) (r5.snd.fst) (r5.snd.snd.fst) (r5.snd.snd.snd.fst) (r5.snd.snd.snd.snd.fst) (r5.snd.snd.snd.snd.snd.fst) (r5.snd.snd.snd.snd.snd.snd.fst) (r5.snd.snd.snd.snd.snd.snd.snd.fst) (false) (r5.snd.snd.snd.snd.snd.snd.snd.snd.fst) (was) (r5.snd.snd.snd.snd.snd.snd.snd.snd.snd)) fun r6 =>
              (br (r2.fst != (0 : Int))
               (some (false))
               (br (r4.fst != (0 : Int))
                (some (false))
                (br (r6.fst != (0 : Int))
                 (some (false))
                 (obind (Rc.ints19.F (N) (r2.snd.snd.snd.snd.snd.snd) (r4.snd.snd.snd.snd.snd.snd)) fun r7 =>
                  (br (!r7)
                   (some (false))
                   (br ((r6.snd.snd.snd.snd.snd.snd.length : Int) != ↑was.length)
                    (some (false))
                    (osum (energyBounds.loop11R N b was other (N) (was) (r2.snd.snd.snd.snd.snd.snd) (r6.snd.snd.snd.snd.snd.snd) ((0 : Int)) (false)) fun r8 =>
                     (some (true))))))))))))))))))))) := by kernel_rfl
  rw [h, energyBounds.F]
  try simp only [energyBounds.loop11_eq N b was other]
theorem energyBounds.cok (N : Nat) (b : List Int) (was : List Int) (other : List Int) : CfgOK (energyBounds.C N b was other) := ⟨fun _ _ _ _ h => by simp [energyBounds.C, noRT] at h, wide, by
  simp only [energyBounds.C, List.mem_cons, List.not_mem_nil, or_false, forall_eq_or_imp, forall_eq, false_imp_iff, implies_true]
  exact ⟨⟨awake19.ok, by kernel_rfl⟩, ⟨new.ok, by kernel_rfl⟩, ⟨eread.ok, by kernel_rfl⟩, ⟨ints19.ok, by kernel_rfl⟩, ⟨eexpect.ok, by kernel_rfl⟩⟩, fun g hg => by simp [energyBounds.C] at hg⟩
theorem energyBounds.aok (N : Nat) : AnnsOK (energyBounds.K N) := by
  intro q hq
  simp only [energyBounds.K, List.mem_cons, List.not_mem_nil, or_false] at hq
  subst hq
  exact fun _ _ => ⟨rfl, rfl⟩
theorem energyBounds.walk {w : World} {N : Nat} (b : List Int) (was : List Int) (other : List Int) {cargs : Array Value} (ha : All2 (RV noRT (lawE w)) [.at (.roi .u8 b), .at (.roi .i64 was), .at (.roi .i64 other)] cargs.toList) (h : energyBounds.F N b was other = some true) :
    Calls Try.prog 23 cargs w fun e w' => e = .returned (.bool true) ∧ Frm w (fun _ => False) w' :=
  law_sound (C := energyBounds.C N b was other) (K := energyBounds.K N) (d := 0) (fn := Try.f23) (energyBounds.cok N b was other) (fun q hq => by simp [energyBounds.C] at hq) (energyBounds.aok N) (by kernel_rfl) ha ((energyBounds.F_eq N b was other).trans h)

noncomputable def energyReads.C (N : Nat) (x : List Int) (was : List Int) (intra : Bool) : Cfg := { P := Try.prog, N := N, RT := noRT, specs := [(62, awake19.spec), (30, new.spec), (63, eread.spec), (61, tell.spec), (34, rnew.spec), (74, energies.spec), (73, ints19.spec), (37, rtell.spec)], inl := [], hi := 0, mv := [] }
noncomputable def energyReads.K (N : Nat) : FCfg := { anns := [], unr := [], lits := [], lets := [] }
noncomputable def energyReads.F (N : Nat) (x : List Int) (was : List Int) (intra : Bool) : Option Bool :=
  (obind (Rc.awake19.F (N)) fun r0 =>
   (br (!r0)
    (some (false))
    (br (decide (↑x.length > (500 : Int)))
     (some (true))
     (br (decide (↑was.length > (100 : Int)))
      (some (true))
      (obind (Rc.new.F (N) (x)) fun r1 =>
       (chk (([] : List Int).length + was.length ≤ (17592186043904 : Nat))
        (obind (Rc.eread.F (N) (r1.fst) (r1.snd.fst) (r1.snd.snd.fst) (r1.snd.snd.snd.fst) (r1.snd.snd.snd.snd.fst) (r1.snd.snd.snd.snd.snd.fst) (r1.snd.snd.snd.snd.snd.snd.fst) (r1.snd.snd.snd.snd.snd.snd.snd.fst) (intra) (r1.snd.snd.snd.snd.snd.snd.snd.snd.fst) (([] : List Int) ++ was) (r1.snd.snd.snd.snd.snd.snd.snd.snd.snd)) fun r2 =>
         (br (decide (↑was.length < (1 : Int)))
          (br (r2.fst == (1 : Int))
           (br (↑r2.snd.snd.snd.snd.snd.snd.length == (0 : Int))
            (obind (Rc.tell.F (N) (r2.snd.fst) (r2.snd.snd.fst) (r2.snd.snd.snd.fst) (r2.snd.snd.snd.snd.fst) (r1.snd.snd.snd.snd.fst) (r1.snd.snd.snd.snd.snd.fst) (r1.snd.snd.snd.snd.snd.snd.fst) (r2.snd.snd.snd.snd.snd.fst) (r1.snd.snd.snd.snd.snd.snd.snd.snd.fst) (r1.snd.snd.snd.snd.snd.snd.snd.snd.snd)) fun r3 =>
             (some (r3 == (1 : Int))))
            (some (false)))
           (some (false)))
          (br (decide (↑was.length > (40 : Int)))
           (br (r2.fst == (1 : Int))
            (br (↑r2.snd.snd.snd.snd.snd.snd.length == (0 : Int))
             (obind (Rc.tell.F (N) (r2.snd.fst) (r2.snd.snd.fst) (r2.snd.snd.snd.fst) (r2.snd.snd.snd.snd.fst) (r1.snd.snd.snd.snd.fst) (r1.snd.snd.snd.snd.snd.fst) (r1.snd.snd.snd.snd.snd.snd.fst) (r2.snd.snd.snd.snd.snd.fst) (r1.snd.snd.snd.snd.snd.snd.snd.snd.fst) (r1.snd.snd.snd.snd.snd.snd.snd.snd.snd)) fun r4 =>
              (some (r4 == (1 : Int))))
             (some (false)))
            (some (false)))
           (obind (Rc.rnew.F (N) (x)) fun r5 =>
            (br (r2.fst == (0 : Int))
             (obind (Rc.energies.F (N) (r5.fst) (r5.snd.fst) (r5.snd.snd.fst) (r5.snd.snd.snd.fst) (r5.snd.snd.snd.snd.fst) (r5.snd.snd.snd.snd.snd.fst) (r5.snd.snd.snd.snd.snd.snd.fst) (r5.snd.snd.snd.snd.snd.snd.snd.fst) (r5.snd.snd.snd.snd.snd.snd.snd.snd.fst) (intra) (r5.snd.snd.snd.snd.snd.snd.snd.snd.snd.fst) (was) (r5.snd.snd.snd.snd.snd.snd.snd.snd.snd.snd)) fun r6 =>
              (obind (Rc.ints19.F (N) (r2.snd.snd.snd.snd.snd.snd) (r6.snd.snd.snd.snd.snd.snd)) fun r7 =>
               (br (r7)
                (obind (Rc.tell.F (N) (r2.snd.fst) (r2.snd.snd.fst) (r2.snd.snd.snd.fst) (r2.snd.snd.snd.snd.fst) (r1.snd.snd.snd.snd.fst) (r1.snd.snd.snd.snd.snd.fst) (r1.snd.snd.snd.snd.snd.snd.fst) (r2.snd.snd.snd.snd.snd.fst) (r1.snd.snd.snd.snd.snd.snd.snd.snd.fst) (r1.snd.snd.snd.snd.snd.snd.snd.snd.snd)) fun r8 =>
                 (obind (Rc.rtell.F (N) (r6.fst) (r6.snd.fst) (r6.snd.snd.fst) (r6.snd.snd.snd.fst) (r5.snd.snd.snd.snd.fst) (r5.snd.snd.snd.snd.snd.fst) (r5.snd.snd.snd.snd.snd.snd.fst) (r6.snd.snd.snd.snd.fst) (r6.snd.snd.snd.snd.snd.fst) (r5.snd.snd.snd.snd.snd.snd.snd.snd.snd.fst) (r5.snd.snd.snd.snd.snd.snd.snd.snd.snd.snd)) fun r9 =>
                  (some (r8 == r9))))
                (some (false)))))
             (some (false)))))))))))))
theorem energyReads.F_eq (N : Nat) (x : List Int) (was : List Int) (intra : Bool) : evLaw (energyReads.C N x was intra) (energyReads.K N) 0 Try.f24 [.at (.roi .u8 x), .at (.roi .i64 was), .at (.bool intra)] = energyReads.F N x was intra := by
  kernel_rfl
theorem energyReads.cok (N : Nat) (x : List Int) (was : List Int) (intra : Bool) : CfgOK (energyReads.C N x was intra) := ⟨fun _ _ _ _ h => by simp [energyReads.C, noRT] at h, wide, by
  simp only [energyReads.C, List.mem_cons, List.not_mem_nil, or_false, forall_eq_or_imp, forall_eq, false_imp_iff, implies_true]
  exact ⟨⟨awake19.ok, by kernel_rfl⟩, ⟨new.ok, by kernel_rfl⟩, ⟨eread.ok, by kernel_rfl⟩, ⟨tell.ok, by kernel_rfl⟩, ⟨rnew.ok, by kernel_rfl⟩, ⟨energies.ok, by kernel_rfl⟩, ⟨ints19.ok, by kernel_rfl⟩, ⟨rtell.ok, by kernel_rfl⟩⟩, fun g hg => by simp [energyReads.C] at hg⟩
theorem energyReads.aok (N : Nat) : AnnsOK (energyReads.K N) := by
  intro q hq
  simp only [energyReads.K, List.mem_cons, List.not_mem_nil, or_false] at hq
theorem energyReads.walk {w : World} {N : Nat} (x : List Int) (was : List Int) (intra : Bool) {cargs : Array Value} (ha : All2 (RV noRT (lawE w)) [.at (.roi .u8 x), .at (.roi .i64 was), .at (.bool intra)] cargs.toList) (h : energyReads.F N x was intra = some true) :
    Calls Try.prog 24 cargs w fun e w' => e = .returned (.bool true) ∧ Frm w (fun _ => False) w' :=
  law_sound (C := energyReads.C N x was intra) (K := energyReads.K N) (d := 0) (fn := Try.f24) (energyReads.cok N x was intra) (fun q hq => by simp [energyReads.C] at hq) (energyReads.aok N) (by kernel_rfl) ha ((energyReads.F_eq N x was intra).trans h)

end Go.Proofs.Rc
