/-
  Functions of the program: what each comes to, and its contract (written by a program).
  Conditions: none: each contract is proved for every input of its shape.
-/
import Derived.Test.YtgimkkepagcpkaaEngFn
import Derived.Laws.Externs
import Derived.Test.YtgimkkepagcpkaaProg
import Derived.Test.YtgimkkepagcpkaaRencFns
namespace Go.Proofs.Rc
open Go.Eng
set_option maxRecDepth 100000
set_option linter.unusedVariables false
set_option linter.unusedSimpArgs false
noncomputable def clamp.sig : Eng.Sig := { args := [.at (.int .i64 0), .at (.int .i64 1), .at (.int .i64 2)], n := 0, pre := [], post := [], m := 0, ret := .at (.int .i64 0) }
noncomputable def clamp.C (N : Nat) : Cfg := { P := Try.prog, N := N, RT := noRT, specs := [], inl := [], hi := 0, mv := [] }
abbrev clamp.R : Type := Int
def clamp.dec (L : Eng.Leaves) : clamp.R := (L.i 0)
def clamp.enc (r : clamp.R) : Eng.Leaves := mkL [r] [] [] []
noncomputable def clamp.K (N : Nat) : FCfg := { anns := [], unr := [], lits := [], lets := [] }
noncomputable def clamp.F (N : Nat) (a : Int) (lo : Int) (hi : Int) : Option clamp.R :=
  (br (decide (lo > hi))
   (some (lo))
   (br (decide (a < lo))
    (some (lo))
    (br (decide (a > hi))
     (some (hi))
     (some (a)))))
theorem clamp.F_eq (N : Nat) (L : Eng.Leaves) : evSig (clamp.C N) (clamp.K N) 0 Try.f102 clamp.sig L clamp.dec = clamp.F N (L.i 0) (L.i 1) (L.i 2) := by
  kernel_rfl
noncomputable def clamp.spec : Eng.Spec := clamp.sig.spec (fun N L => clamp.F N (L.i 0) (L.i 1) (L.i 2)) clamp.enc
theorem clamp.cok (N : Nat) : CfgOK (clamp.C N) := ⟨fun _ _ _ _ h => by simp [clamp.C, noRT] at h, wide, by
  simp only [clamp.C, List.mem_cons, List.not_mem_nil, or_false, forall_eq_or_imp, forall_eq, false_imp_iff, implies_true], fun g hg => by simp [clamp.C] at hg⟩
theorem clamp.aok (N : Nat) : AnnsOK (clamp.K N) := by
  intro q hq
  simp only [clamp.K, List.mem_cons, List.not_mem_nil, or_false] at hq
theorem clamp.ok : CallOK Try.prog 102 clamp.spec :=
  callOK_of_sig (fn := Try.f102) (Cf := clamp.C) (K := clamp.K) (d := 0) (dec := clamp.dec) (by kernel_rfl) (fun _ => rfl) clamp.cok (fun _ q hq => by simp [clamp.C] at hq) clamp.aok
    (fun N L r h => (clamp.F_eq N L).trans h) (by kernel_rfl) (fun _ => ⟨rfl, rfl⟩) (fun _ _ => ⟨rfl, rfl⟩)

noncomputable def eclamp.sig : Eng.Sig := { args := [.at (.int .i64 0)], n := 0, pre := [], post := [], m := 0, ret := .at (.int .i64 0) }
noncomputable def eclamp.C (N : Nat) : Cfg := { P := Try.prog, N := N, RT := noRT, specs := [], inl := [], hi := 0, mv := [] }
abbrev eclamp.R : Type := Int
def eclamp.dec (L : Eng.Leaves) : eclamp.R := (L.i 0)
def eclamp.enc (r : eclamp.R) : Eng.Leaves := mkL [r] [] [] []
noncomputable def eclamp.K (N : Nat) : FCfg := { anns := [], unr := [], lits := [], lets := [] }
noncomputable def eclamp.F (N : Nat) (eq : Int) : Option eclamp.R :=
  (some (if (100 : Int) < if (0 : Int) > eq then (0 : Int) else eq then (100 : Int) else if (0 : Int) > eq then (0 : Int) else eq))
theorem eclamp.F_eq (N : Nat) (L : Eng.Leaves) : evSig (eclamp.C N) (eclamp.K N) 0 Try.f109 eclamp.sig L eclamp.dec = eclamp.F N (L.i 0) := by
  kernel_rfl
noncomputable def eclamp.spec : Eng.Spec := eclamp.sig.spec (fun N L => eclamp.F N (L.i 0)) eclamp.enc
theorem eclamp.cok (N : Nat) : CfgOK (eclamp.C N) := ⟨fun _ _ _ _ h => by simp [eclamp.C, noRT] at h, wide, by
  simp only [eclamp.C, List.mem_cons, List.not_mem_nil, or_false, forall_eq_or_imp, forall_eq, false_imp_iff, implies_true], fun g hg => by simp [eclamp.C] at hg⟩
theorem eclamp.aok (N : Nat) : AnnsOK (eclamp.K N) := by
  intro q hq
  simp only [eclamp.K, List.mem_cons, List.not_mem_nil, or_false] at hq
theorem eclamp.ok : CallOK Try.prog 109 eclamp.spec :=
  callOK_of_sig (fn := Try.f109) (Cf := eclamp.C) (K := eclamp.K) (d := 0) (dec := eclamp.dec) (by kernel_rfl) (fun _ => rfl) eclamp.cok (fun _ q hq => by simp [eclamp.C] at hq) eclamp.aok
    (fun N L r h => (eclamp.F_eq N L).trans h) (by kernel_rfl) (fun _ => ⟨rfl, rfl⟩) (fun _ _ => ⟨rfl, rfl⟩)

noncomputable def efar.sig : Eng.Sig := { args := [.at (.int .i64 0), .at (.int .i64 1)], n := 0, pre := [], post := [], m := 0, ret := .at (.int .i64 0) }
noncomputable def efar.C (N : Nat) : Cfg := { P := Try.prog, N := N, RT := noRT, specs := [], inl := [], hi := 0, mv := [] }
abbrev efar.R : Type := Int
def efar.dec (L : Eng.Leaves) : efar.R := (L.i 0)
def efar.enc (r : efar.R) : Eng.Leaves := mkL [r] [] [] []
noncomputable def efar.K (N : Nat) : FCfg := { anns := [], unr := [], lits := [], lets := [] }
noncomputable def efar.F (N : Nat) (a : Int) (b : Int) : Option efar.R :=
  (some (if Go.IntKind.i64.wrap (b - a) > Go.IntKind.i64.wrap (a - b) then Go.IntKind.i64.wrap (b - a) else Go.IntKind.i64.wrap (a - b)))
theorem efar.F_eq (N : Nat) (L : Eng.Leaves) : evSig (efar.C N) (efar.K N) 0 Try.f116 efar.sig L efar.dec = efar.F N (L.i 0) (L.i 1) := by
  kernel_rfl
noncomputable def efar.spec : Eng.Spec := efar.sig.spec (fun N L => efar.F N (L.i 0) (L.i 1)) efar.enc
theorem efar.cok (N : Nat) : CfgOK (efar.C N) := ⟨fun _ _ _ _ h => by simp [efar.C, noRT] at h, wide, by
  simp only [efar.C, List.mem_cons, List.not_mem_nil, or_false, forall_eq_or_imp, forall_eq, false_imp_iff, implies_true], fun g hg => by simp [efar.C] at hg⟩
theorem efar.aok (N : Nat) : AnnsOK (efar.K N) := by
  intro q hq
  simp only [efar.K, List.mem_cons, List.not_mem_nil, or_false] at hq
theorem efar.ok : CallOK Try.prog 116 efar.spec :=
  callOK_of_sig (fn := Try.f116) (Cf := efar.C) (K := efar.K) (d := 0) (dec := efar.dec) (by kernel_rfl) (fun _ => rfl) efar.cok (fun _ q hq => by simp [efar.C] at hq) efar.aok
    (fun N L r h => (efar.F_eq N L).trans h) (by kernel_rfl) (fun _ => ⟨rfl, rfl⟩) (fun _ _ => ⟨rfl, rfl⟩)

noncomputable def factor.sig : Eng.Sig := { args := [.at (.int .i64 0)], n := 0, pre := [], post := [], m := 0, ret := .at (.int .i64 0) }
noncomputable def factor.C (N : Nat) : Cfg := { P := Try.prog, N := N, RT := noRT, specs := [(102, clamp.spec)], inl := [], hi := 0, mv := [] }
abbrev factor.R : Type := Int
def factor.dec (L : Eng.Leaves) : factor.R := (L.i 0)
def factor.enc (r : factor.R) : Eng.Leaves := mkL [r] [] [] []
noncomputable def factor.K (N : Nat) : FCfg := { anns := [], unr := [], lits := [], lets := [] }
noncomputable def factor.F (N : Nat) (a : Int) : Option factor.R :=
  (obind (Rc.clamp.F (N) (a) ((-2147483648 : Int)) ((2147483648 : Int))) fun r0 =>
   (some (r0)))
theorem factor.F_eq (N : Nat) (L : Eng.Leaves) : evSig (factor.C N) (factor.K N) 0 Try.f130 factor.sig L factor.dec = factor.F N (L.i 0) := by
  kernel_rfl
noncomputable def factor.spec : Eng.Spec := factor.sig.spec (fun N L => factor.F N (L.i 0)) factor.enc
theorem factor.cok (N : Nat) : CfgOK (factor.C N) := ⟨fun _ _ _ _ h => by simp [factor.C, noRT] at h, wide, by
  simp only [factor.C, List.mem_cons, List.not_mem_nil, or_false, forall_eq_or_imp, forall_eq, false_imp_iff, implies_true]
  exact ⟨clamp.ok, by kernel_rfl⟩, fun g hg => by simp [factor.C] at hg⟩
theorem factor.aok (N : Nat) : AnnsOK (factor.K N) := by
  intro q hq
  simp only [factor.K, List.mem_cons, List.not_mem_nil, or_false] at hq
theorem factor.ok : CallOK Try.prog 130 factor.spec :=
  callOK_of_sig (fn := Try.f130) (Cf := factor.C) (K := factor.K) (d := 0) (dec := factor.dec) (by kernel_rfl) (fun _ => rfl) factor.cok (fun _ q hq => by simp [factor.C] at hq) factor.aok
    (fun N L r h => (factor.F_eq N L).trans h) (by kernel_rfl) (fun _ => ⟨rfl, rfl⟩) (fun _ _ => ⟨rfl, rfl⟩)

noncomputable def fmul.sig : Eng.Sig := { args := [.at (.int .i64 0), .at (.int .i64 1), .at (.int .i64 2)], n := 0, pre := [], post := [], m := 0, ret := .at (.int .i64 0) }
noncomputable def fmul.C (N : Nat) : Cfg := { P := Try.prog, N := N, RT := noRT, specs := [(130, factor.spec)], inl := [], hi := 0, mv := [] }
abbrev fmul.R : Type := Int
def fmul.dec (L : Eng.Leaves) : fmul.R := (L.i 0)
def fmul.enc (r : fmul.R) : Eng.Leaves := mkL [r] [] [] []
noncomputable def fmul.K (N : Nat) : FCfg := { anns := [], unr := [], lits := [], lets := [] }
noncomputable def fmul.F (N : Nat) (a : Int) (b : Int) (s : Int) : Option fmul.R :=
  (obind (Rc.factor.F (N) (a)) fun r0 =>
   (obind (Rc.factor.F (N) (b)) fun r1 =>
    (br (s == (0 : Int))
     (some (Go.IntKind.i64.wrap (r0 * r1)))
     (br (decide (s < (0 : Int)))
      (some ((0 : Int)))
      (br (decide (s > (62 : Int)))
       (some ((0 : Int)))
       (chk ((0 : Int) ≤ Go.IntKind.i64.wrap (s - (1 : Int)))
        (chk ((0 : Int) ≤ s)
         (some ((Go.IntKind.i64.wrap (Go.IntKind.i64.wrap (r0 * r1) + Go.IntKind.i64.wrap ((1 : Int) * (2 : Int) ^ min (Go.IntKind.i64.wrap (s - (1 : Int))).toNat Go.IntKind.i64.bits))).fdiv ((2 : Int) ^ min s.toNat Go.IntKind.i64.bits))))))))))
theorem fmul.F_eq (N : Nat) (L : Eng.Leaves) : evSig (fmul.C N) (fmul.K N) 0 Try.f127 fmul.sig L fmul.dec = fmul.F N (L.i 0) (L.i 1) (L.i 2) := by
  kernel_rfl
noncomputable def fmul.spec : Eng.Spec := fmul.sig.spec (fun N L => fmul.F N (L.i 0) (L.i 1) (L.i 2)) fmul.enc
theorem fmul.cok (N : Nat) : CfgOK (fmul.C N) := ⟨fun _ _ _ _ h => by simp [fmul.C, noRT] at h, wide, by
  simp only [fmul.C, List.mem_cons, List.not_mem_nil, or_false, forall_eq_or_imp, forall_eq, false_imp_iff, implies_true]
  exact ⟨factor.ok, by kernel_rfl⟩, fun g hg => by simp [fmul.C] at hg⟩
theorem fmul.aok (N : Nat) : AnnsOK (fmul.K N) := by
  intro q hq
  simp only [fmul.K, List.mem_cons, List.not_mem_nil, or_false] at hq
theorem fmul.ok : CallOK Try.prog 127 fmul.spec :=
  callOK_of_sig (fn := Try.f127) (Cf := fmul.C) (K := fmul.K) (d := 0) (dec := fmul.dec) (by kernel_rfl) (fun _ => rfl) fmul.cok (fun _ q hq => by simp [fmul.C] at hq) fmul.aok
    (fun N L r h => (fmul.F_eq N L).trans h) (by kernel_rfl) (fun _ => ⟨rfl, rfl⟩) (fun _ _ => ⟨rfl, rfl⟩)

noncomputable def exp2.sig : Eng.Sig := { args := [.at (.int .i64 0)], n := 0, pre := [], post := [], m := 0, ret := .at (.int .i64 0) }
noncomputable def exp2.C (N : Nat) : Cfg := { P := Try.prog, N := N, RT := noRT, specs := [(102, clamp.spec), (127, fmul.spec)], inl := [], hi := 0, mv := [] }
abbrev exp2.R : Type := Int
def exp2.dec (L : Eng.Leaves) : exp2.R := (L.i 0)
def exp2.enc (r : exp2.R) : Eng.Leaves := mkL [r] [] [] []
abbrev exp2.loop5.R : Type := Int
noncomputable def exp2.loop5.ann : Ann := { nx := 20, slots := [(4, .at (.fint .i64 0)), (5, .at (.int .i64 0)), (14, .agg [.fint .i64 1, .fint .i64 2, .fint .i64 3, .fint .i64 4, .fint .i64 5, .fint .i64 6, .fint .i64 7, .fint .i64 8]), (15, .at (.int .i64 1))], blks := [], mov := [], exId := 0, xslots := [(5, .at (.int .i64 0))], xblks := [], T := exp2.loop5.R, dec := fun L => (L.i 0), enc := fun r => mkL [r] [] [] [], ret := false }
noncomputable def exp2.K (N : Nat) : FCfg := { anns := [(5, exp2.loop5.ann)], unr := [], lits := [], lets := [] }
noncomputable def exp2.loop5 (N : Nat) : Nat → Int → Int → Int → Int → Int → Int → Int → Int → Int → Int → Int → Option exp2.loop5.R
  | 0, _, _, _, _, _, _, _, _, _, _, _ => none
  | nn + 1, s4, s14_0, s14_1, s14_2, s14_3, s14_4, s14_5, s14_6, s14_7, s5, s15 =>
  (br (decide (s15 < (8 : Int)))
   (chk ((0 : Int) ≤ s15 ∧ s15 < ↑(8 : Nat))
    (chk ((0 : Int) ≤ Go.IntKind.i64.wrap ((7 : Int) - s15))
     (br (Go.IntKind.i64.wrap ↑(BitVec.ofInt Go.IntKind.i64.bits (s4.fdiv ((2 : Int) ^ min (Go.IntKind.i64.wrap ((7 : Int) - s15)).toNat Go.IntKind.i64.bits)) &&& BitVec.ofInt Go.IntKind.i64.bits (1 : Int)).toNat == (1 : Int))
      (obind (Rc.fmul.F (N) (s5) ([s14_0, s14_1, s14_2, s14_3, s14_4, s14_5, s14_6, s14_7].getD s15.toNat (0 : Int)) ((30 : Int))) fun r0 =>
       (chkI (s4) (s4)
       (chkI (s14_0) (s14_0)
       (chkI (s14_1) (s14_1)
       (chkI (s14_2) (s14_2)
       (chkI (s14_3) (s14_3)
       (chkI (s14_4) (s14_4)
       (chkI (s14_5) (s14_5)
       (chkI (s14_6) (s14_6)
       (chkI (s14_7) (s14_7)
       (exp2.loop5 N (nn) (s4) (s14_0) (s14_1) (s14_2) (s14_3) (s14_4) (s14_5) (s14_6) (s14_7) (r0) (Go.IntKind.i64.wrap (s15 + (1 : Int))))))))))))))
      (chkI (s4) (s4)
      (chkI (s14_0) (s14_0)
      (chkI (s14_1) (s14_1)
      (chkI (s14_2) (s14_2)
      (chkI (s14_3) (s14_3)
      (chkI (s14_4) (s14_4)
      (chkI (s14_5) (s14_5)
      (chkI (s14_6) (s14_6)
      (chkI (s14_7) (s14_7)
      (exp2.loop5 N (nn) (s4) (s14_0) (s14_1) (s14_2) (s14_3) (s14_4) (s14_5) (s14_6) (s14_7) (s5) (Go.IntKind.i64.wrap (s15 + (1 : Int))))))))))))))))
   (some (s5)))
noncomputable def exp2.loop5R (N nn : Nat) (s4 : Int) (s14_0 : Int) (s14_1 : Int) (s14_2 : Int) (s14_3 : Int) (s14_4 : Int) (s14_5 : Int) (s14_6 : Int) (s14_7 : Int) (s5 : Int) (s15 : Int) : Option exp2.loop5.R := loopF exp2.loop5.ann (mkL [s4, s14_0, s14_1, s14_2, s14_3, s14_4, s14_5, s14_6, s14_7] [] [] []) (evCode ((exp2.C N).inLoop exp2.loop5.ann) (exp2.K N) (inlTab (exp2.C N) 0) (bodyAt 5 Try.f114)) nn (mkL [s5, s15] [] [] [])
theorem exp2.loop5_eq (N : Nat) : ∀ (nn : Nat) (s4 : Int) (s14_0 : Int) (s14_1 : Int) (s14_2 : Int) (s14_3 : Int) (s14_4 : Int) (s14_5 : Int) (s14_6 : Int) (s14_7 : Int) (s5 : Int) (s15 : Int), exp2.loop5R N nn s4 s14_0 s14_1 s14_2 s14_3 s14_4 s14_5 s14_6 s14_7 s5 s15 = exp2.loop5 N nn s4 s14_0 s14_1 s14_2 s14_3 s14_4 s14_5 s14_6 s14_7 s5 s15
  | 0, _, _, _, _, _, _, _, _, _, _, _ => by kernel_rfl
  | nn + 1, s4, s14_0, s14_1, s14_2, s14_3, s14_4, s14_5, s14_6, s14_7, s5, s15 => by
    have h : exp2.loop5R N (nn + 1) s4 s14_0 s14_1 s14_2 s14_3 s14_4 s14_5 s14_6 s14_7 s5 s15 =
  (br (decide (s15 < (8 : Int)))
   (chk ((0 : Int) ≤ s15 ∧ s15 < ↑(8 : Nat))
    (chk ((0 : Int) ≤ Go.IntKind.i64.wrap ((7 : Int) - s15))
     (br (Go.IntKind.i64.wrap ↑(BitVec.ofInt Go.IntKind.i64.bits (s4.fdiv ((2 : Int) ^ min (Go.IntKind.i64.wrap ((7 : Int) - s15)).toNat Go.IntKind.i64.bits)) &&& BitVec.ofInt Go.IntKind.i64.bits (1 : Int)).toNat == (1 : Int))
      (obind (Rc.fmul.F (N) (s5) ([s14_0, s14_1, s14_2, s14_3, s14_4, s14_5, s14_6, s14_7].getD s15.toNat (0 : Int)) ((30 : Int))) fun r0 =>
       (chkI (s4) (s4)
       (chkI (s14_0) (s14_0)
       (chkI (s14_1) (s14_1)
       (chkI (s14_2) (s14_2)
       (chkI (s14_3) (s14_3)
       (chkI (s14_4) (s14_4)
       (chkI (s14_5) (s14_5)
       (chkI (s14_6) (s14_6)
       (chkI (s14_7) (s14_7)
       (exp2.loop5R N (nn) (s4) (s14_0) (s14_1) (s14_2) (s14_3) (s14_4) (s14_5) (s14_6) (s14_7) (r0) (Go.IntKind.i64.wrap (s15 + (1 : Int))))))))))))))
      (chkI (s4) (s4)
      (chkI (s14_0) (s14_0)
      (chkI (s14_1) (s14_1)
      (chkI (s14_2) (s14_2)
      (chkI (s14_3) (s14_3)
      (chkI (s14_4) (s14_4)
      (chkI (s14_5) (s14_5)
      (chkI (s14_6) (s14_6)
      (chkI (s14_7) (s14_7)
      (exp2.loop5R N (nn) (s4) (s14_0) (s14_1) (s14_2) (s14_3) (s14_4) (s14_5) (s14_6) (s14_7) (s5) (Go.IntKind.i64.wrap (s15 + (1 : Int))))))))))))))))
   (some (s5))) := by kernel_rfl
    rw [h, exp2.loop5]
    try simp only [exp2.loop5_eq N nn]
noncomputable def exp2.F (N : Nat) (q : Int) : Option exp2.R :=
  (obind (Rc.clamp.F (N) (q) ((0 : Int)) ((7935 : Int))) fun r0 =>
   (obind (exp2.loop5 N (N) (Go.IntKind.i64.wrap ↑(BitVec.ofInt Go.IntKind.i64.bits r0 &&& BitVec.ofInt Go.IntKind.i64.bits (255 : Int)).toNat) ((1518500250 : Int)) ((1276901417 : Int)) ((1170923762 : Int)) ((1121280436 : Int)) ((1097253708 : Int)) ((1085434106 : Int)) ((1079572136 : Int)) ((1076653033 : Int)) ((1073741824 : Int)) ((0 : Int))) fun r1 =>
    (br (r0.fdiv ((2 : Int) ^ min (Int.toNat (8 : Int)) Go.IntKind.i64.bits) == (30 : Int))
     (some (r1))
     (obind (Rc.fmul.F (N) (r1) ((1 : Int)) (Go.IntKind.i64.wrap ((30 : Int) - r0.fdiv ((2 : Int) ^ min (Int.toNat (8 : Int)) Go.IntKind.i64.bits)))) fun r2 =>
      (some (r2))))))
theorem exp2.F_eq (N : Nat) (L : Eng.Leaves) : evSig (exp2.C N) (exp2.K N) 0 Try.f114 exp2.sig L exp2.dec = exp2.F N (L.i 0) := by
  have h : ∀ (q : Int), evSig (exp2.C N) (exp2.K N) 0 Try.f114 exp2.sig (mkL [q] [] [] []) exp2.dec =
  (obind (Rc.clamp.F (N) (q) ((0 : Int)) ((7935 : Int))) fun r0 =>
   (obind (exp2.loop5R N (N) (Go.IntKind.i64.wrap ↑(BitVec.ofInt Go.IntKind.i64.bits r0 &&& BitVec.ofInt Go.IntKind.i64.bits (255 : Int)).toNat) ((1518500250 : Int)) ((1276901417 : Int)) ((1170923762 : Int)) ((1121280436 : Int)) ((1097253708 : Int)) ((1085434106 : Int)) ((1079572136 : Int)) ((1076653033 : Int)) ((1073741824 : Int)) ((0 : Int))) fun r1 =>
    (br (r0.fdiv ((2 : Int) ^ min (Int.toNat (8 : Int)) Go.IntKind.i64.bits) == (30 : Int))
     (some (r1))
     (obind (Rc.fmul.F (N) (r1) ((1 : Int)) (Go.IntKind.i64.wrap ((30 : Int) - r0.fdiv ((2 : Int) ^ min (Int.toNat (8 : Int)) Go.IntKind.i64.bits)))) fun r2 =>
      (some (r2)))))) := by
    intro q
    kernel_rfl
  have h2 : evSig (exp2.C N) (exp2.K N) 0 Try.f114 exp2.sig L exp2.dec = evSig (exp2.C N) (exp2.K N) 0 Try.f114 exp2.sig (mkL [L.i 0] [] [] []) exp2.dec := by kernel_rfl
  rw [h2, h, exp2.F]
  try simp only [exp2.loop5_eq N]
noncomputable def exp2.spec : Eng.Spec := exp2.sig.spec (fun N L => exp2.F N (L.i 0)) exp2.enc
theorem exp2.cok (N : Nat) : CfgOK (exp2.C N) := ⟨fun _ _ _ _ h => by simp [exp2.C, noRT] at h, wide, by
  simp only [exp2.C, List.mem_cons, List.not_mem_nil, or_false, forall_eq_or_imp, forall_eq, false_imp_iff, implies_true]
  exact ⟨⟨clamp.ok, by kernel_rfl⟩, ⟨fmul.ok, by kernel_rfl⟩⟩, fun g hg => by simp [exp2.C] at hg⟩
theorem exp2.aok (N : Nat) : AnnsOK (exp2.K N) := by
  intro q hq
  simp only [exp2.K, List.mem_cons, List.not_mem_nil, or_false] at hq
  subst hq
  exact fun _ _ => ⟨rfl, rfl⟩
theorem exp2.ok : CallOK Try.prog 114 exp2.spec :=
  callOK_of_sig (fn := Try.f114) (Cf := exp2.C) (K := exp2.K) (d := 0) (dec := exp2.dec) (by kernel_rfl) (fun _ => rfl) exp2.cok (fun _ q hq => by simp [exp2.C] at hq) exp2.aok
    (fun N L r h => (exp2.F_eq N L).trans h) (by kernel_rfl) (fun _ => ⟨rfl, rfl⟩) (fun _ _ => ⟨rfl, rfl⟩)

noncomputable def fsqrt.sig : Eng.Sig := { args := [.at (.int .i64 0)], n := 0, pre := [], post := [], m := 0, ret := .at (.int .i64 0) }
noncomputable def fsqrt.C (N : Nat) : Cfg := { P := Try.prog, N := N, RT := noRT, specs := [], inl := [], hi := 0, mv := [] }
abbrev fsqrt.R : Type := Int
def fsqrt.dec (L : Eng.Leaves) : fsqrt.R := (L.i 0)
def fsqrt.enc (r : fsqrt.R) : Eng.Leaves := mkL [r] [] [] []
abbrev fsqrt.loop5.R : Type := Int
noncomputable def fsqrt.loop5.ann : Ann := { nx := 20, slots := [(3, .at (.int .u64 0)), (4, .at (.int .u64 1)), (5, .at (.int .u64 2))], blks := [], mov := [], exId := 0, xslots := [(4, .at (.int .u64 0))], xblks := [], T := fsqrt.loop5.R, dec := fun L => (L.i 0), enc := fun r => mkL [r] [] [] [], ret := false }
noncomputable def fsqrt.K (N : Nat) : FCfg := { anns := [(5, fsqrt.loop5.ann)], unr := [], lits := [], lets := [] }
noncomputable def fsqrt.loop5 (N : Nat) : Nat → Int → Int → Int → Option fsqrt.loop5.R
  | 0, _, _, _ => none
  | nn + 1, s3, s4, s5 =>
  (br (decide (s5 > (0 : Int)))
   (br (decide (s3 ≥ Go.IntKind.u64.wrap (s4 + s5)))
    (fsqrt.loop5 N (nn) (Go.IntKind.u64.wrap (s3 - Go.IntKind.u64.wrap (s4 + s5))) (Go.IntKind.u64.wrap (s4.fdiv ((2 : Int) ^ min (Int.toNat (1 : Int)) Go.IntKind.u64.bits) + s5)) (s5.fdiv ((2 : Int) ^ min (Int.toNat (2 : Int)) Go.IntKind.u64.bits)))
    (fsqrt.loop5 N (nn) (s3) (s4.fdiv ((2 : Int) ^ min (Int.toNat (1 : Int)) Go.IntKind.u64.bits)) (s5.fdiv ((2 : Int) ^ min (Int.toNat (2 : Int)) Go.IntKind.u64.bits))))
   (some (s4)))
noncomputable def fsqrt.loop5R (N nn : Nat) (s3 : Int) (s4 : Int) (s5 : Int) : Option fsqrt.loop5.R := loopF fsqrt.loop5.ann (mkL [] [] [] []) (evCode ((fsqrt.C N).inLoop fsqrt.loop5.ann) (fsqrt.K N) (inlTab (fsqrt.C N) 0) (bodyAt 5 Try.f113)) nn (mkL [s3, s4, s5] [] [] [])
theorem fsqrt.loop5_eq (N : Nat) : ∀ (nn : Nat) (s3 : Int) (s4 : Int) (s5 : Int), fsqrt.loop5R N nn s3 s4 s5 = fsqrt.loop5 N nn s3 s4 s5
  | 0, _, _, _ => by kernel_rfl
  | nn + 1, s3, s4, s5 => by
    have h : fsqrt.loop5R N (nn + 1) s3 s4 s5 =
  (br (decide (s5 > (0 : Int)))
   (br (decide (s3 ≥ Go.IntKind.u64.wrap (s4 + s5)))
    (fsqrt.loop5R N (nn) (Go.IntKind.u64.wrap (s3 - Go.IntKind.u64.wrap (s4 + s5))) (Go.IntKind.u64.wrap (s4.fdiv ((2 : Int) ^ min (Int.toNat (1 : Int)) Go.IntKind.u64.bits) + s5)) (s5.fdiv ((2 : Int) ^ min (Int.toNat (2 : Int)) Go.IntKind.u64.bits)))
    (fsqrt.loop5R N (nn) (s3) (s4.fdiv ((2 : Int) ^ min (Int.toNat (1 : Int)) Go.IntKind.u64.bits)) (s5.fdiv ((2 : Int) ^ min (Int.toNat (2 : Int)) Go.IntKind.u64.bits))))
   (some (s4))) := by kernel_rfl
    rw [h, fsqrt.loop5]
    try simp only [fsqrt.loop5_eq N nn]
noncomputable def fsqrt.F (N : Nat) (a : Int) : Option fsqrt.R :=
  (br (decide (a < (0 : Int)))
   (some ((0 : Int)))
   (obind (fsqrt.loop5 N (N) (Go.IntKind.u64.wrap a) ((0 : Int)) ((4611686018427387904 : Int))) fun r0 =>
    (some (Go.IntKind.i64.wrap r0))))
theorem fsqrt.F_eq (N : Nat) (L : Eng.Leaves) : evSig (fsqrt.C N) (fsqrt.K N) 0 Try.f113 fsqrt.sig L fsqrt.dec = fsqrt.F N (L.i 0) := by
  have h : ∀ (a : Int), evSig (fsqrt.C N) (fsqrt.K N) 0 Try.f113 fsqrt.sig (mkL [a] [] [] []) fsqrt.dec =
  (br (decide (a < (0 : Int)))
   (some ((0 : Int)))
   (obind (fsqrt.loop5R N (N) (Go.IntKind.u64.wrap a) ((0 : Int)) ((4611686018427387904 : Int))) fun r0 =>
    (some (Go.IntKind.i64.wrap r0)))) := by
    intro a
    kernel_rfl
  have h2 : evSig (fsqrt.C N) (fsqrt.K N) 0 Try.f113 fsqrt.sig L fsqrt.dec = evSig (fsqrt.C N) (fsqrt.K N) 0 Try.f113 fsqrt.sig (mkL [L.i 0] [] [] []) fsqrt.dec := by kernel_rfl
  rw [h2, h, fsqrt.F]
  try simp only [fsqrt.loop5_eq N]
noncomputable def fsqrt.spec : Eng.Spec := fsqrt.sig.spec (fun N L => fsqrt.F N (L.i 0)) fsqrt.enc
theorem fsqrt.cok (N : Nat) : CfgOK (fsqrt.C N) := ⟨fun _ _ _ _ h => by simp [fsqrt.C, noRT] at h, wide, by
  simp only [fsqrt.C, List.mem_cons, List.not_mem_nil, or_false, forall_eq_or_imp, forall_eq, false_imp_iff, implies_true], fun g hg => by simp [fsqrt.C] at hg⟩
theorem fsqrt.aok (N : Nat) : AnnsOK (fsqrt.K N) := by
  intro q hq
  simp only [fsqrt.K, List.mem_cons, List.not_mem_nil, or_false] at hq
  subst hq
  exact fun _ _ => ⟨rfl, rfl⟩
theorem fsqrt.ok : CallOK Try.prog 113 fsqrt.spec :=
  callOK_of_sig (fn := Try.f113) (Cf := fsqrt.C) (K := fsqrt.K) (d := 0) (dec := fsqrt.dec) (by kernel_rfl) (fun _ => rfl) fsqrt.cok (fun _ q hq => by simp [fsqrt.C] at hq) fsqrt.aok
    (fun N L r h => (fsqrt.F_eq N L).trans h) (by kernel_rfl) (fun _ => ⟨rfl, rfl⟩) (fun _ _ => ⟨rfl, rfl⟩)

noncomputable def lz64.sig : Eng.Sig := { args := [.at (.int .u64 0)], n := 0, pre := [], post := [], m := 0, ret := .at (.int .i64 0) }
noncomputable def lz64.C (N : Nat) : Cfg := { P := Try.prog, N := N, RT := noRT, specs := [(76, len64.spec)], inl := [], hi := 0, mv := [] }
abbrev lz64.R : Type := Int
def lz64.dec (L : Eng.Leaves) : lz64.R := (L.i 0)
def lz64.enc (r : lz64.R) : Eng.Leaves := mkL [r] [] [] []
noncomputable def lz64.K (N : Nat) : FCfg := { anns := [], unr := [], lits := [], lets := [] }
noncomputable def lz64.F (N : Nat) (x : Int) : Option lz64.R :=
  (obind (Rc.len64.F (N) (x)) fun r0 =>
   (some (Go.IntKind.i64.wrap ((64 : Int) - r0))))
theorem lz64.F_eq (N : Nat) (L : Eng.Leaves) : evSig (lz64.C N) (lz64.K N) 0 Try.f126 lz64.sig L lz64.dec = lz64.F N (L.i 0) := by
  kernel_rfl
noncomputable def lz64.spec : Eng.Spec := lz64.sig.spec (fun N L => lz64.F N (L.i 0)) lz64.enc
theorem lz64.cok (N : Nat) : CfgOK (lz64.C N) := ⟨fun _ _ _ _ h => by simp [lz64.C, noRT] at h, wide, by
  simp only [lz64.C, List.mem_cons, List.not_mem_nil, or_false, forall_eq_or_imp, forall_eq, false_imp_iff, implies_true]
  exact ⟨len64.ok, by kernel_rfl⟩, fun g hg => by simp [lz64.C] at hg⟩
theorem lz64.aok (N : Nat) : AnnsOK (lz64.K N) := by
  intro q hq
  simp only [lz64.K, List.mem_cons, List.not_mem_nil, or_false] at hq
theorem lz64.ok : CallOK Try.prog 126 lz64.spec :=
  callOK_of_sig (fn := Try.f126) (Cf := lz64.C) (K := lz64.K) (d := 0) (dec := lz64.dec) (by kernel_rfl) (fun _ => rfl) lz64.cok (fun _ q hq => by simp [lz64.C] at hq) lz64.aok
    (fun N L r h => (lz64.F_eq N L).trans h) (by kernel_rfl) (fun _ => ⟨rfl, rfl⟩) (fun _ _ => ⟨rfl, rfl⟩)

noncomputable def div64.sig : Eng.Sig := { args := [.at (.int .u64 0), .at (.int .u64 1), .at (.int .u64 2)], n := 0, pre := [], post := [], m := 0, ret := .tup [(false, [.int .u64 0]), (false, [.int .u64 1])] }
noncomputable def div64.C (N : Nat) : Cfg := { P := Try.prog, N := N, RT := noRT, specs := [(126, lz64.spec)], inl := [], hi := 0, mv := [] }
abbrev div64.R : Type := Int × Int
def div64.dec (L : Eng.Leaves) : div64.R := (L.i 0, L.i 1)
def div64.enc (r : div64.R) : Eng.Leaves := mkL [r.1, r.2] [] [] []
abbrev div64.loop17.R : Type := Int × Int
noncomputable def div64.loop17.ann : Ann := { nx := 20, slots := [(9, .at (.fint .u64 0)), (10, .at (.fint .u64 1)), (13, .at (.fint .u64 2)), (15, .at (.int .u64 0)), (16, .at (.int .u64 1))], blks := [], mov := [], exId := 0, xslots := [(15, .at (.int .u64 0)), (16, .at (.int .u64 1))], xblks := [], T := div64.loop17.R, dec := fun L => (L.i 0, L.i 1), enc := fun r => mkL [r.1, r.2] [] [] [], ret := false }
abbrev div64.loop24.R : Type := Int × Int
noncomputable def div64.loop24.ann : Ann := { nx := 20, slots := [(9, .at (.fint .u64 0)), (10, .at (.fint .u64 1)), (14, .at (.fint .u64 2)), (16, .at (.int .u64 0)), (18, .at (.int .u64 1))], blks := [], mov := [], exId := 2, xslots := [(16, .at (.int .u64 0)), (18, .at (.int .u64 1))], xblks := [], T := div64.loop24.R, dec := fun L => (L.i 0, L.i 1), enc := fun r => mkL [r.1, r.2] [] [] [], ret := false }
noncomputable def div64.K (N : Nat) : FCfg := { anns := [(17, div64.loop17.ann), (24, div64.loop24.ann)], unr := [], lits := [], lets := [] }
noncomputable def div64.loop24 (N : Nat) : Nat → Int → Int → Int → Int → Int → Option div64.loop24.R
  | 0, _, _, _, _, _ => none
  | nn + 1, s9, s10, s14, s16, s18 =>
  (br (decide (s18 ≥ (4294967296 : Int)))
   (br (decide (Go.IntKind.u64.wrap (s16 + s9) ≥ (4294967296 : Int)))
    (some ((Go.IntKind.u64.wrap (s16 + s9), Go.IntKind.u64.wrap (s18 - (1 : Int)))))
    (chkI (s9) (s9)
    (chkI (s10) (s10)
    (chkI (s14) (s14)
    (div64.loop24 N (nn) (s9) (s10) (s14) (Go.IntKind.u64.wrap (s16 + s9)) (Go.IntKind.u64.wrap (s18 - (1 : Int))))))))
   (br (decide (Go.IntKind.u64.wrap (s18 * s10) > Go.IntKind.u64.wrap (Go.IntKind.u64.wrap ((4294967296 : Int) * s16) + s14)))
    (br (decide (Go.IntKind.u64.wrap (s16 + s9) ≥ (4294967296 : Int)))
     (some ((Go.IntKind.u64.wrap (s16 + s9), Go.IntKind.u64.wrap (s18 - (1 : Int)))))
     (chkI (s9) (s9)
     (chkI (s10) (s10)
     (chkI (s14) (s14)
     (div64.loop24 N (nn) (s9) (s10) (s14) (Go.IntKind.u64.wrap (s16 + s9)) (Go.IntKind.u64.wrap (s18 - (1 : Int))))))))
    (some ((s16, s18)))))
noncomputable def div64.loop24R (N nn : Nat) (s9 : Int) (s10 : Int) (s14 : Int) (s16 : Int) (s18 : Int) : Option div64.loop24.R := loopF div64.loop24.ann (mkL [s9, s10, s14] [] [] []) (evCode ((div64.C N).inLoop div64.loop24.ann) (div64.K N) (inlTab (div64.C N) 0) (bodyAt 24 Try.f112)) nn (mkL [s16, s18] [] [] [])
theorem div64.loop24_eq (N : Nat) : ∀ (nn : Nat) (s9 : Int) (s10 : Int) (s14 : Int) (s16 : Int) (s18 : Int), div64.loop24R N nn s9 s10 s14 s16 s18 = div64.loop24 N nn s9 s10 s14 s16 s18
  | 0, _, _, _, _, _ => by kernel_rfl
  | nn + 1, s9, s10, s14, s16, s18 => by
    have h : div64.loop24R N (nn + 1) s9 s10 s14 s16 s18 =
  (br (decide (s18 ≥ (4294967296 : Int)))
   (br (decide (Go.IntKind.u64.wrap (s16 + s9) ≥ (4294967296 : Int)))
    (some ((Go.IntKind.u64.wrap (s16 + s9), Go.IntKind.u64.wrap (s18 - (1 : Int)))))
    (chkI (s9) (s9)
    (chkI (s10) (s10)
    (chkI (s14) (s14)
    (div64.loop24R N (nn) (s9) (s10) (s14) (Go.IntKind.u64.wrap (s16 + s9)) (Go.IntKind.u64.wrap (s18 - (1 : Int))))))))
   (br (decide (Go.IntKind.u64.wrap (s18 * s10) > Go.IntKind.u64.wrap (Go.IntKind.u64.wrap ((4294967296 : Int) * s16) + s14)))
    (br (decide (Go.IntKind.u64.wrap (s16 + s9) ≥ (4294967296 : Int)))
     (some ((Go.IntKind.u64.wrap (s16 + s9), Go.IntKind.u64.wrap (s18 - (1 : Int)))))
     (chkI (s9) (s9)
     (chkI (s10) (s10)
     (chkI (s14) (s14)
     (div64.loop24R N (nn) (s9) (s10) (s14) (Go.IntKind.u64.wrap (s16 + s9)) (Go.IntKind.u64.wrap (s18 - (1 : Int))))))))
    (some ((s16, s18))))) := by kernel_rfl
    rw [h, div64.loop24]
    try simp only [div64.loop24_eq N nn]
noncomputable def div64.loop17 (N : Nat) : Nat → Int → Int → Int → Int → Int → Option div64.loop17.R
  | 0, _, _, _, _, _ => none
  | nn + 1, s9, s10, s13, s15, s16 =>
  (br (decide (s15 ≥ (4294967296 : Int)))
   (br (decide (Go.IntKind.u64.wrap (s16 + s9) ≥ (4294967296 : Int)))
    (some ((Go.IntKind.u64.wrap (s15 - (1 : Int)), Go.IntKind.u64.wrap (s16 + s9))))
    (chkI (s9) (s9)
    (chkI (s10) (s10)
    (chkI (s13) (s13)
    (div64.loop17 N (nn) (s9) (s10) (s13) (Go.IntKind.u64.wrap (s15 - (1 : Int))) (Go.IntKind.u64.wrap (s16 + s9)))))))
   (br (decide (Go.IntKind.u64.wrap (s15 * s10) > Go.IntKind.u64.wrap (Go.IntKind.u64.wrap ((4294967296 : Int) * s16) + s13)))
    (br (decide (Go.IntKind.u64.wrap (s16 + s9) ≥ (4294967296 : Int)))
     (some ((Go.IntKind.u64.wrap (s15 - (1 : Int)), Go.IntKind.u64.wrap (s16 + s9))))
     (chkI (s9) (s9)
     (chkI (s10) (s10)
     (chkI (s13) (s13)
     (div64.loop17 N (nn) (s9) (s10) (s13) (Go.IntKind.u64.wrap (s15 - (1 : Int))) (Go.IntKind.u64.wrap (s16 + s9)))))))
    (some ((s15, s16)))))
noncomputable def div64.loop17R (N nn : Nat) (s9 : Int) (s10 : Int) (s13 : Int) (s15 : Int) (s16 : Int) : Option div64.loop17.R := loopF div64.loop17.ann (mkL [s9, s10, s13] [] [] []) (evCode ((div64.C N).inLoop div64.loop17.ann) (div64.K N) (inlTab (div64.C N) 0) (bodyAt 17 Try.f112)) nn (mkL [s15, s16] [] [] [])
theorem div64.loop17_eq (N : Nat) : ∀ (nn : Nat) (s9 : Int) (s10 : Int) (s13 : Int) (s15 : Int) (s16 : Int), div64.loop17R N nn s9 s10 s13 s15 s16 = div64.loop17 N nn s9 s10 s13 s15 s16
  | 0, _, _, _, _, _ => by kernel_rfl
  | nn + 1, s9, s10, s13, s15, s16 => by
    have h : div64.loop17R N (nn + 1) s9 s10 s13 s15 s16 =
  (br (decide (s15 ≥ (4294967296 : Int)))
   (br (decide (Go.IntKind.u64.wrap (s16 + s9) ≥ (4294967296 : Int)))
    (some ((Go.IntKind.u64.wrap (s15 - (1 : Int)), Go.IntKind.u64.wrap (s16 + s9))))
    (chkI (s9) (s9)
    (chkI (s10) (s10)
    (chkI (s13) (s13)
    (div64.loop17R N (nn) (s9) (s10) (s13) (Go.IntKind.u64.wrap (s15 - (1 : Int))) (Go.IntKind.u64.wrap (s16 + s9)))))))
   (br (decide (Go.IntKind.u64.wrap (s15 * s10) > Go.IntKind.u64.wrap (Go.IntKind.u64.wrap ((4294967296 : Int) * s16) + s13)))
    (br (decide (Go.IntKind.u64.wrap (s16 + s9) ≥ (4294967296 : Int)))
     (some ((Go.IntKind.u64.wrap (s15 - (1 : Int)), Go.IntKind.u64.wrap (s16 + s9))))
     (chkI (s9) (s9)
     (chkI (s10) (s10)
     (chkI (s13) (s13)
     (div64.loop17R N (nn) (s9) (s10) (s13) (Go.IntKind.u64.wrap (s15 - (1 : Int))) (Go.IntKind.u64.wrap (s16 + s9)))))))
    (some ((s15, s16))))) := by kernel_rfl
    rw [h, div64.loop17]
    try simp only [div64.loop17_eq N nn]
noncomputable def div64.F (N : Nat) (hi : Int) (lo : Int) (y : Int) : Option div64.R :=
  (br (y == (0 : Int))
   none /- WHY OfNat.ofNat.{0} Nat 222 (instOfNatNat 222) -/
   (br (decide (y ≤ hi))
    none /- WHY OfNat.ofNat.{0} Nat 222 (instOfNatNat 222) -/
    (br (hi == (0 : Int))
     (chk (y ≠ (0 : Int))
      (chk (y ≠ (0 : Int))
       (some ((Go.IntKind.u64.wrap (lo.tdiv y), lo.tmod y)))))
     (obind (Rc.lz64.F (N) (y)) fun r0 =>
      (chk ((0 : Int) ≤ Go.IntKind.u64.wrap r0)
       (chk ((0 : Int) ≤ Go.IntKind.u64.wrap r0)
        (chk ((0 : Int) ≤ Go.IntKind.u64.wrap ((64 : Int) - Go.IntKind.u64.wrap r0))
         (chk ((0 : Int) ≤ Go.IntKind.u64.wrap r0)
          (chk ((Go.IntKind.u64.wrap (y * (2 : Int) ^ min (Go.IntKind.u64.wrap r0).toNat Go.IntKind.u64.bits)).fdiv ((2 : Int) ^ min (Int.toNat (32 : Int)) Go.IntKind.u64.bits) ≠ (0 : Int))
           (obind (div64.loop17 N (N) ((Go.IntKind.u64.wrap (y * (2 : Int) ^ min (Go.IntKind.u64.wrap r0).toNat Go.IntKind.u64.bits)).fdiv ((2 : Int) ^ min (Int.toNat (32 : Int)) Go.IntKind.u64.bits)) (Go.IntKind.u64.wrap ↑(BitVec.ofInt Go.IntKind.u64.bits (Go.IntKind.u64.wrap (y * (2 : Int) ^ min (Go.IntKind.u64.wrap r0).toNat Go.IntKind.u64.bits)) &&& BitVec.ofInt Go.IntKind.u64.bits (4294967295 : Int)).toNat) ((Go.IntKind.u64.wrap (lo * (2 : Int) ^ min (Go.IntKind.u64.wrap r0).toNat Go.IntKind.u64.bits)).fdiv ((2 : Int) ^ min (Int.toNat (32 : Int)) Go.IntKind.u64.bits)) (Go.IntKind.u64.wrap ((Go.IntKind.u64.wrap ↑(BitVec.ofInt Go.IntKind.u64.bits (Go.IntKind.u64.wrap (hi * (2 : Int) ^ min (Go.IntKind.u64.wrap r0).toNat Go.IntKind.u64.bits)) ||| BitVec.ofInt Go.IntKind.u64.bits (lo.fdiv ((2 : Int) ^ min (Go.IntKind.u64.wrap ((64 : Int) - Go.IntKind.u64.wrap r0)).toNat Go.IntKind.u64.bits))).toNat).tdiv ((Go.IntKind.u64.wrap (y * (2 : Int) ^ min (Go.IntKind.u64.wrap r0).toNat Go.IntKind.u64.bits)).fdiv ((2 : Int) ^ min (Int.toNat (32 : Int)) Go.IntKind.u64.bits)))) (Go.IntKind.u64.wrap (Go.IntKind.u64.wrap ↑(BitVec.ofInt Go.IntKind.u64.bits (Go.IntKind.u64.wrap (hi * (2 : Int) ^ min (Go.IntKind.u64.wrap r0).toNat Go.IntKind.u64.bits)) ||| BitVec.ofInt Go.IntKind.u64.bits (lo.fdiv ((2 : Int) ^ min (Go.IntKind.u64.wrap ((64 : Int) - Go.IntKind.u64.wrap r0)).toNat Go.IntKind.u64.bits))).toNat - Go.IntKind.u64.wrap (Go.IntKind.u64.wrap ((Go.IntKind.u64.wrap ↑(BitVec.ofInt Go.IntKind.u64.bits (Go.IntKind.u64.wrap (hi * (2 : Int) ^ min (Go.IntKind.u64.wrap r0).toNat Go.IntKind.u64.bits)) ||| BitVec.ofInt Go.IntKind.u64.bits (lo.fdiv ((2 : Int) ^ min (Go.IntKind.u64.wrap ((64 : Int) - Go.IntKind.u64.wrap r0)).toNat Go.IntKind.u64.bits))).toNat).tdiv ((Go.IntKind.u64.wrap (y * (2 : Int) ^ min (Go.IntKind.u64.wrap r0).toNat Go.IntKind.u64.bits)).fdiv ((2 : Int) ^ min (Int.toNat (32 : Int)) Go.IntKind.u64.bits))) * (Go.IntKind.u64.wrap (y * (2 : Int) ^ min (Go.IntKind.u64.wrap r0).toNat Go.IntKind.u64.bits)).fdiv ((2 : Int) ^ min (Int.toNat (32 : Int)) Go.IntKind.u64.bits))))) fun r1 =>
            (chk ((Go.IntKind.u64.wrap (y * (2 : Int) ^ min (Go.IntKind.u64.wrap r0).toNat Go.IntKind.u64.bits)).fdiv ((2 : Int) ^ min (Int.toNat (32 : Int)) Go.IntKind.u64.bits) ≠ (0 : Int))
             (obind (div64.loop24 N (N) ((Go.IntKind.u64.wrap (y * (2 : Int) ^ min (Go.IntKind.u64.wrap r0).toNat Go.IntKind.u64.bits)).fdiv ((2 : Int) ^ min (Int.toNat (32 : Int)) Go.IntKind.u64.bits)) (Go.IntKind.u64.wrap ↑(BitVec.ofInt Go.IntKind.u64.bits (Go.IntKind.u64.wrap (y * (2 : Int) ^ min (Go.IntKind.u64.wrap r0).toNat Go.IntKind.u64.bits)) &&& BitVec.ofInt Go.IntKind.u64.bits (4294967295 : Int)).toNat) (Go.IntKind.u64.wrap ↑(BitVec.ofInt Go.IntKind.u64.bits (Go.IntKind.u64.wrap (lo * (2 : Int) ^ min (Go.IntKind.u64.wrap r0).toNat Go.IntKind.u64.bits)) &&& BitVec.ofInt Go.IntKind.u64.bits (4294967295 : Int)).toNat) (Go.IntKind.u64.wrap (Go.IntKind.u64.wrap (Go.IntKind.u64.wrap (Go.IntKind.u64.wrap (Go.IntKind.u64.wrap ↑(BitVec.ofInt Go.IntKind.u64.bits (Go.IntKind.u64.wrap (hi * (2 : Int) ^ min (Go.IntKind.u64.wrap r0).toNat Go.IntKind.u64.bits)) ||| BitVec.ofInt Go.IntKind.u64.bits (lo.fdiv ((2 : Int) ^ min (Go.IntKind.u64.wrap ((64 : Int) - Go.IntKind.u64.wrap r0)).toNat Go.IntKind.u64.bits))).toNat * (4294967296 : Int)) + (Go.IntKind.u64.wrap (lo * (2 : Int) ^ min (Go.IntKind.u64.wrap r0).toNat Go.IntKind.u64.bits)).fdiv ((2 : Int) ^ min (Int.toNat (32 : Int)) Go.IntKind.u64.bits)) - Go.IntKind.u64.wrap (r1.fst * Go.IntKind.u64.wrap (y * (2 : Int) ^ min (Go.IntKind.u64.wrap r0).toNat Go.IntKind.u64.bits))) - Go.IntKind.u64.wrap (Go.IntKind.u64.wrap ((Go.IntKind.u64.wrap (Go.IntKind.u64.wrap (Go.IntKind.u64.wrap (Go.IntKind.u64.wrap ↑(BitVec.ofInt Go.IntKind.u64.bits (Go.IntKind.u64.wrap (hi * (2 : Int) ^ min (Go.IntKind.u64.wrap r0).toNat Go.IntKind.u64.bits)) ||| BitVec.ofInt Go.IntKind.u64.bits (lo.fdiv ((2 : Int) ^ min (Go.IntKind.u64.wrap ((64 : Int) - Go.IntKind.u64.wrap r0)).toNat Go.IntKind.u64.bits))).toNat * (4294967296 : Int)) + (Go.IntKind.u64.wrap (lo * (2 : Int) ^ min (Go.IntKind.u64.wrap r0).toNat Go.IntKind.u64.bits)).fdiv ((2 : Int) ^ min (Int.toNat (32 : Int)) Go.IntKind.u64.bits)) - Go.IntKind.u64.wrap (r1.fst * Go.IntKind.u64.wrap (y * (2 : Int) ^ min (Go.IntKind.u64.wrap r0).toNat Go.IntKind.u64.bits)))).tdiv ((Go.IntKind.u64.wrap (y * (2 : Int) ^ min (Go.IntKind.u64.wrap r0).toNat Go.IntKind.u64.bits)).fdiv ((2 : Int) ^ min (Int.toNat (32 : Int)) Go.IntKind.u64.bits))) * (Go.IntKind.u64.wrap (y * (2 : Int) ^ min (Go.IntKind.u64.wrap r0).toNat Go.IntKind.u64.bits)).fdiv ((2 : Int) ^ min (Int.toNat (32 : Int)) Go.IntKind.u64.bits)))) (Go.IntKind.u64.wrap ((Go.IntKind.u64.wrap (Go.IntKind.u64.wrap (Go.IntKind.u64.wrap (Go.IntKind.u64.wrap ↑(BitVec.ofInt Go.IntKind.u64.bits (Go.IntKind.u64.wrap (hi * (2 : Int) ^ min (Go.IntKind.u64.wrap r0).toNat Go.IntKind.u64.bits)) ||| BitVec.ofInt Go.IntKind.u64.bits (lo.fdiv ((2 : Int) ^ min (Go.IntKind.u64.wrap ((64 : Int) - Go.IntKind.u64.wrap r0)).toNat Go.IntKind.u64.bits))).toNat * (4294967296 : Int)) + (Go.IntKind.u64.wrap (lo * (2 : Int) ^ min (Go.IntKind.u64.wrap r0).toNat Go.IntKind.u64.bits)).fdiv ((2 : Int) ^ min (Int.toNat (32 : Int)) Go.IntKind.u64.bits)) - Go.IntKind.u64.wrap (r1.fst * Go.IntKind.u64.wrap (y * (2 : Int) ^ min (Go.IntKind.u64.wrap r0).toNat Go.IntKind.u64.bits)))).tdiv ((Go.IntKind.u64.wrap (y * (2 : Int) ^ min (Go.IntKind.u64.wrap r0).toNat Go.IntKind.u64.bits)).fdiv ((2 : Int) ^ min (Int.toNat (32 : Int)) Go.IntKind.u64.bits))))) fun r2 =>
              (chk ((0 : Int) ≤ Go.IntKind.u64.wrap r0)
               (some ((Go.IntKind.u64.wrap (Go.IntKind.u64.wrap (r1.fst * (4294967296 : Int)) + r2.snd), (Go.IntKind.u64.wrap (Go.IntKind.u64.wrap (Go.IntKind.u64.wrap (Go.IntKind.u64.wrap (Go.IntKind.u64.wrap (Go.IntKind.u64.wrap (Go.IntKind.u64.wrap ↑(BitVec.ofInt Go.IntKind.u64.bits (Go.IntKind.u64.wrap (hi * (2 : Int) ^ min (Go.IntKind.u64.wrap r0).toNat Go.IntKind.u64.bits)) ||| BitVec.ofInt Go.IntKind.u64.bits (lo.fdiv ((2 : Int) ^ min (Go.IntKind.u64.wrap ((64 : Int) - Go.IntKind.u64.wrap r0)).toNat Go.IntKind.u64.bits))).toNat * (4294967296 : Int)) + (Go.IntKind.u64.wrap (lo * (2 : Int) ^ min (Go.IntKind.u64.wrap r0).toNat Go.IntKind.u64.bits)).fdiv ((2 : Int) ^ min (Int.toNat (32 : Int)) Go.IntKind.u64.bits)) - Go.IntKind.u64.wrap (r1.fst * Go.IntKind.u64.wrap (y * (2 : Int) ^ min (Go.IntKind.u64.wrap r0).toNat Go.IntKind.u64.bits))) * (4294967296 : Int)) + Go.IntKind.u64.wrap ↑(BitVec.ofInt Go.IntKind.u64.bits (Go.IntKind.u64.wrap (lo * (2 : Int) ^ min (Go.IntKind.u64.wrap r0).toNat Go.IntKind.u64.bits)) &&& BitVec.ofInt Go.IntKind.u64.bits (4294967295 : Int)).toNat) - Go.IntKind.u64.wrap (r2.snd * Go.IntKind.u64.wrap (y * (2 : Int) ^ min (Go.IntKind.u64.wrap r0).toNat Go.IntKind.u64.bits)))).fdiv ((2 : Int) ^ min (Go.IntKind.u64.wrap r0).toNat Go.IntKind.u64.bits)))))))))))))))))
theorem div64.F_eq (N : Nat) (L : Eng.Leaves) : evSig (div64.C N) (div64.K N) 0 Try.f112 div64.sig L div64.dec = div64.F N (L.i 0) (L.i 1) (L.i 2) := by
  have h : ∀ (hi : Int) (lo : Int) (y : Int), evSig (div64.C N) (div64.K N) 0 Try.f112 div64.sig (mkL [hi, lo, y] [] [] []) div64.dec =
  (br (y == (0 : Int))
   none /- WHY OfNat.ofNat.{0} Nat 222 (instOfNatNat 222) -/
   (br (decide (y ≤ hi))
    none /- WHY OfNat.ofNat.{0} Nat 222 (instOfNatNat 222) -/
    (br (hi == (0 : Int))
     (chk (y ≠ (0 : Int))
      (chk (y ≠ (0 : Int))
       (some ((Go.IntKind.u64.wrap (lo.tdiv y), lo.tmod y)))))
     (obind (Rc.lz64.F (N) (y)) fun r0 =>
      (chk ((0 : Int) ≤ Go.IntKind.u64.wrap r0)
       (chk ((0 : Int) ≤ Go.IntKind.u64.wrap r0)
        (chk ((0 : Int) ≤ Go.IntKind.u64.wrap ((64 : Int) - Go.IntKind.u64.wrap r0))
         (chk ((0 : Int) ≤ Go.IntKind.u64.wrap r0)
          (chk ((Go.IntKind.u64.wrap (y * (2 : Int) ^ min (Go.IntKind.u64.wrap r0).toNat Go.IntKind.u64.bits)).fdiv ((2 : Int) ^ min (Int.toNat (32 : Int)) Go.IntKind.u64.bits) ≠ (0 : Int))
           (obind (div64.loop17R N (N) ((Go.IntKind.u64.wrap (y * (2 : Int) ^ min (Go.IntKind.u64.wrap r0).toNat Go.IntKind.u64.bits)).fdiv ((2 : Int) ^ min (Int.toNat (32 : Int)) Go.IntKind.u64.bits)) (Go.IntKind.u64.wrap ↑(BitVec.ofInt Go.IntKind.u64.bits (Go.IntKind.u64.wrap (y * (2 : Int) ^ min (Go.IntKind.u64.wrap r0).toNat Go.IntKind.u64.bits)) &&& BitVec.ofInt Go.IntKind.u64.bits (4294967295 : Int)).toNat) ((Go.IntKind.u64.wrap (lo * (2 : Int) ^ min (Go.IntKind.u64.wrap r0).toNat Go.IntKind.u64.bits)).fdiv ((2 : Int) ^ min (Int.toNat (32 : Int)) Go.IntKind.u64.bits)) (Go.IntKind.u64.wrap ((Go.IntKind.u64.wrap ↑(BitVec.ofInt Go.IntKind.u64.bits (Go.IntKind.u64.wrap (hi * (2 : Int) ^ min (Go.IntKind.u64.wrap r0).toNat Go.IntKind.u64.bits)) ||| BitVec.ofInt Go.IntKind.u64.bits (lo.fdiv ((2 : Int) ^ min (Go.IntKind.u64.wrap ((64 : Int) - Go.IntKind.u64.wrap r0)).toNat Go.IntKind.u64.bits))).toNat).tdiv ((Go.IntKind.u64.wrap (y * (2 : Int) ^ min (Go.IntKind.u64.wrap r0).toNat Go.IntKind.u64.bits)).fdiv ((2 : Int) ^ min (Int.toNat (32 : Int)) Go.IntKind.u64.bits)))) (Go.IntKind.u64.wrap (Go.IntKind.u64.wrap ↑(BitVec.ofInt Go.IntKind.u64.bits (Go.IntKind.u64.wrap (hi * (2 : Int) ^ min (Go.IntKind.u64.wrap r0).toNat Go.IntKind.u64.bits)) ||| BitVec.ofInt Go.IntKind.u64.bits (lo.fdiv ((2 : Int) ^ min (Go.IntKind.u64.wrap ((64 : Int) - Go.IntKind.u64.wrap r0)).toNat Go.IntKind.u64.bits))).toNat - Go.IntKind.u64.wrap (Go.IntKind.u64.wrap ((Go.IntKind.u64.wrap ↑(BitVec.ofInt Go.IntKind.u64.bits (Go.IntKind.u64.wrap (hi * (2 : Int) ^ min (Go.IntKind.u64.wrap r0).toNat Go.IntKind.u64.bits)) ||| BitVec.ofInt Go.IntKind.u64.bits (lo.fdiv ((2 : Int) ^ min (Go.IntKind.u64.wrap ((64 : Int) - Go.IntKind.u64.wrap r0)).toNat Go.IntKind.u64.bits))).toNat).tdiv ((Go.IntKind.u64.wrap (y * (2 : Int) ^ min (Go.IntKind.u64.wrap r0).toNat Go.IntKind.u64.bits)).fdiv ((2 : Int) ^ min (Int.toNat (32 : Int)) Go.IntKind.u64.bits))) * (Go.IntKind.u64.wrap (y * (2 : Int) ^ min (Go.IntKind.u64.wrap r0).toNat Go.IntKind.u64.bits)).fdiv ((2 : Int) ^ min (Int.toNat (32 : Int)) Go.IntKind.u64.bits))))) fun r1 =>
            (chk ((Go.IntKind.u64.wrap (y * (2 : Int) ^ min (Go.IntKind.u64.wrap r0).toNat Go.IntKind.u64.bits)).fdiv ((2 : Int) ^ min (Int.toNat (32 : Int)) Go.IntKind.u64.bits) ≠ (0 : Int))
             (obind (div64.loop24R N (N) ((Go.IntKind.u64.wrap (y * (2 : Int) ^ min (Go.IntKind.u64.wrap r0).toNat Go.IntKind.u64.bits)).fdiv ((2 : Int) ^ min (Int.toNat (32 : Int)) Go.IntKind.u64.bits)) (Go.IntKind.u64.wrap ↑(BitVec.ofInt Go.IntKind.u64.bits (Go.IntKind.u64.wrap (y * (2 : Int) ^ min (Go.IntKind.u64.wrap r0).toNat Go.IntKind.u64.bits)) &&& BitVec.ofInt Go.IntKind.u64.bits (4294967295 : Int)).toNat) (Go.IntKind.u64.wrap ↑(BitVec.ofInt Go.IntKind.u64.bits (Go.IntKind.u64.wrap (lo * (2 : Int) ^ min (Go.IntKind.u64.wrap r0).toNat Go.IntKind.u64.bits)) &&& BitVec.ofInt Go.IntKind.u64.bits (4294967295 : Int)).toNat) (Go.IntKind.u64.wrap (Go.IntKind.u64.wrap (Go.IntKind.u64.wrap (Go.IntKind.u64.wrap (Go.IntKind.u64.wrap ↑(BitVec.ofInt Go.IntKind.u64.bits (Go.IntKind.u64.wrap (hi * (2 : Int) ^ min (Go.IntKind.u64.wrap r0).toNat Go.IntKind.u64.bits)) ||| BitVec.ofInt Go.IntKind.u64.bits (lo.fdiv ((2 : Int) ^ min (Go.IntKind.u64.wrap ((64 : Int) - Go.IntKind.u64.wrap r0)).toNat Go.IntKind.u64.bits))).toNat * (4294967296 : Int)) + (Go.IntKind.u64.wrap (lo * (2 : Int) ^ min (Go.IntKind.u64.wrap r0).toNat Go.IntKind.u64.bits)).fdiv ((2 : Int) ^ min (Int.toNat (32 : Int)) Go.IntKind.u64.bits)) - Go.IntKind.u64.wrap (r1.fst * Go.IntKind.u64.wrap (y * (2 : Int) ^ min (Go.IntKind.u64.wrap r0).toNat Go.IntKind.u64.bits))) - Go.IntKind.u64.wrap (Go.IntKind.u64.wrap ((Go.IntKind.u64.wrap (Go.IntKind.u64.wrap (Go.IntKind.u64.wrap (Go.IntKind.u64.wrap ↑(BitVec.ofInt Go.IntKind.u64.bits (Go.IntKind.u64.wrap (hi * (2 : Int) ^ min (Go.IntKind.u64.wrap r0).toNat Go.IntKind.u64.bits)) ||| BitVec.ofInt Go.IntKind.u64.bits (lo.fdiv ((2 : Int) ^ min (Go.IntKind.u64.wrap ((64 : Int) - Go.IntKind.u64.wrap r0)).toNat Go.IntKind.u64.bits))).toNat * (4294967296 : Int)) + (Go.IntKind.u64.wrap (lo * (2 : Int) ^ min (Go.IntKind.u64.wrap r0).toNat Go.IntKind.u64.bits)).fdiv ((2 : Int) ^ min (Int.toNat (32 : Int)) Go.IntKind.u64.bits)) - Go.IntKind.u64.wrap (r1.fst * Go.IntKind.u64.wrap (y * (2 : Int) ^ min (Go.IntKind.u64.wrap r0).toNat Go.IntKind.u64.bits)))).tdiv ((Go.IntKind.u64.wrap (y * (2 : Int) ^ min (Go.IntKind.u64.wrap r0).toNat Go.IntKind.u64.bits)).fdiv ((2 : Int) ^ min (Int.toNat (32 : Int)) Go.IntKind.u64.bits))) * (Go.IntKind.u64.wrap (y * (2 : Int) ^ min (Go.IntKind.u64.wrap r0).toNat Go.IntKind.u64.bits)).fdiv ((2 : Int) ^ min (Int.toNat (32 : Int)) Go.IntKind.u64.bits)))) (Go.IntKind.u64.wrap ((Go.IntKind.u64.wrap (Go.IntKind.u64.wrap (Go.IntKind.u64.wrap (Go.IntKind.u64.wrap ↑(BitVec.ofInt Go.IntKind.u64.bits (Go.IntKind.u64.wrap (hi * (2 : Int) ^ min (Go.IntKind.u64.wrap r0).toNat Go.IntKind.u64.bits)) ||| BitVec.ofInt Go.IntKind.u64.bits (lo.fdiv ((2 : Int) ^ min (Go.IntKind.u64.wrap ((64 : Int) - Go.IntKind.u64.wrap r0)).toNat Go.IntKind.u64.bits))).toNat * (4294967296 : Int)) + (Go.IntKind.u64.wrap (lo * (2 : Int) ^ min (Go.IntKind.u64.wrap r0).toNat Go.IntKind.u64.bits)).fdiv ((2 : Int) ^ min (Int.toNat (32 : Int)) Go.IntKind.u64.bits)) - Go.IntKind.u64.wrap (r1.fst * Go.IntKind.u64.wrap (y * (2 : Int) ^ min (Go.IntKind.u64.wrap r0).toNat Go.IntKind.u64.bits)))).tdiv ((Go.IntKind.u64.wrap (y * (2 : Int) ^ min (Go.IntKind.u64.wrap r0).toNat Go.IntKind.u64.bits)).fdiv ((2 : Int) ^ min (Int.toNat (32 : Int)) Go.IntKind.u64.bits))))) fun r2 =>
              (chk ((0 : Int) ≤ Go.IntKind.u64.wrap r0)
               (some ((Go.IntKind.u64.wrap (Go.IntKind.u64.wrap (r1.fst * (4294967296 : Int)) + r2.snd), (Go.IntKind.u64.wrap (Go.IntKind.u64.wrap (Go.IntKind.u64.wrap (Go.IntKind.u64.wrap (Go.IntKind.u64.wrap (Go.IntKind.u64.wrap (Go.IntKind.u64.wrap ↑(BitVec.ofInt Go.IntKind.u64.bits (Go.IntKind.u64.wrap (hi * (2 : Int) ^ min (Go.IntKind.u64.wrap r0).toNat Go.IntKind.u64.bits)) ||| BitVec.ofInt Go.IntKind.u64.bits (lo.fdiv ((2 : Int) ^ min (Go.IntKind.u64.wrap ((64 : Int) - Go.IntKind.u64.wrap r0)).toNat Go.IntKind.u64.bits))).toNat * (4294967296 : Int)) + (Go.IntKind.u64.wrap (lo * (2 : Int) ^ min (Go.IntKind.u64.wrap r0).toNat Go.IntKind.u64.bits)).fdiv ((2 : Int) ^ min (Int.toNat (32 : Int)) Go.IntKind.u64.bits)) - Go.IntKind.u64.wrap (r1.fst * Go.IntKind.u64.wrap (y * (2 : Int) ^ min (Go.IntKind.u64.wrap r0).toNat Go.IntKind.u64.bits))) * (4294967296 : Int)) + Go.IntKind.u64.wrap ↑(BitVec.ofInt Go.IntKind.u64.bits (Go.IntKind.u64.wrap (lo * (2 : Int) ^ min (Go.IntKind.u64.wrap r0).toNat Go.IntKind.u64.bits)) &&& BitVec.ofInt Go.IntKind.u64.bits (4294967295 : Int)).toNat) - Go.IntKind.u64.wrap (r2.snd * Go.IntKind.u64.wrap (y * (2 : Int) ^ min (Go.IntKind.u64.wrap r0).toNat Go.IntKind.u64.bits)))).fdiv ((2 : Int) ^ min (Go.IntKind.u64.wrap r0).toNat Go.IntKind.u64.bits))))))))))))))))) := by
    intro hi lo y
    kernel_rfl
  have h2 : evSig (div64.C N) (div64.K N) 0 Try.f112 div64.sig L div64.dec = evSig (div64.C N) (div64.K N) 0 Try.f112 div64.sig (mkL [L.i 0, L.i 1, L.i 2] [] [] []) div64.dec := by kernel_rfl
  rw [h2, h, div64.F]
  try simp only [div64.loop17_eq N, div64.loop24_eq N]
noncomputable def div64.spec : Eng.Spec := div64.sig.spec (fun N L => div64.F N (L.i 0) (L.i 1) (L.i 2)) div64.enc
theorem div64.cok (N : Nat) : CfgOK (div64.C N) := ⟨fun _ _ _ _ h => by simp [div64.C, noRT] at h, wide, by
  simp only [div64.C, List.mem_cons, List.not_mem_nil, or_false, forall_eq_or_imp, forall_eq, false_imp_iff, implies_true]
  exact ⟨lz64.ok, by kernel_rfl⟩, fun g hg => by simp [div64.C] at hg⟩
theorem div64.aok (N : Nat) : AnnsOK (div64.K N) := by
  intro q hq
  simp only [div64.K, List.mem_cons, List.not_mem_nil, or_false] at hq
  rcases hq with rfl | rfl
  · exact fun _ _ => ⟨rfl, rfl⟩
  · exact fun _ _ => ⟨rfl, rfl⟩
theorem div64.ok : CallOK Try.prog 112 div64.spec :=
  callOK_of_sig (fn := Try.f112) (Cf := div64.C) (K := div64.K) (d := 0) (dec := div64.dec) (by kernel_rfl) (fun _ => rfl) div64.cok (fun _ q hq => by simp [div64.C] at hq) div64.aok
    (fun N L r h => (div64.F_eq N L).trans h) (by kernel_rfl) (fun _ => ⟨rfl, rfl⟩) (fun _ _ => ⟨rfl, rfl⟩)

noncomputable def esize.sig : Eng.Sig := { args := [.at (.int .i64 0)], n := 0, pre := [], post := [], m := 0, ret := .at (.int .i64 0) }
noncomputable def esize.C (N : Nat) : Cfg := { P := Try.prog, N := N, RT := noRT, specs := [(109, eclamp.spec), (114, exp2.spec)], inl := [], hi := 0, mv := [] }
abbrev esize.R : Type := Int
def esize.dec (L : Eng.Leaves) : esize.R := (L.i 0)
def esize.enc (r : esize.R) : Eng.Leaves := mkL [r] [] [] []
noncomputable def esize.K (N : Nat) : FCfg := { anns := [], unr := [], lits := [], lets := [] }
noncomputable def esize.F (N : Nat) (eq : Int) : Option esize.R :=
  (obind (Rc.eclamp.F (N) (eq)) fun r0 =>
   (obind (Rc.exp2.F (N) (Go.IntKind.i64.wrap ((64 : Int) * r0))) fun r1 =>
    (some (r1))))
theorem esize.F_eq (N : Nat) (L : Eng.Leaves) : evSig (esize.C N) (esize.K N) 0 Try.f67 esize.sig L esize.dec = esize.F N (L.i 0) := by
  kernel_rfl
noncomputable def esize.spec : Eng.Spec := esize.sig.spec (fun N L => esize.F N (L.i 0)) esize.enc
theorem esize.cok (N : Nat) : CfgOK (esize.C N) := ⟨fun _ _ _ _ h => by simp [esize.C, noRT] at h, wide, by
  simp only [esize.C, List.mem_cons, List.not_mem_nil, or_false, forall_eq_or_imp, forall_eq, false_imp_iff, implies_true]
  exact ⟨⟨eclamp.ok, by kernel_rfl⟩, ⟨exp2.ok, by kernel_rfl⟩⟩, fun g hg => by simp [esize.C] at hg⟩
theorem esize.aok (N : Nat) : AnnsOK (esize.K N) := by
  intro q hq
  simp only [esize.K, List.mem_cons, List.not_mem_nil, or_false] at hq
theorem esize.ok : CallOK Try.prog 67 esize.spec :=
  callOK_of_sig (fn := Try.f67) (Cf := esize.C) (K := esize.K) (d := 0) (dec := esize.dec) (by kernel_rfl) (fun _ => rfl) esize.cok (fun _ q hq => by simp [esize.C] at hq) esize.aok
    (fun N L r h => (esize.F_eq N L).trans h) (by kernel_rfl) (fun _ => ⟨rfl, rfl⟩) (fun _ _ => ⟨rfl, rfl⟩)

noncomputable def enearest.sig : Eng.Sig := { args := [.at (.int .i64 0)], n := 0, pre := [], post := [], m := 0, ret := .at (.int .i64 0) }
noncomputable def enearest.C (N : Nat) : Cfg := { P := Try.prog, N := N, RT := noRT, specs := [(67, esize.spec), (102, clamp.spec), (116, efar.spec)], inl := [], hi := 0, mv := [] }
abbrev enearest.R : Type := Int
def enearest.dec (L : Eng.Leaves) : enearest.R := (L.i 0)
def enearest.enc (r : enearest.R) : Eng.Leaves := mkL [r] [] [] []
abbrev enearest.loop4.R : Type := Int
noncomputable def enearest.loop4.ann : Ann := { nx := 20, slots := [(0, .at (.fint .i64 0)), (3, .at (.int .i64 0)), (4, .at (.int .i64 1))], blks := [], mov := [], exId := 0, xslots := [(3, .at (.int .i64 0))], xblks := [], T := enearest.loop4.R, dec := fun L => (L.i 0), enc := fun r => mkL [r] [] [] [], ret := false }
noncomputable def enearest.K (N : Nat) : FCfg := { anns := [(4, enearest.loop4.ann)], unr := [], lits := [], lets := [] }
noncomputable def enearest.loop4 (N : Nat) : Nat → Int → Int → Int → Option enearest.loop4.R
  | 0, _, _, _ => none
  | nn + 1, v, s3, s4 =>
  (br (decide (s4 ≤ (100 : Int)))
   (obind (Rc.esize.F (N) (s4)) fun r0 =>
    (obind (Rc.efar.F (N) (r0) (v)) fun r1 =>
     (obind (Rc.esize.F (N) (s3)) fun r2 =>
      (obind (Rc.efar.F (N) (r2) (v)) fun r3 =>
       (br (decide (r1 < r3))
        (chkI (v) (v)
        (enearest.loop4 N (nn) (v) (s4) (Go.IntKind.i64.wrap (s4 + (1 : Int)))))
        (chkI (v) (v)
        (enearest.loop4 N (nn) (v) (s3) (Go.IntKind.i64.wrap (s4 + (1 : Int))))))))))
   (some (s3)))
noncomputable def enearest.loop4R (N nn : Nat) (v : Int) (s3 : Int) (s4 : Int) : Option enearest.loop4.R := loopF enearest.loop4.ann (mkL [v] [] [] []) (evCode ((enearest.C N).inLoop enearest.loop4.ann) (enearest.K N) (inlTab (enearest.C N) 0) (bodyAt 4 Try.f69)) nn (mkL [s3, s4] [] [] [])
theorem enearest.loop4_eq (N : Nat) : ∀ (nn : Nat) (v : Int) (s3 : Int) (s4 : Int), enearest.loop4R N nn v s3 s4 = enearest.loop4 N nn v s3 s4
  | 0, _, _, _ => by kernel_rfl
  | nn + 1, v, s3, s4 => by
    have h : enearest.loop4R N (nn + 1) v s3 s4 =
  (br (decide (s4 ≤ (100 : Int)))
   (obind (Rc.esize.F (N) (s4)) fun r0 =>
    (obind (Rc.efar.F (N) (r0) (v)) fun r1 =>
     (obind (Rc.esize.F (N) (s3)) fun r2 =>
      (obind (Rc.efar.F (N) (r2) (v)) fun r3 =>
       (br (decide (r1 < r3))
        (chkI (v) (v)
        (enearest.loop4R N (nn) (v) (s4) (Go.IntKind.i64.wrap (s4 + (1 : Int)))))
        (chkI (v) (v)
        (enearest.loop4R N (nn) (v) (s3) (Go.IntKind.i64.wrap (s4 + (1 : Int))))))))))
   (some (s3))) := by kernel_rfl
    rw [h, enearest.loop4]
    try simp only [enearest.loop4_eq N nn]
noncomputable def enearest.F (N : Nat) (v : Int) : Option enearest.R :=
  (obind (Rc.esize.F (N) ((100 : Int))) fun r0 =>
   (obind (Rc.clamp.F (N) (v) ((0 : Int)) (Go.IntKind.i64.wrap ((2 : Int) * r0))) fun r1 =>
    (obind (enearest.loop4 N (N) (r1) ((0 : Int)) ((1 : Int))) fun r2 =>
     (some (r2)))))
theorem enearest.F_eq (N : Nat) (L : Eng.Leaves) : evSig (enearest.C N) (enearest.K N) 0 Try.f69 enearest.sig L enearest.dec = enearest.F N (L.i 0) := by
  have h : ∀ (v : Int), evSig (enearest.C N) (enearest.K N) 0 Try.f69 enearest.sig (mkL [v] [] [] []) enearest.dec =
  (obind (Rc.esize.F (N) ((100 : Int))) fun r0 =>
   (obind (Rc.clamp.F (N) (v) ((0 : Int)) (Go.IntKind.i64.wrap ((2 : Int) * r0))) fun r1 =>
    (obind (enearest.loop4R N (N) (r1) ((0 : Int)) ((1 : Int))) fun r2 =>
     (some (r2))))) := by
    intro v
    kernel_rfl
  have h2 : evSig (enearest.C N) (enearest.K N) 0 Try.f69 enearest.sig L enearest.dec = evSig (enearest.C N) (enearest.K N) 0 Try.f69 enearest.sig (mkL [L.i 0] [] [] []) enearest.dec := by kernel_rfl
  rw [h2, h, enearest.F]
  try simp only [enearest.loop4_eq N]
noncomputable def enearest.spec : Eng.Spec := enearest.sig.spec (fun N L => enearest.F N (L.i 0)) enearest.enc
theorem enearest.cok (N : Nat) : CfgOK (enearest.C N) := ⟨fun _ _ _ _ h => by simp [enearest.C, noRT] at h, wide, by
  simp only [enearest.C, List.mem_cons, List.not_mem_nil, or_false, forall_eq_or_imp, forall_eq, false_imp_iff, implies_true]
  exact ⟨⟨esize.ok, by kernel_rfl⟩, ⟨clamp.ok, by kernel_rfl⟩, ⟨efar.ok, by kernel_rfl⟩⟩, fun g hg => by simp [enearest.C] at hg⟩
theorem enearest.aok (N : Nat) : AnnsOK (enearest.K N) := by
  intro q hq
  simp only [enearest.K, List.mem_cons, List.not_mem_nil, or_false] at hq
  subst hq
  exact fun _ _ => ⟨rfl, rfl⟩
theorem enearest.ok : CallOK Try.prog 69 enearest.spec :=
  callOK_of_sig (fn := Try.f69) (Cf := enearest.C) (K := enearest.K) (d := 0) (dec := enearest.dec) (by kernel_rfl) (fun _ => rfl) enearest.cok (fun _ q hq => by simp [enearest.C] at hq) enearest.aok
    (fun N L r h => (enearest.F_eq N L).trans h) (by kernel_rfl) (fun _ => ⟨rfl, rfl⟩) (fun _ _ => ⟨rfl, rfl⟩)

noncomputable def eexpect.sig : Eng.Sig := { args := [.at (.int .i64 0), .at (.roi .i64 0), .at (.roi .i64 1), .at (.bool 0)], n := 0, pre := [], post := [], m := 0, ret := .at (.int .i64 0) }
noncomputable def eexpect.C (N : Nat) : Cfg := { P := Try.prog, N := N, RT := noRT, specs := [(109, eclamp.spec)], inl := [], hi := 0, mv := [] }
abbrev eexpect.R : Type := Int
def eexpect.dec (L : Eng.Leaves) : eexpect.R := (L.i 0)
def eexpect.enc (r : eexpect.R) : Eng.Leaves := mkL [r] [] [] []
noncomputable def eexpect.K (N : Nat) : FCfg := { anns := [], unr := [], lits := [], lets := [] }
noncomputable def eexpect.F (N : Nat) (b : Int) (intra : Bool) (was : List Int) (now : List Int) : Option eexpect.R :=
  (br (decide (b < (0 : Int)))
   (some ((0 : Int)))
   (br (decide (b ≥ ↑was.length))
    (some ((0 : Int)))
    (br (decide (b > ↑now.length))
     (some ((0 : Int)))
     (br (intra)
      (br (b == (0 : Int))
       (some ((30 : Int)))
       (br (intra)
        (chk ((0 : Int) ≤ Go.IntKind.i64.wrap (b - (1 : Int)) ∧ Go.IntKind.i64.wrap (b - (1 : Int)) < ↑now.length)
         (obind (Rc.eclamp.F (N) (now.getD (Go.IntKind.i64.wrap (b - (1 : Int))).toNat (0 : Int))) fun r0 =>
          (obind (Rc.eclamp.F (N) (Go.IntKind.i64.wrap (r0 - (2 : Int)))) fun r1 =>
           (some (r1)))))
        (chk ((0 : Int) ≤ (0 : Int) ∧ (0 : Int) < ↑was.length)
         (obind (Rc.eclamp.F (N) (was.getD (Int.toNat (0 : Int)) (0 : Int))) fun r2 =>
          (br (decide (b > (0 : Int)))
           (chk ((0 : Int) ≤ Go.IntKind.i64.wrap (b - (1 : Int)) ∧ Go.IntKind.i64.wrap (b - (1 : Int)) < ↑now.length)
            (obind (Rc.eclamp.F (N) (now.getD (Go.IntKind.i64.wrap (b - (1 : Int))).toNat (0 : Int))) fun r3 =>
             (chk ((0 : Int) ≤ b ∧ b < ↑was.length)
              (obind (Rc.eclamp.F (N) (was.getD b.toNat (0 : Int))) fun r4 =>
               (obind (Rc.eclamp.F (N) (Go.IntKind.i64.wrap ((Go.IntKind.i64.wrap (Go.IntKind.i64.wrap ((3 : Int) * r4) + r3)).tdiv (4 : Int)))) fun r5 =>
                (some (r5)))))))
           (chk ((0 : Int) ≤ b ∧ b < ↑was.length)
            (obind (Rc.eclamp.F (N) (was.getD b.toNat (0 : Int))) fun r6 =>
             (obind (Rc.eclamp.F (N) (Go.IntKind.i64.wrap ((Go.IntKind.i64.wrap (Go.IntKind.i64.wrap ((3 : Int) * r6) + r2)).tdiv (4 : Int)))) fun r7 =>
              (some (r7))))))))))
      (br (intra)
       (chk ((0 : Int) ≤ Go.IntKind.i64.wrap (b - (1 : Int)) ∧ Go.IntKind.i64.wrap (b - (1 : Int)) < ↑now.length)
        (obind (Rc.eclamp.F (N) (now.getD (Go.IntKind.i64.wrap (b - (1 : Int))).toNat (0 : Int))) fun r8 =>
         (obind (Rc.eclamp.F (N) (Go.IntKind.i64.wrap (r8 - (2 : Int)))) fun r9 =>
          (some (r9)))))
       (chk ((0 : Int) ≤ (0 : Int) ∧ (0 : Int) < ↑was.length)
        (obind (Rc.eclamp.F (N) (was.getD (Int.toNat (0 : Int)) (0 : Int))) fun r10 =>
         (br (decide (b > (0 : Int)))
          (chk ((0 : Int) ≤ Go.IntKind.i64.wrap (b - (1 : Int)) ∧ Go.IntKind.i64.wrap (b - (1 : Int)) < ↑now.length)
           (obind (Rc.eclamp.F (N) (now.getD (Go.IntKind.i64.wrap (b - (1 : Int))).toNat (0 : Int))) fun r11 =>
            (chk ((0 : Int) ≤ b ∧ b < ↑was.length)
             (obind (Rc.eclamp.F (N) (was.getD b.toNat (0 : Int))) fun r12 =>
              (obind (Rc.eclamp.F (N) (Go.IntKind.i64.wrap ((Go.IntKind.i64.wrap (Go.IntKind.i64.wrap ((3 : Int) * r12) + r11)).tdiv (4 : Int)))) fun r13 =>
               (some (r13)))))))
          (chk ((0 : Int) ≤ b ∧ b < ↑was.length)
           (obind (Rc.eclamp.F (N) (was.getD b.toNat (0 : Int))) fun r14 =>
            (obind (Rc.eclamp.F (N) (Go.IntKind.i64.wrap ((Go.IntKind.i64.wrap (Go.IntKind.i64.wrap ((3 : Int) * r14) + r10)).tdiv (4 : Int)))) fun r15 =>
             (some (r15)))))))))))))
theorem eexpect.F_eq (N : Nat) (L : Eng.Leaves) : evSig (eexpect.C N) (eexpect.K N) 0 Try.f65 eexpect.sig L eexpect.dec = eexpect.F N (L.i 0) (L.b 0) (L.l 0) (L.l 1) := by
  kernel_rfl
noncomputable def eexpect.spec : Eng.Spec := eexpect.sig.spec (fun N L => eexpect.F N (L.i 0) (L.b 0) (L.l 0) (L.l 1)) eexpect.enc
theorem eexpect.cok (N : Nat) : CfgOK (eexpect.C N) := ⟨fun _ _ _ _ h => by simp [eexpect.C, noRT] at h, wide, by
  simp only [eexpect.C, List.mem_cons, List.not_mem_nil, or_false, forall_eq_or_imp, forall_eq, false_imp_iff, implies_true]
  exact ⟨eclamp.ok, by kernel_rfl⟩, fun g hg => by simp [eexpect.C] at hg⟩
theorem eexpect.aok (N : Nat) : AnnsOK (eexpect.K N) := by
  intro q hq
  simp only [eexpect.K, List.mem_cons, List.not_mem_nil, or_false] at hq
theorem eexpect.ok : CallOK Try.prog 65 eexpect.spec :=
  callOK_of_sig (fn := Try.f65) (Cf := eexpect.C) (K := eexpect.K) (d := 0) (dec := eexpect.dec) (by kernel_rfl) (fun _ => rfl) eexpect.cok (fun _ q hq => by simp [eexpect.C] at hq) eexpect.aok
    (fun N L r h => (eexpect.F_eq N L).trans h) (by kernel_rfl) (fun _ => ⟨rfl, rfl⟩) (fun _ _ => ⟨rfl, rfl⟩)

noncomputable def eread.sig : Eng.Sig := { args := [.at (.ptr 0 0), .at (.roi .i64 0), .at (.bool 0)], n := 2, pre := [(0, .cells 10 [.full 1 false, .int .u64 0, .int .u64 1, .int .u64 2, .int .i64 3, .int .i64 4, .int .u64 5, .int .i64 6, .int .i64 7, .bool 1]), (1, .ints false .u8 1)], post := [(0, .cells 10 [.full 1 false, .int .u64 1, .int .u64 2, .int .u64 3, .int .i64 4, .fint .i64 4, .fint .u64 5, .fint .i64 6, .int .i64 5, .fbool 1]), (1, .fints false .u8 1), (2, .ints true .i64 0)], m := 1, ret := .tup [(false, [.full 2 false]), (false, [.int .i64 0])] }
noncomputable def eread.C (N : Nat) : Cfg := { P := Try.prog, N := N, RT := noRT, specs := [(65, eexpect.spec), (110, laplace.spec), (109, eclamp.spec)], inl := [], hi := 2, mv := [] }
abbrev eread.R : Type := Int × Int × Int × Int × Int × Int × List Int
def eread.dec (L : Eng.Leaves) : eread.R := (L.i 0, L.i 1, L.i 2, L.i 3, L.i 4, L.i 5, L.l 0)
def eread.enc (r : eread.R) : Eng.Leaves := mkL [r.1, r.2.1, r.2.2.1, r.2.2.2.1, r.2.2.2.2.1, r.2.2.2.2.2.1] [] [r.2.2.2.2.2.2] []
abbrev eread.loop5.R : Type := Int × Int × Int × Int × Int × List Int
noncomputable def eread.loop5.ann : Ann := { nx := 21, slots := [(0, .at (.ptr 0 0)), (1, .at (.froi .i64 0)), (2, .at (.fbool 0)), (8, .at (.full 20 false)), (19, .at (.fint .i64 0)), (20, .at (.int .i64 0))], blks := [(0, .cells 10 [.full 1 false, .int .u64 1, .int .u64 2, .int .u64 3, .int .i64 4, .fint .i64 1, .fint .u64 2, .fint .i64 3, .int .i64 5, .fbool 1]), (1, .fints false .u8 1), (20, .ints true .i64 0)], mov := [20], exId := 0, xslots := [(0, .at (.ptr 0 0)), (8, .at (.full 20 false))], xblks := [(0, .cells 10 [.full 1 false, .int .u64 0, .int .u64 1, .int .u64 2, .int .i64 3, .fint .i64 1, .fint .u64 2, .fint .i64 3, .int .i64 4, .fbool 1]), (1, .fints false .u8 1), (20, .ints true .i64 0)], T := eread.loop5.R, dec := fun L => (L.i 0, L.i 1, L.i 2, L.i 3, L.i 4, L.l 0), enc := fun r => mkL [r.1, r.2.1, r.2.2.1, r.2.2.2.1, r.2.2.2.2.1] [] [r.2.2.2.2.2] [], ret := false }
noncomputable def eread.K (N : Nat) : FCfg := { anns := [(5, eread.loop5.ann)], unr := [], lits := [], lets := [] }
noncomputable def eread.loop5 (N : Nat) : Nat → Int → Int → Int → Int → Bool → Bool → List Int → List Int → Int → Int → Int → Int → Int → Int → List Int → Option eread.loop5.R
  | 0, _, _, _, _, _, _, _, _, _, _, _, _, _, _, _ => none
  | nn + 1, s19, back, window, waiting, intra, bad, was, b, s20, rng, val, last, front, count, s8 =>
  (br (decide (s20 < s19))
   (obind (Rc.eexpect.F (N) (s20) (intra) (was) (s8)) fun r0 =>
    (obind (Rc.laplace.F (N) ((12000 : Int)) ((8000 : Int)) (rng) (val) (last) (front) (back) (window) (waiting) (count) (bad) (b)) fun r1 =>
     (obind (Rc.eclamp.F (N) (Go.IntKind.i64.wrap (r0 + r1.fst))) fun r2 =>
      (chk (s8.length + [r2].length ≤ (17592186043904 : Nat))
       (chkL (was) (was)
       (chkB (intra) (intra)
       (chkI (s19) (s19)
       (chkI (back) (back)
       (chkI (window) (window)
       (chkI (waiting) (waiting)
       (chkB (bad) (bad)
       (chkL (b) (b)
       (eread.loop5 N (nn) (s19) (back) (window) (waiting) (intra) (bad) (was) (b) (Go.IntKind.i64.wrap (s20 + (1 : Int))) (r1.snd.fst) (r1.snd.snd.fst) (r1.snd.snd.snd.fst) (r1.snd.snd.snd.snd.fst) (r1.snd.snd.snd.snd.snd) (s8 ++ [r2]))))))))))))))
   (chkI (back) (back)
   (chkI (window) (window)
   (chkI (waiting) (waiting)
   (chkB (bad) (bad)
   (chkL (b) (b)
   (some ((rng, val, last, front, count, s8)))))))))
noncomputable def eread.loop5R (N nn : Nat) (s19 : Int) (back : Int) (window : Int) (waiting : Int) (intra : Bool) (bad : Bool) (was : List Int) (b : List Int) (s20 : Int) (rng : Int) (val : Int) (last : Int) (front : Int) (count : Int) (s8 : List Int) : Option eread.loop5.R := loopF eread.loop5.ann (mkL [s19, back, window, waiting] [intra, bad] [was, b] []) (evCode ((eread.C N).inLoop eread.loop5.ann) (eread.K N) (inlTab (eread.C N) 0) (bodyAt 5 Try.f63)) nn (mkL [s20, rng, val, last, front, count] [] [s8] [])
theorem eread.loop5_eq (N : Nat) : ∀ (nn : Nat) (s19 : Int) (back : Int) (window : Int) (waiting : Int) (intra : Bool) (bad : Bool) (was : List Int) (b : List Int) (s20 : Int) (rng : Int) (val : Int) (last : Int) (front : Int) (count : Int) (s8 : List Int), eread.loop5R N nn s19 back window waiting intra bad was b s20 rng val last front count s8 = eread.loop5 N nn s19 back window waiting intra bad was b s20 rng val last front count s8
  | 0, _, _, _, _, _, _, _, _, _, _, _, _, _, _, _ => by kernel_rfl
  | nn + 1, s19, back, window, waiting, intra, bad, was, b, s20, rng, val, last, front, count, s8 => by
    have h : eread.loop5R N (nn + 1) s19 back window waiting intra bad was b s20 rng val last front count s8 =
  (br (decide (s20 < s19))
   (obind (Rc.eexpect.F (N) (s20) (intra) (was) (s8)) fun r0 =>
    (obind (Rc.laplace.F (N) ((12000 : Int)) ((8000 : Int)) (rng) (val) (last) (front) (back) (window) (waiting) (count) (bad) (b)) fun r1 =>
     (obind (Rc.eclamp.F (N) (Go.IntKind.i64.wrap (r0 + r1.fst))) fun r2 =>
      (chk (s8.length + [r2].length ≤ (17592186043904 : Nat))
       (chkL (was) (was)
       (chkB (intra) (intra)
       (chkI (s19) (s19)
       (chkI (back) (back)
       (chkI (window) (window)
       (chkI (waiting) (waiting)
       (chkB (bad) (bad)
       (chkL (b) (b)
       (eread.loop5R N (nn) (s19) (back) (window) (waiting) (intra) (bad) (was) (b) (Go.IntKind.i64.wrap (s20 + (1 : Int))) (r1.snd.fst) (r1.snd.snd.fst) (r1.snd.snd.snd.fst) (r1.snd.snd.snd.snd.fst) (r1.snd.snd.snd.snd.snd) (s8 ++ [r2]))))))))))))))
   (chkI (back) (back)
   (chkI (window) (window)
   (chkI (waiting) (waiting)
   (chkB (bad) (bad)
   (chkL (b) (b)
   (some ((rng, val, last, front, count, s8))))))))) := by kernel_rfl
    rw [h, eread.loop5]
    try simp only [eread.loop5_eq N nn]
noncomputable def eread.F (N : Nat) (rng : Int) (val : Int) (last : Int) (front : Int) (back : Int) (window : Int) (waiting : Int) (count : Int) (intra : Bool) (bad : Bool) (was : List Int) (b : List Int) : Option eread.R :=
  (br (decide (↑was.length < (1 : Int)))
   (chkI (back) (back)
   (chkI (window) (window)
   (chkI (waiting) (waiting)
   (chkB (bad) (bad)
   (chkL (b) (b)
   (some (((1 : Int), rng, val, last, front, count, ([] : List Int)))))))))
   (br (decide (↑was.length > (40 : Int)))
    (chkI (back) (back)
    (chkI (window) (window)
    (chkI (waiting) (waiting)
    (chkB (bad) (bad)
    (chkL (b) (b)
    (some (((1 : Int), rng, val, last, front, count, ([] : List Int)))))))))
    (obind (eread.loop5 N (N) (↑was.length) (back) (window) (waiting) (intra) (bad) (was) (b) ((0 : Int)) (rng) (val) (last) (front) (count) (([] : List Int))) fun r0 =>
     (chkI (back) (back)
     (chkI (window) (window)
     (chkI (waiting) (waiting)
     (chkB (bad) (bad)
     (chkL (b) (b)
     (some (((0 : Int), r0.fst, r0.snd.fst, r0.snd.snd.fst, r0.snd.snd.snd.fst, r0.snd.snd.snd.snd.fst, r0.snd.snd.snd.snd.snd)))))))))))
theorem eread.F_eq (N : Nat) (L : Eng.Leaves) : evSig (eread.C N) (eread.K N) 0 Try.f63 eread.sig L eread.dec = eread.F N (L.i 0) (L.i 1) (L.i 2) (L.i 3) (L.i 4) (L.i 5) (L.i 6) (L.i 7) (L.b 0) (L.b 1) (L.l 0) (L.l 1) := by
  have h : ∀ (rng : Int) (val : Int) (last : Int) (front : Int) (back : Int) (window : Int) (waiting : Int) (count : Int) (intra : Bool) (bad : Bool) (was : List Int) (b : List Int), evSig (eread.C N) (eread.K N) 0 Try.f63 eread.sig (mkL [rng, val, last, front, back, window, waiting, count] [intra, bad] [was, b] []) eread.dec =
  (br (decide (↑was.length < (1 : Int)))
   (chkI (back) (back)
   (chkI (window) (window)
   (chkI (waiting) (waiting)
   (chkB (bad) (bad)
   (chkL (b) (b)
   (some (((1 : Int), rng, val, last, front, count, ([] : List Int)))))))))
   (br (decide (↑was.length > (40 : Int)))
    (chkI (back) (back)
    (chkI (window) (window)
    (chkI (waiting) (waiting)
    (chkB (bad) (bad)
    (chkL (b) (b)
    (some (((1 : Int), rng, val, last, front, count, ([] : List Int)))))))))
    (obind (eread.loop5R N (N) (↑was.length) (back) (window) (waiting) (intra) (bad) (was) (b) ((0 : Int)) (rng) (val) (last) (front) (count) (([] : List Int))) fun r0 =>
     (chkI (back) (back)
     (chkI (window) (window)
     (chkI (waiting) (waiting)
     (chkB (bad) (bad)
     (chkL (b) (b)
     (some (((0 : Int), r0.fst, r0.snd.fst, r0.snd.snd.fst, r0.snd.snd.snd.fst, r0.snd.snd.snd.snd.fst, r0.snd.snd.snd.snd.snd))))))))))) := by
    intro rng val last front back window waiting count intra bad was b
    kernel_rfl
  have h2 : evSig (eread.C N) (eread.K N) 0 Try.f63 eread.sig L eread.dec = evSig (eread.C N) (eread.K N) 0 Try.f63 eread.sig (mkL [L.i 0, L.i 1, L.i 2, L.i 3, L.i 4, L.i 5, L.i 6, L.i 7] [L.b 0, L.b 1] [L.l 0, L.l 1] []) eread.dec := by kernel_rfl
  rw [h2, h, eread.F]
  try simp only [eread.loop5_eq N]
noncomputable def eread.spec : Eng.Spec := eread.sig.spec (fun N L => eread.F N (L.i 0) (L.i 1) (L.i 2) (L.i 3) (L.i 4) (L.i 5) (L.i 6) (L.i 7) (L.b 0) (L.b 1) (L.l 0) (L.l 1)) eread.enc
theorem eread.cok (N : Nat) : CfgOK (eread.C N) := ⟨fun _ _ _ _ h => by simp [eread.C, noRT] at h, wide, by
  simp only [eread.C, List.mem_cons, List.not_mem_nil, or_false, forall_eq_or_imp, forall_eq, false_imp_iff, implies_true]
  exact ⟨⟨eexpect.ok, by kernel_rfl⟩, ⟨laplace.ok, by kernel_rfl⟩, ⟨eclamp.ok, by kernel_rfl⟩⟩, fun g hg => by simp [eread.C] at hg⟩
theorem eread.aok (N : Nat) : AnnsOK (eread.K N) := by
  intro q hq
  simp only [eread.K, List.mem_cons, List.not_mem_nil, or_false] at hq
  subst hq
  exact fun _ _ => ⟨rfl, rfl⟩
theorem eread.ok : CallOK Try.prog 63 eread.spec :=
  callOK_of_sig (fn := Try.f63) (Cf := eread.C) (K := eread.K) (d := 0) (dec := eread.dec) (by kernel_rfl) (fun _ => rfl) eread.cok (fun _ q hq => by simp [eread.C] at hq) eread.aok
    (fun N L r h => (eread.F_eq N L).trans h) (by kernel_rfl) (fun _ => ⟨rfl, rfl⟩) (fun _ _ => ⟨rfl, rfl⟩)

noncomputable def ewrite.sig : Eng.Sig := { args := [.at (.ptr 0 0), .at (.roi .i64 0), .at (.roi .i64 1), .at (.bool 0)], n := 3, pre := [(0, .cells 6 [.full 1 false, .int .u64 0, .int .u64 1, .full 2 false, .int .i64 2, .int .i64 3]), (1, .ints true .u8 2), (2, .ints true .u8 3)], post := [(0, .cells 6 [.full 4 false, .int .u64 1, .int .u64 2, .full 2 false, .int .i64 3, .int .i64 4]), (1, .dead), (2, .ints true .u8 0), (3, .ints true .i64 1), (4, .ints true .u8 2)], m := 2, ret := .tup [(false, [.full 3 false]), (false, [.int .i64 0])] }
noncomputable def ewrite.C (N : Nat) : Cfg := { P := Try.prog, N := N, RT := noRT, specs := [(65, eexpect.spec), (109, eclamp.spec), (38, elaplace.spec)], inl := [], hi := 3, mv := [] }
abbrev ewrite.R : Type := Int × Int × Int × Int × Int × List Int × List Int × List Int
def ewrite.dec (L : Eng.Leaves) : ewrite.R := (L.i 0, L.i 1, L.i 2, L.i 3, L.i 4, L.l 0, L.l 1, L.l 2)
def ewrite.enc (r : ewrite.R) : Eng.Leaves := mkL [r.1, r.2.1, r.2.2.1, r.2.2.2.1, r.2.2.2.2.1] [] [r.2.2.2.2.2.1, r.2.2.2.2.2.2.1, r.2.2.2.2.2.2.2] []
abbrev ewrite.loop5.R : Type := Int × Int × Int × Int × List Int × List Int × List Int
noncomputable def ewrite.loop5.ann : Ann := { nx := 22, slots := [(0, .at (.ptr 0 0)), (1, .at (.froi .i64 0)), (2, .at (.froi .i64 1)), (3, .at (.fbool 0)), (10, .at (.full 20 false)), (31, .at (.fint .i64 0)), (32, .at (.int .i64 0))], blks := [(0, .cells 6 [.full 21 false, .int .u64 1, .int .u64 2, .full 2 false, .int .i64 3, .int .i64 4]), (2, .ints true .u8 0), (20, .ints true .i64 1), (21, .ints true .u8 2)], mov := [20, 21], exId := 0, xslots := [(0, .at (.ptr 0 0)), (10, .at (.full 20 false))], xblks := [(0, .cells 6 [.full 21 false, .int .u64 0, .int .u64 1, .full 2 false, .int .i64 2, .int .i64 3]), (2, .ints true .u8 0), (20, .ints true .i64 1), (21, .ints true .u8 2)], T := ewrite.loop5.R, dec := fun L => (L.i 0, L.i 1, L.i 2, L.i 3, L.l 0, L.l 1, L.l 2), enc := fun r => mkL [r.1, r.2.1, r.2.2.1, r.2.2.2.1] [] [r.2.2.2.2.1, r.2.2.2.2.2.1, r.2.2.2.2.2.2] [], ret := false }
noncomputable def ewrite.K (N : Nat) : FCfg := { anns := [(5, ewrite.loop5.ann)], unr := [], lits := [], lets := [] }
noncomputable def ewrite.loop5 (N : Nat) : Nat → Int → Bool → List Int → List Int → Int → Int → Int → Int → Int → List Int → List Int → List Int → Option ewrite.loop5.R
  | 0, _, _, _, _, _, _, _, _, _, _, _, _ => none
  | nn + 1, s31, intra, want, was, s32, val, rng, rawBits, count, raw, s10, told =>
  (br (decide (s32 < s31))
   (obind (Rc.eexpect.F (N) (s32) (intra) (was) (s10)) fun r0 =>
    (chk ((0 : Int) ≤ s32 ∧ s32 < ↑want.length)
     (obind (Rc.eclamp.F (N) (want.getD s32.toNat (0 : Int))) fun r1 =>
      (obind (Rc.elaplace.F (N) (Go.IntKind.i64.wrap (r1 - r0)) ((12000 : Int)) ((8000 : Int)) (val) (rng) (rawBits) (count) (told) (raw)) fun r2 =>
       (obind (Rc.eclamp.F (N) (Go.IntKind.i64.wrap (r0 + r2.fst))) fun r3 =>
        (chk (s10.length + [r3].length ≤ (17592186043904 : Nat))
         (chkL (want) (want)
         (chkL (was) (was)
         (chkB (intra) (intra)
         (chkI (s31) (s31)
         (ewrite.loop5 N (nn) (s31) (intra) (want) (was) (Go.IntKind.i64.wrap (s32 + (1 : Int))) (r2.snd.snd.fst) (r2.snd.snd.snd.fst) (r2.snd.snd.snd.snd.fst) (r2.snd.snd.snd.snd.snd.fst) (r2.snd.snd.snd.snd.snd.snd.fst) (s10 ++ [r3]) (r2.snd.snd.snd.snd.snd.snd.snd))))))))))))
   (some ((val, rng, rawBits, count, raw, s10, told))))
noncomputable def ewrite.loop5R (N nn : Nat) (s31 : Int) (intra : Bool) (want : List Int) (was : List Int) (s32 : Int) (val : Int) (rng : Int) (rawBits : Int) (count : Int) (raw : List Int) (s10 : List Int) (told : List Int) : Option ewrite.loop5.R := loopF ewrite.loop5.ann (mkL [s31] [intra] [want, was] []) (evCode ((ewrite.C N).inLoop ewrite.loop5.ann) (ewrite.K N) (inlTab (ewrite.C N) 0) (bodyAt 5 Try.f64)) nn (mkL [s32, val, rng, rawBits, count] [] [raw, s10, told] [])
theorem ewrite.loop5_eq (N : Nat) : ∀ (nn : Nat) (s31 : Int) (intra : Bool) (want : List Int) (was : List Int) (s32 : Int) (val : Int) (rng : Int) (rawBits : Int) (count : Int) (raw : List Int) (s10 : List Int) (told : List Int), ewrite.loop5R N nn s31 intra want was s32 val rng rawBits count raw s10 told = ewrite.loop5 N nn s31 intra want was s32 val rng rawBits count raw s10 told
  | 0, _, _, _, _, _, _, _, _, _, _, _, _ => by kernel_rfl
  | nn + 1, s31, intra, want, was, s32, val, rng, rawBits, count, raw, s10, told => by
    have h : ewrite.loop5R N (nn + 1) s31 intra want was s32 val rng rawBits count raw s10 told =
  (br (decide (s32 < s31))
   (obind (Rc.eexpect.F (N) (s32) (intra) (was) (s10)) fun r0 =>
    (chk ((0 : Int) ≤ s32 ∧ s32 < ↑want.length)
     (obind (Rc.eclamp.F (N) (want.getD s32.toNat (0 : Int))) fun r1 =>
      (obind (Rc.elaplace.F (N) (Go.IntKind.i64.wrap (r1 - r0)) ((12000 : Int)) ((8000 : Int)) (val) (rng) (rawBits) (count) (told) (raw)) fun r2 =>
       (obind (Rc.eclamp.F (N) (Go.IntKind.i64.wrap (r0 + r2.fst))) fun r3 =>
        (chk (s10.length + [r3].length ≤ (17592186043904 : Nat))
         (chkL (want) (want)
         (chkL (was) (was)
         (chkB (intra) (intra)
         (chkI (s31) (s31)
         (ewrite.loop5R N (nn) (s31) (intra) (want) (was) (Go.IntKind.i64.wrap (s32 + (1 : Int))) (r2.snd.snd.fst) (r2.snd.snd.snd.fst) (r2.snd.snd.snd.snd.fst) (r2.snd.snd.snd.snd.snd.fst) (r2.snd.snd.snd.snd.snd.snd.fst) (s10 ++ [r3]) (r2.snd.snd.snd.snd.snd.snd.snd))))))))))))
   (some ((val, rng, rawBits, count, raw, s10, told)))) := by kernel_rfl
    rw [h, ewrite.loop5]
    try simp only [ewrite.loop5_eq N nn]
noncomputable def ewrite.F (N : Nat) (val : Int) (rng : Int) (rawBits : Int) (count : Int) (intra : Bool) (want : List Int) (was : List Int) (told : List Int) (raw : List Int) : Option ewrite.R :=
  (br (decide (↑was.length < (1 : Int)))
   (some (((1 : Int), val, rng, rawBits, count, raw, ([] : List Int), told)))
   (br (decide (↑was.length > (40 : Int)))
    (some (((1 : Int), val, rng, rawBits, count, raw, ([] : List Int), told)))
    (br ((want.length : Int) != ↑was.length)
     (some (((1 : Int), val, rng, rawBits, count, raw, ([] : List Int), told)))
     (obind (ewrite.loop5 N (N) (↑was.length) (intra) (want) (was) ((0 : Int)) (val) (rng) (rawBits) (count) (raw) (([] : List Int)) (told)) fun r0 =>
      (some (((0 : Int), r0.fst, r0.snd.fst, r0.snd.snd.fst, r0.snd.snd.snd.fst, r0.snd.snd.snd.snd.fst, r0.snd.snd.snd.snd.snd.fst, r0.snd.snd.snd.snd.snd.snd)))))))
theorem ewrite.F_eq (N : Nat) (L : Eng.Leaves) : evSig (ewrite.C N) (ewrite.K N) 0 Try.f64 ewrite.sig L ewrite.dec = ewrite.F N (L.i 0) (L.i 1) (L.i 2) (L.i 3) (L.b 0) (L.l 0) (L.l 1) (L.l 2) (L.l 3) := by
  have h : ∀ (val : Int) (rng : Int) (rawBits : Int) (count : Int) (intra : Bool) (want : List Int) (was : List Int) (told : List Int) (raw : List Int), evSig (ewrite.C N) (ewrite.K N) 0 Try.f64 ewrite.sig (mkL [val, rng, rawBits, count] [intra] [want, was, told, raw] []) ewrite.dec =
  (br (decide (↑was.length < (1 : Int)))
   (some (((1 : Int), val, rng, rawBits, count, raw, ([] : List Int), told)))
   (br (decide (↑was.length > (40 : Int)))
    (some (((1 : Int), val, rng, rawBits, count, raw, ([] : List Int), told)))
    (br ((want.length : Int) != ↑was.length)
     (some (((1 : Int), val, rng, rawBits, count, raw, ([] : List Int), told)))
     (obind (ewrite.loop5R N (N) (↑was.length) (intra) (want) (was) ((0 : Int)) (val) (rng) (rawBits) (count) (raw) (([] : List Int)) (told)) fun r0 =>
      (some (((0 : Int), r0.fst, r0.snd.fst, r0.snd.snd.fst, r0.snd.snd.snd.fst, r0.snd.snd.snd.snd.fst, r0.snd.snd.snd.snd.snd.fst, r0.snd.snd.snd.snd.snd.snd))))))) := by
    intro val rng rawBits count intra want was told raw
    kernel_rfl
  have h2 : evSig (ewrite.C N) (ewrite.K N) 0 Try.f64 ewrite.sig L ewrite.dec = evSig (ewrite.C N) (ewrite.K N) 0 Try.f64 ewrite.sig (mkL [L.i 0, L.i 1, L.i 2, L.i 3] [L.b 0] [L.l 0, L.l 1, L.l 2, L.l 3] []) ewrite.dec := by kernel_rfl
  rw [h2, h, ewrite.F]
  try simp only [ewrite.loop5_eq N]
noncomputable def ewrite.spec : Eng.Spec := ewrite.sig.spec (fun N L => ewrite.F N (L.i 0) (L.i 1) (L.i 2) (L.i 3) (L.b 0) (L.l 0) (L.l 1) (L.l 2) (L.l 3)) ewrite.enc
theorem ewrite.cok (N : Nat) : CfgOK (ewrite.C N) := ⟨fun _ _ _ _ h => by simp [ewrite.C, noRT] at h, wide, by
  simp only [ewrite.C, List.mem_cons, List.not_mem_nil, or_false, forall_eq_or_imp, forall_eq, false_imp_iff, implies_true]
  exact ⟨⟨eexpect.ok, by kernel_rfl⟩, ⟨eclamp.ok, by kernel_rfl⟩, ⟨elaplace.ok, by kernel_rfl⟩⟩, fun g hg => by simp [ewrite.C] at hg⟩
theorem ewrite.aok (N : Nat) : AnnsOK (ewrite.K N) := by
  intro q hq
  simp only [ewrite.K, List.mem_cons, List.not_mem_nil, or_false] at hq
  subst hq
  exact fun _ _ => ⟨rfl, rfl⟩
theorem ewrite.ok : CallOK Try.prog 64 ewrite.spec :=
  callOK_of_sig (fn := Try.f64) (Cf := ewrite.C) (K := ewrite.K) (d := 0) (dec := ewrite.dec) (by kernel_rfl) (fun _ => rfl) ewrite.cok (fun _ q hq => by simp [ewrite.C] at hq) ewrite.aok
    (fun N L r h => (ewrite.F_eq N L).trans h) (by kernel_rfl) (fun _ => ⟨rfl, rfl⟩) (fun _ _ => ⟨rfl, rfl⟩)

noncomputable def emeasure.sig : Eng.Sig := { args := [.at (.roi .i64 0)], n := 0, pre := [], post := [], m := 0, ret := .at (.int .i64 0) }
noncomputable def emeasure.C (N : Nat) : Cfg := { P := Try.prog, N := N, RT := noRT, specs := [(102, clamp.spec), (112, div64.spec), (113, fsqrt.spec), (69, enearest.spec)], inl := [], hi := 0, mv := [], exts := [111] }
abbrev emeasure.R : Type := Int
def emeasure.dec (L : Eng.Leaves) : emeasure.R := (L.i 0)
def emeasure.enc (r : emeasure.R) : Eng.Leaves := mkL [r] [] [] []
abbrev emeasure.loop6.R : Type := Int × Int
noncomputable def emeasure.loop6.ann : Ann := { nx := 20, slots := [(3, .at (.int .u64 0)), (4, .at (.int .u64 1)), (18, .at (.froi .i64 0)), (19, .at (.fint .i64 0)), (20, .at (.int .i64 2))], blks := [], mov := [], exId := 0, xslots := [(3, .at (.int .u64 0)), (4, .at (.int .u64 1))], xblks := [], T := emeasure.loop6.R, dec := fun L => (L.i 0, L.i 1), enc := fun r => mkL [r.1, r.2] [] [] [], ret := false }
noncomputable def emeasure.K (N : Nat) : FCfg := { anns := [(6, emeasure.loop6.ann)], unr := [], lits := [], lets := [] }
noncomputable def emeasure.loop6 (N : Nat) : Nat → Int → List Int → Int → Int → Int → Option emeasure.loop6.R
  | 0, _, _, _, _, _ => none
  | nn + 1, s19, s18, s3, s4, s20 =>
  (br (decide (s20 < s19))
   (chk ((0 : Int) ≤ s20 ∧ s20 < ↑s18.length)
    (obind (Rc.clamp.F (N) (s18.getD s20.toNat (0 : Int)) ((-1073741824 : Int)) ((1073741824 : Int))) fun r0 =>
     (chk ((0 : Int) ≤ s4 ∧ (0 : Int) ≤ Go.IntKind.u64.wrap (Go.IntKind.i64.wrap (r0 * r0)) ∧ (0 : Int) ≤ (0 : Int) ∧ (0 : Int) ≤ (1 : Int))
      (chkL (s18) (s18)
      (chkI (s19) (s19)
      (emeasure.loop6 N (nn) (s19) (s18) (Go.IntKind.u64.wrap (s3 + (s4 + Go.IntKind.u64.wrap (Go.IntKind.i64.wrap (r0 * r0)) + (0 : Int)) / (18446744073709551616 : Int))) ((s4 + Go.IntKind.u64.wrap (Go.IntKind.i64.wrap (r0 * r0)) + (0 : Int)) % (18446744073709551616 : Int)) (Go.IntKind.i64.wrap (s20 + (1 : Int)))))))))
   (some ((s3, s4))))
noncomputable def emeasure.loop6R (N nn : Nat) (s19 : Int) (s18 : List Int) (s3 : Int) (s4 : Int) (s20 : Int) : Option emeasure.loop6.R := loopF emeasure.loop6.ann (mkL [s19] [] [s18] []) (evCode ((emeasure.C N).inLoop emeasure.loop6.ann) (emeasure.K N) (inlTab (emeasure.C N) 0) (bodyAt 6 Try.f66)) nn (mkL [s3, s4, s20] [] [] [])
theorem emeasure.loop6_eq (N : Nat) : ∀ (nn : Nat) (s19 : Int) (s18 : List Int) (s3 : Int) (s4 : Int) (s20 : Int), emeasure.loop6R N nn s19 s18 s3 s4 s20 = emeasure.loop6 N nn s19 s18 s3 s4 s20
  | 0, _, _, _, _, _ => by kernel_rfl
  | nn + 1, s19, s18, s3, s4, s20 => by
    have h : emeasure.loop6R N (nn + 1) s19 s18 s3 s4 s20 =
  (br (decide (s20 < s19))
   (chk ((0 : Int) ≤ s20 ∧ s20 < ↑s18.length)
    (obind (Rc.clamp.F (N) (s18.getD s20.toNat (0 : Int)) ((-1073741824 : Int)) ((1073741824 : Int))) fun r0 =>
     (chk ((0 : Int) ≤ s4 ∧ (0 : Int) ≤ Go.IntKind.u64.wrap (Go.IntKind.i64.wrap (r0 * r0)) ∧ (0 : Int) ≤ (0 : Int) ∧ (0 : Int) ≤ (1 : Int))
      (chkL (s18) (s18)
      (chkI (s19) (s19)
      (emeasure.loop6R N (nn) (s19) (s18) (Go.IntKind.u64.wrap (s3 + (s4 + Go.IntKind.u64.wrap (Go.IntKind.i64.wrap (r0 * r0)) + (0 : Int)) / (18446744073709551616 : Int))) ((s4 + Go.IntKind.u64.wrap (Go.IntKind.i64.wrap (r0 * r0)) + (0 : Int)) % (18446744073709551616 : Int)) (Go.IntKind.i64.wrap (s20 + (1 : Int)))))))))
   (some ((s3, s4)))) := by kernel_rfl
    rw [h, emeasure.loop6]
    try simp only [emeasure.loop6_eq N nn]
noncomputable def emeasure.F (N : Nat) (f : List Int) : Option emeasure.R :=
  (chk (((0 : Int) ≤ if (1000 : Int) < ↑f.length then (1000 : Int) else ↑f.length) ∧ (if (1000 : Int) < ↑f.length then (1000 : Int) else ↑f.length) ≤ ↑f.length)
   (br (↑(List.take ((if (1000 : Int) < ↑f.length then (1000 : Int) else ↑f.length).toNat - (0 : Nat)) (List.drop (0 : Nat) f)).length == (0 : Int))
    (some ((0 : Int)))
    (obind (emeasure.loop6 N (N) (↑(List.take ((if (1000 : Int) < ↑f.length then (1000 : Int) else ↑f.length).toNat - (0 : Nat)) (List.drop (0 : Nat) f)).length) (List.take ((if (1000 : Int) < ↑f.length then (1000 : Int) else ↑f.length).toNat - (0 : Nat)) (List.drop (0 : Nat) f)) ((0 : Int)) ((0 : Int)) ((0 : Int))) fun r0 =>
     (obind (Rc.div64.F (N) (r0.fst) (r0.snd) (Go.IntKind.u64.wrap ↑(List.take ((if (1000 : Int) < ↑f.length then (1000 : Int) else ↑f.length).toNat - (0 : Nat)) (List.drop (0 : Nat) f)).length)) fun r1 =>
      (obind (Rc.fsqrt.F (N) (Go.IntKind.i64.wrap r1.fst)) fun r2 =>
       (obind (Rc.enearest.F (N) (r2)) fun r3 =>
        (some (r3))))))))
theorem emeasure.F_eq (N : Nat) (L : Eng.Leaves) : evSig (emeasure.C N) (emeasure.K N) 0 Try.f66 emeasure.sig L emeasure.dec = emeasure.F N (L.l 0) := by
  have h : ∀ (f : List Int), evSig (emeasure.C N) (emeasure.K N) 0 Try.f66 emeasure.sig (mkL [] [] [f] []) emeasure.dec =
  (chk (((0 : Int) ≤ if (1000 : Int) < ↑f.length then (1000 : Int) else ↑f.length) ∧ (if (1000 : Int) < ↑f.length then (1000 : Int) else ↑f.length) ≤ ↑f.length)
   (br (↑(List.take ((if (1000 : Int) < ↑f.length then (1000 : Int) else ↑f.length).toNat - (0 : Nat)) (List.drop (0 : Nat) f)).length == (0 : Int))
    (some ((0 : Int)))
    (obind (emeasure.loop6R N (N) (↑(List.take ((if (1000 : Int) < ↑f.length then (1000 : Int) else ↑f.length).toNat - (0 : Nat)) (List.drop (0 : Nat) f)).length) (List.take ((if (1000 : Int) < ↑f.length then (1000 : Int) else ↑f.length).toNat - (0 : Nat)) (List.drop (0 : Nat) f)) ((0 : Int)) ((0 : Int)) ((0 : Int))) fun r0 =>
     (obind (Rc.div64.F (N) (r0.fst) (r0.snd) (Go.IntKind.u64.wrap ↑(List.take ((if (1000 : Int) < ↑f.length then (1000 : Int) else ↑f.length).toNat - (0 : Nat)) (List.drop (0 : Nat) f)).length)) fun r1 =>
      (obind (Rc.fsqrt.F (N) (Go.IntKind.i64.wrap r1.fst)) fun r2 =>
       (obind (Rc.enearest.F (N) (r2)) fun r3 =>
        (some (r3)))))))) := by
    intro f
    kernel_rfl
  have h2 : evSig (emeasure.C N) (emeasure.K N) 0 Try.f66 emeasure.sig L emeasure.dec = evSig (emeasure.C N) (emeasure.K N) 0 Try.f66 emeasure.sig (mkL [] [] [L.l 0] []) emeasure.dec := by kernel_rfl
  rw [h2, h, emeasure.F]
  try simp only [emeasure.loop6_eq N]
noncomputable def emeasure.spec : Eng.Spec := emeasure.sig.spec (fun N L => emeasure.F N (L.l 0)) emeasure.enc
theorem emeasure.cok (N : Nat) : CfgOK (emeasure.C N) := ⟨fun _ _ _ _ h => by simp [emeasure.C, noRT] at h, wide, by
  simp only [emeasure.C, List.mem_cons, List.not_mem_nil, or_false, forall_eq_or_imp, forall_eq, false_imp_iff, implies_true]
  exact ⟨⟨clamp.ok, by kernel_rfl⟩, ⟨div64.ok, by kernel_rfl⟩, ⟨fsqrt.ok, by kernel_rfl⟩, ⟨enearest.ok, by kernel_rfl⟩⟩, fun g hg => by
  simp only [emeasure.C, List.mem_cons, List.not_mem_nil, or_false] at hg
  subst hg
  exact fun x y c w hx hy h0 h1 => by rw [run_callFunc_extern (e := add64Entry) (fn := Try.f111) (by kernel_rfl) (by kernel_rfl) (by kernel_rfl) (by kernel_rfl) (by kernel_rfl), run_add64 x y c hx hy h0 h1]; rfl⟩
theorem emeasure.aok (N : Nat) : AnnsOK (emeasure.K N) := by
  intro q hq
  simp only [emeasure.K, List.mem_cons, List.not_mem_nil, or_false] at hq
  subst hq
  exact fun _ _ => ⟨rfl, rfl⟩
theorem emeasure.ok : CallOK Try.prog 66 emeasure.spec :=
  callOK_of_sig (fn := Try.f66) (Cf := emeasure.C) (K := emeasure.K) (d := 0) (dec := emeasure.dec) (by kernel_rfl) (fun _ => rfl) emeasure.cok (fun _ q hq => by simp [emeasure.C] at hq) emeasure.aok
    (fun N L r h => (emeasure.F_eq N L).trans h) (by kernel_rfl) (fun _ => ⟨rfl, rfl⟩) (fun _ _ => ⟨rfl, rfl⟩)

noncomputable def rclamp.sig : Eng.Sig := { args := [.at (.int .i64 0), .at (.int .i64 1), .at (.int .i64 2)], n := 0, pre := [], post := [], m := 0, ret := .at (.int .i64 0) }
noncomputable def rclamp.C (N : Nat) : Cfg := { P := Try.prog, N := N, RT := noRT, specs := [], inl := [], hi := 0, mv := [] }
abbrev rclamp.R : Type := Int
def rclamp.dec (L : Eng.Leaves) : rclamp.R := (L.i 0)
def rclamp.enc (r : rclamp.R) : Eng.Leaves := mkL [r] [] [] []
noncomputable def rclamp.K (N : Nat) : FCfg := { anns := [], unr := [], lits := [], lets := [] }
noncomputable def rclamp.F (N : Nat) (a : Int) (lo : Int) (hi : Int) : Option rclamp.R :=
  (br (decide (a < lo))
   (some (lo))
   (br (decide (lo > hi))
    (some (lo))
    (br (decide (a > hi))
     (some (hi))
     (some (a)))))
theorem rclamp.F_eq (N : Nat) (L : Eng.Leaves) : evSig (rclamp.C N) (rclamp.K N) 0 Try.f106 rclamp.sig L rclamp.dec = rclamp.F N (L.i 0) (L.i 1) (L.i 2) := by
  kernel_rfl
noncomputable def rclamp.spec : Eng.Spec := rclamp.sig.spec (fun N L => rclamp.F N (L.i 0) (L.i 1) (L.i 2)) rclamp.enc
theorem rclamp.cok (N : Nat) : CfgOK (rclamp.C N) := ⟨fun _ _ _ _ h => by simp [rclamp.C, noRT] at h, wide, by
  simp only [rclamp.C, List.mem_cons, List.not_mem_nil, or_false, forall_eq_or_imp, forall_eq, false_imp_iff, implies_true], fun g hg => by simp [rclamp.C] at hg⟩
theorem rclamp.aok (N : Nat) : AnnsOK (rclamp.K N) := by
  intro q hq
  simp only [rclamp.K, List.mem_cons, List.not_mem_nil, or_false] at hq
theorem rclamp.ok : CallOK Try.prog 106 rclamp.spec :=
  callOK_of_sig (fn := Try.f106) (Cf := rclamp.C) (K := rclamp.K) (d := 0) (dec := rclamp.dec) (by kernel_rfl) (fun _ => rfl) rclamp.cok (fun _ q hq => by simp [rclamp.C] at hq) rclamp.aok
    (fun N L r h => (rclamp.F_eq N L).trans h) (by kernel_rfl) (fun _ => ⟨rfl, rfl⟩) (fun _ _ => ⟨rfl, rfl⟩)

noncomputable def rmul.sig : Eng.Sig := { args := [.at (.int .i64 0), .at (.int .i64 1), .at (.int .i64 2)], n := 0, pre := [], post := [], m := 0, ret := .at (.int .i64 0) }
noncomputable def rmul.C (N : Nat) : Cfg := { P := Try.prog, N := N, RT := noRT, specs := [(106, rclamp.spec)], inl := [], hi := 0, mv := [] }
abbrev rmul.R : Type := Int
def rmul.dec (L : Eng.Leaves) : rmul.R := (L.i 0)
def rmul.enc (r : rmul.R) : Eng.Leaves := mkL [r] [] [] []
noncomputable def rmul.K (N : Nat) : FCfg := { anns := [], unr := [], lits := [], lets := [] }
noncomputable def rmul.F (N : Nat) (a : Int) (b : Int) (s : Int) : Option rmul.R :=
  (obind (Rc.rclamp.F (N) (a) ((-2147483648 : Int)) ((2147483648 : Int))) fun r0 =>
   (obind (Rc.rclamp.F (N) (b) ((-2147483648 : Int)) ((2147483648 : Int))) fun r1 =>
    (br (decide (s < (0 : Int)))
     (some ((0 : Int)))
     (br (decide (s > (62 : Int)))
      (some ((0 : Int)))
      (br (s == (0 : Int))
       (some (Go.IntKind.i64.wrap (r0 * r1)))
       (chk ((0 : Int) ≤ Go.IntKind.u64.wrap (Go.IntKind.i64.wrap (s - (1 : Int))))
        (chk ((0 : Int) ≤ Go.IntKind.u64.wrap s)
         (chk ((0 : Int) ≤ Go.IntKind.u64.wrap s)
          (br (decide (Go.IntKind.i64.wrap (Go.IntKind.i64.wrap (r0 * r1) - Go.IntKind.i64.wrap ((Go.IntKind.i64.wrap (r0 * r1)).fdiv ((2 : Int) ^ min (Go.IntKind.u64.wrap s).toNat Go.IntKind.i64.bits) * (2 : Int) ^ min (Go.IntKind.u64.wrap s).toNat Go.IntKind.i64.bits)) ≥ Go.IntKind.i64.wrap ((1 : Int) * (2 : Int) ^ min (Go.IntKind.u64.wrap (Go.IntKind.i64.wrap (s - (1 : Int)))).toNat Go.IntKind.i64.bits)))
           (some (Go.IntKind.i64.wrap ((Go.IntKind.i64.wrap (r0 * r1)).fdiv ((2 : Int) ^ min (Go.IntKind.u64.wrap s).toNat Go.IntKind.i64.bits) + (1 : Int))))
           (some ((Go.IntKind.i64.wrap (r0 * r1)).fdiv ((2 : Int) ^ min (Go.IntKind.u64.wrap s).toNat Go.IntKind.i64.bits))))))))))))
theorem rmul.F_eq (N : Nat) (L : Eng.Leaves) : evSig (rmul.C N) (rmul.K N) 0 Try.f128 rmul.sig L rmul.dec = rmul.F N (L.i 0) (L.i 1) (L.i 2) := by
  kernel_rfl
noncomputable def rmul.spec : Eng.Spec := rmul.sig.spec (fun N L => rmul.F N (L.i 0) (L.i 1) (L.i 2)) rmul.enc
theorem rmul.cok (N : Nat) : CfgOK (rmul.C N) := ⟨fun _ _ _ _ h => by simp [rmul.C, noRT] at h, wide, by
  simp only [rmul.C, List.mem_cons, List.not_mem_nil, or_false, forall_eq_or_imp, forall_eq, false_imp_iff, implies_true]
  exact ⟨rclamp.ok, by kernel_rfl⟩, fun g hg => by simp [rmul.C] at hg⟩
theorem rmul.aok (N : Nat) : AnnsOK (rmul.K N) := by
  intro q hq
  simp only [rmul.K, List.mem_cons, List.not_mem_nil, or_false] at hq
theorem rmul.ok : CallOK Try.prog 128 rmul.spec :=
  callOK_of_sig (fn := Try.f128) (Cf := rmul.C) (K := rmul.K) (d := 0) (dec := rmul.dec) (by kernel_rfl) (fun _ => rfl) rmul.cok (fun _ q hq => by simp [rmul.C] at hq) rmul.aok
    (fun N L r h => (rmul.F_eq N L).trans h) (by kernel_rfl) (fun _ => ⟨rfl, rfl⟩) (fun _ _ => ⟨rfl, rfl⟩)

noncomputable def rexp2.sig : Eng.Sig := { args := [.at (.int .i64 0)], n := 0, pre := [], post := [], m := 0, ret := .at (.int .i64 0) }
noncomputable def rexp2.C (N : Nat) : Cfg := { P := Try.prog, N := N, RT := noRT, specs := [(106, rclamp.spec), (128, rmul.spec)], inl := [], hi := 0, mv := [] }
abbrev rexp2.R : Type := Int
def rexp2.dec (L : Eng.Leaves) : rexp2.R := (L.i 0)
def rexp2.enc (r : rexp2.R) : Eng.Leaves := mkL [r] [] [] []
abbrev rexp2.loop5.R : Type := Int
noncomputable def rexp2.loop5.ann : Ann := { nx := 20, slots := [(0, .at (.fint .i64 0)), (3, .at (.full 0 true)), (4, .at (.int .i64 0)), (5, .at (.int .i64 1))], blks := [(0, .fints true .i64 0)], mov := [], exId := 0, xslots := [(3, .at (.full 0 true)), (4, .at (.int .i64 0))], xblks := [(0, .fints true .i64 0)], T := rexp2.loop5.R, dec := fun L => (L.i 0), enc := fun r => mkL [r] [] [] [], ret := false }
noncomputable def rexp2.K (N : Nat) : FCfg := { anns := [(5, rexp2.loop5.ann)], unr := [], lits := [], lets := [] }
noncomputable def rexp2.loop5 (N : Nat) : Nat → Int → List Int → Int → Int → Option rexp2.loop5.R
  | 0, _, _, _, _ => none
  | nn + 1, q, l0, s4, s5 =>
  (br (decide (s5 < (8 : Int)))
   (chk ((0 : Int) ≤ Go.IntKind.u64.wrap (Go.IntKind.i64.wrap ((7 : Int) - s5)))
    (br (Go.IntKind.i64.wrap ↑(BitVec.ofInt Go.IntKind.i64.bits (q.fdiv ((2 : Int) ^ min (Go.IntKind.u64.wrap (Go.IntKind.i64.wrap ((7 : Int) - s5))).toNat Go.IntKind.i64.bits)) &&& BitVec.ofInt Go.IntKind.i64.bits (1 : Int)).toNat == (1 : Int))
     (chk ((0 : Int) ≤ s5 ∧ s5 < ↑l0.length)
      (obind (Rc.rmul.F (N) (s4) (l0.getD s5.toNat (0 : Int)) ((30 : Int))) fun r0 =>
       (chkI (q) (q)
       (chkL (l0) (l0)
       (rexp2.loop5 N (nn) (q) (l0) (r0) (Go.IntKind.i64.wrap (s5 + (1 : Int))))))))
     (chkI (q) (q)
     (chkL (l0) (l0)
     (rexp2.loop5 N (nn) (q) (l0) (s4) (Go.IntKind.i64.wrap (s5 + (1 : Int))))))))
   (chkL (l0) (l0)
   (some (s4))))
noncomputable def rexp2.loop5R (N nn : Nat) (q : Int) (l0 : List Int) (s4 : Int) (s5 : Int) : Option rexp2.loop5.R := loopF rexp2.loop5.ann (mkL [q] [] [l0] []) (evCode ((rexp2.C N).inLoop rexp2.loop5.ann) (rexp2.K N) (inlTab (rexp2.C N) 0) (bodyAt 5 Try.f115)) nn (mkL [s4, s5] [] [] [])
theorem rexp2.loop5_eq (N : Nat) : ∀ (nn : Nat) (q : Int) (l0 : List Int) (s4 : Int) (s5 : Int), rexp2.loop5R N nn q l0 s4 s5 = rexp2.loop5 N nn q l0 s4 s5
  | 0, _, _, _, _ => by kernel_rfl
  | nn + 1, q, l0, s4, s5 => by
    have h : rexp2.loop5R N (nn + 1) q l0 s4 s5 =
  (br (decide (s5 < (8 : Int)))
   (chk ((0 : Int) ≤ Go.IntKind.u64.wrap (Go.IntKind.i64.wrap ((7 : Int) - s5)))
    (br (Go.IntKind.i64.wrap ↑(BitVec.ofInt Go.IntKind.i64.bits (q.fdiv ((2 : Int) ^ min (Go.IntKind.u64.wrap (Go.IntKind.i64.wrap ((7 : Int) - s5))).toNat Go.IntKind.i64.bits)) &&& BitVec.ofInt Go.IntKind.i64.bits (1 : Int)).toNat == (1 : Int))
     (chk ((0 : Int) ≤ s5 ∧ s5 < ↑l0.length)
      (obind (Rc.rmul.F (N) (s4) (l0.getD s5.toNat (0 : Int)) ((30 : Int))) fun r0 =>
       (chkI (q) (q)
       (chkL (l0) (l0)
       (rexp2.loop5R N (nn) (q) (l0) (r0) (Go.IntKind.i64.wrap (s5 + (1 : Int))))))))
     (chkI (q) (q)
     (chkL (l0) (l0)
     (rexp2.loop5R N (nn) (q) (l0) (s4) (Go.IntKind.i64.wrap (s5 + (1 : Int))))))))
   (chkL (l0) (l0)
   (some (s4)))) := by kernel_rfl
    rw [h, rexp2.loop5]
    try simp only [rexp2.loop5_eq N nn]
noncomputable def rexp2.F (N : Nat) (q : Int) : Option rexp2.R :=
  (obind (Rc.rclamp.F (N) (q) ((0 : Int)) ((7935 : Int))) fun r0 =>
   (obind (rexp2.loop5 N (N) (r0) ([(1518500250 : Int), (1276901417 : Int), (1170923762 : Int), (1121280436 : Int), (1097253708 : Int), (1085434106 : Int), (1079572136 : Int), (1076653033 : Int)]) ((1073741824 : Int)) ((0 : Int))) fun r1 =>
    (obind (Rc.rmul.F (N) (r1) ((1 : Int)) (Go.IntKind.i64.wrap ((30 : Int) - Go.IntKind.i64.wrap (r0.tdiv (256 : Int))))) fun r2 =>
     (some (r2)))))
theorem rexp2.F_eq (N : Nat) (L : Eng.Leaves) : evSig (rexp2.C N) (rexp2.K N) 0 Try.f115 rexp2.sig L rexp2.dec = rexp2.F N (L.i 0) := by
  have h : ∀ (q : Int), evSig (rexp2.C N) (rexp2.K N) 0 Try.f115 rexp2.sig (mkL [q] [] [] []) rexp2.dec =
  (obind (Rc.rclamp.F (N) (q) ((0 : Int)) ((7935 : Int))) fun r0 =>
   (obind (rexp2.loop5R N (N) (r0) ([(1518500250 : Int), (1276901417 : Int), (1170923762 : Int), (1121280436 : Int), (1097253708 : Int), (1085434106 : Int), (1079572136 : Int), (1076653033 : Int)]) ((1073741824 : Int)) ((0 : Int))) fun r1 =>
    (obind (Rc.rmul.F (N) (r1) ((1 : Int)) (Go.IntKind.i64.wrap ((30 : Int) - Go.IntKind.i64.wrap (r0.tdiv (256 : Int))))) fun r2 =>
     (some (r2))))) := by
    intro q
    kernel_rfl
  have h2 : evSig (rexp2.C N) (rexp2.K N) 0 Try.f115 rexp2.sig L rexp2.dec = evSig (rexp2.C N) (rexp2.K N) 0 Try.f115 rexp2.sig (mkL [L.i 0] [] [] []) rexp2.dec := by kernel_rfl
  rw [h2, h, rexp2.F]
  try simp only [rexp2.loop5_eq N]
noncomputable def rexp2.spec : Eng.Spec := rexp2.sig.spec (fun N L => rexp2.F N (L.i 0)) rexp2.enc
theorem rexp2.cok (N : Nat) : CfgOK (rexp2.C N) := ⟨fun _ _ _ _ h => by simp [rexp2.C, noRT] at h, wide, by
  simp only [rexp2.C, List.mem_cons, List.not_mem_nil, or_false, forall_eq_or_imp, forall_eq, false_imp_iff, implies_true]
  exact ⟨⟨rclamp.ok, by kernel_rfl⟩, ⟨rmul.ok, by kernel_rfl⟩⟩, fun g hg => by simp [rexp2.C] at hg⟩
theorem rexp2.aok (N : Nat) : AnnsOK (rexp2.K N) := by
  intro q hq
  simp only [rexp2.K, List.mem_cons, List.not_mem_nil, or_false] at hq
  subst hq
  exact fun _ _ => ⟨rfl, rfl⟩
theorem rexp2.ok : CallOK Try.prog 115 rexp2.spec :=
  callOK_of_sig (fn := Try.f115) (Cf := rexp2.C) (K := rexp2.K) (d := 0) (dec := rexp2.dec) (by kernel_rfl) (fun _ => rfl) rexp2.cok (fun _ q hq => by simp [rexp2.C] at hq) rexp2.aok
    (fun N L r h => (rexp2.F_eq N L).trans h) (by kernel_rfl) (fun _ => ⟨rfl, rfl⟩) (fun _ _ => ⟨rfl, rfl⟩)

noncomputable def rsqrt.sig : Eng.Sig := { args := [.at (.int .i64 0)], n := 0, pre := [], post := [], m := 0, ret := .at (.int .i64 0) }
noncomputable def rsqrt.C (N : Nat) : Cfg := { P := Try.prog, N := N, RT := noRT, specs := [], inl := [], hi := 0, mv := [] }
abbrev rsqrt.R : Type := Int
def rsqrt.dec (L : Eng.Leaves) : rsqrt.R := (L.i 0)
def rsqrt.enc (r : rsqrt.R) : Eng.Leaves := mkL [r] [] [] []
abbrev rsqrt.loop3.R : Type := Int
noncomputable def rsqrt.loop3.ann : Ann := { nx := 20, slots := [(0, .at (.fint .i64 0)), (3, .at (.int .i64 0)), (4, .at (.int .i64 1))], blks := [], mov := [], exId := 0, xslots := [(3, .at (.int .i64 0))], xblks := [], T := rsqrt.loop3.R, dec := fun L => (L.i 0), enc := fun r => mkL [r] [] [] [], ret := false }
noncomputable def rsqrt.K (N : Nat) : FCfg := { anns := [(3, rsqrt.loop3.ann)], unr := [], lits := [], lets := [] }
noncomputable def rsqrt.loop3 (N : Nat) : Nat → Int → Int → Int → Option rsqrt.loop3.R
  | 0, _, _, _ => none
  | nn + 1, a, s3, s4 =>
  (br (decide (s4 ≥ (0 : Int)))
   (chk ((0 : Int) ≤ Go.IntKind.u64.wrap s4)
    (br (decide (Go.IntKind.i64.wrap (s3 + Go.IntKind.i64.wrap ((1 : Int) * (2 : Int) ^ min (Go.IntKind.u64.wrap s4).toNat Go.IntKind.i64.bits)) ≤ (3037000499 : Int)))
     (br (decide (Go.IntKind.i64.wrap (Go.IntKind.i64.wrap (s3 + Go.IntKind.i64.wrap ((1 : Int) * (2 : Int) ^ min (Go.IntKind.u64.wrap s4).toNat Go.IntKind.i64.bits)) * Go.IntKind.i64.wrap (s3 + Go.IntKind.i64.wrap ((1 : Int) * (2 : Int) ^ min (Go.IntKind.u64.wrap s4).toNat Go.IntKind.i64.bits))) ≤ a))
      (chkI (a) (a)
      (rsqrt.loop3 N (nn) (a) (Go.IntKind.i64.wrap (s3 + Go.IntKind.i64.wrap ((1 : Int) * (2 : Int) ^ min (Go.IntKind.u64.wrap s4).toNat Go.IntKind.i64.bits))) (Go.IntKind.i64.wrap (s4 - (1 : Int)))))
      (chkI (a) (a)
      (rsqrt.loop3 N (nn) (a) (s3) (Go.IntKind.i64.wrap (s4 - (1 : Int))))))
     (chkI (a) (a)
     (rsqrt.loop3 N (nn) (a) (s3) (Go.IntKind.i64.wrap (s4 - (1 : Int)))))))
   (some (s3)))
noncomputable def rsqrt.loop3R (N nn : Nat) (a : Int) (s3 : Int) (s4 : Int) : Option rsqrt.loop3.R := loopF rsqrt.loop3.ann (mkL [a] [] [] []) (evCode ((rsqrt.C N).inLoop rsqrt.loop3.ann) (rsqrt.K N) (inlTab (rsqrt.C N) 0) (bodyAt 3 Try.f119)) nn (mkL [s3, s4] [] [] [])
theorem rsqrt.loop3_eq (N : Nat) : ∀ (nn : Nat) (a : Int) (s3 : Int) (s4 : Int), rsqrt.loop3R N nn a s3 s4 = rsqrt.loop3 N nn a s3 s4
  | 0, _, _, _ => by kernel_rfl
  | nn + 1, a, s3, s4 => by
    have h : rsqrt.loop3R N (nn + 1) a s3 s4 =
  (br (decide (s4 ≥ (0 : Int)))
   (chk ((0 : Int) ≤ Go.IntKind.u64.wrap s4)
    (br (decide (Go.IntKind.i64.wrap (s3 + Go.IntKind.i64.wrap ((1 : Int) * (2 : Int) ^ min (Go.IntKind.u64.wrap s4).toNat Go.IntKind.i64.bits)) ≤ (3037000499 : Int)))
     (br (decide (Go.IntKind.i64.wrap (Go.IntKind.i64.wrap (s3 + Go.IntKind.i64.wrap ((1 : Int) * (2 : Int) ^ min (Go.IntKind.u64.wrap s4).toNat Go.IntKind.i64.bits)) * Go.IntKind.i64.wrap (s3 + Go.IntKind.i64.wrap ((1 : Int) * (2 : Int) ^ min (Go.IntKind.u64.wrap s4).toNat Go.IntKind.i64.bits))) ≤ a))
      (chkI (a) (a)
      (rsqrt.loop3R N (nn) (a) (Go.IntKind.i64.wrap (s3 + Go.IntKind.i64.wrap ((1 : Int) * (2 : Int) ^ min (Go.IntKind.u64.wrap s4).toNat Go.IntKind.i64.bits))) (Go.IntKind.i64.wrap (s4 - (1 : Int)))))
      (chkI (a) (a)
      (rsqrt.loop3R N (nn) (a) (s3) (Go.IntKind.i64.wrap (s4 - (1 : Int))))))
     (chkI (a) (a)
     (rsqrt.loop3R N (nn) (a) (s3) (Go.IntKind.i64.wrap (s4 - (1 : Int)))))))
   (some (s3))) := by kernel_rfl
    rw [h, rsqrt.loop3]
    try simp only [rsqrt.loop3_eq N nn]
noncomputable def rsqrt.F (N : Nat) (a : Int) : Option rsqrt.R :=
  (obind (rsqrt.loop3 N (N) (a) ((0 : Int)) ((31 : Int))) fun r0 =>
   (some (r0)))
theorem rsqrt.F_eq (N : Nat) (L : Eng.Leaves) : evSig (rsqrt.C N) (rsqrt.K N) 0 Try.f119 rsqrt.sig L rsqrt.dec = rsqrt.F N (L.i 0) := by
  have h : ∀ (a : Int), evSig (rsqrt.C N) (rsqrt.K N) 0 Try.f119 rsqrt.sig (mkL [a] [] [] []) rsqrt.dec =
  (obind (rsqrt.loop3R N (N) (a) ((0 : Int)) ((31 : Int))) fun r0 =>
   (some (r0))) := by
    intro a
    kernel_rfl
  have h2 : evSig (rsqrt.C N) (rsqrt.K N) 0 Try.f119 rsqrt.sig L rsqrt.dec = evSig (rsqrt.C N) (rsqrt.K N) 0 Try.f119 rsqrt.sig (mkL [L.i 0] [] [] []) rsqrt.dec := by kernel_rfl
  rw [h2, h, rsqrt.F]
  try simp only [rsqrt.loop3_eq N]
noncomputable def rsqrt.spec : Eng.Spec := rsqrt.sig.spec (fun N L => rsqrt.F N (L.i 0)) rsqrt.enc
theorem rsqrt.cok (N : Nat) : CfgOK (rsqrt.C N) := ⟨fun _ _ _ _ h => by simp [rsqrt.C, noRT] at h, wide, by
  simp only [rsqrt.C, List.mem_cons, List.not_mem_nil, or_false, forall_eq_or_imp, forall_eq, false_imp_iff, implies_true], fun g hg => by simp [rsqrt.C] at hg⟩
theorem rsqrt.aok (N : Nat) : AnnsOK (rsqrt.K N) := by
  intro q hq
  simp only [rsqrt.K, List.mem_cons, List.not_mem_nil, or_false] at hq
  subst hq
  exact fun _ _ => ⟨rfl, rfl⟩
theorem rsqrt.ok : CallOK Try.prog 119 rsqrt.spec :=
  callOK_of_sig (fn := Try.f119) (Cf := rsqrt.C) (K := rsqrt.K) (d := 0) (dec := rsqrt.dec) (by kernel_rfl) (fun _ => rfl) rsqrt.cok (fun _ q hq => by simp [rsqrt.C] at hq) rsqrt.aok
    (fun N L r h => (rsqrt.F_eq N L).trans h) (by kernel_rfl) (fun _ => ⟨rfl, rfl⟩) (fun _ _ => ⟨rfl, rfl⟩)

noncomputable def qfar.sig : Eng.Sig := { args := [.at (.int .i64 0), .at (.int .i64 1)], n := 0, pre := [], post := [], m := 0, ret := .at (.int .u64 0) }
noncomputable def qfar.C (N : Nat) : Cfg := { P := Try.prog, N := N, RT := noRT, specs := [], inl := [], hi := 0, mv := [] }
abbrev qfar.R : Type := Int
def qfar.dec (L : Eng.Leaves) : qfar.R := (L.i 0)
def qfar.enc (r : qfar.R) : Eng.Leaves := mkL [r] [] [] []
noncomputable def qfar.K (N : Nat) : FCfg := { anns := [], unr := [], lits := [], lets := [] }
noncomputable def qfar.F (N : Nat) (v : Int) (w : Int) : Option qfar.R :=
  (br (decide (v ≥ w))
   (some (Go.IntKind.u64.wrap (Go.IntKind.u64.wrap v - Go.IntKind.u64.wrap w)))
   (some (Go.IntKind.u64.wrap (Go.IntKind.u64.wrap w - Go.IntKind.u64.wrap v))))
theorem qfar.F_eq (N : Nat) (L : Eng.Leaves) : evSig (qfar.C N) (qfar.K N) 0 Try.f117 qfar.sig L qfar.dec = qfar.F N (L.i 0) (L.i 1) := by
  kernel_rfl
noncomputable def qfar.spec : Eng.Spec := qfar.sig.spec (fun N L => qfar.F N (L.i 0) (L.i 1)) qfar.enc
theorem qfar.cok (N : Nat) : CfgOK (qfar.C N) := ⟨fun _ _ _ _ h => by simp [qfar.C, noRT] at h, wide, by
  simp only [qfar.C, List.mem_cons, List.not_mem_nil, or_false, forall_eq_or_imp, forall_eq, false_imp_iff, implies_true], fun g hg => by simp [qfar.C] at hg⟩
theorem qfar.aok (N : Nat) : AnnsOK (qfar.K N) := by
  intro q hq
  simp only [qfar.K, List.mem_cons, List.not_mem_nil, or_false] at hq
theorem qfar.ok : CallOK Try.prog 117 qfar.spec :=
  callOK_of_sig (fn := Try.f117) (Cf := qfar.C) (K := qfar.K) (d := 0) (dec := qfar.dec) (by kernel_rfl) (fun _ => rfl) qfar.cok (fun _ q hq => by simp [qfar.C] at hq) qfar.aok
    (fun N L r h => (qfar.F_eq N L).trans h) (by kernel_rfl) (fun _ => ⟨rfl, rfl⟩) (fun _ _ => ⟨rfl, rfl⟩)

noncomputable def hundred.sig : Eng.Sig := { args := [.at (.int .i64 0)], n := 0, pre := [], post := [], m := 0, ret := .at (.int .i64 0) }
noncomputable def hundred.C (N : Nat) : Cfg := { P := Try.prog, N := N, RT := noRT, specs := [(106, rclamp.spec)], inl := [], hi := 0, mv := [] }
abbrev hundred.R : Type := Int
def hundred.dec (L : Eng.Leaves) : hundred.R := (L.i 0)
def hundred.enc (r : hundred.R) : Eng.Leaves := mkL [r] [] [] []
noncomputable def hundred.K (N : Nat) : FCfg := { anns := [], unr := [], lits := [], lets := [] }
noncomputable def hundred.F (N : Nat) (v : Int) : Option hundred.R :=
  (obind (Rc.rclamp.F (N) (v) ((0 : Int)) ((100 : Int))) fun r0 =>
   (some (r0)))
theorem hundred.F_eq (N : Nat) (L : Eng.Leaves) : evSig (hundred.C N) (hundred.K N) 0 Try.f118 hundred.sig L hundred.dec = hundred.F N (L.i 0) := by
  kernel_rfl
noncomputable def hundred.spec : Eng.Spec := hundred.sig.spec (fun N L => hundred.F N (L.i 0)) hundred.enc
theorem hundred.cok (N : Nat) : CfgOK (hundred.C N) := ⟨fun _ _ _ _ h => by simp [hundred.C, noRT] at h, wide, by
  simp only [hundred.C, List.mem_cons, List.not_mem_nil, or_false, forall_eq_or_imp, forall_eq, false_imp_iff, implies_true]
  exact ⟨rclamp.ok, by kernel_rfl⟩, fun g hg => by simp [hundred.C] at hg⟩
theorem hundred.aok (N : Nat) : AnnsOK (hundred.K N) := by
  intro q hq
  simp only [hundred.K, List.mem_cons, List.not_mem_nil, or_false] at hq
theorem hundred.ok : CallOK Try.prog 118 hundred.spec :=
  callOK_of_sig (fn := Try.f118) (Cf := hundred.C) (K := hundred.K) (d := 0) (dec := hundred.dec) (by kernel_rfl) (fun _ => rfl) hundred.cok (fun _ q hq => by simp [hundred.C] at hq) hundred.aok
    (fun N L r h => (hundred.F_eq N L).trans h) (by kernel_rfl) (fun _ => ⟨rfl, rfl⟩) (fun _ _ => ⟨rfl, rfl⟩)

noncomputable def rsize.sig : Eng.Sig := { args := [.at (.int .i64 0)], n := 0, pre := [], post := [], m := 0, ret := .at (.int .i64 0) }
noncomputable def rsize.C (N : Nat) : Cfg := { P := Try.prog, N := N, RT := noRT, specs := [(106, rclamp.spec), (115, rexp2.spec)], inl := [], hi := 0, mv := [] }
abbrev rsize.R : Type := Int
def rsize.dec (L : Eng.Leaves) : rsize.R := (L.i 0)
def rsize.enc (r : rsize.R) : Eng.Leaves := mkL [r] [] [] []
noncomputable def rsize.K (N : Nat) : FCfg := { anns := [], unr := [], lits := [], lets := [] }
noncomputable def rsize.F (N : Nat) (eq : Int) : Option rsize.R :=
  (obind (Rc.rclamp.F (N) (eq) ((0 : Int)) ((100 : Int))) fun r0 =>
   (obind (Rc.rexp2.F (N) (Go.IntKind.i64.wrap ((64 : Int) * r0))) fun r1 =>
    (some (r1))))
theorem rsize.F_eq (N : Nat) (L : Eng.Leaves) : evSig (rsize.C N) (rsize.K N) 0 Try.f68 rsize.sig L rsize.dec = rsize.F N (L.i 0) := by
  kernel_rfl
noncomputable def rsize.spec : Eng.Spec := rsize.sig.spec (fun N L => rsize.F N (L.i 0)) rsize.enc
theorem rsize.cok (N : Nat) : CfgOK (rsize.C N) := ⟨fun _ _ _ _ h => by simp [rsize.C, noRT] at h, wide, by
  simp only [rsize.C, List.mem_cons, List.not_mem_nil, or_false, forall_eq_or_imp, forall_eq, false_imp_iff, implies_true]
  exact ⟨⟨rclamp.ok, by kernel_rfl⟩, ⟨rexp2.ok, by kernel_rfl⟩⟩, fun g hg => by simp [rsize.C] at hg⟩
theorem rsize.aok (N : Nat) : AnnsOK (rsize.K N) := by
  intro q hq
  simp only [rsize.K, List.mem_cons, List.not_mem_nil, or_false] at hq
theorem rsize.ok : CallOK Try.prog 68 rsize.spec :=
  callOK_of_sig (fn := Try.f68) (Cf := rsize.C) (K := rsize.K) (d := 0) (dec := rsize.dec) (by kernel_rfl) (fun _ => rfl) rsize.cok (fun _ q hq => by simp [rsize.C] at hq) rsize.aok
    (fun N L r h => (rsize.F_eq N L).trans h) (by kernel_rfl) (fun _ => ⟨rfl, rfl⟩) (fun _ _ => ⟨rfl, rfl⟩)

noncomputable def rnearest.sig : Eng.Sig := { args := [.at (.int .i64 0)], n := 0, pre := [], post := [], m := 0, ret := .at (.int .i64 0) }
noncomputable def rnearest.C (N : Nat) : Cfg := { P := Try.prog, N := N, RT := noRT, specs := [(68, rsize.spec), (117, qfar.spec)], inl := [], hi := 0, mv := [] }
abbrev rnearest.R : Type := Int
def rnearest.dec (L : Eng.Leaves) : rnearest.R := (L.i 0)
def rnearest.enc (r : rnearest.R) : Eng.Leaves := mkL [r] [] [] []
abbrev rnearest.loop3.R : Type := Int
noncomputable def rnearest.loop3.ann : Ann := { nx := 20, slots := [(0, .at (.fint .i64 0)), (3, .at (.int .i64 0)), (4, .at (.int .i64 1))], blks := [], mov := [], exId := 0, xslots := [(3, .at (.int .i64 0))], xblks := [], T := rnearest.loop3.R, dec := fun L => (L.i 0), enc := fun r => mkL [r] [] [] [], ret := false }
noncomputable def rnearest.K (N : Nat) : FCfg := { anns := [(3, rnearest.loop3.ann)], unr := [], lits := [], lets := [] }
noncomputable def rnearest.loop3 (N : Nat) : Nat → Int → Int → Int → Option rnearest.loop3.R
  | 0, _, _, _ => none
  | nn + 1, v, s3, s4 =>
  (br (decide (s4 ≤ (100 : Int)))
   (obind (Rc.rsize.F (N) (s4)) fun r0 =>
    (obind (Rc.qfar.F (N) (v) (r0)) fun r1 =>
     (obind (Rc.rsize.F (N) (s3)) fun r2 =>
      (obind (Rc.qfar.F (N) (v) (r2)) fun r3 =>
       (br (decide (r1 < r3))
        (chkI (v) (v)
        (rnearest.loop3 N (nn) (v) (s4) (Go.IntKind.i64.wrap (s4 + (1 : Int)))))
        (chkI (v) (v)
        (rnearest.loop3 N (nn) (v) (s3) (Go.IntKind.i64.wrap (s4 + (1 : Int))))))))))
   (some (s3)))
noncomputable def rnearest.loop3R (N nn : Nat) (v : Int) (s3 : Int) (s4 : Int) : Option rnearest.loop3.R := loopF rnearest.loop3.ann (mkL [v] [] [] []) (evCode ((rnearest.C N).inLoop rnearest.loop3.ann) (rnearest.K N) (inlTab (rnearest.C N) 0) (bodyAt 3 Try.f70)) nn (mkL [s3, s4] [] [] [])
theorem rnearest.loop3_eq (N : Nat) : ∀ (nn : Nat) (v : Int) (s3 : Int) (s4 : Int), rnearest.loop3R N nn v s3 s4 = rnearest.loop3 N nn v s3 s4
  | 0, _, _, _ => by kernel_rfl
  | nn + 1, v, s3, s4 => by
    have h : rnearest.loop3R N (nn + 1) v s3 s4 =
  (br (decide (s4 ≤ (100 : Int)))
   (obind (Rc.rsize.F (N) (s4)) fun r0 =>
    (obind (Rc.qfar.F (N) (v) (r0)) fun r1 =>
     (obind (Rc.rsize.F (N) (s3)) fun r2 =>
      (obind (Rc.qfar.F (N) (v) (r2)) fun r3 =>
       (br (decide (r1 < r3))
        (chkI (v) (v)
        (rnearest.loop3R N (nn) (v) (s4) (Go.IntKind.i64.wrap (s4 + (1 : Int)))))
        (chkI (v) (v)
        (rnearest.loop3R N (nn) (v) (s3) (Go.IntKind.i64.wrap (s4 + (1 : Int))))))))))
   (some (s3))) := by kernel_rfl
    rw [h, rnearest.loop3]
    try simp only [rnearest.loop3_eq N nn]
noncomputable def rnearest.F (N : Nat) (v : Int) : Option rnearest.R :=
  (obind (rnearest.loop3 N (N) (v) ((0 : Int)) ((1 : Int))) fun r0 =>
   (some (r0)))
theorem rnearest.F_eq (N : Nat) (L : Eng.Leaves) : evSig (rnearest.C N) (rnearest.K N) 0 Try.f70 rnearest.sig L rnearest.dec = rnearest.F N (L.i 0) := by
  have h : ∀ (v : Int), evSig (rnearest.C N) (rnearest.K N) 0 Try.f70 rnearest.sig (mkL [v] [] [] []) rnearest.dec =
  (obind (rnearest.loop3R N (N) (v) ((0 : Int)) ((1 : Int))) fun r0 =>
   (some (r0))) := by
    intro v
    kernel_rfl
  have h2 : evSig (rnearest.C N) (rnearest.K N) 0 Try.f70 rnearest.sig L rnearest.dec = evSig (rnearest.C N) (rnearest.K N) 0 Try.f70 rnearest.sig (mkL [L.i 0] [] [] []) rnearest.dec := by kernel_rfl
  rw [h2, h, rnearest.F]
  try simp only [rnearest.loop3_eq N]
noncomputable def rnearest.spec : Eng.Spec := rnearest.sig.spec (fun N L => rnearest.F N (L.i 0)) rnearest.enc
theorem rnearest.cok (N : Nat) : CfgOK (rnearest.C N) := ⟨fun _ _ _ _ h => by simp [rnearest.C, noRT] at h, wide, by
  simp only [rnearest.C, List.mem_cons, List.not_mem_nil, or_false, forall_eq_or_imp, forall_eq, false_imp_iff, implies_true]
  exact ⟨⟨rsize.ok, by kernel_rfl⟩, ⟨qfar.ok, by kernel_rfl⟩⟩, fun g hg => by simp [rnearest.C] at hg⟩
theorem rnearest.aok (N : Nat) : AnnsOK (rnearest.K N) := by
  intro q hq
  simp only [rnearest.K, List.mem_cons, List.not_mem_nil, or_false] at hq
  subst hq
  exact fun _ _ => ⟨rfl, rfl⟩
theorem rnearest.ok : CallOK Try.prog 70 rnearest.spec :=
  callOK_of_sig (fn := Try.f70) (Cf := rnearest.C) (K := rnearest.K) (d := 0) (dec := rnearest.dec) (by kernel_rfl) (fun _ => rfl) rnearest.cok (fun _ q hq => by simp [rnearest.C] at hq) rnearest.aok
    (fun N L r h => (rnearest.F_eq N L).trans h) (by kernel_rfl) (fun _ => ⟨rfl, rfl⟩) (fun _ _ => ⟨rfl, rfl⟩)

noncomputable def rexpect.sig : Eng.Sig := { args := [.at (.int .i64 0), .at (.roi .i64 0), .at (.roi .i64 1), .at (.bool 0)], n := 0, pre := [], post := [], m := 0, ret := .at (.int .i64 0) }
noncomputable def rexpect.C (N : Nat) : Cfg := { P := Try.prog, N := N, RT := noRT, specs := [(118, hundred.spec)], inl := [], hi := 0, mv := [] }
abbrev rexpect.R : Type := Int
def rexpect.dec (L : Eng.Leaves) : rexpect.R := (L.i 0)
def rexpect.enc (r : rexpect.R) : Eng.Leaves := mkL [r] [] [] []
noncomputable def rexpect.K (N : Nat) : FCfg := { anns := [], unr := [], lits := [], lets := [] }
noncomputable def rexpect.F (N : Nat) (b : Int) (intra : Bool) (was : List Int) (now : List Int) : Option rexpect.R :=
  (br (decide (b < (0 : Int)))
   (some ((0 : Int)))
   (br (decide (b ≥ ↑was.length))
    (some ((0 : Int)))
    (br (decide (b > ↑now.length))
     (some ((0 : Int)))
     (br (intra)
      (br (b == (0 : Int))
       (some ((30 : Int)))
       (chk ((0 : Int) ≤ Go.IntKind.i64.wrap (b - (1 : Int)) ∧ Go.IntKind.i64.wrap (b - (1 : Int)) < ↑now.length)
        (obind (Rc.hundred.F (N) (now.getD (Go.IntKind.i64.wrap (b - (1 : Int))).toNat (0 : Int))) fun r0 =>
         (obind (Rc.hundred.F (N) (Go.IntKind.i64.wrap (r0 - (2 : Int)))) fun r1 =>
          (some (r1))))))
      (chk ((0 : Int) ≤ (0 : Int) ∧ (0 : Int) < ↑was.length)
       (obind (Rc.hundred.F (N) (was.getD (Int.toNat (0 : Int)) (0 : Int))) fun r2 =>
        (br (decide (b > (0 : Int)))
         (chk ((0 : Int) ≤ Go.IntKind.i64.wrap (b - (1 : Int)) ∧ Go.IntKind.i64.wrap (b - (1 : Int)) < ↑now.length)
          (obind (Rc.hundred.F (N) (now.getD (Go.IntKind.i64.wrap (b - (1 : Int))).toNat (0 : Int))) fun r3 =>
           (chk ((0 : Int) ≤ b ∧ b < ↑was.length)
            (obind (Rc.hundred.F (N) (was.getD b.toNat (0 : Int))) fun r4 =>
             (obind (Rc.hundred.F (N) (Go.IntKind.i64.wrap ((Go.IntKind.i64.wrap (Go.IntKind.i64.wrap ((3 : Int) * r4) + r3)).tdiv (4 : Int)))) fun r5 =>
              (some (r5)))))))
         (chk ((0 : Int) ≤ b ∧ b < ↑was.length)
          (obind (Rc.hundred.F (N) (was.getD b.toNat (0 : Int))) fun r6 =>
           (obind (Rc.hundred.F (N) (Go.IntKind.i64.wrap ((Go.IntKind.i64.wrap (Go.IntKind.i64.wrap ((3 : Int) * r6) + r2)).tdiv (4 : Int)))) fun r7 =>
            (some (r7))))))))))))
theorem rexpect.F_eq (N : Nat) (L : Eng.Leaves) : evSig (rexpect.C N) (rexpect.K N) 0 Try.f71 rexpect.sig L rexpect.dec = rexpect.F N (L.i 0) (L.b 0) (L.l 0) (L.l 1) := by
  kernel_rfl
noncomputable def rexpect.spec : Eng.Spec := rexpect.sig.spec (fun N L => rexpect.F N (L.i 0) (L.b 0) (L.l 0) (L.l 1)) rexpect.enc
theorem rexpect.cok (N : Nat) : CfgOK (rexpect.C N) := ⟨fun _ _ _ _ h => by simp [rexpect.C, noRT] at h, wide, by
  simp only [rexpect.C, List.mem_cons, List.not_mem_nil, or_false, forall_eq_or_imp, forall_eq, false_imp_iff, implies_true]
  exact ⟨hundred.ok, by kernel_rfl⟩, fun g hg => by simp [rexpect.C] at hg⟩
theorem rexpect.aok (N : Nat) : AnnsOK (rexpect.K N) := by
  intro q hq
  simp only [rexpect.K, List.mem_cons, List.not_mem_nil, or_false] at hq
theorem rexpect.ok : CallOK Try.prog 71 rexpect.spec :=
  callOK_of_sig (fn := Try.f71) (Cf := rexpect.C) (K := rexpect.K) (d := 0) (dec := rexpect.dec) (by kernel_rfl) (fun _ => rfl) rexpect.cok (fun _ q hq => by simp [rexpect.C] at hq) rexpect.aok
    (fun N L r h => (rexpect.F_eq N L).trans h) (by kernel_rfl) (fun _ => ⟨rfl, rfl⟩) (fun _ _ => ⟨rfl, rfl⟩)

noncomputable def energies.sig : Eng.Sig := { args := [.at (.ptr 0 0), .at (.roi .i64 0), .at (.bool 0)], n := 1, pre := [(0, .cells 11 [.roi .u8 1, .int .u64 0, .int .u64 1, .int .i64 2, .int .i64 3, .int .i64 4, .int .u64 5, .int .i64 6, .int .i64 7, .bool 1, .int .u64 8])], post := [(0, .cells 11 [.froi .u8 1, .int .u64 0, .int .u64 1, .int .i64 2, .int .i64 3, .fint .i64 4, .fint .u64 5, .fint .i64 6, .int .i64 4, .fbool 1, .int .u64 5]), (1, .ints true .i64 0)], m := 1, ret := .at (.full 1 false) }
noncomputable def energies.C (N : Nat) : Cfg := { P := Try.prog, N := N, RT := noRT, specs := [(71, rexpect.spec), (91, rlaplace.spec), (118, hundred.spec)], inl := [], hi := 1, mv := [] }
abbrev energies.R : Type := Int × Int × Int × Int × Int × Int × List Int
def energies.dec (L : Eng.Leaves) : energies.R := (L.i 0, L.i 1, L.i 2, L.i 3, L.i 4, L.i 5, L.l 0)
def energies.enc (r : energies.R) : Eng.Leaves := mkL [r.1, r.2.1, r.2.2.1, r.2.2.2.1, r.2.2.2.2.1, r.2.2.2.2.2.1] [] [r.2.2.2.2.2.2] []
abbrev energies.loop3.R : Type := Int × Int × Int × Int × Int × Int × List Int
noncomputable def energies.loop3.ann : Ann := { nx := 21, slots := [(0, .at (.ptr 0 0)), (1, .at (.froi .i64 0)), (2, .at (.fbool 0)), (7, .at (.full 20 false)), (8, .at (.int .i64 0))], blks := [(0, .cells 11 [.froi .u8 1, .int .u64 1, .int .u64 2, .int .i64 3, .int .i64 4, .fint .i64 0, .fint .u64 1, .fint .i64 2, .int .i64 5, .fbool 1, .int .u64 6]), (20, .ints true .i64 0)], mov := [20], exId := 0, xslots := [(0, .at (.ptr 0 0)), (7, .at (.full 20 false))], xblks := [(0, .cells 11 [.froi .u8 1, .int .u64 0, .int .u64 1, .int .i64 2, .int .i64 3, .fint .i64 0, .fint .u64 1, .fint .i64 2, .int .i64 4, .fbool 1, .int .u64 5]), (20, .ints true .i64 0)], T := energies.loop3.R, dec := fun L => (L.i 0, L.i 1, L.i 2, L.i 3, L.i 4, L.i 5, L.l 0), enc := fun r => mkL [r.1, r.2.1, r.2.2.1, r.2.2.2.1, r.2.2.2.2.1, r.2.2.2.2.2.1] [] [r.2.2.2.2.2.2] [], ret := false }
noncomputable def energies.K (N : Nat) : FCfg := { anns := [(3, energies.loop3.ann)], unr := [], lits := [], lets := [] }
noncomputable def energies.loop3 (N : Nat) : Nat → Int → Int → Int → Bool → Bool → List Int → List Int → Int → Int → Int → Int → Int → Int → Int → List Int → Option energies.loop3.R
  | 0, _, _, _, _, _, _, _, _, _, _, _, _, _, _, _ => none
  | nn + 1, back, wait, waiting, intra, bad, was, b, s8, rng, val, last, front, count, eq, s7 =>
  (br (decide (s8 < ↑was.length))
   (obind (Rc.rexpect.F (N) (s8) (intra) (was) (s7)) fun r0 =>
    (obind (Rc.rlaplace.F (N) ((12000 : Int)) ((8000 : Int)) (rng) (val) (last) (front) (back) (wait) (waiting) (count) (eq) (bad) (b)) fun r1 =>
     (obind (Rc.hundred.F (N) (Go.IntKind.i64.wrap (r0 + r1.fst))) fun r2 =>
      (chk (s7.length + [r2].length ≤ (17592186043904 : Nat))
       (chkL (was) (was)
       (chkB (intra) (intra)
       (chkL (b) (b)
       (chkI (back) (back)
       (chkI (wait) (wait)
       (chkI (waiting) (waiting)
       (chkB (bad) (bad)
       (energies.loop3 N (nn) (back) (wait) (waiting) (intra) (bad) (was) (b) (Go.IntKind.i64.wrap (s8 + (1 : Int))) (r1.snd.fst) (r1.snd.snd.fst) (r1.snd.snd.snd.fst) (r1.snd.snd.snd.snd.fst) (r1.snd.snd.snd.snd.snd.fst) (r1.snd.snd.snd.snd.snd.snd) (s7 ++ [r2])))))))))))))
   (chkL (b) (b)
   (chkI (back) (back)
   (chkI (wait) (wait)
   (chkI (waiting) (waiting)
   (chkB (bad) (bad)
   (some ((rng, val, last, front, count, eq, s7)))))))))
noncomputable def energies.loop3R (N nn : Nat) (back : Int) (wait : Int) (waiting : Int) (intra : Bool) (bad : Bool) (was : List Int) (b : List Int) (s8 : Int) (rng : Int) (val : Int) (last : Int) (front : Int) (count : Int) (eq : Int) (s7 : List Int) : Option energies.loop3.R := loopF energies.loop3.ann (mkL [back, wait, waiting] [intra, bad] [was, b] []) (evCode ((energies.C N).inLoop energies.loop3.ann) (energies.K N) (inlTab (energies.C N) 0) (bodyAt 3 Try.f74)) nn (mkL [s8, rng, val, last, front, count, eq] [] [s7] [])
theorem energies.loop3_eq (N : Nat) : ∀ (nn : Nat) (back : Int) (wait : Int) (waiting : Int) (intra : Bool) (bad : Bool) (was : List Int) (b : List Int) (s8 : Int) (rng : Int) (val : Int) (last : Int) (front : Int) (count : Int) (eq : Int) (s7 : List Int), energies.loop3R N nn back wait waiting intra bad was b s8 rng val last front count eq s7 = energies.loop3 N nn back wait waiting intra bad was b s8 rng val last front count eq s7
  | 0, _, _, _, _, _, _, _, _, _, _, _, _, _, _, _ => by kernel_rfl
  | nn + 1, back, wait, waiting, intra, bad, was, b, s8, rng, val, last, front, count, eq, s7 => by
    have h : energies.loop3R N (nn + 1) back wait waiting intra bad was b s8 rng val last front count eq s7 =
  (br (decide (s8 < ↑was.length))
   (obind (Rc.rexpect.F (N) (s8) (intra) (was) (s7)) fun r0 =>
    (obind (Rc.rlaplace.F (N) ((12000 : Int)) ((8000 : Int)) (rng) (val) (last) (front) (back) (wait) (waiting) (count) (eq) (bad) (b)) fun r1 =>
     (obind (Rc.hundred.F (N) (Go.IntKind.i64.wrap (r0 + r1.fst))) fun r2 =>
      (chk (s7.length + [r2].length ≤ (17592186043904 : Nat))
       (chkL (was) (was)
       (chkB (intra) (intra)
       (chkL (b) (b)
       (chkI (back) (back)
       (chkI (wait) (wait)
       (chkI (waiting) (waiting)
       (chkB (bad) (bad)
       (energies.loop3R N (nn) (back) (wait) (waiting) (intra) (bad) (was) (b) (Go.IntKind.i64.wrap (s8 + (1 : Int))) (r1.snd.fst) (r1.snd.snd.fst) (r1.snd.snd.snd.fst) (r1.snd.snd.snd.snd.fst) (r1.snd.snd.snd.snd.snd.fst) (r1.snd.snd.snd.snd.snd.snd) (s7 ++ [r2])))))))))))))
   (chkL (b) (b)
   (chkI (back) (back)
   (chkI (wait) (wait)
   (chkI (waiting) (waiting)
   (chkB (bad) (bad)
   (some ((rng, val, last, front, count, eq, s7))))))))) := by kernel_rfl
    rw [h, energies.loop3]
    try simp only [energies.loop3_eq N nn]
noncomputable def energies.F (N : Nat) (rng : Int) (val : Int) (last : Int) (front : Int) (back : Int) (wait : Int) (waiting : Int) (count : Int) (eq : Int) (intra : Bool) (bad : Bool) (was : List Int) (b : List Int) : Option energies.R :=
  (obind (energies.loop3 N (N) (back) (wait) (waiting) (intra) (bad) (was) (b) ((0 : Int)) (rng) (val) (last) (front) (count) (eq) (([] : List Int))) fun r0 =>
   (chkL (b) (b)
   (chkI (back) (back)
   (chkI (wait) (wait)
   (chkI (waiting) (waiting)
   (chkB (bad) (bad)
   (some ((r0.fst, r0.snd.fst, r0.snd.snd.fst, r0.snd.snd.snd.fst, r0.snd.snd.snd.snd.fst, r0.snd.snd.snd.snd.snd.fst, r0.snd.snd.snd.snd.snd.snd)))))))))
theorem energies.F_eq (N : Nat) (L : Eng.Leaves) : evSig (energies.C N) (energies.K N) 0 Try.f74 energies.sig L energies.dec = energies.F N (L.i 0) (L.i 1) (L.i 2) (L.i 3) (L.i 4) (L.i 5) (L.i 6) (L.i 7) (L.i 8) (L.b 0) (L.b 1) (L.l 0) (L.l 1) := by
  have h : ∀ (rng : Int) (val : Int) (last : Int) (front : Int) (back : Int) (wait : Int) (waiting : Int) (count : Int) (eq : Int) (intra : Bool) (bad : Bool) (was : List Int) (b : List Int), evSig (energies.C N) (energies.K N) 0 Try.f74 energies.sig (mkL [rng, val, last, front, back, wait, waiting, count, eq] [intra, bad] [was, b] []) energies.dec =
  (obind (energies.loop3R N (N) (back) (wait) (waiting) (intra) (bad) (was) (b) ((0 : Int)) (rng) (val) (last) (front) (count) (eq) (([] : List Int))) fun r0 =>
   (chkL (b) (b)
   (chkI (back) (back)
   (chkI (wait) (wait)
   (chkI (waiting) (waiting)
   (chkB (bad) (bad)
   (some ((r0.fst, r0.snd.fst, r0.snd.snd.fst, r0.snd.snd.snd.fst, r0.snd.snd.snd.snd.fst, r0.snd.snd.snd.snd.snd.fst, r0.snd.snd.snd.snd.snd.snd))))))))) := by
    intro rng val last front back wait waiting count eq intra bad was b
    kernel_rfl
  have h2 : evSig (energies.C N) (energies.K N) 0 Try.f74 energies.sig L energies.dec = evSig (energies.C N) (energies.K N) 0 Try.f74 energies.sig (mkL [L.i 0, L.i 1, L.i 2, L.i 3, L.i 4, L.i 5, L.i 6, L.i 7, L.i 8] [L.b 0, L.b 1] [L.l 0, L.l 1] []) energies.dec := by kernel_rfl
  rw [h2, h, energies.F]
  try simp only [energies.loop3_eq N]
noncomputable def energies.spec : Eng.Spec := energies.sig.spec (fun N L => energies.F N (L.i 0) (L.i 1) (L.i 2) (L.i 3) (L.i 4) (L.i 5) (L.i 6) (L.i 7) (L.i 8) (L.b 0) (L.b 1) (L.l 0) (L.l 1)) energies.enc
theorem energies.cok (N : Nat) : CfgOK (energies.C N) := ⟨fun _ _ _ _ h => by simp [energies.C, noRT] at h, wide, by
  simp only [energies.C, List.mem_cons, List.not_mem_nil, or_false, forall_eq_or_imp, forall_eq, false_imp_iff, implies_true]
  exact ⟨⟨rexpect.ok, by kernel_rfl⟩, ⟨rlaplace.ok, by kernel_rfl⟩, ⟨hundred.ok, by kernel_rfl⟩⟩, fun g hg => by simp [energies.C] at hg⟩
theorem energies.aok (N : Nat) : AnnsOK (energies.K N) := by
  intro q hq
  simp only [energies.K, List.mem_cons, List.not_mem_nil, or_false] at hq
  subst hq
  exact fun _ _ => ⟨rfl, rfl⟩
theorem energies.ok : CallOK Try.prog 74 energies.spec :=
  callOK_of_sig (fn := Try.f74) (Cf := energies.C) (K := energies.K) (d := 0) (dec := energies.dec) (by kernel_rfl) (fun _ => rfl) energies.cok (fun _ q hq => by simp [energies.C] at hq) energies.aok
    (fun N L r h => (energies.F_eq N L).trans h) (by kernel_rfl) (fun _ => ⟨rfl, rfl⟩) (fun _ _ => ⟨rfl, rfl⟩)

noncomputable def rmeasure.sig : Eng.Sig := { args := [.at (.roi .i64 0)], n := 0, pre := [], post := [], m := 0, ret := .at (.int .i64 0) }
noncomputable def rmeasure.C (N : Nat) : Cfg := { P := Try.prog, N := N, RT := noRT, specs := [(106, rclamp.spec), (119, rsqrt.spec), (70, rnearest.spec)], inl := [], hi := 0, mv := [] }
abbrev rmeasure.R : Type := Int
def rmeasure.dec (L : Eng.Leaves) : rmeasure.R := (L.i 0)
def rmeasure.enc (r : rmeasure.R) : Eng.Leaves := mkL [r] [] [] []
abbrev rmeasure.loop8.R : Type := Int × Int
noncomputable def rmeasure.loop8.ann : Ann := { nx := 20, slots := [(0, .at (.froi .i64 0)), (3, .at (.int .i64 0)), (4, .at (.int .i64 1)), (5, .at (.int .i64 2))], blks := [], mov := [], exId := 0, xslots := [(3, .at (.int .i64 0)), (4, .at (.int .i64 1))], xblks := [], T := rmeasure.loop8.R, dec := fun L => (L.i 0, L.i 1), enc := fun r => mkL [r.1, r.2] [] [] [], ret := false }
noncomputable def rmeasure.K (N : Nat) : FCfg := { anns := [(8, rmeasure.loop8.ann)], unr := [], lits := [], lets := [] }
noncomputable def rmeasure.loop8 (N : Nat) : Nat → List Int → Int → Int → Int → Option rmeasure.loop8.R
  | 0, _, _, _, _ => none
  | nn + 1, f, s3, s4, s5 =>
  (br (decide (s5 < ↑f.length))
   (chk ((0 : Int) ≤ s5 ∧ s5 < ↑f.length)
    (obind (Rc.rclamp.F (N) (f.getD s5.toNat (0 : Int)) ((-1073741824 : Int)) ((1073741824 : Int))) fun r0 =>
     (chk (↑f.length ≠ (0 : Int))
      (chk (↑f.length ≠ (0 : Int))
       (chkL (f) (f)
       (rmeasure.loop8 N (nn) (f) (Go.IntKind.i64.wrap (s3 + Go.IntKind.i64.wrap ((Go.IntKind.i64.wrap (r0 * r0)).tdiv ↑f.length))) (Go.IntKind.i64.wrap (s4 + (Go.IntKind.i64.wrap (r0 * r0)).tmod ↑f.length)) (Go.IntKind.i64.wrap (s5 + (1 : Int)))))))))
   (some ((s3, s4))))
noncomputable def rmeasure.loop8R (N nn : Nat) (f : List Int) (s3 : Int) (s4 : Int) (s5 : Int) : Option rmeasure.loop8.R := loopF rmeasure.loop8.ann (mkL [] [] [f] []) (evCode ((rmeasure.C N).inLoop rmeasure.loop8.ann) (rmeasure.K N) (inlTab (rmeasure.C N) 0) (bodyAt 8 Try.f72)) nn (mkL [s3, s4, s5] [] [] [])
theorem rmeasure.loop8_eq (N : Nat) : ∀ (nn : Nat) (f : List Int) (s3 : Int) (s4 : Int) (s5 : Int), rmeasure.loop8R N nn f s3 s4 s5 = rmeasure.loop8 N nn f s3 s4 s5
  | 0, _, _, _, _ => by kernel_rfl
  | nn + 1, f, s3, s4, s5 => by
    have h : rmeasure.loop8R N (nn + 1) f s3 s4 s5 =
  (br (decide (s5 < ↑f.length))
   (chk ((0 : Int) ≤ s5 ∧ s5 < ↑f.length)
    (obind (Rc.rclamp.F (N) (f.getD s5.toNat (0 : Int)) ((-1073741824 : Int)) ((1073741824 : Int))) fun r0 =>
     (chk (↑f.length ≠ (0 : Int))
      (chk (↑f.length ≠ (0 : Int))
       (chkL (f) (f)
       (rmeasure.loop8R N (nn) (f) (Go.IntKind.i64.wrap (s3 + Go.IntKind.i64.wrap ((Go.IntKind.i64.wrap (r0 * r0)).tdiv ↑f.length))) (Go.IntKind.i64.wrap (s4 + (Go.IntKind.i64.wrap (r0 * r0)).tmod ↑f.length)) (Go.IntKind.i64.wrap (s5 + (1 : Int)))))))))
   (some ((s3, s4)))) := by kernel_rfl
    rw [h, rmeasure.loop8]
    try simp only [rmeasure.loop8_eq N nn]
noncomputable def rmeasure.F (N : Nat) (f : List Int) : Option rmeasure.R :=
  (br (decide (↑f.length > (1000 : Int)))
   (chk ((0 : Int) ≤ (1000 : Int) ∧ (1000 : Int) ≤ ↑f.length)
    (br (↑(List.take (Int.toNat (1000 : Int) - (0 : Nat)) (List.drop (0 : Nat) f)).length == (0 : Int))
     (some ((0 : Int)))
     (obind (rmeasure.loop8 N (N) (List.take (Int.toNat (1000 : Int) - (0 : Nat)) (List.drop (0 : Nat) f)) ((0 : Int)) ((0 : Int)) ((0 : Int))) fun r0 =>
      (chk (↑(List.take (Int.toNat (1000 : Int) - (0 : Nat)) (List.drop (0 : Nat) f)).length ≠ (0 : Int))
       (obind (Rc.rsqrt.F (N) (Go.IntKind.i64.wrap (r0.fst + Go.IntKind.i64.wrap (r0.snd.tdiv ↑(List.take (Int.toNat (1000 : Int) - (0 : Nat)) (List.drop (0 : Nat) f)).length)))) fun r1 =>
        (obind (Rc.rnearest.F (N) (r1)) fun r2 =>
         (some (r2))))))))
   (br (↑f.length == (0 : Int))
    (some ((0 : Int)))
    (obind (rmeasure.loop8 N (N) (f) ((0 : Int)) ((0 : Int)) ((0 : Int))) fun r3 =>
     (chk (↑f.length ≠ (0 : Int))
      (obind (Rc.rsqrt.F (N) (Go.IntKind.i64.wrap (r3.fst + Go.IntKind.i64.wrap (r3.snd.tdiv ↑f.length)))) fun r4 =>
       (obind (Rc.rnearest.F (N) (r4)) fun r5 =>
        (some (r5))))))))
theorem rmeasure.F_eq (N : Nat) (L : Eng.Leaves) : evSig (rmeasure.C N) (rmeasure.K N) 0 Try.f72 rmeasure.sig L rmeasure.dec = rmeasure.F N (L.l 0) := by
  have h : ∀ (f : List Int), evSig (rmeasure.C N) (rmeasure.K N) 0 Try.f72 rmeasure.sig (mkL [] [] [f] []) rmeasure.dec =
  (br (decide (↑f.length > (1000 : Int)))
   (chk ((0 : Int) ≤ (1000 : Int) ∧ (1000 : Int) ≤ ↑f.length)
    (br (↑(List.take (Int.toNat (1000 : Int) - (0 : Nat)) (List.drop (0 : Nat) f)).length == (0 : Int))
     (some ((0 : Int)))
     (obind (rmeasure.loop8R N (N) (List.take (Int.toNat (1000 : Int) - (0 : Nat)) (List.drop (0 : Nat) f)) ((0 : Int)) ((0 : Int)) ((0 : Int))) fun r0 =>
      (chk (↑(List.take (Int.toNat (1000 : Int) - (0 : Nat)) (List.drop (0 : Nat) f)).length ≠ (0 : Int))
       (obind (Rc.rsqrt.F (N) (Go.IntKind.i64.wrap (r0.fst + Go.IntKind.i64.wrap (r0.snd.tdiv ↑(List.take (Int.toNat (1000 : Int) - (0 : Nat)) (List.drop (0 : Nat) f)).length)))) fun r1 =>
        (obind (Rc.rnearest.F (N) (r1)) fun r2 =>
         (some (r2))))))))
   (br (↑f.length == (0 : Int))
    (some ((0 : Int)))
    (obind (rmeasure.loop8R N (N) (f) ((0 : Int)) ((0 : Int)) ((0 : Int))) fun r3 =>
     (chk (↑f.length ≠ (0 : Int))
      (obind (Rc.rsqrt.F (N) (Go.IntKind.i64.wrap (r3.fst + Go.IntKind.i64.wrap (r3.snd.tdiv ↑f.length)))) fun r4 =>
       (obind (Rc.rnearest.F (N) (r4)) fun r5 =>
        (some (r5)))))))) := by
    intro f
    kernel_rfl
  have h2 : evSig (rmeasure.C N) (rmeasure.K N) 0 Try.f72 rmeasure.sig L rmeasure.dec = evSig (rmeasure.C N) (rmeasure.K N) 0 Try.f72 rmeasure.sig (mkL [] [] [L.l 0] []) rmeasure.dec := by kernel_rfl
  rw [h2, h, rmeasure.F]
  try simp only [rmeasure.loop8_eq N]
noncomputable def rmeasure.spec : Eng.Spec := rmeasure.sig.spec (fun N L => rmeasure.F N (L.l 0)) rmeasure.enc
theorem rmeasure.cok (N : Nat) : CfgOK (rmeasure.C N) := ⟨fun _ _ _ _ h => by simp [rmeasure.C, noRT] at h, wide, by
  simp only [rmeasure.C, List.mem_cons, List.not_mem_nil, or_false, forall_eq_or_imp, forall_eq, false_imp_iff, implies_true]
  exact ⟨⟨rclamp.ok, by kernel_rfl⟩, ⟨rsqrt.ok, by kernel_rfl⟩, ⟨rnearest.ok, by kernel_rfl⟩⟩, fun g hg => by simp [rmeasure.C] at hg⟩
theorem rmeasure.aok (N : Nat) : AnnsOK (rmeasure.K N) := by
  intro q hq
  simp only [rmeasure.K, List.mem_cons, List.not_mem_nil, or_false] at hq
  subst hq
  exact fun _ _ => ⟨rfl, rfl⟩
theorem rmeasure.ok : CallOK Try.prog 72 rmeasure.spec :=
  callOK_of_sig (fn := Try.f72) (Cf := rmeasure.C) (K := rmeasure.K) (d := 0) (dec := rmeasure.dec) (by kernel_rfl) (fun _ => rfl) rmeasure.cok (fun _ q hq => by simp [rmeasure.C] at hq) rmeasure.aok
    (fun N L r h => (rmeasure.F_eq N L).trans h) (by kernel_rfl) (fun _ => ⟨rfl, rfl⟩) (fun _ _ => ⟨rfl, rfl⟩)

noncomputable def ints19.sig : Eng.Sig := { args := [.at (.roi .i64 0), .at (.roi .i64 1)], n := 0, pre := [], post := [], m := 0, ret := .at (.bool 0) }
noncomputable def ints19.C (N : Nat) : Cfg := { P := Try.prog, N := N, RT := noRT, specs := [], inl := [], hi := 0, mv := [] }
abbrev ints19.R : Type := Bool
def ints19.dec (L : Eng.Leaves) : ints19.R := (L.b 0)
def ints19.enc (r : ints19.R) : Eng.Leaves := mkL [] [r] [] []
abbrev ints19.loop4.R : Type := Bool
noncomputable def ints19.loop4.ann : Ann := { nx := 20, slots := [(0, .at (.froi .i64 0)), (1, .at (.froi .i64 1)), (4, .at (.bool 0)), (5, .at (.int .i64 0))], blks := [], mov := [], exId := 0, xslots := [(4, .at (.bool 0))], xblks := [], T := ints19.loop4.R, dec := fun L => (L.b 0), enc := fun r => mkL [] [r] [] [], ret := true }
noncomputable def ints19.K (N : Nat) : FCfg := { anns := [(4, ints19.loop4.ann)], unr := [], lits := [], lets := [] }
noncomputable def ints19.loop4 (N : Nat) : Nat → List Int → List Int → List Int → List Int → Int → Bool → Option (ints19.loop4.R ⊕ ints19.R)
  | 0, _, _, _, _, _, _ => none
  | nn + 1, e_a, e_b, a, b, s5, s4 =>
  (br (decide (s5 < ↑a.length))
   (chk ((0 : Int) ≤ s5 ∧ s5 < ↑a.length)
    (chk ((0 : Int) ≤ s5 ∧ s5 < ↑b.length)
     (br (a.getD s5.toNat (0 : Int) != b.getD s5.toNat (0 : Int))
      (omap
       (some (false)) .inr)
      (chkL (a) (a)
      (chkL (b) (b)
      (ints19.loop4 N (nn) e_a e_b (a) (b) (Go.IntKind.i64.wrap (s5 + (1 : Int))) (s4)))))))
   (some (Sum.inl s4)))
noncomputable def ints19.loop4R (N nn : Nat) (e_a : List Int) (e_b : List Int) (a : List Int) (b : List Int) (s5 : Int) (s4 : Bool) : Option (ints19.loop4.R ⊕ ints19.R) := loopR ints19.loop4.ann (mkL [] [] [a, b] []) (evCode ((ints19.C N).inLoop ints19.loop4.ann) (ints19.K N) (inlTab (ints19.C N) 0) (bodyAt 4 Try.f73)) (sigKr Try.prog Try.f73 ints19.sig (mkL [] [] [e_a, e_b] []) fun L => (L.b 0)) nn (mkL [s5] [s4] [] [])
theorem ints19.loop4_eq (N : Nat) : ∀ (nn : Nat) (e_a : List Int) (e_b : List Int) (a : List Int) (b : List Int) (s5 : Int) (s4 : Bool), ints19.loop4R N nn e_a e_b a b s5 s4 = ints19.loop4 N nn e_a e_b a b s5 s4
  | 0, _, _, _, _, _, _ => by kernel_rfl
  | nn + 1, e_a, e_b, a, b, s5, s4 => by
    have h : ints19.loop4R N (nn + 1) e_a e_b a b s5 s4 =
  (br (decide (s5 < ↑a.length))
   (chk ((0 : Int) ≤ s5 ∧ s5 < ↑a.length)
    (chk ((0 : Int) ≤ s5 ∧ s5 < ↑b.length)
     (br (a.getD s5.toNat (0 : Int) != b.getD s5.toNat (0 : Int))
      (omap
       (some (false)) .inr)
      (chkL (a) (a)
      (chkL (b) (b)
      (ints19.loop4R N (nn) e_a e_b (a) (b) (Go.IntKind.i64.wrap (s5 + (1 : Int))) (s4)))))))
   (some (Sum.inl s4))) := by kernel_rfl
    rw [h, ints19.loop4]
    try simp only [ints19.loop4_eq N nn]
noncomputable def ints19.F (N : Nat) (a : List Int) (b : List Int) : Option ints19.R :=
  (br ((a.length : Int) != ↑b.length)
   (some (false))
   (osum (ints19.loop4 N (N) a b (a) (b) ((0 : Int)) (false)) fun r0 =>
    (some (true))))
theorem ints19.F_eq (N : Nat) (L : Eng.Leaves) : evSig (ints19.C N) (ints19.K N) 0 Try.f73 ints19.sig L ints19.dec = ints19.F N (L.l 0) (L.l 1) := by
  have h : ∀ (a : List Int) (b : List Int), evSig (ints19.C N) (ints19.K N) 0 Try.f73 ints19.sig (mkL [] [] [a, b] []) ints19.dec =
  (br ((a.length : Int) != ↑b.length)
   (some (false))
   (osum (ints19.loop4R N (N) a b (a) (b) ((0 : Int)) (false)) fun r0 =>
    (some (true)))) := by
    intro a b
    kernel_rfl
  have h2 : evSig (ints19.C N) (ints19.K N) 0 Try.f73 ints19.sig L ints19.dec = evSig (ints19.C N) (ints19.K N) 0 Try.f73 ints19.sig (mkL [] [] [L.l 0, L.l 1] []) ints19.dec := by kernel_rfl
  rw [h2, h, ints19.F]
  try simp only [ints19.loop4_eq N]
noncomputable def ints19.spec : Eng.Spec := ints19.sig.spec (fun N L => ints19.F N (L.l 0) (L.l 1)) ints19.enc
theorem ints19.cok (N : Nat) : CfgOK (ints19.C N) := ⟨fun _ _ _ _ h => by simp [ints19.C, noRT] at h, wide, by
  simp only [ints19.C, List.mem_cons, List.not_mem_nil, or_false, forall_eq_or_imp, forall_eq, false_imp_iff, implies_true], fun g hg => by simp [ints19.C] at hg⟩
theorem ints19.aok (N : Nat) : AnnsOK (ints19.K N) := by
  intro q hq
  simp only [ints19.K, List.mem_cons, List.not_mem_nil, or_false] at hq
  subst hq
  exact fun _ _ => ⟨rfl, rfl⟩
theorem ints19.ok : CallOK Try.prog 73 ints19.spec :=
  callOK_of_sig (fn := Try.f73) (Cf := ints19.C) (K := ints19.K) (d := 0) (dec := ints19.dec) (by kernel_rfl) (fun _ => rfl) ints19.cok (fun _ q hq => by simp [ints19.C] at hq) ints19.aok
    (fun N L r h => (ints19.F_eq N L).trans h) (by kernel_rfl) (fun _ => ⟨rfl, rfl⟩) (fun _ _ => ⟨rfl, rfl⟩)

noncomputable def awake19.sig : Eng.Sig := { args := [], n := 0, pre := [], post := [], m := 0, ret := .at (.bool 0) }
noncomputable def awake19.C (N : Nat) : Cfg := { P := Try.prog, N := N, RT := noRT, specs := [(26, enew.spec), (64, ewrite.spec), (29, edone.spec), (30, new.spec), (63, eread.spec), (73, ints19.spec), (67, esize.spec), (69, enearest.spec), (65, eexpect.spec), (66, emeasure.spec)], inl := [], hi := 0, mv := [] }
abbrev awake19.R : Type := Bool
def awake19.dec (L : Eng.Leaves) : awake19.R := (L.b 0)
def awake19.enc (r : awake19.R) : Eng.Leaves := mkL [] [r] [] []
noncomputable def awake19.K (N : Nat) : FCfg := { anns := [], unr := [], lits := [], lets := [] }
noncomputable def awake19.F (N : Nat)  : Option awake19.R :=
  (obind (Rc.enew.F (N)) fun r0 =>
   (obind (Rc.ewrite.F (N) (r0.fst) (r0.snd.fst) (r0.snd.snd.fst) (r0.snd.snd.snd.fst) (true) ([(40 : Int), (42 : Int), (10 : Int)]) ([(30 : Int), (30 : Int), (30 : Int)]) (r0.snd.snd.snd.snd.fst) (r0.snd.snd.snd.snd.snd)) fun r1 =>
    (obind (Rc.edone.F (N) ((40 : Int)) (r1.snd.fst) (r1.snd.snd.fst) (r1.snd.snd.snd.fst) (r1.snd.snd.snd.snd.fst) (r1.snd.snd.snd.snd.snd.snd.snd) (r1.snd.snd.snd.snd.snd.fst)) fun r2 =>
     (br (r1.fst != (0 : Int))
      (some (false))
      (br (r2.fst != (0 : Int))
       (some (false))
       (br (↑r1.snd.snd.snd.snd.snd.snd.fst.length != (3 : Int))
        (some (false))
        (obind (Rc.new.F (N) (r2.snd)) fun r3 =>
         (obind (Rc.eread.F (N) (r3.fst) (r3.snd.fst) (r3.snd.snd.fst) (r3.snd.snd.snd.fst) (r3.snd.snd.snd.snd.fst) (r3.snd.snd.snd.snd.snd.fst) (r3.snd.snd.snd.snd.snd.snd.fst) (r3.snd.snd.snd.snd.snd.snd.snd.fst) (true) (r3.snd.snd.snd.snd.snd.snd.snd.snd.fst) ([(30 : Int), (30 : Int), (30 : Int)]) (r3.snd.snd.snd.snd.snd.snd.snd.snd.snd)) fun r4 =>
          (br (r4.fst == (0 : Int))
           (obind (Rc.ints19.F (N) (r1.snd.snd.snd.snd.snd.snd.fst) (r4.snd.snd.snd.snd.snd.snd)) fun r5 =>
            (br (r5)
             (chk ((0 : Int) ≤ (0 : Int) ∧ (0 : Int) < ↑r1.snd.snd.snd.snd.snd.snd.fst.length)
              (br (r1.snd.snd.snd.snd.snd.snd.fst.getD (Int.toNat (0 : Int)) (0 : Int) == (40 : Int))
               (obind (Rc.esize.F (N) ((0 : Int))) fun r6 =>
                (br (r6 == (1 : Int))
                 (obind (Rc.esize.F (N) ((4 : Int))) fun r7 =>
                  (br (r7 == (2 : Int))
                   (obind (Rc.enearest.F (N) ((2 : Int))) fun r8 =>
                    (br (r8 == (3 : Int))
                     (obind (Rc.eexpect.F (N) ((0 : Int)) (false) ([(7 : Int)]) (([] : List Int))) fun r9 =>
                      (br (r9 == (7 : Int))
                       (obind (Rc.emeasure.F (N) ([(3 : Int), (-3 : Int)])) fun r10 =>
                        (some (r10 == (6 : Int))))
                       (some (false))))
                     (some (false))))
                   (some (false))))
                 (some (false))))
               (some (false))))
             (some (false))))
           (some (false)))))))))))
theorem awake19.F_eq (N : Nat) (L : Eng.Leaves) : evSig (awake19.C N) (awake19.K N) 0 Try.f62 awake19.sig L awake19.dec = awake19.F N  := by
  kernel_rfl
noncomputable def awake19.spec : Eng.Spec := awake19.sig.spec (fun N L => awake19.F N ) awake19.enc
theorem awake19.cok (N : Nat) : CfgOK (awake19.C N) := ⟨fun _ _ _ _ h => by simp [awake19.C, noRT] at h, wide, by
  simp only [awake19.C, List.mem_cons, List.not_mem_nil, or_false, forall_eq_or_imp, forall_eq, false_imp_iff, implies_true]
  exact ⟨⟨enew.ok, by kernel_rfl⟩, ⟨ewrite.ok, by kernel_rfl⟩, ⟨edone.ok, by kernel_rfl⟩, ⟨new.ok, by kernel_rfl⟩, ⟨eread.ok, by kernel_rfl⟩, ⟨ints19.ok, by kernel_rfl⟩, ⟨esize.ok, by kernel_rfl⟩, ⟨enearest.ok, by kernel_rfl⟩, ⟨eexpect.ok, by kernel_rfl⟩, ⟨emeasure.ok, by kernel_rfl⟩⟩, fun g hg => by simp [awake19.C] at hg⟩
theorem awake19.aok (N : Nat) : AnnsOK (awake19.K N) := by
  intro q hq
  simp only [awake19.K, List.mem_cons, List.not_mem_nil, or_false] at hq
theorem awake19.ok : CallOK Try.prog 62 awake19.spec :=
  callOK_of_sig (fn := Try.f62) (Cf := awake19.C) (K := awake19.K) (d := 0) (dec := awake19.dec) (by kernel_rfl) (fun _ => rfl) awake19.cok (fun _ q hq => by simp [awake19.C] at hq) awake19.aok
    (fun N L r h => (awake19.F_eq N L).trans h) (by kernel_rfl) (fun _ => ⟨rfl, rfl⟩) (fun _ _ => ⟨rfl, rfl⟩)

end Go.Proofs.Rc
