/-
  Functions of the program: what each comes to, and its contract (written by a program).
  Conditions: none: each contract is proved for every input of its shape.
-/
import Derived.Test.YtlbdcahecabfkaaEngFn
import Derived.Laws.Externs
import Derived.Test.YtlbdcahecabfkaaProg
import Derived.Test.YtlbdcahecabfkaaRencFns
namespace Go.Proofs.Rc
open Go.Eng
set_option maxRecDepth 100000
set_option linter.unusedVariables false
set_option linter.unusedSimpArgs false
noncomputable def clamp.sig : Eng.Sig := { args := [.at (.int .i64 0), .at (.int .i64 1), .at (.int .i64 2)], n := 0, pre := [], post := [], m := 0, ret := .at (.int .i64 0) }
noncomputable def clamp.C (N : Nat) : Cfg := { P := Try.prog, N := N, RT := noRT, specs := [], inl := [], hi := 0, mv := [] }
abbrev clamp.R : Type := Int
def clamp.dec (L : Eng.Leaves) : clamp.R := (L.i 0)
def clamp.enc (r : clamp.R) : Eng.Leaves := mkL [r] [] [] []
noncomputable def clamp.K (N : Nat) : FCfg := { anns := [], unr := [], lits := [], lets := [] }
noncomputable def clamp.F (N : Nat) (a : Int) (lo : Int) (hi : Int) : Option clamp.R :=
  (br (decide (lo > hi))
   (some (lo))
   (br (decide (a < lo))
    (some (lo))
    (br (decide (a > hi))
     (some (hi))
     (some (a)))))
theorem clamp.F_eq (N : Nat) (L : Eng.Leaves) : evSig (clamp.C N) (clamp.K N) 0 Try.f106 clamp.sig L clamp.dec = clamp.F N (L.i 0) (L.i 1) (L.i 2) := by
  kernel_rfl
noncomputable def clamp.spec : Eng.Spec := clamp.sig.spec (fun N L => clamp.F N (L.i 0) (L.i 1) (L.i 2)) clamp.enc
theorem clamp.cok (N : Nat) : CfgOK (clamp.C N) := ⟨fun _ _ _ _ h => by simp [clamp.C, noRT] at h, wide, by
  simp only [clamp.C, List.mem_cons, List.not_mem_nil, or_false, forall_eq_or_imp, forall_eq, false_imp_iff, implies_true], fun g hg => by simp [clamp.C] at hg, fun m hm => by simp [clamp.C] at hm⟩
theorem clamp.aok (N : Nat) : AnnsOK (clamp.K N) := by
  intro q hq
  simp only [clamp.K, List.mem_cons, List.not_mem_nil, or_false] at hq
theorem clamp.ok : CallOK Try.prog 106 clamp.spec :=
  callOK_of_sig (fn := Try.f106) (Cf := clamp.C) (K := clamp.K) (d := 0) (dec := clamp.dec) (by kernel_rfl) (fun _ => rfl) clamp.cok (fun _ q hq => by simp [clamp.C] at hq) clamp.aok
    (fun N L r h => (clamp.F_eq N L).trans h) (by kernel_rfl) (fun _ => ⟨rfl, rfl⟩) (fun _ _ => ⟨rfl, rfl⟩)

noncomputable def factor.sig : Eng.Sig := { args := [.at (.int .i64 0)], n := 0, pre := [], post := [], m := 0, ret := .at (.int .i64 0) }
noncomputable def factor.C (N : Nat) : Cfg := { P := Try.prog, N := N, RT := noRT, specs := [(106, clamp.spec)], inl := [], hi := 0, mv := [] }
abbrev factor.R : Type := Int
def factor.dec (L : Eng.Leaves) : factor.R := (L.i 0)
def factor.enc (r : factor.R) : Eng.Leaves := mkL [r] [] [] []
noncomputable def factor.K (N : Nat) : FCfg := { anns := [], unr := [], lits := [], lets := [] }
noncomputable def factor.F (N : Nat) (a : Int) : Option factor.R :=
  (obind (Rc.clamp.F (N) (a) ((-2147483648 : Int)) ((2147483648 : Int))) fun r0 =>
   (some (r0)))
theorem factor.F_eq (N : Nat) (L : Eng.Leaves) : evSig (factor.C N) (factor.K N) 0 Try.f166 factor.sig L factor.dec = factor.F N (L.i 0) := by
  kernel_rfl
noncomputable def factor.spec : Eng.Spec := factor.sig.spec (fun N L => factor.F N (L.i 0)) factor.enc
theorem factor.cok (N : Nat) : CfgOK (factor.C N) := ⟨fun _ _ _ _ h => by simp [factor.C, noRT] at h, wide, by
  simp only [factor.C, List.mem_cons, List.not_mem_nil, or_false, forall_eq_or_imp, forall_eq, false_imp_iff, implies_true]
  exact ⟨clamp.ok, by kernel_rfl⟩, fun g hg => by simp [factor.C] at hg, fun m hm => by simp [factor.C] at hm⟩
theorem factor.aok (N : Nat) : AnnsOK (factor.K N) := by
  intro q hq
  simp only [factor.K, List.mem_cons, List.not_mem_nil, or_false] at hq
theorem factor.ok : CallOK Try.prog 166 factor.spec :=
  callOK_of_sig (fn := Try.f166) (Cf := factor.C) (K := factor.K) (d := 0) (dec := factor.dec) (by kernel_rfl) (fun _ => rfl) factor.cok (fun _ q hq => by simp [factor.C] at hq) factor.aok
    (fun N L r h => (factor.F_eq N L).trans h) (by kernel_rfl) (fun _ => ⟨rfl, rfl⟩) (fun _ _ => ⟨rfl, rfl⟩)

noncomputable def fmul.sig : Eng.Sig := { args := [.at (.int .i64 0), .at (.int .i64 1), .at (.int .i64 2)], n := 0, pre := [], post := [], m := 0, ret := .at (.int .i64 0) }
noncomputable def fmul.C (N : Nat) : Cfg := { P := Try.prog, N := N, RT := noRT, specs := [(166, factor.spec)], inl := [], hi := 0, mv := [] }
abbrev fmul.R : Type := Int
def fmul.dec (L : Eng.Leaves) : fmul.R := (L.i 0)
def fmul.enc (r : fmul.R) : Eng.Leaves := mkL [r] [] [] []
noncomputable def fmul.K (N : Nat) : FCfg := { anns := [], unr := [], lits := [], lets := [] }
noncomputable def fmul.F (N : Nat) (a : Int) (b : Int) (s : Int) : Option fmul.R :=
  (obind (Rc.factor.F (N) (a)) fun r0 =>
   (obind (Rc.factor.F (N) (b)) fun r1 =>
    (br (s == (0 : Int))
     (some (IntKind.i64.wrap (r0 * r1)))
     (br (decide (s < (0 : Int)))
      (some ((0 : Int)))
      (br (decide (s > (62 : Int)))
      (some ((0 : Int)))
      (chk ((0 : Int) ≤ IntKind.i64.wrap (s - (1 : Int)))
      (chk ((0 : Int) ≤ s)
      (some ((IntKind.i64.wrap (IntKind.i64.wrap (r0 * r1) + IntKind.i64.wrap ((1 : Int) * (2 : Int) ^ min (IntKind.i64.wrap (s - (1 : Int))).toNat IntKind.i64.bits))).fdiv ((2 : Int) ^ min s.toNat IntKind.i64.bits))))))))))
theorem fmul.F_eq (N : Nat) (L : Eng.Leaves) : evSig (fmul.C N) (fmul.K N) 0 Try.f148 fmul.sig L fmul.dec = fmul.F N (L.i 0) (L.i 1) (L.i 2) := by
  kernel_rfl
noncomputable def fmul.spec : Eng.Spec := fmul.sig.spec (fun N L => fmul.F N (L.i 0) (L.i 1) (L.i 2)) fmul.enc
theorem fmul.cok (N : Nat) : CfgOK (fmul.C N) := ⟨fun _ _ _ _ h => by simp [fmul.C, noRT] at h, wide, by
  simp only [fmul.C, List.mem_cons, List.not_mem_nil, or_false, forall_eq_or_imp, forall_eq, false_imp_iff, implies_true]
  exact ⟨factor.ok, by kernel_rfl⟩, fun g hg => by simp [fmul.C] at hg, fun m hm => by simp [fmul.C] at hm⟩
theorem fmul.aok (N : Nat) : AnnsOK (fmul.K N) := by
  intro q hq
  simp only [fmul.K, List.mem_cons, List.not_mem_nil, or_false] at hq
theorem fmul.ok : CallOK Try.prog 148 fmul.spec :=
  callOK_of_sig (fn := Try.f148) (Cf := fmul.C) (K := fmul.K) (d := 0) (dec := fmul.dec) (by kernel_rfl) (fun _ => rfl) fmul.cok (fun _ q hq => by simp [fmul.C] at hq) fmul.aok
    (fun N L r h => (fmul.F_eq N L).trans h) (by kernel_rfl) (fun _ => ⟨rfl, rfl⟩) (fun _ _ => ⟨rfl, rfl⟩)

noncomputable def exp2.sig : Eng.Sig := { args := [.at (.int .i64 0)], n := 0, pre := [], post := [], m := 0, ret := .at (.int .i64 0) }
noncomputable def exp2.C (N : Nat) : Cfg := { P := Try.prog, N := N, RT := noRT, specs := [(106, clamp.spec), (148, fmul.spec)], inl := [], hi := 0, mv := [] }
abbrev exp2.R : Type := Int
def exp2.dec (L : Eng.Leaves) : exp2.R := (L.i 0)
def exp2.enc (r : exp2.R) : Eng.Leaves := mkL [r] [] [] []
abbrev exp2.loop5.R : Type := Int
noncomputable def exp2.loop5.ann : Ann := { nx := 20, slots := [(4, .at (.fint .i64 0)), (5, .at (.int .i64 0)), (14, .agg [.fint .i64 1, .fint .i64 2, .fint .i64 3, .fint .i64 4, .fint .i64 5, .fint .i64 6, .fint .i64 7, .fint .i64 8]), (15, .at (.int .i64 1))], blks := [], mov := [], exId := 0, xslots := [(5, .at (.int .i64 0))], xblks := [], T := exp2.loop5.R, dec := fun L => (L.i 0), enc := fun r => mkL [r] [] [] [], ret := false }
noncomputable def exp2.K (N : Nat) : FCfg := { anns := [(5, exp2.loop5.ann)], unr := [], lits := [], lets := [] }
noncomputable def exp2.loop5 (N : Nat) : Nat → Int → Int → Int → Int → Int → Int → Int → Int → Int → Int → Int → Option exp2.loop5.R
  | 0, _, _, _, _, _, _, _, _, _, _, _ => none
  | nn + 1, s4, s14_0, s14_1, s14_2, s14_3, s14_4, s14_5, s14_6, s14_7, s5, s15 =>
  (br (decide (s15 < (8 : Int)))
   (chk ((0 : Int) ≤ s15 ∧ s15 < ↑(8 : Nat))
    (chk ((0 : Int) ≤ IntKind.i64.wrap ((7 : Int) - s15))
     (br (IntKind.i64.wrap ↑(BitVec.ofInt IntKind.i64.bits (s4.fdiv ((2 : Int) ^ min (IntKind.i64.wrap ((7 : Int) - s15)).toNat IntKind.i64.bits)) &&& BitVec.ofInt IntKind.i64.bits (1 : Int)).toNat == (1 : Int))
      (obind (Rc.fmul.F (N) (s5) ([s14_0, s14_1, s14_2, s14_3, s14_4, s14_5, s14_6, s14_7].getD s15.toNat (0 : Int)) ((30 : Int))) fun r0 =>
      (chkI (s4) (s4)
      (chkI (s14_0) (s14_0)
      (chkI (s14_1) (s14_1)
      (chkI (s14_2) (s14_2)
      (chkI (s14_3) (s14_3)
      (chkI (s14_4) (s14_4)
      (chkI (s14_5) (s14_5)
      (chkI (s14_6) (s14_6)
      (chkI (s14_7) (s14_7)
      (exp2.loop5 N (nn) (s4) (s14_0) (s14_1) (s14_2) (s14_3) (s14_4) (s14_5) (s14_6) (s14_7) (r0) (IntKind.i64.wrap (s15 + (1 : Int))))))))))))))
      (chkI (s4) (s4)
      (chkI (s14_0) (s14_0)
      (chkI (s14_1) (s14_1)
      (chkI (s14_2) (s14_2)
      (chkI (s14_3) (s14_3)
      (chkI (s14_4) (s14_4)
      (chkI (s14_5) (s14_5)
      (chkI (s14_6) (s14_6)
      (chkI (s14_7) (s14_7)
      (exp2.loop5 N (nn) (s4) (s14_0) (s14_1) (s14_2) (s14_3) (s14_4) (s14_5) (s14_6) (s14_7) (s5) (IntKind.i64.wrap (s15 + (1 : Int))))))))))))))))
   (some (s5)))
noncomputable def exp2.loop5R (N nn : Nat) (s4 : Int) (s14_0 : Int) (s14_1 : Int) (s14_2 : Int) (s14_3 : Int) (s14_4 : Int) (s14_5 : Int) (s14_6 : Int) (s14_7 : Int) (s5 : Int) (s15 : Int) : Option exp2.loop5.R := loopF exp2.loop5.ann (mkL [s4, s14_0, s14_1, s14_2, s14_3, s14_4, s14_5, s14_6, s14_7] [] [] []) (evCode ((exp2.C N).inLoop exp2.loop5.ann) (exp2.K N) (inlTab (exp2.C N) 0) (bodyAt 5 Try.f97)) nn (mkL [s5, s15] [] [] [])
theorem exp2.loop5_eq (N : Nat) : ∀ (nn : Nat) (s4 : Int) (s14_0 : Int) (s14_1 : Int) (s14_2 : Int) (s14_3 : Int) (s14_4 : Int) (s14_5 : Int) (s14_6 : Int) (s14_7 : Int) (s5 : Int) (s15 : Int), exp2.loop5R N nn s4 s14_0 s14_1 s14_2 s14_3 s14_4 s14_5 s14_6 s14_7 s5 s15 = exp2.loop5 N nn s4 s14_0 s14_1 s14_2 s14_3 s14_4 s14_5 s14_6 s14_7 s5 s15
  | 0, _, _, _, _, _, _, _, _, _, _, _ => by kernel_rfl
  | nn + 1, s4, s14_0, s14_1, s14_2, s14_3, s14_4, s14_5, s14_6, s14_7, s5, s15 => by
    have h : exp2.loop5R N (nn + 1) s4 s14_0 s14_1 s14_2 s14_3 s14_4 s14_5 s14_6 s14_7 s5 s15 =
  (br (decide (s15 < (8 : Int)))
   (chk ((0 : Int) ≤ s15 ∧ s15 < ↑(8 : Nat))
    (chk ((0 : Int) ≤ IntKind.i64.wrap ((7 : Int) - s15))
     (br (IntKind.i64.wrap ↑(BitVec.ofInt IntKind.i64.bits (s4.fdiv ((2 : Int) ^ min (IntKind.i64.wrap ((7 : Int) - s15)).toNat IntKind.i64.bits)) &&& BitVec.ofInt IntKind.i64.bits (1 : Int)).toNat == (1 : Int))
      (obind (Rc.fmul.F (N) (s5) ([s14_0, s14_1, s14_2, s14_3, s14_4, s14_5, s14_6, s14_7].getD s15.toNat (0 : Int)) ((30 : Int))) fun r0 =>
      (chkI (s4) (s4)
      (chkI (s14_0) (s14_0)
      (chkI (s14_1) (s14_1)
      (chkI (s14_2) (s14_2)
      (chkI (s14_3) (s14_3)
      (chkI (s14_4) (s14_4)
      (chkI (s14_5) (s14_5)
      (chkI (s14_6) (s14_6)
      (chkI (s14_7) (s14_7)
      (exp2.loop5R N (nn) (s4) (s14_0) (s14_1) (s14_2) (s14_3) (s14_4) (s14_5) (s14_6) (s14_7) (r0) (IntKind.i64.wrap (s15 + (1 : Int))))))))))))))
      (chkI (s4) (s4)
      (chkI (s14_0) (s14_0)
      (chkI (s14_1) (s14_1)
      (chkI (s14_2) (s14_2)
      (chkI (s14_3) (s14_3)
      (chkI (s14_4) (s14_4)
      (chkI (s14_5) (s14_5)
      (chkI (s14_6) (s14_6)
      (chkI (s14_7) (s14_7)
      (exp2.loop5R N (nn) (s4) (s14_0) (s14_1) (s14_2) (s14_3) (s14_4) (s14_5) (s14_6) (s14_7) (s5) (IntKind.i64.wrap (s15 + (1 : Int))))))))))))))))
   (some (s5))) := by kernel_rfl
    rw [h, exp2.loop5]
    try simp only [exp2.loop5_eq N nn]
noncomputable def exp2.F (N : Nat) (q : Int) : Option exp2.R :=
  (obind (Rc.clamp.F (N) (q) ((0 : Int)) ((7935 : Int))) fun r0 =>
   (obind (exp2.loop5 N (N) (IntKind.i64.wrap ↑(BitVec.ofInt IntKind.i64.bits r0 &&& BitVec.ofInt IntKind.i64.bits (255 : Int)).toNat) ((1518500250 : Int)) ((1276901417 : Int)) ((1170923762 : Int)) ((1121280436 : Int)) ((1097253708 : Int)) ((1085434106 : Int)) ((1079572136 : Int)) ((1076653033 : Int)) ((1073741824 : Int)) ((0 : Int))) fun r1 =>
    (br (r0.fdiv ((2 : Int) ^ min (Int.toNat (8 : Int)) IntKind.i64.bits) == (30 : Int))
     (some (r1))
     (obind (Rc.fmul.F (N) (r1) ((1 : Int)) (IntKind.i64.wrap ((30 : Int) - r0.fdiv ((2 : Int) ^ min (Int.toNat (8 : Int)) IntKind.i64.bits)))) fun r2 =>
      (some (r2))))))
theorem exp2.F_eq (N : Nat) (L : Eng.Leaves) : evSig (exp2.C N) (exp2.K N) 0 Try.f97 exp2.sig L exp2.dec = exp2.F N (L.i 0) := by
  have h : ∀ (q : Int), evSig (exp2.C N) (exp2.K N) 0 Try.f97 exp2.sig (mkL [q] [] [] []) exp2.dec =
  (obind (Rc.clamp.F (N) (q) ((0 : Int)) ((7935 : Int))) fun r0 =>
   (obind (exp2.loop5R N (N) (IntKind.i64.wrap ↑(BitVec.ofInt IntKind.i64.bits r0 &&& BitVec.ofInt IntKind.i64.bits (255 : Int)).toNat) ((1518500250 : Int)) ((1276901417 : Int)) ((1170923762 : Int)) ((1121280436 : Int)) ((1097253708 : Int)) ((1085434106 : Int)) ((1079572136 : Int)) ((1076653033 : Int)) ((1073741824 : Int)) ((0 : Int))) fun r1 =>
    (br (r0.fdiv ((2 : Int) ^ min (Int.toNat (8 : Int)) IntKind.i64.bits) == (30 : Int))
     (some (r1))
     (obind (Rc.fmul.F (N) (r1) ((1 : Int)) (IntKind.i64.wrap ((30 : Int) - r0.fdiv ((2 : Int) ^ min (Int.toNat (8 : Int)) IntKind.i64.bits)))) fun r2 =>
      (some (r2)))))) := by
    intro q
    kernel_rfl
  have h2 : evSig (exp2.C N) (exp2.K N) 0 Try.f97 exp2.sig L exp2.dec = evSig (exp2.C N) (exp2.K N) 0 Try.f97 exp2.sig (mkL [L.i 0] [] [] []) exp2.dec := by kernel_rfl
  rw [h2, h, exp2.F]
  try simp only [exp2.loop5_eq N]
noncomputable def exp2.spec : Eng.Spec := exp2.sig.spec (fun N L => exp2.F N (L.i 0)) exp2.enc
theorem exp2.cok (N : Nat) : CfgOK (exp2.C N) := ⟨fun _ _ _ _ h => by simp [exp2.C, noRT] at h, wide, by
  simp only [exp2.C, List.mem_cons, List.not_mem_nil, or_false, forall_eq_or_imp, forall_eq, false_imp_iff, implies_true]
  exact ⟨⟨clamp.ok, by kernel_rfl⟩, ⟨fmul.ok, by kernel_rfl⟩⟩, fun g hg => by simp [exp2.C] at hg, fun m hm => by simp [exp2.C] at hm⟩
theorem exp2.aok (N : Nat) : AnnsOK (exp2.K N) := by
  intro q hq
  simp only [exp2.K, List.mem_cons, List.not_mem_nil, or_false] at hq
  subst hq
  exact fun _ _ => ⟨rfl, rfl⟩
theorem exp2.ok : CallOK Try.prog 97 exp2.spec :=
  callOK_of_sig (fn := Try.f97) (Cf := exp2.C) (K := exp2.K) (d := 0) (dec := exp2.dec) (by kernel_rfl) (fun _ => rfl) exp2.cok (fun _ q hq => by simp [exp2.C] at hq) exp2.aok
    (fun N L r h => (exp2.F_eq N L).trans h) (by kernel_rfl) (fun _ => ⟨rfl, rfl⟩) (fun _ _ => ⟨rfl, rfl⟩)

noncomputable def ticdf.sig : Eng.Sig := { args := [.at (.int .i64 0)], n := 0, pre := [], post := [], m := 0, ret := .at (.roi .i64 0) }
noncomputable def ticdf.C (N : Nat) : Cfg := { P := Try.prog, N := N, RT := noRT, specs := [], inl := [], hi := 0, mv := [] }
abbrev ticdf.R : Type := List Int
def ticdf.dec (L : Eng.Leaves) : ticdf.R := (L.l 0)
def ticdf.enc (r : ticdf.R) : Eng.Leaves := mkL [] [] [r] []
noncomputable def ticdf.K (N : Nat) : FCfg := { anns := [], unr := [], lits := [6, 9, 12, 15, 18, 21, 24, 27, 30], lets := [] }
noncomputable def ticdf.F (N : Nat) (k : Int) : Option ticdf.R :=
  (br (k == (0 : Int))
   (some ([(192 : Int), (96 : Int), (0 : Int)]))
   (br (k == (1 : Int))
    (some ([(224 : Int), (192 : Int), (160 : Int), (128 : Int), (96 : Int), (64 : Int), (32 : Int), (0 : Int)]))
    (br (k == (2 : Int))
     (some ([(252 : Int), (247 : Int), (240 : Int), (230 : Int), (214 : Int), (190 : Int), (150 : Int), (106 : Int), (66 : Int), (42 : Int), (26 : Int), (16 : Int), (10 : Int), (6 : Int), (4 : Int), (2 : Int), (0 : Int)]))
     (br (k == (3 : Int))
      (some ([(240 : Int), (224 : Int), (208 : Int), (192 : Int), (176 : Int), (160 : Int), (144 : Int), (128 : Int), (112 : Int), (96 : Int), (80 : Int), (64 : Int), (48 : Int), (32 : Int), (16 : Int), (0 : Int)]))
      (br (k == (4 : Int))
      (some ([(253 : Int), (244 : Int), (222 : Int), (170 : Int), (86 : Int), (34 : Int), (12 : Int), (3 : Int), (0 : Int)]))
      (br (k == (5 : Int))
      (some ([(218 : Int), (180 : Int), (148 : Int), (122 : Int), (100 : Int), (82 : Int), (67 : Int), (54 : Int), (43 : Int), (34 : Int), (26 : Int), (19 : Int), (14 : Int), (10 : Int), (6 : Int), (3 : Int), (0 : Int)]))
      (br (k == (6 : Int))
      (some ([(205 : Int), (163 : Int), (128 : Int), (97 : Int), (70 : Int), (44 : Int), (20 : Int), (0 : Int)]))
      (br (k == (7 : Int))
      (some ([(231 : Int), (155 : Int), (38 : Int), (0 : Int)]))
      (br (k == (8 : Int))
      (some ([(192 : Int), (128 : Int), (64 : Int), (0 : Int)]))
      (some (([] : List Int))))))))))))
theorem ticdf.F_eq (N : Nat) (L : Eng.Leaves) : evSig (ticdf.C N) (ticdf.K N) 0 Try.f99 ticdf.sig L ticdf.dec = ticdf.F N (L.i 0) := by
  kernel_rfl
noncomputable def ticdf.spec : Eng.Spec := ticdf.sig.spec (fun N L => ticdf.F N (L.i 0)) ticdf.enc
theorem ticdf.cok (N : Nat) : CfgOK (ticdf.C N) := ⟨fun _ _ _ _ h => by simp [ticdf.C, noRT] at h, wide, by
  simp only [ticdf.C, List.mem_cons, List.not_mem_nil, or_false, forall_eq_or_imp, forall_eq, false_imp_iff, implies_true], fun g hg => by simp [ticdf.C] at hg, fun m hm => by simp [ticdf.C] at hm⟩
theorem ticdf.aok (N : Nat) : AnnsOK (ticdf.K N) := by
  intro q hq
  simp only [ticdf.K, List.mem_cons, List.not_mem_nil, or_false] at hq
theorem ticdf.ok : CallOK Try.prog 99 ticdf.spec :=
  callOK_of_sig (fn := Try.f99) (Cf := ticdf.C) (K := ticdf.K) (d := 0) (dec := ticdf.dec) (by kernel_rfl) (fun _ => rfl) ticdf.cok (fun _ q hq => by simp [ticdf.C] at hq) ticdf.aok
    (fun N L r h => (ticdf.F_eq N L).trans h) (by kernel_rfl) (fun _ => ⟨rfl, rfl⟩) (fun _ _ => ⟨rfl, rfl⟩)

noncomputable def tfilters.sig : Eng.Sig := { args := [], n := 0, pre := [], post := [], m := 0, ret := .at (.int .i64 0) }
noncomputable def tfilters.C (N : Nat) : Cfg := { P := Try.prog, N := N, RT := noRT, specs := [], inl := [], hi := 0, mv := [] }
abbrev tfilters.R : Type := Int
def tfilters.dec (L : Eng.Leaves) : tfilters.R := (L.i 0)
def tfilters.enc (r : tfilters.R) : Eng.Leaves := mkL [r] [] [] []
noncomputable def tfilters.K (N : Nat) : FCfg := { anns := [], unr := [], lits := [], lets := [] }
noncomputable def tfilters.F (N : Nat)  : Option tfilters.R :=
  (some ((8 : Int)))
theorem tfilters.F_eq (N : Nat) (L : Eng.Leaves) : evSig (tfilters.C N) (tfilters.K N) 0 Try.f100 tfilters.sig L tfilters.dec = tfilters.F N  := by
  kernel_rfl
noncomputable def tfilters.spec : Eng.Spec := tfilters.sig.spec (fun N L => tfilters.F N ) tfilters.enc
theorem tfilters.cok (N : Nat) : CfgOK (tfilters.C N) := ⟨fun _ _ _ _ h => by simp [tfilters.C, noRT] at h, wide, by
  simp only [tfilters.C, List.mem_cons, List.not_mem_nil, or_false, forall_eq_or_imp, forall_eq, false_imp_iff, implies_true], fun g hg => by simp [tfilters.C] at hg, fun m hm => by simp [tfilters.C] at hm⟩
theorem tfilters.aok (N : Nat) : AnnsOK (tfilters.K N) := by
  intro q hq
  simp only [tfilters.K, List.mem_cons, List.not_mem_nil, or_false] at hq
theorem tfilters.ok : CallOK Try.prog 100 tfilters.spec :=
  callOK_of_sig (fn := Try.f100) (Cf := tfilters.C) (K := tfilters.K) (d := 0) (dec := tfilters.dec) (by kernel_rfl) (fun _ => rfl) tfilters.cok (fun _ q hq => by simp [tfilters.C] at hq) tfilters.aok
    (fun N L r h => (tfilters.F_eq N L).trans h) (by kernel_rfl) (fun _ => ⟨rfl, rfl⟩) (fun _ _ => ⟨rfl, rfl⟩)

noncomputable def gclamp.sig : Eng.Sig := { args := [.at (.int .i64 0)], n := 0, pre := [], post := [], m := 0, ret := .at (.int .i64 0) }
noncomputable def gclamp.C (N : Nat) : Cfg := { P := Try.prog, N := N, RT := noRT, specs := [], inl := [], hi := 0, mv := [] }
abbrev gclamp.R : Type := Int
def gclamp.dec (L : Eng.Leaves) : gclamp.R := (L.i 0)
def gclamp.enc (r : gclamp.R) : Eng.Leaves := mkL [r] [] [] []
noncomputable def gclamp.K (N : Nat) : FCfg := { anns := [], unr := [], lits := [], lets := [] }
noncomputable def gclamp.F (N : Nat) (g : Int) : Option gclamp.R :=
  (some (if (63 : Int) < if (0 : Int) > g then (0 : Int) else g then (63 : Int) else if (0 : Int) > g then (0 : Int) else g))
theorem gclamp.F_eq (N : Nat) (L : Eng.Leaves) : evSig (gclamp.C N) (gclamp.K N) 0 Try.f98 gclamp.sig L gclamp.dec = gclamp.F N (L.i 0) := by
  kernel_rfl
noncomputable def gclamp.spec : Eng.Spec := gclamp.sig.spec (fun N L => gclamp.F N (L.i 0)) gclamp.enc
theorem gclamp.cok (N : Nat) : CfgOK (gclamp.C N) := ⟨fun _ _ _ _ h => by simp [gclamp.C, noRT] at h, wide, by
  simp only [gclamp.C, List.mem_cons, List.not_mem_nil, or_false, forall_eq_or_imp, forall_eq, false_imp_iff, implies_true], fun g hg => by simp [gclamp.C] at hg, fun m hm => by simp [gclamp.C] at hm⟩
theorem gclamp.aok (N : Nat) : AnnsOK (gclamp.K N) := by
  intro q hq
  simp only [gclamp.K, List.mem_cons, List.not_mem_nil, or_false] at hq
theorem gclamp.ok : CallOK Try.prog 98 gclamp.spec :=
  callOK_of_sig (fn := Try.f98) (Cf := gclamp.C) (K := gclamp.K) (d := 0) (dec := gclamp.dec) (by kernel_rfl) (fun _ => rfl) gclamp.cok (fun _ q hq => by simp [gclamp.C] at hq) gclamp.aok
    (fun N L r h => (gclamp.F_eq N L).trans h) (by kernel_rfl) (fun _ => ⟨rfl, rfl⟩) (fun _ _ => ⟨rfl, rfl⟩)

noncomputable def gloud.sig : Eng.Sig := { args := [.at (.int .i64 0)], n := 0, pre := [], post := [], m := 0, ret := .at (.int .i64 0) }
noncomputable def gloud.C (N : Nat) : Cfg := { P := Try.prog, N := N, RT := noRT, specs := [(98, gclamp.spec), (97, exp2.spec)], inl := [], hi := 0, mv := [] }
abbrev gloud.R : Type := Int
def gloud.dec (L : Eng.Leaves) : gloud.R := (L.i 0)
def gloud.enc (r : gloud.R) : Eng.Leaves := mkL [r] [] [] []
noncomputable def gloud.K (N : Nat) : FCfg := { anns := [], unr := [], lits := [], lets := [] }
noncomputable def gloud.F (N : Nat) (g : Int) : Option gloud.R :=
  (obind (Rc.gclamp.F (N) (g)) fun r0 =>
   (obind (Rc.exp2.F (N) (IntKind.i64.wrap ((70 : Int) * r0))) fun r1 =>
    (some (r1))))
theorem gloud.F_eq (N : Nat) (L : Eng.Leaves) : evSig (gloud.C N) (gloud.K N) 0 Try.f37 gloud.sig L gloud.dec = gloud.F N (L.i 0) := by
  kernel_rfl
noncomputable def gloud.spec : Eng.Spec := gloud.sig.spec (fun N L => gloud.F N (L.i 0)) gloud.enc
theorem gloud.cok (N : Nat) : CfgOK (gloud.C N) := ⟨fun _ _ _ _ h => by simp [gloud.C, noRT] at h, wide, by
  simp only [gloud.C, List.mem_cons, List.not_mem_nil, or_false, forall_eq_or_imp, forall_eq, false_imp_iff, implies_true]
  exact ⟨⟨gclamp.ok, by kernel_rfl⟩, ⟨exp2.ok, by kernel_rfl⟩⟩, fun g hg => by simp [gloud.C] at hg, fun m hm => by simp [gloud.C] at hm⟩
theorem gloud.aok (N : Nat) : AnnsOK (gloud.K N) := by
  intro q hq
  simp only [gloud.K, List.mem_cons, List.not_mem_nil, or_false] at hq
theorem gloud.ok : CallOK Try.prog 37 gloud.spec :=
  callOK_of_sig (fn := Try.f37) (Cf := gloud.C) (K := gloud.K) (d := 0) (dec := gloud.dec) (by kernel_rfl) (fun _ => rfl) gloud.cok (fun _ q hq => by simp [gloud.C] at hq) gloud.aok
    (fun N L r h => (gloud.F_eq N L).trans h) (by kernel_rfl) (fun _ => ⟨rfl, rfl⟩) (fun _ _ => ⟨rfl, rfl⟩)

noncomputable def gfar.sig : Eng.Sig := { args := [.at (.int .i64 0), .at (.int .i64 1)], n := 0, pre := [], post := [], m := 0, ret := .at (.int .i64 0) }
noncomputable def gfar.C (N : Nat) : Cfg := { P := Try.prog, N := N, RT := noRT, specs := [], inl := [], hi := 0, mv := [] }
abbrev gfar.R : Type := Int
def gfar.dec (L : Eng.Leaves) : gfar.R := (L.i 0)
def gfar.enc (r : gfar.R) : Eng.Leaves := mkL [r] [] [] []
noncomputable def gfar.K (N : Nat) : FCfg := { anns := [], unr := [], lits := [], lets := [] }
noncomputable def gfar.F (N : Nat) (a : Int) (b : Int) : Option gfar.R :=
  (some (if IntKind.i64.wrap (b - a) > IntKind.i64.wrap (a - b) then IntKind.i64.wrap (b - a) else IntKind.i64.wrap (a - b)))
theorem gfar.F_eq (N : Nat) (L : Eng.Leaves) : evSig (gfar.C N) (gfar.K N) 0 Try.f107 gfar.sig L gfar.dec = gfar.F N (L.i 0) (L.i 1) := by
  kernel_rfl
noncomputable def gfar.spec : Eng.Spec := gfar.sig.spec (fun N L => gfar.F N (L.i 0) (L.i 1)) gfar.enc
theorem gfar.cok (N : Nat) : CfgOK (gfar.C N) := ⟨fun _ _ _ _ h => by simp [gfar.C, noRT] at h, wide, by
  simp only [gfar.C, List.mem_cons, List.not_mem_nil, or_false, forall_eq_or_imp, forall_eq, false_imp_iff, implies_true], fun g hg => by simp [gfar.C] at hg, fun m hm => by simp [gfar.C] at hm⟩
theorem gfar.aok (N : Nat) : AnnsOK (gfar.K N) := by
  intro q hq
  simp only [gfar.K, List.mem_cons, List.not_mem_nil, or_false] at hq
theorem gfar.ok : CallOK Try.prog 107 gfar.spec :=
  callOK_of_sig (fn := Try.f107) (Cf := gfar.C) (K := gfar.K) (d := 0) (dec := gfar.dec) (by kernel_rfl) (fun _ => rfl) gfar.cok (fun _ q hq => by simp [gfar.C] at hq) gfar.aok
    (fun N L r h => (gfar.F_eq N L).trans h) (by kernel_rfl) (fun _ => ⟨rfl, rfl⟩) (fun _ _ => ⟨rfl, rfl⟩)

noncomputable def gnearest.sig : Eng.Sig := { args := [.at (.int .i64 0)], n := 0, pre := [], post := [], m := 0, ret := .at (.int .i64 0) }
noncomputable def gnearest.C (N : Nat) : Cfg := { P := Try.prog, N := N, RT := noRT, specs := [(37, gloud.spec), (106, clamp.spec), (107, gfar.spec)], inl := [], hi := 0, mv := [] }
abbrev gnearest.R : Type := Int
def gnearest.dec (L : Eng.Leaves) : gnearest.R := (L.i 0)
def gnearest.enc (r : gnearest.R) : Eng.Leaves := mkL [r] [] [] []
abbrev gnearest.loop4.R : Type := Int
noncomputable def gnearest.loop4.ann : Ann := { nx := 20, slots := [(0, .at (.fint .i64 0)), (3, .at (.int .i64 0)), (4, .at (.int .i64 1))], blks := [], mov := [], exId := 0, xslots := [(3, .at (.int .i64 0))], xblks := [], T := gnearest.loop4.R, dec := fun L => (L.i 0), enc := fun r => mkL [r] [] [] [], ret := false }
noncomputable def gnearest.K (N : Nat) : FCfg := { anns := [(4, gnearest.loop4.ann)], unr := [], lits := [], lets := [] }
noncomputable def gnearest.loop4 (N : Nat) : Nat → Int → Int → Int → Option gnearest.loop4.R
  | 0, _, _, _ => none
  | nn + 1, v, s3, s4 =>
  (br (decide (s4 ≤ (63 : Int)))
   (obind (Rc.gloud.F (N) (s4)) fun r0 =>
    (obind (Rc.gfar.F (N) (r0) (v)) fun r1 =>
     (obind (Rc.gloud.F (N) (s3)) fun r2 =>
      (obind (Rc.gfar.F (N) (r2) (v)) fun r3 =>
      (br (decide (r1 < r3))
      (chkI (v) (v)
      (gnearest.loop4 N (nn) (v) (s4) (IntKind.i64.wrap (s4 + (1 : Int)))))
      (chkI (v) (v)
      (gnearest.loop4 N (nn) (v) (s3) (IntKind.i64.wrap (s4 + (1 : Int))))))))))
   (some (s3)))
noncomputable def gnearest.loop4R (N nn : Nat) (v : Int) (s3 : Int) (s4 : Int) : Option gnearest.loop4.R := loopF gnearest.loop4.ann (mkL [v] [] [] []) (evCode ((gnearest.C N).inLoop gnearest.loop4.ann) (gnearest.K N) (inlTab (gnearest.C N) 0) (bodyAt 4 Try.f47)) nn (mkL [s3, s4] [] [] [])
theorem gnearest.loop4_eq (N : Nat) : ∀ (nn : Nat) (v : Int) (s3 : Int) (s4 : Int), gnearest.loop4R N nn v s3 s4 = gnearest.loop4 N nn v s3 s4
  | 0, _, _, _ => by kernel_rfl
  | nn + 1, v, s3, s4 => by
    have h : gnearest.loop4R N (nn + 1) v s3 s4 =
  (br (decide (s4 ≤ (63 : Int)))
   (obind (Rc.gloud.F (N) (s4)) fun r0 =>
    (obind (Rc.gfar.F (N) (r0) (v)) fun r1 =>
     (obind (Rc.gloud.F (N) (s3)) fun r2 =>
      (obind (Rc.gfar.F (N) (r2) (v)) fun r3 =>
      (br (decide (r1 < r3))
      (chkI (v) (v)
      (gnearest.loop4R N (nn) (v) (s4) (IntKind.i64.wrap (s4 + (1 : Int)))))
      (chkI (v) (v)
      (gnearest.loop4R N (nn) (v) (s3) (IntKind.i64.wrap (s4 + (1 : Int))))))))))
   (some (s3))) := by kernel_rfl
    rw [h, gnearest.loop4]
    try simp only [gnearest.loop4_eq N nn]
noncomputable def gnearest.F (N : Nat) (v : Int) : Option gnearest.R :=
  (obind (Rc.gloud.F (N) ((63 : Int))) fun r0 =>
   (obind (Rc.clamp.F (N) (v) ((0 : Int)) (IntKind.i64.wrap ((2 : Int) * r0))) fun r1 =>
    (obind (gnearest.loop4 N (N) (r1) ((0 : Int)) ((1 : Int))) fun r2 =>
     (some (r2)))))
theorem gnearest.F_eq (N : Nat) (L : Eng.Leaves) : evSig (gnearest.C N) (gnearest.K N) 0 Try.f47 gnearest.sig L gnearest.dec = gnearest.F N (L.i 0) := by
  have h : ∀ (v : Int), evSig (gnearest.C N) (gnearest.K N) 0 Try.f47 gnearest.sig (mkL [v] [] [] []) gnearest.dec =
  (obind (Rc.gloud.F (N) ((63 : Int))) fun r0 =>
   (obind (Rc.clamp.F (N) (v) ((0 : Int)) (IntKind.i64.wrap ((2 : Int) * r0))) fun r1 =>
    (obind (gnearest.loop4R N (N) (r1) ((0 : Int)) ((1 : Int))) fun r2 =>
     (some (r2))))) := by
    intro v
    kernel_rfl
  have h2 : evSig (gnearest.C N) (gnearest.K N) 0 Try.f47 gnearest.sig L gnearest.dec = evSig (gnearest.C N) (gnearest.K N) 0 Try.f47 gnearest.sig (mkL [L.i 0] [] [] []) gnearest.dec := by kernel_rfl
  rw [h2, h, gnearest.F]
  try simp only [gnearest.loop4_eq N]
noncomputable def gnearest.spec : Eng.Spec := gnearest.sig.spec (fun N L => gnearest.F N (L.i 0)) gnearest.enc
theorem gnearest.cok (N : Nat) : CfgOK (gnearest.C N) := ⟨fun _ _ _ _ h => by simp [gnearest.C, noRT] at h, wide, by
  simp only [gnearest.C, List.mem_cons, List.not_mem_nil, or_false, forall_eq_or_imp, forall_eq, false_imp_iff, implies_true]
  exact ⟨⟨gloud.ok, by kernel_rfl⟩, ⟨clamp.ok, by kernel_rfl⟩, ⟨gfar.ok, by kernel_rfl⟩⟩, fun g hg => by simp [gnearest.C] at hg, fun m hm => by simp [gnearest.C] at hm⟩
theorem gnearest.aok (N : Nat) : AnnsOK (gnearest.K N) := by
  intro q hq
  simp only [gnearest.K, List.mem_cons, List.not_mem_nil, or_false] at hq
  subst hq
  exact fun _ _ => ⟨rfl, rfl⟩
theorem gnearest.ok : CallOK Try.prog 47 gnearest.spec :=
  callOK_of_sig (fn := Try.f47) (Cf := gnearest.C) (K := gnearest.K) (d := 0) (dec := gnearest.dec) (by kernel_rfl) (fun _ => rfl) gnearest.cok (fun _ q hq => by simp [gnearest.C] at hq) gnearest.aok
    (fun N L r h => (gnearest.F_eq N L).trans h) (by kernel_rfl) (fun _ => ⟨rfl, rfl⟩) (fun _ _ => ⟨rfl, rfl⟩)

noncomputable def gsymbol.sig : Eng.Sig := { args := [.at (.ptr 0 0), .at (.int .i64 0)], n := 2, pre := [(0, .cells 10 [.full 1 false, .int .u64 1, .int .u64 2, .int .u64 3, .int .i64 4, .int .i64 5, .int .u64 6, .int .i64 7, .int .i64 8, .bool 0]), (1, .ints false .u8 0)], post := [(0, .cells 10 [.full 1 false, .int .u64 1, .int .u64 2, .int .u64 3, .int .i64 4, .fint .i64 5, .fint .u64 6, .fint .i64 7, .int .i64 5, .fbool 0]), (1, .fints false .u8 0)], m := 0, ret := .at (.int .i64 0) }
noncomputable def gsymbol.C (N : Nat) : Cfg := { P := Try.prog, N := N, RT := noRT, specs := [(99, ticdf.spec), (79, symbol.spec)], inl := [], hi := 2, mv := [] }
abbrev gsymbol.R : Type := Int × Int × Int × Int × Int × Int
def gsymbol.dec (L : Eng.Leaves) : gsymbol.R := (L.i 0, L.i 1, L.i 2, L.i 3, L.i 4, L.i 5)
def gsymbol.enc (r : gsymbol.R) : Eng.Leaves := mkL [r.1, r.2.1, r.2.2.1, r.2.2.2.1, r.2.2.2.2.1, r.2.2.2.2.2] [] [] []
noncomputable def gsymbol.K (N : Nat) : FCfg := { anns := [], unr := [], lits := [], lets := [] }
noncomputable def gsymbol.F (N : Nat) (k : Int) (rng : Int) (val : Int) (last : Int) (front : Int) (back : Int) (window : Int) (waiting : Int) (count : Int) (bad : Bool) (b : List Int) : Option gsymbol.R :=
  (obind (Rc.ticdf.F (N) (k)) fun r0 =>
   (obind (Rc.symbol.F (N) (rng) (val) (last) (front) (back) (window) (waiting) (count) (bad) (r0) (b)) fun r1 =>
    (chkI (back) (back)
    (chkI (window) (window)
    (chkI (waiting) (waiting)
    (chkB (bad) (bad)
    (chkL (b) (b)
    (some ((r1.fst, r1.snd.fst, r1.snd.snd.fst, r1.snd.snd.snd.fst, r1.snd.snd.snd.snd.fst, r1.snd.snd.snd.snd.snd))))))))))
theorem gsymbol.F_eq (N : Nat) (L : Eng.Leaves) : evSig (gsymbol.C N) (gsymbol.K N) 0 Try.f103 gsymbol.sig L gsymbol.dec = gsymbol.F N (L.i 0) (L.i 1) (L.i 2) (L.i 3) (L.i 4) (L.i 5) (L.i 6) (L.i 7) (L.i 8) (L.b 0) (L.l 0) := by
  kernel_rfl
noncomputable def gsymbol.spec : Eng.Spec := gsymbol.sig.spec (fun N L => gsymbol.F N (L.i 0) (L.i 1) (L.i 2) (L.i 3) (L.i 4) (L.i 5) (L.i 6) (L.i 7) (L.i 8) (L.b 0) (L.l 0)) gsymbol.enc
theorem gsymbol.cok (N : Nat) : CfgOK (gsymbol.C N) := ⟨fun _ _ _ _ h => by simp [gsymbol.C, noRT] at h, wide, by
  simp only [gsymbol.C, List.mem_cons, List.not_mem_nil, or_false, forall_eq_or_imp, forall_eq, false_imp_iff, implies_true]
  exact ⟨⟨ticdf.ok, by kernel_rfl⟩, ⟨symbol.ok, by kernel_rfl⟩⟩, fun g hg => by simp [gsymbol.C] at hg, fun m hm => by simp [gsymbol.C] at hm⟩
theorem gsymbol.aok (N : Nat) : AnnsOK (gsymbol.K N) := by
  intro q hq
  simp only [gsymbol.K, List.mem_cons, List.not_mem_nil, or_false] at hq
theorem gsymbol.ok : CallOK Try.prog 103 gsymbol.spec :=
  callOK_of_sig (fn := Try.f103) (Cf := gsymbol.C) (K := gsymbol.K) (d := 0) (dec := gsymbol.dec) (by kernel_rfl) (fun _ => rfl) gsymbol.cok (fun _ q hq => by simp [gsymbol.C] at hq) gsymbol.aok
    (fun N L r h => (gsymbol.F_eq N L).trans h) (by kernel_rfl) (fun _ => ⟨rfl, rfl⟩) (fun _ _ => ⟨rfl, rfl⟩)

noncomputable def greadfirst.sig : Eng.Sig := { args := [.at (.ptr 0 0)], n := 2, pre := [(0, .cells 10 [.full 1 false, .int .u64 0, .int .u64 1, .int .u64 2, .int .i64 3, .int .i64 4, .int .u64 5, .int .i64 6, .int .i64 7, .bool 0]), (1, .ints false .u8 0)], post := [(0, .cells 10 [.full 1 false, .int .u64 1, .int .u64 2, .int .u64 3, .int .i64 4, .int .i64 5, .int .u64 6, .int .i64 7, .int .i64 8, .bool 0]), (1, .fints false .u8 0)], m := 0, ret := .at (.int .i64 0) }
noncomputable def greadfirst.C (N : Nat) : Cfg := { P := Try.prog, N := N, RT := noRT, specs := [(103, gsymbol.spec), (102, uint.spec)], inl := [(101, { anns := [], unr := [(3, 4)], lits := [], lets := [] })], hi := 2, mv := [] }
abbrev greadfirst.R : Type := Int × Int × Int × Int × Int × Int × Int × Int × Int × Bool
def greadfirst.dec (L : Eng.Leaves) : greadfirst.R := (L.i 0, L.i 1, L.i 2, L.i 3, L.i 4, L.i 5, L.i 6, L.i 7, L.i 8, L.b 0)
def greadfirst.enc (r : greadfirst.R) : Eng.Leaves := mkL [r.1, r.2.1, r.2.2.1, r.2.2.2.1, r.2.2.2.2.1, r.2.2.2.2.2.1, r.2.2.2.2.2.2.1, r.2.2.2.2.2.2.2.1, r.2.2.2.2.2.2.2.2.1] [r.2.2.2.2.2.2.2.2.2] [] []
noncomputable def greadfirst.K (N : Nat) : FCfg := { anns := [], unr := [], lits := [], lets := [] }
noncomputable def greadfirst.F (N : Nat) (rng : Int) (val : Int) (last : Int) (front : Int) (back : Int) (window : Int) (waiting : Int) (count : Int) (bad : Bool) (b : List Int) : Option greadfirst.R :=
  (obind (Rc.gsymbol.F (N) ((1 : Int)) (rng) (val) (last) (front) (back) (window) (waiting) (count) (bad) (b)) fun r0 =>
   (obind (Rc.uint.F (N) ((8 : Int)) (r0.snd.fst) (r0.snd.snd.fst) (r0.snd.snd.snd.fst) (r0.snd.snd.snd.snd.fst) (back) (window) (waiting) (r0.snd.snd.snd.snd.snd) (bad) (b)) fun r1 =>
    (chkL (b) (b)
    (some ((IntKind.i64.wrap (IntKind.i64.wrap ((8 : Int) * ([r0.fst] ++ [r1.fst]).getD (Int.toNat (0 : Int)) (0 : Int)) + ([r0.fst] ++ [r1.fst]).getD (Int.toNat (1 : Int)) (0 : Int)), r1.snd.fst, r1.snd.snd.fst, r1.snd.snd.snd.fst, r1.snd.snd.snd.snd.fst, r1.snd.snd.snd.snd.snd.fst, r1.snd.snd.snd.snd.snd.snd.fst, r1.snd.snd.snd.snd.snd.snd.snd.fst, r1.snd.snd.snd.snd.snd.snd.snd.snd.fst, r1.snd.snd.snd.snd.snd.snd.snd.snd.snd))))))
theorem greadfirst.F_eq (N : Nat) (L : Eng.Leaves) : evSig (greadfirst.C N) (greadfirst.K N) 1 Try.f45 greadfirst.sig L greadfirst.dec = greadfirst.F N (L.i 0) (L.i 1) (L.i 2) (L.i 3) (L.i 4) (L.i 5) (L.i 6) (L.i 7) (L.b 0) (L.l 0) := by
  kernel_rfl
noncomputable def greadfirst.spec : Eng.Spec := greadfirst.sig.spec (fun N L => greadfirst.F N (L.i 0) (L.i 1) (L.i 2) (L.i 3) (L.i 4) (L.i 5) (L.i 6) (L.i 7) (L.b 0) (L.l 0)) greadfirst.enc
theorem greadfirst.cok (N : Nat) : CfgOK (greadfirst.C N) := ⟨fun _ _ _ _ h => by simp [greadfirst.C, noRT] at h, wide, by
  simp only [greadfirst.C, List.mem_cons, List.not_mem_nil, or_false, forall_eq_or_imp, forall_eq, false_imp_iff, implies_true]
  exact ⟨⟨gsymbol.ok, by kernel_rfl⟩, ⟨uint.ok, by kernel_rfl⟩⟩, fun g hg => by simp [greadfirst.C] at hg, fun m hm => by simp [greadfirst.C] at hm⟩
theorem greadfirst.aok (N : Nat) : AnnsOK (greadfirst.K N) := by
  intro q hq
  simp only [greadfirst.K, List.mem_cons, List.not_mem_nil, or_false] at hq
theorem greadfirst.ok : CallOK Try.prog 45 greadfirst.spec :=
  callOK_of_sig (fn := Try.f45) (Cf := greadfirst.C) (K := greadfirst.K) (d := 1) (dec := greadfirst.dec) (by kernel_rfl) (fun _ => rfl) greadfirst.cok (fun _ q hq => by
      simp only [greadfirst.C, List.mem_cons, List.not_mem_nil, or_false] at hq
      subst hq
      exact ⟨fun q hq => by simp at hq, by kernel_rfl⟩) greadfirst.aok
    (fun N L r h => (greadfirst.F_eq N L).trans h) (by kernel_rfl) (fun _ => ⟨rfl, rfl⟩) (fun _ _ => ⟨rfl, rfl⟩)

noncomputable def gwritefirst.sig : Eng.Sig := { args := [.at (.ptr 0 0), .at (.int .i64 0)], n := 3, pre := [(0, .cells 6 [.full 1 false, .int .u64 1, .int .u64 2, .full 2 false, .int .i64 3, .int .i64 4]), (1, .ints true .u8 0), (2, .ints true .u8 1)], post := [(0, .cells 6 [.full 3 false, .int .u64 1, .int .u64 2, .full 4 false, .int .i64 3, .int .i64 4]), (1, .dead), (2, .dead), (3, .ints true .u8 0), (4, .ints true .u8 1)], m := 2, ret := .at (.int .i64 0) }
noncomputable def gwritefirst.C (N : Nat) : Cfg := { P := Try.prog, N := N, RT := noRT, specs := [(99, ticdf.spec), (77, esymbol.spec), (82, euint.spec)], inl := [], hi := 3, mv := [] }
abbrev gwritefirst.R : Type := Int × Int × Int × Int × Int × List Int × List Int
def gwritefirst.dec (L : Eng.Leaves) : gwritefirst.R := (L.i 0, L.i 1, L.i 2, L.i 3, L.i 4, L.l 0, L.l 1)
def gwritefirst.enc (r : gwritefirst.R) : Eng.Leaves := mkL [r.1, r.2.1, r.2.2.1, r.2.2.2.1, r.2.2.2.2.1] [] [r.2.2.2.2.2.1, r.2.2.2.2.2.2] []
noncomputable def gwritefirst.K (N : Nat) : FCfg := { anns := [], unr := [], lits := [], lets := [] }
noncomputable def gwritefirst.F (N : Nat) (g : Int) (val : Int) (rng : Int) (rawBits : Int) (count : Int) (told : List Int) (raw : List Int) : Option gwritefirst.R :=
  (br (decide (g < (0 : Int)))
   (some (((1 : Int), val, rng, rawBits, count, told, raw)))
   (br (decide (g > (63 : Int)))
    (some (((1 : Int), val, rng, rawBits, count, told, raw)))
    (obind (Rc.ticdf.F (N) ((1 : Int))) fun r0 =>
     (obind (Rc.esymbol.F (N) (IntKind.i64.wrap (g.tdiv (8 : Int))) (val) (rng) (rawBits) (count) (r0) (told) (raw)) fun r1 =>
      (br (r1.fst != (0 : Int))
      (some ((r1.fst, r1.snd.fst, r1.snd.snd.fst, r1.snd.snd.snd.fst, r1.snd.snd.snd.snd.fst, r1.snd.snd.snd.snd.snd.snd, r1.snd.snd.snd.snd.snd.fst)))
      (obind (Rc.euint.F (N) (g.tmod (8 : Int)) ((8 : Int)) (r1.snd.fst) (r1.snd.snd.fst) (r1.snd.snd.snd.fst) (r1.snd.snd.snd.snd.fst) (r1.snd.snd.snd.snd.snd.snd) (r1.snd.snd.snd.snd.snd.fst)) fun r2 =>
      (some ((r2.fst, r2.snd.fst, r2.snd.snd.fst, r2.snd.snd.snd.fst, r2.snd.snd.snd.snd.fst, r2.snd.snd.snd.snd.snd.fst, r2.snd.snd.snd.snd.snd.snd)))))))))
theorem gwritefirst.F_eq (N : Nat) (L : Eng.Leaves) : evSig (gwritefirst.C N) (gwritefirst.K N) 0 Try.f38 gwritefirst.sig L gwritefirst.dec = gwritefirst.F N (L.i 0) (L.i 1) (L.i 2) (L.i 3) (L.i 4) (L.l 0) (L.l 1) := by
  kernel_rfl
noncomputable def gwritefirst.spec : Eng.Spec := gwritefirst.sig.spec (fun N L => gwritefirst.F N (L.i 0) (L.i 1) (L.i 2) (L.i 3) (L.i 4) (L.l 0) (L.l 1)) gwritefirst.enc
theorem gwritefirst.cok (N : Nat) : CfgOK (gwritefirst.C N) := ⟨fun _ _ _ _ h => by simp [gwritefirst.C, noRT] at h, wide, by
  simp only [gwritefirst.C, List.mem_cons, List.not_mem_nil, or_false, forall_eq_or_imp, forall_eq, false_imp_iff, implies_true]
  exact ⟨⟨ticdf.ok, by kernel_rfl⟩, ⟨esymbol.ok, by kernel_rfl⟩, ⟨euint.ok, by kernel_rfl⟩⟩, fun g hg => by simp [gwritefirst.C] at hg, fun m hm => by simp [gwritefirst.C] at hm⟩
theorem gwritefirst.aok (N : Nat) : AnnsOK (gwritefirst.K N) := by
  intro q hq
  simp only [gwritefirst.K, List.mem_cons, List.not_mem_nil, or_false] at hq
theorem gwritefirst.ok : CallOK Try.prog 38 gwritefirst.spec :=
  callOK_of_sig (fn := Try.f38) (Cf := gwritefirst.C) (K := gwritefirst.K) (d := 0) (dec := gwritefirst.dec) (by kernel_rfl) (fun _ => rfl) gwritefirst.cok (fun _ q hq => by simp [gwritefirst.C] at hq) gwritefirst.aok
    (fun N L r h => (gwritefirst.F_eq N L).trans h) (by kernel_rfl) (fun _ => ⟨rfl, rfl⟩) (fun _ _ => ⟨rfl, rfl⟩)

noncomputable def greadnext.sig : Eng.Sig := { args := [.at (.ptr 0 0), .at (.int .i64 0)], n := 2, pre := [(0, .cells 10 [.full 1 false, .int .u64 1, .int .u64 2, .int .u64 3, .int .i64 4, .int .i64 5, .int .u64 6, .int .i64 7, .int .i64 8, .bool 0]), (1, .ints false .u8 0)], post := [(0, .cells 10 [.full 1 false, .int .u64 1, .int .u64 2, .int .u64 3, .int .i64 4, .fint .i64 5, .fint .u64 6, .fint .i64 7, .int .i64 5, .fbool 0]), (1, .fints false .u8 0)], m := 0, ret := .at (.int .i64 0) }
noncomputable def greadnext.C (N : Nat) : Cfg := { P := Try.prog, N := N, RT := noRT, specs := [(98, gclamp.spec), (103, gsymbol.spec)], inl := [], hi := 2, mv := [] }
abbrev greadnext.R : Type := Int × Int × Int × Int × Int × Int
def greadnext.dec (L : Eng.Leaves) : greadnext.R := (L.i 0, L.i 1, L.i 2, L.i 3, L.i 4, L.i 5)
def greadnext.enc (r : greadnext.R) : Eng.Leaves := mkL [r.1, r.2.1, r.2.2.1, r.2.2.2.1, r.2.2.2.2.1, r.2.2.2.2.2] [] [] []
noncomputable def greadnext.K (N : Nat) : FCfg := { anns := [], unr := [], lits := [], lets := [] }
noncomputable def greadnext.F (N : Nat) (was : Int) (rng : Int) (val : Int) (last : Int) (front : Int) (back : Int) (window : Int) (waiting : Int) (count : Int) (bad : Bool) (b : List Int) : Option greadnext.R :=
  (obind (Rc.gclamp.F (N) (was)) fun r0 =>
   (obind (Rc.gsymbol.F (N) ((2 : Int)) (rng) (val) (last) (front) (back) (window) (waiting) (count) (bad) (b)) fun r1 =>
    (obind (Rc.gclamp.F (N) (IntKind.i64.wrap (IntKind.i64.wrap (r0 + r1.fst) - (8 : Int)))) fun r2 =>
     (chkI (back) (back)
     (chkI (window) (window)
     (chkI (waiting) (waiting)
     (chkB (bad) (bad)
     (chkL (b) (b)
     (some ((r2, r1.snd.fst, r1.snd.snd.fst, r1.snd.snd.snd.fst, r1.snd.snd.snd.snd.fst, r1.snd.snd.snd.snd.snd)))))))))))
theorem greadnext.F_eq (N : Nat) (L : Eng.Leaves) : evSig (greadnext.C N) (greadnext.K N) 0 Try.f46 greadnext.sig L greadnext.dec = greadnext.F N (L.i 0) (L.i 1) (L.i 2) (L.i 3) (L.i 4) (L.i 5) (L.i 6) (L.i 7) (L.i 8) (L.b 0) (L.l 0) := by
  kernel_rfl
noncomputable def greadnext.spec : Eng.Spec := greadnext.sig.spec (fun N L => greadnext.F N (L.i 0) (L.i 1) (L.i 2) (L.i 3) (L.i 4) (L.i 5) (L.i 6) (L.i 7) (L.i 8) (L.b 0) (L.l 0)) greadnext.enc
theorem greadnext.cok (N : Nat) : CfgOK (greadnext.C N) := ⟨fun _ _ _ _ h => by simp [greadnext.C, noRT] at h, wide, by
  simp only [greadnext.C, List.mem_cons, List.not_mem_nil, or_false, forall_eq_or_imp, forall_eq, false_imp_iff, implies_true]
  exact ⟨⟨gclamp.ok, by kernel_rfl⟩, ⟨gsymbol.ok, by kernel_rfl⟩⟩, fun g hg => by simp [greadnext.C] at hg, fun m hm => by simp [greadnext.C] at hm⟩
theorem greadnext.aok (N : Nat) : AnnsOK (greadnext.K N) := by
  intro q hq
  simp only [greadnext.K, List.mem_cons, List.not_mem_nil, or_false] at hq
theorem greadnext.ok : CallOK Try.prog 46 greadnext.spec :=
  callOK_of_sig (fn := Try.f46) (Cf := greadnext.C) (K := greadnext.K) (d := 0) (dec := greadnext.dec) (by kernel_rfl) (fun _ => rfl) greadnext.cok (fun _ q hq => by simp [greadnext.C] at hq) greadnext.aok
    (fun N L r h => (greadnext.F_eq N L).trans h) (by kernel_rfl) (fun _ => ⟨rfl, rfl⟩) (fun _ _ => ⟨rfl, rfl⟩)

noncomputable def gwritenext.sig : Eng.Sig := { args := [.at (.ptr 0 0), .at (.int .i64 0), .at (.int .i64 1)], n := 3, pre := [(0, .cells 6 [.full 1 false, .int .u64 2, .int .u64 3, .full 2 false, .int .i64 4, .int .i64 5]), (1, .ints true .u8 0), (2, .ints true .u8 1)], post := [(0, .cells 6 [.full 3 false, .int .u64 2, .int .u64 3, .full 2 false, .int .i64 4, .int .i64 5]), (1, .dead), (2, .ints true .u8 0), (3, .ints true .u8 1)], m := 1, ret := .tup [(false, [.int .i64 0]), (false, [.int .i64 1])] }
noncomputable def gwritenext.C (N : Nat) : Cfg := { P := Try.prog, N := N, RT := noRT, specs := [(98, gclamp.spec), (99, ticdf.spec), (77, esymbol.spec)], inl := [], hi := 3, mv := [] }
abbrev gwritenext.R : Type := Int × Int × Int × Int × Int × Int × List Int × List Int
def gwritenext.dec (L : Eng.Leaves) : gwritenext.R := (L.i 0, L.i 1, L.i 2, L.i 3, L.i 4, L.i 5, L.l 0, L.l 1)
def gwritenext.enc (r : gwritenext.R) : Eng.Leaves := mkL [r.1, r.2.1, r.2.2.1, r.2.2.2.1, r.2.2.2.2.1, r.2.2.2.2.2.1] [] [r.2.2.2.2.2.2.1, r.2.2.2.2.2.2.2] []
noncomputable def gwritenext.K (N : Nat) : FCfg := { anns := [], unr := [], lits := [], lets := [] }
noncomputable def gwritenext.F (N : Nat) (g : Int) (was : Int) (val : Int) (rng : Int) (rawBits : Int) (count : Int) (told : List Int) (raw : List Int) : Option gwritenext.R :=
  (obind (Rc.gclamp.F (N) (g)) fun r0 =>
   (obind (Rc.gclamp.F (N) (was)) fun r1 =>
    (obind (Rc.gclamp.F (N) (IntKind.i64.wrap (IntKind.i64.wrap (r1 + if (16 : Int) < if (0 : Int) > IntKind.i64.wrap (IntKind.i64.wrap (r0 - r1) + (8 : Int)) then (0 : Int) else IntKind.i64.wrap (IntKind.i64.wrap (r0 - r1) + (8 : Int)) then (16 : Int) else if (0 : Int) > IntKind.i64.wrap (IntKind.i64.wrap (r0 - r1) + (8 : Int)) then (0 : Int) else IntKind.i64.wrap (IntKind.i64.wrap (r0 - r1) + (8 : Int))) - (8 : Int)))) fun r2 =>
     (obind (Rc.ticdf.F (N) ((2 : Int))) fun r3 =>
      (obind (Rc.esymbol.F (N) (if (16 : Int) < if (0 : Int) > IntKind.i64.wrap (IntKind.i64.wrap (r0 - r1) + (8 : Int)) then (0 : Int) else IntKind.i64.wrap (IntKind.i64.wrap (r0 - r1) + (8 : Int)) then (16 : Int) else if (0 : Int) > IntKind.i64.wrap (IntKind.i64.wrap (r0 - r1) + (8 : Int)) then (0 : Int) else IntKind.i64.wrap (IntKind.i64.wrap (r0 - r1) + (8 : Int))) (val) (rng) (rawBits) (count) (r3) (told) (raw)) fun r4 =>
      (some ((r2, r4.fst, r4.snd.fst, r4.snd.snd.fst, r4.snd.snd.snd.fst, r4.snd.snd.snd.snd.fst, r4.snd.snd.snd.snd.snd.fst, r4.snd.snd.snd.snd.snd.snd))))))))
theorem gwritenext.F_eq (N : Nat) (L : Eng.Leaves) : evSig (gwritenext.C N) (gwritenext.K N) 0 Try.f42 gwritenext.sig L gwritenext.dec = gwritenext.F N (L.i 0) (L.i 1) (L.i 2) (L.i 3) (L.i 4) (L.i 5) (L.l 0) (L.l 1) := by
  kernel_rfl
noncomputable def gwritenext.spec : Eng.Spec := gwritenext.sig.spec (fun N L => gwritenext.F N (L.i 0) (L.i 1) (L.i 2) (L.i 3) (L.i 4) (L.i 5) (L.l 0) (L.l 1)) gwritenext.enc
theorem gwritenext.cok (N : Nat) : CfgOK (gwritenext.C N) := ⟨fun _ _ _ _ h => by simp [gwritenext.C, noRT] at h, wide, by
  simp only [gwritenext.C, List.mem_cons, List.not_mem_nil, or_false, forall_eq_or_imp, forall_eq, false_imp_iff, implies_true]
  exact ⟨⟨gclamp.ok, by kernel_rfl⟩, ⟨ticdf.ok, by kernel_rfl⟩, ⟨esymbol.ok, by kernel_rfl⟩⟩, fun g hg => by simp [gwritenext.C] at hg, fun m hm => by simp [gwritenext.C] at hm⟩
theorem gwritenext.aok (N : Nat) : AnnsOK (gwritenext.K N) := by
  intro q hq
  simp only [gwritenext.K, List.mem_cons, List.not_mem_nil, or_false] at hq
theorem gwritenext.ok : CallOK Try.prog 42 gwritenext.spec :=
  callOK_of_sig (fn := Try.f42) (Cf := gwritenext.C) (K := gwritenext.K) (d := 0) (dec := gwritenext.dec) (by kernel_rfl) (fun _ => rfl) gwritenext.cok (fun _ q hq => by simp [gwritenext.C] at hq) gwritenext.aok
    (fun N L r h => (gwritenext.F_eq N L).trans h) (by kernel_rfl) (fun _ => ⟨rfl, rfl⟩) (fun _ _ => ⟨rfl, rfl⟩)

noncomputable def glags.sig : Eng.Sig := { args := [.at (.int .i64 0)], n := 0, pre := [], post := [], m := 0, ret := .tup [(false, [.int .i64 0]), (false, [.int .i64 1])] }
noncomputable def glags.C (N : Nat) : Cfg := { P := Try.prog, N := N, RT := noRT, specs := [], inl := [], hi := 0, mv := [] }
abbrev glags.R : Type := Int × Int
def glags.dec (L : Eng.Leaves) : glags.R := (L.i 0, L.i 1)
def glags.enc (r : glags.R) : Eng.Leaves := mkL [r.1, r.2] [] [] []
noncomputable def glags.K (N : Nat) : FCfg := { anns := [], unr := [], lits := [], lets := [] }
noncomputable def glags.F (N : Nat) (rate : Int) : Option glags.R :=
  (br (rate != (8000 : Int))
   (br (rate != (16000 : Int))
    (some (((0 : Int), (0 : Int))))
    (some ((IntKind.i64.wrap (rate.tdiv (500 : Int)), IntKind.i64.wrap ((IntKind.i64.wrap ((18 : Int) * rate)).tdiv (1000 : Int))))))
   (some ((IntKind.i64.wrap (rate.tdiv (500 : Int)), IntKind.i64.wrap ((IntKind.i64.wrap ((18 : Int) * rate)).tdiv (1000 : Int))))))
theorem glags.F_eq (N : Nat) (L : Eng.Leaves) : evSig (glags.C N) (glags.K N) 0 Try.f36 glags.sig L glags.dec = glags.F N (L.i 0) := by
  kernel_rfl
noncomputable def glags.spec : Eng.Spec := glags.sig.spec (fun N L => glags.F N (L.i 0)) glags.enc
theorem glags.cok (N : Nat) : CfgOK (glags.C N) := ⟨fun _ _ _ _ h => by simp [glags.C, noRT] at h, wide, by
  simp only [glags.C, List.mem_cons, List.not_mem_nil, or_false, forall_eq_or_imp, forall_eq, false_imp_iff, implies_true], fun g hg => by simp [glags.C] at hg, fun m hm => by simp [glags.C] at hm⟩
theorem glags.aok (N : Nat) : AnnsOK (glags.K N) := by
  intro q hq
  simp only [glags.K, List.mem_cons, List.not_mem_nil, or_false] at hq
theorem glags.ok : CallOK Try.prog 36 glags.spec :=
  callOK_of_sig (fn := Try.f36) (Cf := glags.C) (K := glags.K) (d := 0) (dec := glags.dec) (by kernel_rfl) (fun _ => rfl) glags.cok (fun _ q hq => by simp [glags.C] at hq) glags.aok
    (fun N L r h => (glags.F_eq N L).trans h) (by kernel_rfl) (fun _ => ⟨rfl, rfl⟩) (fun _ _ => ⟨rfl, rfl⟩)

noncomputable def greadltp.sig : Eng.Sig := { args := [.at (.ptr 0 0), .at (.int .i64 0)], n := 2, pre := [(0, .cells 10 [.full 1 false, .int .u64 1, .int .u64 2, .int .u64 3, .int .i64 4, .int .i64 5, .int .u64 6, .int .i64 7, .int .i64 8, .bool 0]), (1, .ints false .u8 0)], post := [(0, .cells 10 [.full 1 false, .int .u64 2, .int .u64 3, .int .u64 4, .int .i64 5, .int .i64 6, .int .u64 7, .int .i64 8, .int .i64 9, .bool 0]), (1, .fints false .u8 0)], m := 0, ret := .agg [.int .i64 0, .int .i64 1] }
noncomputable def greadltp.C (N : Nat) : Cfg := { P := Try.prog, N := N, RT := noRT, specs := [(103, gsymbol.spec), (102, uint.spec), (36, glags.spec)], inl := [(101, { anns := [], unr := [(3, 4)], lits := [], lets := [] })], hi := 2, mv := [] }
abbrev greadltp.R : Type := Int × Int × Int × Int × Int × Int × Int × Int × Int × Int × Bool
def greadltp.dec (L : Eng.Leaves) : greadltp.R := (L.i 0, L.i 1, L.i 2, L.i 3, L.i 4, L.i 5, L.i 6, L.i 7, L.i 8, L.i 9, L.b 0)
def greadltp.enc (r : greadltp.R) : Eng.Leaves := mkL [r.1, r.2.1, r.2.2.1, r.2.2.2.1, r.2.2.2.2.1, r.2.2.2.2.2.1, r.2.2.2.2.2.2.1, r.2.2.2.2.2.2.2.1, r.2.2.2.2.2.2.2.2.1, r.2.2.2.2.2.2.2.2.2.1] [r.2.2.2.2.2.2.2.2.2.2] [] []
noncomputable def greadltp.K (N : Nat) : FCfg := { anns := [], unr := [], lits := [], lets := [] }
noncomputable def greadltp.F (N : Nat) (rate : Int) (rng : Int) (val : Int) (last : Int) (front : Int) (back : Int) (window : Int) (waiting : Int) (count : Int) (bad : Bool) (b : List Int) : Option greadltp.R :=
  (obind (Rc.glags.F (N) (rate)) fun r0 =>
   (br (r0.fst == (0 : Int))
    (chkL (b) (b)
    (some (((0 : Int), (0 : Int), rng, val, last, front, back, window, waiting, count, bad))))
    (obind (Rc.uint.F (N) (IntKind.i64.wrap (IntKind.i64.wrap (r0.snd - r0.fst) + (1 : Int))) (rng) (val) (last) (front) (back) (window) (waiting) (count) (bad) (b)) fun r1 =>
     (obind (Rc.gsymbol.F (N) ((6 : Int)) (r1.snd.fst) (r1.snd.snd.fst) (r1.snd.snd.snd.fst) (r1.snd.snd.snd.snd.fst) (r1.snd.snd.snd.snd.snd.fst) (r1.snd.snd.snd.snd.snd.snd.fst) (r1.snd.snd.snd.snd.snd.snd.snd.fst) (r1.snd.snd.snd.snd.snd.snd.snd.snd.fst) (r1.snd.snd.snd.snd.snd.snd.snd.snd.snd) (b)) fun r2 =>
      (chkL (b) (b)
      (some ((IntKind.i64.wrap (r0.fst + ([r1.fst] ++ [r2.fst]).getD (Int.toNat (0 : Int)) (0 : Int)), ([r1.fst] ++ [r2.fst]).getD (Int.toNat (1 : Int)) (0 : Int), r2.snd.fst, r2.snd.snd.fst, r2.snd.snd.snd.fst, r2.snd.snd.snd.snd.fst, r1.snd.snd.snd.snd.snd.fst, r1.snd.snd.snd.snd.snd.snd.fst, r1.snd.snd.snd.snd.snd.snd.snd.fst, r2.snd.snd.snd.snd.snd, r1.snd.snd.snd.snd.snd.snd.snd.snd.snd))))))))
theorem greadltp.F_eq (N : Nat) (L : Eng.Leaves) : evSig (greadltp.C N) (greadltp.K N) 1 Try.f40 greadltp.sig L greadltp.dec = greadltp.F N (L.i 0) (L.i 1) (L.i 2) (L.i 3) (L.i 4) (L.i 5) (L.i 6) (L.i 7) (L.i 8) (L.b 0) (L.l 0) := by
  kernel_rfl
noncomputable def greadltp.spec : Eng.Spec := greadltp.sig.spec (fun N L => greadltp.F N (L.i 0) (L.i 1) (L.i 2) (L.i 3) (L.i 4) (L.i 5) (L.i 6) (L.i 7) (L.i 8) (L.b 0) (L.l 0)) greadltp.enc
theorem greadltp.cok (N : Nat) : CfgOK (greadltp.C N) := ⟨fun _ _ _ _ h => by simp [greadltp.C, noRT] at h, wide, by
  simp only [greadltp.C, List.mem_cons, List.not_mem_nil, or_false, forall_eq_or_imp, forall_eq, false_imp_iff, implies_true]
  exact ⟨⟨gsymbol.ok, by kernel_rfl⟩, ⟨uint.ok, by kernel_rfl⟩, ⟨glags.ok, by kernel_rfl⟩⟩, fun g hg => by simp [greadltp.C] at hg, fun m hm => by simp [greadltp.C] at hm⟩
theorem greadltp.aok (N : Nat) : AnnsOK (greadltp.K N) := by
  intro q hq
  simp only [greadltp.K, List.mem_cons, List.not_mem_nil, or_false] at hq
theorem greadltp.ok : CallOK Try.prog 40 greadltp.spec :=
  callOK_of_sig (fn := Try.f40) (Cf := greadltp.C) (K := greadltp.K) (d := 1) (dec := greadltp.dec) (by kernel_rfl) (fun _ => rfl) greadltp.cok (fun _ q hq => by
      simp only [greadltp.C, List.mem_cons, List.not_mem_nil, or_false] at hq
      subst hq
      exact ⟨fun q hq => by simp at hq, by kernel_rfl⟩) greadltp.aok
    (fun N L r h => (greadltp.F_eq N L).trans h) (by kernel_rfl) (fun _ => ⟨rfl, rfl⟩) (fun _ _ => ⟨rfl, rfl⟩)

noncomputable def gwriteltp.sig : Eng.Sig := { args := [.at (.ptr 0 0), .at (.int .i64 0), .agg [.int .i64 1, .int .i64 2]], n := 3, pre := [(0, .cells 6 [.full 1 false, .int .u64 3, .int .u64 4, .full 2 false, .int .i64 5, .int .i64 6]), (1, .ints true .u8 0), (2, .ints true .u8 1)], post := [(0, .cells 6 [.full 3 false, .int .u64 1, .int .u64 2, .full 4 false, .int .i64 3, .int .i64 4]), (1, .dead), (2, .dead), (3, .ints true .u8 0), (4, .ints true .u8 1)], m := 2, ret := .at (.int .i64 0) }
noncomputable def gwriteltp.C (N : Nat) : Cfg := { P := Try.prog, N := N, RT := noRT, specs := [(36, glags.spec), (100, tfilters.spec), (82, euint.spec), (99, ticdf.spec), (77, esymbol.spec)], inl := [], hi := 3, mv := [] }
abbrev gwriteltp.R : Type := Int × Int × Int × Int × Int × List Int × List Int
def gwriteltp.dec (L : Eng.Leaves) : gwriteltp.R := (L.i 0, L.i 1, L.i 2, L.i 3, L.i 4, L.l 0, L.l 1)
def gwriteltp.enc (r : gwriteltp.R) : Eng.Leaves := mkL [r.1, r.2.1, r.2.2.1, r.2.2.2.1, r.2.2.2.2.1] [] [r.2.2.2.2.2.1, r.2.2.2.2.2.2] []
noncomputable def gwriteltp.K (N : Nat) : FCfg := { anns := [], unr := [], lits := [], lets := [] }
noncomputable def gwriteltp.F (N : Nat) (rate : Int) (l_Lag : Int) (l_Taps : Int) (val : Int) (rng : Int) (rawBits : Int) (count : Int) (told : List Int) (raw : List Int) : Option gwriteltp.R :=
  (obind (Rc.glags.F (N) (rate)) fun r0 =>
   (br (r0.fst == (0 : Int))
    (some (((1 : Int), val, rng, rawBits, count, told, raw)))
    (br (decide (l_Lag < r0.fst))
     (some (((1 : Int), val, rng, rawBits, count, told, raw)))
     (br (decide (l_Lag > r0.snd))
      (some (((1 : Int), val, rng, rawBits, count, told, raw)))
      (br (decide (l_Taps < (0 : Int)))
      (some (((1 : Int), val, rng, rawBits, count, told, raw)))
      (obind (Rc.tfilters.F (N)) fun r1 =>
      (chkI (l_Taps) (l_Taps)
      (br (decide (l_Taps ≥ r1))
      (some (((1 : Int), val, rng, rawBits, count, told, raw)))
      (obind (Rc.euint.F (N) (IntKind.i64.wrap (l_Lag - r0.fst)) (IntKind.i64.wrap (IntKind.i64.wrap (r0.snd - r0.fst) + (1 : Int))) (val) (rng) (rawBits) (count) (told) (raw)) fun r2 =>
      (br (r2.fst != (0 : Int))
      (some ((r2.fst, r2.snd.fst, r2.snd.snd.fst, r2.snd.snd.snd.fst, r2.snd.snd.snd.snd.fst, r2.snd.snd.snd.snd.snd.fst, r2.snd.snd.snd.snd.snd.snd)))
      (obind (Rc.ticdf.F (N) ((6 : Int))) fun r3 =>
      (obind (Rc.esymbol.F (N) (l_Taps) (r2.snd.fst) (r2.snd.snd.fst) (r2.snd.snd.snd.fst) (r2.snd.snd.snd.snd.fst) (r3) (r2.snd.snd.snd.snd.snd.fst) (r2.snd.snd.snd.snd.snd.snd)) fun r4 =>
      (chkI (l_Taps) (l_Taps)
      (some ((r4.fst, r4.snd.fst, r4.snd.snd.fst, r4.snd.snd.snd.fst, r4.snd.snd.snd.snd.fst, r4.snd.snd.snd.snd.snd.snd, r4.snd.snd.snd.snd.snd.fst))))))))))))))))
theorem gwriteltp.F_eq (N : Nat) (L : Eng.Leaves) : evSig (gwriteltp.C N) (gwriteltp.K N) 0 Try.f39 gwriteltp.sig L gwriteltp.dec = gwriteltp.F N (L.i 0) (L.i 1) (L.i 2) (L.i 3) (L.i 4) (L.i 5) (L.i 6) (L.l 0) (L.l 1) := by
  kernel_rfl
noncomputable def gwriteltp.spec : Eng.Spec := gwriteltp.sig.spec (fun N L => gwriteltp.F N (L.i 0) (L.i 1) (L.i 2) (L.i 3) (L.i 4) (L.i 5) (L.i 6) (L.l 0) (L.l 1)) gwriteltp.enc
theorem gwriteltp.cok (N : Nat) : CfgOK (gwriteltp.C N) := ⟨fun _ _ _ _ h => by simp [gwriteltp.C, noRT] at h, wide, by
  simp only [gwriteltp.C, List.mem_cons, List.not_mem_nil, or_false, forall_eq_or_imp, forall_eq, false_imp_iff, implies_true]
  exact ⟨⟨glags.ok, by kernel_rfl⟩, ⟨tfilters.ok, by kernel_rfl⟩, ⟨euint.ok, by kernel_rfl⟩, ⟨ticdf.ok, by kernel_rfl⟩, ⟨esymbol.ok, by kernel_rfl⟩⟩, fun g hg => by simp [gwriteltp.C] at hg, fun m hm => by simp [gwriteltp.C] at hm⟩
theorem gwriteltp.aok (N : Nat) : AnnsOK (gwriteltp.K N) := by
  intro q hq
  simp only [gwriteltp.K, List.mem_cons, List.not_mem_nil, or_false] at hq
theorem gwriteltp.ok : CallOK Try.prog 39 gwriteltp.spec :=
  callOK_of_sig (fn := Try.f39) (Cf := gwriteltp.C) (K := gwriteltp.K) (d := 0) (dec := gwriteltp.dec) (by kernel_rfl) (fun _ => rfl) gwriteltp.cok (fun _ q hq => by simp [gwriteltp.C] at hq) gwriteltp.aok
    (fun N L r h => (gwriteltp.F_eq N L).trans h) (by kernel_rfl) (fun _ => ⟨rfl, rfl⟩) (fun _ _ => ⟨rfl, rfl⟩)

noncomputable def rclamp.sig : Eng.Sig := { args := [.at (.int .i64 0), .at (.int .i64 1), .at (.int .i64 2)], n := 0, pre := [], post := [], m := 0, ret := .at (.int .i64 0) }
noncomputable def rclamp.C (N : Nat) : Cfg := { P := Try.prog, N := N, RT := noRT, specs := [], inl := [], hi := 0, mv := [] }
abbrev rclamp.R : Type := Int
def rclamp.dec (L : Eng.Leaves) : rclamp.R := (L.i 0)
def rclamp.enc (r : rclamp.R) : Eng.Leaves := mkL [r] [] [] []
noncomputable def rclamp.K (N : Nat) : FCfg := { anns := [], unr := [], lits := [], lets := [] }
noncomputable def rclamp.F (N : Nat) (a : Int) (lo : Int) (hi : Int) : Option rclamp.R :=
  (br (decide (a < lo))
   (some (lo))
   (br (decide (lo > hi))
    (some (lo))
    (br (decide (a > hi))
     (some (hi))
     (some (a)))))
theorem rclamp.F_eq (N : Nat) (L : Eng.Leaves) : evSig (rclamp.C N) (rclamp.K N) 0 Try.f43 rclamp.sig L rclamp.dec = rclamp.F N (L.i 0) (L.i 1) (L.i 2) := by
  kernel_rfl
noncomputable def rclamp.spec : Eng.Spec := rclamp.sig.spec (fun N L => rclamp.F N (L.i 0) (L.i 1) (L.i 2)) rclamp.enc
theorem rclamp.cok (N : Nat) : CfgOK (rclamp.C N) := ⟨fun _ _ _ _ h => by simp [rclamp.C, noRT] at h, wide, by
  simp only [rclamp.C, List.mem_cons, List.not_mem_nil, or_false, forall_eq_or_imp, forall_eq, false_imp_iff, implies_true], fun g hg => by simp [rclamp.C] at hg, fun m hm => by simp [rclamp.C] at hm⟩
theorem rclamp.aok (N : Nat) : AnnsOK (rclamp.K N) := by
  intro q hq
  simp only [rclamp.K, List.mem_cons, List.not_mem_nil, or_false] at hq
theorem rclamp.ok : CallOK Try.prog 43 rclamp.spec :=
  callOK_of_sig (fn := Try.f43) (Cf := rclamp.C) (K := rclamp.K) (d := 0) (dec := rclamp.dec) (by kernel_rfl) (fun _ => rfl) rclamp.cok (fun _ q hq => by simp [rclamp.C] at hq) rclamp.aok
    (fun N L r h => (rclamp.F_eq N L).trans h) (by kernel_rfl) (fun _ => ⟨rfl, rfl⟩) (fun _ _ => ⟨rfl, rfl⟩)

noncomputable def rmul.sig : Eng.Sig := { args := [.at (.int .i64 0), .at (.int .i64 1), .at (.int .i64 2)], n := 0, pre := [], post := [], m := 0, ret := .at (.int .i64 0) }
noncomputable def rmul.C (N : Nat) : Cfg := { P := Try.prog, N := N, RT := noRT, specs := [(43, rclamp.spec)], inl := [], hi := 0, mv := [] }
abbrev rmul.R : Type := Int
def rmul.dec (L : Eng.Leaves) : rmul.R := (L.i 0)
def rmul.enc (r : rmul.R) : Eng.Leaves := mkL [r] [] [] []
noncomputable def rmul.K (N : Nat) : FCfg := { anns := [], unr := [], lits := [], lets := [] }
noncomputable def rmul.F (N : Nat) (a : Int) (b : Int) (s : Int) : Option rmul.R :=
  (obind (Rc.rclamp.F (N) (a) ((-2147483648 : Int)) ((2147483648 : Int))) fun r0 =>
   (obind (Rc.rclamp.F (N) (b) ((-2147483648 : Int)) ((2147483648 : Int))) fun r1 =>
    (br (decide (s < (0 : Int)))
     (some ((0 : Int)))
     (br (decide (s > (62 : Int)))
      (some ((0 : Int)))
      (br (s == (0 : Int))
      (some (IntKind.i64.wrap (r0 * r1)))
      (chk ((0 : Int) ≤ IntKind.u64.wrap (IntKind.i64.wrap (s - (1 : Int))))
      (chk ((0 : Int) ≤ IntKind.u64.wrap s)
      (chk ((0 : Int) ≤ IntKind.u64.wrap s)
      (br (decide (IntKind.i64.wrap (IntKind.i64.wrap (r0 * r1) - IntKind.i64.wrap ((IntKind.i64.wrap (r0 * r1)).fdiv ((2 : Int) ^ min (IntKind.u64.wrap s).toNat IntKind.i64.bits) * (2 : Int) ^ min (IntKind.u64.wrap s).toNat IntKind.i64.bits)) ≥ IntKind.i64.wrap ((1 : Int) * (2 : Int) ^ min (IntKind.u64.wrap (IntKind.i64.wrap (s - (1 : Int)))).toNat IntKind.i64.bits)))
      (some (IntKind.i64.wrap ((IntKind.i64.wrap (r0 * r1)).fdiv ((2 : Int) ^ min (IntKind.u64.wrap s).toNat IntKind.i64.bits) + (1 : Int))))
      (some ((IntKind.i64.wrap (r0 * r1)).fdiv ((2 : Int) ^ min (IntKind.u64.wrap s).toNat IntKind.i64.bits))))))))))))
theorem rmul.F_eq (N : Nat) (L : Eng.Leaves) : evSig (rmul.C N) (rmul.K N) 0 Try.f149 rmul.sig L rmul.dec = rmul.F N (L.i 0) (L.i 1) (L.i 2) := by
  kernel_rfl
noncomputable def rmul.spec : Eng.Spec := rmul.sig.spec (fun N L => rmul.F N (L.i 0) (L.i 1) (L.i 2)) rmul.enc
theorem rmul.cok (N : Nat) : CfgOK (rmul.C N) := ⟨fun _ _ _ _ h => by simp [rmul.C, noRT] at h, wide, by
  simp only [rmul.C, List.mem_cons, List.not_mem_nil, or_false, forall_eq_or_imp, forall_eq, false_imp_iff, implies_true]
  exact ⟨rclamp.ok, by kernel_rfl⟩, fun g hg => by simp [rmul.C] at hg, fun m hm => by simp [rmul.C] at hm⟩
theorem rmul.aok (N : Nat) : AnnsOK (rmul.K N) := by
  intro q hq
  simp only [rmul.K, List.mem_cons, List.not_mem_nil, or_false] at hq
theorem rmul.ok : CallOK Try.prog 149 rmul.spec :=
  callOK_of_sig (fn := Try.f149) (Cf := rmul.C) (K := rmul.K) (d := 0) (dec := rmul.dec) (by kernel_rfl) (fun _ => rfl) rmul.cok (fun _ q hq => by simp [rmul.C] at hq) rmul.aok
    (fun N L r h => (rmul.F_eq N L).trans h) (by kernel_rfl) (fun _ => ⟨rfl, rfl⟩) (fun _ _ => ⟨rfl, rfl⟩)

noncomputable def rexp2.sig : Eng.Sig := { args := [.at (.int .i64 0)], n := 0, pre := [], post := [], m := 0, ret := .at (.int .i64 0) }
noncomputable def rexp2.C (N : Nat) : Cfg := { P := Try.prog, N := N, RT := noRT, specs := [(43, rclamp.spec), (149, rmul.spec)], inl := [], hi := 0, mv := [] }
abbrev rexp2.R : Type := Int
def rexp2.dec (L : Eng.Leaves) : rexp2.R := (L.i 0)
def rexp2.enc (r : rexp2.R) : Eng.Leaves := mkL [r] [] [] []
abbrev rexp2.loop5.R : Type := Int
noncomputable def rexp2.loop5.ann : Ann := { nx := 20, slots := [(0, .at (.fint .i64 0)), (3, .at (.full 0 true)), (4, .at (.int .i64 0)), (5, .at (.int .i64 1))], blks := [(0, .fints true .i64 0)], mov := [], exId := 0, xslots := [(3, .at (.full 0 true)), (4, .at (.int .i64 0))], xblks := [(0, .fints true .i64 0)], T := rexp2.loop5.R, dec := fun L => (L.i 0), enc := fun r => mkL [r] [] [] [], ret := false }
noncomputable def rexp2.K (N : Nat) : FCfg := { anns := [(5, rexp2.loop5.ann)], unr := [], lits := [], lets := [] }
noncomputable def rexp2.loop5 (N : Nat) : Nat → Int → List Int → Int → Int → Option rexp2.loop5.R
  | 0, _, _, _, _ => none
  | nn + 1, q, l0, s4, s5 =>
  (br (decide (s5 < (8 : Int)))
   (chk ((0 : Int) ≤ IntKind.u64.wrap (IntKind.i64.wrap ((7 : Int) - s5)))
    (br (IntKind.i64.wrap ↑(BitVec.ofInt IntKind.i64.bits (q.fdiv ((2 : Int) ^ min (IntKind.u64.wrap (IntKind.i64.wrap ((7 : Int) - s5))).toNat IntKind.i64.bits)) &&& BitVec.ofInt IntKind.i64.bits (1 : Int)).toNat == (1 : Int))
     (chk ((0 : Int) ≤ s5 ∧ s5 < ↑l0.length)
      (obind (Rc.rmul.F (N) (s4) (l0.getD s5.toNat (0 : Int)) ((30 : Int))) fun r0 =>
      (chkI (q) (q)
      (chkL (l0) (l0)
      (rexp2.loop5 N (nn) (q) (l0) (r0) (IntKind.i64.wrap (s5 + (1 : Int))))))))
     (chkI (q) (q)
     (chkL (l0) (l0)
     (rexp2.loop5 N (nn) (q) (l0) (s4) (IntKind.i64.wrap (s5 + (1 : Int))))))))
   (chkL (l0) (l0)
   (some (s4))))
noncomputable def rexp2.loop5R (N nn : Nat) (q : Int) (l0 : List Int) (s4 : Int) (s5 : Int) : Option rexp2.loop5.R := loopF rexp2.loop5.ann (mkL [q] [] [l0] []) (evCode ((rexp2.C N).inLoop rexp2.loop5.ann) (rexp2.K N) (inlTab (rexp2.C N) 0) (bodyAt 5 Try.f110)) nn (mkL [s4, s5] [] [] [])
theorem rexp2.loop5_eq (N : Nat) : ∀ (nn : Nat) (q : Int) (l0 : List Int) (s4 : Int) (s5 : Int), rexp2.loop5R N nn q l0 s4 s5 = rexp2.loop5 N nn q l0 s4 s5
  | 0, _, _, _, _ => by kernel_rfl
  | nn + 1, q, l0, s4, s5 => by
    have h : rexp2.loop5R N (nn + 1) q l0 s4 s5 =
  (br (decide (s5 < (8 : Int)))
   (chk ((0 : Int) ≤ IntKind.u64.wrap (IntKind.i64.wrap ((7 : Int) - s5)))
    (br (IntKind.i64.wrap ↑(BitVec.ofInt IntKind.i64.bits (q.fdiv ((2 : Int) ^ min (IntKind.u64.wrap (IntKind.i64.wrap ((7 : Int) - s5))).toNat IntKind.i64.bits)) &&& BitVec.ofInt IntKind.i64.bits (1 : Int)).toNat == (1 : Int))
     (chk ((0 : Int) ≤ s5 ∧ s5 < ↑l0.length)
      (obind (Rc.rmul.F (N) (s4) (l0.getD s5.toNat (0 : Int)) ((30 : Int))) fun r0 =>
      (chkI (q) (q)
      (chkL (l0) (l0)
      (rexp2.loop5R N (nn) (q) (l0) (r0) (IntKind.i64.wrap (s5 + (1 : Int))))))))
     (chkI (q) (q)
     (chkL (l0) (l0)
     (rexp2.loop5R N (nn) (q) (l0) (s4) (IntKind.i64.wrap (s5 + (1 : Int))))))))
   (chkL (l0) (l0)
   (some (s4)))) := by kernel_rfl
    rw [h, rexp2.loop5]
    try simp only [rexp2.loop5_eq N nn]
noncomputable def rexp2.F (N : Nat) (q : Int) : Option rexp2.R :=
  (obind (Rc.rclamp.F (N) (q) ((0 : Int)) ((7935 : Int))) fun r0 =>
   (obind (rexp2.loop5 N (N) (r0) ([(1518500250 : Int), (1276901417 : Int), (1170923762 : Int), (1121280436 : Int), (1097253708 : Int), (1085434106 : Int), (1079572136 : Int), (1076653033 : Int)]) ((1073741824 : Int)) ((0 : Int))) fun r1 =>
    (obind (Rc.rmul.F (N) (r1) ((1 : Int)) (IntKind.i64.wrap ((30 : Int) - IntKind.i64.wrap (r0.tdiv (256 : Int))))) fun r2 =>
     (some (r2)))))
theorem rexp2.F_eq (N : Nat) (L : Eng.Leaves) : evSig (rexp2.C N) (rexp2.K N) 0 Try.f110 rexp2.sig L rexp2.dec = rexp2.F N (L.i 0) := by
  have h : ∀ (q : Int), evSig (rexp2.C N) (rexp2.K N) 0 Try.f110 rexp2.sig (mkL [q] [] [] []) rexp2.dec =
  (obind (Rc.rclamp.F (N) (q) ((0 : Int)) ((7935 : Int))) fun r0 =>
   (obind (rexp2.loop5R N (N) (r0) ([(1518500250 : Int), (1276901417 : Int), (1170923762 : Int), (1121280436 : Int), (1097253708 : Int), (1085434106 : Int), (1079572136 : Int), (1076653033 : Int)]) ((1073741824 : Int)) ((0 : Int))) fun r1 =>
    (obind (Rc.rmul.F (N) (r1) ((1 : Int)) (IntKind.i64.wrap ((30 : Int) - IntKind.i64.wrap (r0.tdiv (256 : Int))))) fun r2 =>
     (some (r2))))) := by
    intro q
    kernel_rfl
  have h2 : evSig (rexp2.C N) (rexp2.K N) 0 Try.f110 rexp2.sig L rexp2.dec = evSig (rexp2.C N) (rexp2.K N) 0 Try.f110 rexp2.sig (mkL [L.i 0] [] [] []) rexp2.dec := by kernel_rfl
  rw [h2, h, rexp2.F]
  try simp only [rexp2.loop5_eq N]
noncomputable def rexp2.spec : Eng.Spec := rexp2.sig.spec (fun N L => rexp2.F N (L.i 0)) rexp2.enc
theorem rexp2.cok (N : Nat) : CfgOK (rexp2.C N) := ⟨fun _ _ _ _ h => by simp [rexp2.C, noRT] at h, wide, by
  simp only [rexp2.C, List.mem_cons, List.not_mem_nil, or_false, forall_eq_or_imp, forall_eq, false_imp_iff, implies_true]
  exact ⟨⟨rclamp.ok, by kernel_rfl⟩, ⟨rmul.ok, by kernel_rfl⟩⟩, fun g hg => by simp [rexp2.C] at hg, fun m hm => by simp [rexp2.C] at hm⟩
theorem rexp2.aok (N : Nat) : AnnsOK (rexp2.K N) := by
  intro q hq
  simp only [rexp2.K, List.mem_cons, List.not_mem_nil, or_false] at hq
  subst hq
  exact fun _ _ => ⟨rfl, rfl⟩
theorem rexp2.ok : CallOK Try.prog 110 rexp2.spec :=
  callOK_of_sig (fn := Try.f110) (Cf := rexp2.C) (K := rexp2.K) (d := 0) (dec := rexp2.dec) (by kernel_rfl) (fun _ => rfl) rexp2.cok (fun _ q hq => by simp [rexp2.C] at hq) rexp2.aok
    (fun N L r h => (rexp2.F_eq N L).trans h) (by kernel_rfl) (fun _ => ⟨rfl, rfl⟩) (fun _ _ => ⟨rfl, rfl⟩)

noncomputable def r6far.sig : Eng.Sig := { args := [.at (.int .i64 0), .at (.int .i64 1)], n := 0, pre := [], post := [], m := 0, ret := .at (.int .u64 0) }
noncomputable def r6far.C (N : Nat) : Cfg := { P := Try.prog, N := N, RT := noRT, specs := [], inl := [], hi := 0, mv := [] }
abbrev r6far.R : Type := Int
def r6far.dec (L : Eng.Leaves) : r6far.R := (L.i 0)
def r6far.enc (r : r6far.R) : Eng.Leaves := mkL [r] [] [] []
noncomputable def r6far.K (N : Nat) : FCfg := { anns := [], unr := [], lits := [], lets := [] }
noncomputable def r6far.F (N : Nat) (v : Int) (w : Int) : Option r6far.R :=
  (br (decide (v ≥ w))
   (some (IntKind.u64.wrap (IntKind.u64.wrap v - IntKind.u64.wrap w)))
   (some (IntKind.u64.wrap (IntKind.u64.wrap w - IntKind.u64.wrap v))))
theorem r6far.F_eq (N : Nat) (L : Eng.Leaves) : evSig (r6far.C N) (r6far.K N) 0 Try.f111 r6far.sig L r6far.dec = r6far.F N (L.i 0) (L.i 1) := by
  kernel_rfl
noncomputable def r6far.spec : Eng.Spec := r6far.sig.spec (fun N L => r6far.F N (L.i 0) (L.i 1)) r6far.enc
theorem r6far.cok (N : Nat) : CfgOK (r6far.C N) := ⟨fun _ _ _ _ h => by simp [r6far.C, noRT] at h, wide, by
  simp only [r6far.C, List.mem_cons, List.not_mem_nil, or_false, forall_eq_or_imp, forall_eq, false_imp_iff, implies_true], fun g hg => by simp [r6far.C] at hg, fun m hm => by simp [r6far.C] at hm⟩
theorem r6far.aok (N : Nat) : AnnsOK (r6far.K N) := by
  intro q hq
  simp only [r6far.K, List.mem_cons, List.not_mem_nil, or_false] at hq
theorem r6far.ok : CallOK Try.prog 111 r6far.spec :=
  callOK_of_sig (fn := Try.f111) (Cf := r6far.C) (K := r6far.K) (d := 0) (dec := r6far.dec) (by kernel_rfl) (fun _ => rfl) r6far.cok (fun _ q hq => by simp [r6far.C] at hq) r6far.aok
    (fun N L r h => (r6far.F_eq N L).trans h) (by kernel_rfl) (fun _ => ⟨rfl, rfl⟩) (fun _ _ => ⟨rfl, rfl⟩)

noncomputable def rloud.sig : Eng.Sig := { args := [.at (.int .i64 0)], n := 0, pre := [], post := [], m := 0, ret := .at (.int .i64 0) }
noncomputable def rloud.C (N : Nat) : Cfg := { P := Try.prog, N := N, RT := noRT, specs := [(43, rclamp.spec), (110, rexp2.spec)], inl := [], hi := 0, mv := [] }
abbrev rloud.R : Type := Int
def rloud.dec (L : Eng.Leaves) : rloud.R := (L.i 0)
def rloud.enc (r : rloud.R) : Eng.Leaves := mkL [r] [] [] []
noncomputable def rloud.K (N : Nat) : FCfg := { anns := [], unr := [], lits := [], lets := [] }
noncomputable def rloud.F (N : Nat) (g : Int) : Option rloud.R :=
  (obind (Rc.rclamp.F (N) (g) ((0 : Int)) ((63 : Int))) fun r0 =>
   (obind (Rc.rexp2.F (N) (IntKind.i64.wrap ((70 : Int) * r0))) fun r1 =>
    (some (r1))))
theorem rloud.F_eq (N : Nat) (L : Eng.Leaves) : evSig (rloud.C N) (rloud.K N) 0 Try.f52 rloud.sig L rloud.dec = rloud.F N (L.i 0) := by
  kernel_rfl
noncomputable def rloud.spec : Eng.Spec := rloud.sig.spec (fun N L => rloud.F N (L.i 0)) rloud.enc
theorem rloud.cok (N : Nat) : CfgOK (rloud.C N) := ⟨fun _ _ _ _ h => by simp [rloud.C, noRT] at h, wide, by
  simp only [rloud.C, List.mem_cons, List.not_mem_nil, or_false, forall_eq_or_imp, forall_eq, false_imp_iff, implies_true]
  exact ⟨⟨rclamp.ok, by kernel_rfl⟩, ⟨rexp2.ok, by kernel_rfl⟩⟩, fun g hg => by simp [rloud.C] at hg, fun m hm => by simp [rloud.C] at hm⟩
theorem rloud.aok (N : Nat) : AnnsOK (rloud.K N) := by
  intro q hq
  simp only [rloud.K, List.mem_cons, List.not_mem_nil, or_false] at hq
theorem rloud.ok : CallOK Try.prog 52 rloud.spec :=
  callOK_of_sig (fn := Try.f52) (Cf := rloud.C) (K := rloud.K) (d := 0) (dec := rloud.dec) (by kernel_rfl) (fun _ => rfl) rloud.cok (fun _ q hq => by simp [rloud.C] at hq) rloud.aok
    (fun N L r h => (rloud.F_eq N L).trans h) (by kernel_rfl) (fun _ => ⟨rfl, rfl⟩) (fun _ _ => ⟨rfl, rfl⟩)

noncomputable def rgnearest.sig : Eng.Sig := { args := [.at (.int .i64 0)], n := 0, pre := [], post := [], m := 0, ret := .at (.int .i64 0) }
noncomputable def rgnearest.C (N : Nat) : Cfg := { P := Try.prog, N := N, RT := noRT, specs := [(52, rloud.spec), (111, r6far.spec)], inl := [], hi := 0, mv := [] }
abbrev rgnearest.R : Type := Int
def rgnearest.dec (L : Eng.Leaves) : rgnearest.R := (L.i 0)
def rgnearest.enc (r : rgnearest.R) : Eng.Leaves := mkL [r] [] [] []
abbrev rgnearest.loop3.R : Type := Int
noncomputable def rgnearest.loop3.ann : Ann := { nx := 20, slots := [(0, .at (.fint .i64 0)), (3, .at (.int .i64 0)), (4, .at (.int .i64 1))], blks := [], mov := [], exId := 0, xslots := [(3, .at (.int .i64 0))], xblks := [], T := rgnearest.loop3.R, dec := fun L => (L.i 0), enc := fun r => mkL [r] [] [] [], ret := false }
noncomputable def rgnearest.K (N : Nat) : FCfg := { anns := [(3, rgnearest.loop3.ann)], unr := [], lits := [], lets := [] }
noncomputable def rgnearest.loop3 (N : Nat) : Nat → Int → Int → Int → Option rgnearest.loop3.R
  | 0, _, _, _ => none
  | nn + 1, v, s3, s4 =>
  (br (decide (s4 < (64 : Int)))
   (obind (Rc.rloud.F (N) (s4)) fun r0 =>
    (obind (Rc.r6far.F (N) (v) (r0)) fun r1 =>
     (obind (Rc.rloud.F (N) (s3)) fun r2 =>
      (obind (Rc.r6far.F (N) (v) (r2)) fun r3 =>
      (br (decide (r1 < r3))
      (chkI (v) (v)
      (rgnearest.loop3 N (nn) (v) (s4) (IntKind.i64.wrap (s4 + (1 : Int)))))
      (chkI (v) (v)
      (rgnearest.loop3 N (nn) (v) (s3) (IntKind.i64.wrap (s4 + (1 : Int))))))))))
   (some (s3)))
noncomputable def rgnearest.loop3R (N nn : Nat) (v : Int) (s3 : Int) (s4 : Int) : Option rgnearest.loop3.R := loopF rgnearest.loop3.ann (mkL [v] [] [] []) (evCode ((rgnearest.C N).inLoop rgnearest.loop3.ann) (rgnearest.K N) (inlTab (rgnearest.C N) 0) (bodyAt 3 Try.f53)) nn (mkL [s3, s4] [] [] [])
theorem rgnearest.loop3_eq (N : Nat) : ∀ (nn : Nat) (v : Int) (s3 : Int) (s4 : Int), rgnearest.loop3R N nn v s3 s4 = rgnearest.loop3 N nn v s3 s4
  | 0, _, _, _ => by kernel_rfl
  | nn + 1, v, s3, s4 => by
    have h : rgnearest.loop3R N (nn + 1) v s3 s4 =
  (br (decide (s4 < (64 : Int)))
   (obind (Rc.rloud.F (N) (s4)) fun r0 =>
    (obind (Rc.r6far.F (N) (v) (r0)) fun r1 =>
     (obind (Rc.rloud.F (N) (s3)) fun r2 =>
      (obind (Rc.r6far.F (N) (v) (r2)) fun r3 =>
      (br (decide (r1 < r3))
      (chkI (v) (v)
      (rgnearest.loop3R N (nn) (v) (s4) (IntKind.i64.wrap (s4 + (1 : Int)))))
      (chkI (v) (v)
      (rgnearest.loop3R N (nn) (v) (s3) (IntKind.i64.wrap (s4 + (1 : Int))))))))))
   (some (s3))) := by kernel_rfl
    rw [h, rgnearest.loop3]
    try simp only [rgnearest.loop3_eq N nn]
noncomputable def rgnearest.F (N : Nat) (v : Int) : Option rgnearest.R :=
  (obind (rgnearest.loop3 N (N) (v) ((0 : Int)) ((1 : Int))) fun r0 =>
   (some (r0)))
theorem rgnearest.F_eq (N : Nat) (L : Eng.Leaves) : evSig (rgnearest.C N) (rgnearest.K N) 0 Try.f53 rgnearest.sig L rgnearest.dec = rgnearest.F N (L.i 0) := by
  have h : ∀ (v : Int), evSig (rgnearest.C N) (rgnearest.K N) 0 Try.f53 rgnearest.sig (mkL [v] [] [] []) rgnearest.dec =
  (obind (rgnearest.loop3R N (N) (v) ((0 : Int)) ((1 : Int))) fun r0 =>
   (some (r0))) := by
    intro v
    kernel_rfl
  have h2 : evSig (rgnearest.C N) (rgnearest.K N) 0 Try.f53 rgnearest.sig L rgnearest.dec = evSig (rgnearest.C N) (rgnearest.K N) 0 Try.f53 rgnearest.sig (mkL [L.i 0] [] [] []) rgnearest.dec := by kernel_rfl
  rw [h2, h, rgnearest.F]
  try simp only [rgnearest.loop3_eq N]
noncomputable def rgnearest.spec : Eng.Spec := rgnearest.sig.spec (fun N L => rgnearest.F N (L.i 0)) rgnearest.enc
theorem rgnearest.cok (N : Nat) : CfgOK (rgnearest.C N) := ⟨fun _ _ _ _ h => by simp [rgnearest.C, noRT] at h, wide, by
  simp only [rgnearest.C, List.mem_cons, List.not_mem_nil, or_false, forall_eq_or_imp, forall_eq, false_imp_iff, implies_true]
  exact ⟨⟨rloud.ok, by kernel_rfl⟩, ⟨r6far.ok, by kernel_rfl⟩⟩, fun g hg => by simp [rgnearest.C] at hg, fun m hm => by simp [rgnearest.C] at hm⟩
theorem rgnearest.aok (N : Nat) : AnnsOK (rgnearest.K N) := by
  intro q hq
  simp only [rgnearest.K, List.mem_cons, List.not_mem_nil, or_false] at hq
  subst hq
  exact fun _ _ => ⟨rfl, rfl⟩
theorem rgnearest.ok : CallOK Try.prog 53 rgnearest.spec :=
  callOK_of_sig (fn := Try.f53) (Cf := rgnearest.C) (K := rgnearest.K) (d := 0) (dec := rgnearest.dec) (by kernel_rfl) (fun _ => rfl) rgnearest.cok (fun _ q hq => by simp [rgnearest.C] at hq) rgnearest.aok
    (fun N L r h => (rgnearest.F_eq N L).trans h) (by kernel_rfl) (fun _ => ⟨rfl, rfl⟩) (fun _ _ => ⟨rfl, rfl⟩)

noncomputable def rlags.sig : Eng.Sig := { args := [.at (.int .i64 0)], n := 0, pre := [], post := [], m := 0, ret := .tup [(false, [.int .i64 0]), (false, [.int .i64 1])] }
noncomputable def rlags.C (N : Nat) : Cfg := { P := Try.prog, N := N, RT := noRT, specs := [], inl := [], hi := 0, mv := [] }
abbrev rlags.R : Type := Int × Int
def rlags.dec (L : Eng.Leaves) : rlags.R := (L.i 0, L.i 1)
def rlags.enc (r : rlags.R) : Eng.Leaves := mkL [r.1, r.2] [] [] []
noncomputable def rlags.K (N : Nat) : FCfg := { anns := [], unr := [], lits := [], lets := [] }
noncomputable def rlags.F (N : Nat) (rate : Int) : Option rlags.R :=
  (br (rate != (8000 : Int))
   (br (rate != (16000 : Int))
    (some (((0 : Int), (0 : Int))))
    (some ((IntKind.i64.wrap (rate.tdiv (500 : Int)), IntKind.i64.wrap ((IntKind.i64.wrap ((18 : Int) * rate)).tdiv (1000 : Int))))))
   (some ((IntKind.i64.wrap (rate.tdiv (500 : Int)), IntKind.i64.wrap ((IntKind.i64.wrap ((18 : Int) * rate)).tdiv (1000 : Int))))))
theorem rlags.F_eq (N : Nat) (L : Eng.Leaves) : evSig (rlags.C N) (rlags.K N) 0 Try.f44 rlags.sig L rlags.dec = rlags.F N (L.i 0) := by
  kernel_rfl
noncomputable def rlags.spec : Eng.Spec := rlags.sig.spec (fun N L => rlags.F N (L.i 0)) rlags.enc
theorem rlags.cok (N : Nat) : CfgOK (rlags.C N) := ⟨fun _ _ _ _ h => by simp [rlags.C, noRT] at h, wide, by
  simp only [rlags.C, List.mem_cons, List.not_mem_nil, or_false, forall_eq_or_imp, forall_eq, false_imp_iff, implies_true], fun g hg => by simp [rlags.C] at hg, fun m hm => by simp [rlags.C] at hm⟩
theorem rlags.aok (N : Nat) : AnnsOK (rlags.K N) := by
  intro q hq
  simp only [rlags.K, List.mem_cons, List.not_mem_nil, or_false] at hq
theorem rlags.ok : CallOK Try.prog 44 rlags.spec :=
  callOK_of_sig (fn := Try.f44) (Cf := rlags.C) (K := rlags.K) (d := 0) (dec := rlags.dec) (by kernel_rfl) (fun _ => rfl) rlags.cok (fun _ q hq => by simp [rlags.C] at hq) rlags.aok
    (fun N L r h => (rlags.F_eq N L).trans h) (by kernel_rfl) (fun _ => ⟨rfl, rfl⟩) (fun _ _ => ⟨rfl, rfl⟩)

noncomputable def awake8.sig : Eng.Sig := { args := [], n := 0, pre := [], post := [], m := 0, ret := .at (.bool 0) }
noncomputable def awake8.C (N : Nat) : Cfg := { P := Try.prog, N := N, RT := noRT, specs := [(25, enew.spec), (38, gwritefirst.spec), (42, gwritenext.spec), (39, gwriteltp.spec), (29, edone.spec), (41, new.spec), (36, glags.spec), (45, greadfirst.spec), (46, greadnext.spec), (40, greadltp.spec), (37, gloud.spec), (47, gnearest.spec)], inl := [], hi := 0, mv := [] }
abbrev awake8.R : Type := Bool
def awake8.dec (L : Eng.Leaves) : awake8.R := (L.b 0)
def awake8.enc (r : awake8.R) : Eng.Leaves := mkL [] [r] [] []
noncomputable def awake8.K (N : Nat) : FCfg := { anns := [], unr := [], lits := [], lets := [] }
noncomputable def awake8.F (N : Nat)  : Option awake8.R :=
  (obind (Rc.enew.F (N)) fun r0 =>
   (obind (Rc.gwritefirst.F (N) ((33 : Int)) (r0.fst) (r0.snd.fst) (r0.snd.snd.fst) (r0.snd.snd.snd.fst) (r0.snd.snd.snd.snd.fst) (r0.snd.snd.snd.snd.snd)) fun r1 =>
    (obind (Rc.gwritenext.F (N) ((60 : Int)) ((33 : Int)) (r1.snd.fst) (r1.snd.snd.fst) (r1.snd.snd.snd.fst) (r1.snd.snd.snd.snd.fst) (r1.snd.snd.snd.snd.snd.fst) (r1.snd.snd.snd.snd.snd.snd)) fun r2 =>
     (obind (Rc.gwriteltp.F (N) ((8000 : Int)) ((100 : Int)) ((3 : Int)) (r2.snd.snd.fst) (r2.snd.snd.snd.fst) (r2.snd.snd.snd.snd.fst) (r2.snd.snd.snd.snd.snd.fst) (r2.snd.snd.snd.snd.snd.snd.snd) (r2.snd.snd.snd.snd.snd.snd.fst)) fun r3 =>
      (obind (Rc.edone.F (N) ((20 : Int)) (r3.snd.fst) (r3.snd.snd.fst) (r3.snd.snd.snd.fst) (r3.snd.snd.snd.snd.fst) (r3.snd.snd.snd.snd.snd.fst) (r3.snd.snd.snd.snd.snd.snd)) fun r4 =>
      (br (r1.fst != (0 : Int))
      (some (false))
      (br (r2.snd.fst != (0 : Int))
      (some (false))
      (br (r3.fst != (0 : Int))
      (some (false))
      (br (r4.fst != (0 : Int))
      (some (false))
      (br (r2.fst != (41 : Int))
      (some (false))
      (obind (Rc.new.F (N) (r4.snd)) fun r5 =>
      (obind (Rc.glags.F (N) ((8000 : Int))) fun r6 =>
      (obind (Rc.greadfirst.F (N) (r5.fst) (r5.snd.fst) (r5.snd.snd.fst) (r5.snd.snd.snd.fst) (r5.snd.snd.snd.snd.fst) (r5.snd.snd.snd.snd.snd.fst) (r5.snd.snd.snd.snd.snd.snd.fst) (r5.snd.snd.snd.snd.snd.snd.snd.fst) (r5.snd.snd.snd.snd.snd.snd.snd.snd.fst) (r5.snd.snd.snd.snd.snd.snd.snd.snd.snd)) fun r7 =>
      (br (r7.fst == (33 : Int))
      (obind (Rc.greadnext.F (N) ((33 : Int)) (r7.snd.fst) (r7.snd.snd.fst) (r7.snd.snd.snd.fst) (r7.snd.snd.snd.snd.fst) (r7.snd.snd.snd.snd.snd.fst) (r7.snd.snd.snd.snd.snd.snd.fst) (r7.snd.snd.snd.snd.snd.snd.snd.fst) (r7.snd.snd.snd.snd.snd.snd.snd.snd.fst) (r7.snd.snd.snd.snd.snd.snd.snd.snd.snd) (r5.snd.snd.snd.snd.snd.snd.snd.snd.snd)) fun r8 =>
      (br (r8.fst == (41 : Int))
      (obind (Rc.greadltp.F (N) ((8000 : Int)) (r8.snd.fst) (r8.snd.snd.fst) (r8.snd.snd.snd.fst) (r8.snd.snd.snd.snd.fst) (r7.snd.snd.snd.snd.snd.fst) (r7.snd.snd.snd.snd.snd.snd.fst) (r7.snd.snd.snd.snd.snd.snd.snd.fst) (r8.snd.snd.snd.snd.snd) (r7.snd.snd.snd.snd.snd.snd.snd.snd.snd) (r5.snd.snd.snd.snd.snd.snd.snd.snd.snd)) fun r9 =>
      (br (r9.fst == (100 : Int) && (r9.snd.fst == (3 : Int) && true))
      (obind (Rc.gloud.F (N) ((0 : Int))) fun r10 =>
      (br (r10 == (1 : Int))
      (obind (Rc.gnearest.F (N) ((1 : Int))) fun r11 =>
      (br (r11 == (0 : Int))
      (br (r6.fst == (16 : Int))
      (some (r6.snd == (144 : Int)))
      (some (false)))
      (some (false))))
      (some (false))))
      (some (false))))
      (some (false))))
      (some (false))))))))))))))))
theorem awake8.F_eq (N : Nat) (L : Eng.Leaves) : evSig (awake8.C N) (awake8.K N) 0 Try.f35 awake8.sig L awake8.dec = awake8.F N  := by
  kernel_rfl
noncomputable def awake8.spec : Eng.Spec := awake8.sig.spec (fun N L => awake8.F N ) awake8.enc
theorem awake8.cok (N : Nat) : CfgOK (awake8.C N) := ⟨fun _ _ _ _ h => by simp [awake8.C, noRT] at h, wide, by
  simp only [awake8.C, List.mem_cons, List.not_mem_nil, or_false, forall_eq_or_imp, forall_eq, false_imp_iff, implies_true]
  exact ⟨⟨enew.ok, by kernel_rfl⟩, ⟨gwritefirst.ok, by kernel_rfl⟩, ⟨gwritenext.ok, by kernel_rfl⟩, ⟨gwriteltp.ok, by kernel_rfl⟩, ⟨edone.ok, by kernel_rfl⟩, ⟨new.ok, by kernel_rfl⟩, ⟨glags.ok, by kernel_rfl⟩, ⟨greadfirst.ok, by kernel_rfl⟩, ⟨greadnext.ok, by kernel_rfl⟩, ⟨greadltp.ok, by kernel_rfl⟩, ⟨gloud.ok, by kernel_rfl⟩, ⟨gnearest.ok, by kernel_rfl⟩⟩, fun g hg => by simp [awake8.C] at hg, fun m hm => by simp [awake8.C] at hm⟩
theorem awake8.aok (N : Nat) : AnnsOK (awake8.K N) := by
  intro q hq
  simp only [awake8.K, List.mem_cons, List.not_mem_nil, or_false] at hq
theorem awake8.ok : CallOK Try.prog 35 awake8.spec :=
  callOK_of_sig (fn := Try.f35) (Cf := awake8.C) (K := awake8.K) (d := 0) (dec := awake8.dec) (by kernel_rfl) (fun _ => rfl) awake8.cok (fun _ q hq => by simp [awake8.C] at hq) awake8.aok
    (fun N L r h => (awake8.F_eq N L).trans h) (by kernel_rfl) (fun _ => ⟨rfl, rfl⟩) (fun _ _ => ⟨rfl, rfl⟩)

end Go.Proofs.Rc
