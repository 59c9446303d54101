/-
  Functions of the program: what each comes to, and its contract (written by a program).
  Conditions: none: each contract is proved for every input of its shape.
-/
import Derived.Test.YtghbobmkkbdhpaaEngMkToEngWords
import Derived.Laws.Externs
import Derived.Test.YtghbobmkkbdhpaaProg
import Derived.Test.YtghbobmkkbdhpaaSqFns
set_option linter.unusedVariables false
set_option linter.unusedSimpArgs false
namespace Go.Proofs.Rc
open Go.Eng
set_option maxRecDepth 100000
noncomputable def eclamp.sig : Eng.Sig := { args := [.at (.int .i64 0)], n := 0, pre := [], post := [], m := 0, ret := .at (.int .i64 0) }
noncomputable def eclamp.C (N : Nat) : Cfg := { P := Try.prog, N := N, RT := noRT, specs := [], inl := [], hi := 0, mv := [] }
abbrev eclamp.R : Type := Int
def eclamp.dec (L : Eng.Leaves) : eclamp.R := (L.i 0)
def eclamp.enc (r : eclamp.R) : Eng.Leaves := mkL [r] [] [] []
noncomputable def eclamp.K (N : Nat) : FCfg := { anns := [], unr := [], lits := [], lets := [] }
noncomputable def eclamp.F (N : Nat) (eq : Int) : Option eclamp.R :=
  (some (if (100 : Int) < if (0 : Int) > eq then (0 : Int) else eq then (100 : Int) else if (0 : Int) > eq then (0 : Int) else eq))
theorem eclamp.F_eq (N : Nat) (L : Eng.Leaves) : evSig (eclamp.C N) (eclamp.K N) 0 Try.f63 eclamp.sig L eclamp.dec = eclamp.F N (L.i 0) := by
  kernel_rfl
noncomputable def eclamp.spec : Eng.Spec := eclamp.sig.spec (fun N L => eclamp.F N (L.i 0)) eclamp.enc
theorem eclamp.cok (N : Nat) : CfgOK (eclamp.C N) := ⟨fun _ _ _ _ h => by simp [eclamp.C, noRT] at h, wide, by
  simp only [eclamp.C, List.mem_cons, List.not_mem_nil, or_false, forall_eq_or_imp, forall_eq, false_imp_iff, implies_true], fun g hg => by simp [eclamp.C] at hg, fun m hm => by simp [eclamp.C] at hm, fun q hq => by simp [eclamp.C] at hq⟩
theorem eclamp.aok (N : Nat) : AnnsOK (eclamp.K N) := by
  intro q hq
  simp only [eclamp.K, List.mem_cons, List.not_mem_nil, or_false] at hq
theorem eclamp.ok : CallOK Try.prog 63 eclamp.spec :=
  callOK_of_sig (fn := Try.f63) (Cf := eclamp.C) (K := eclamp.K) (d := 0) (dec := eclamp.dec) (by kernel_rfl) (fun _ => rfl) eclamp.cok (fun _ q hq => by simp [eclamp.C] at hq) eclamp.aok
   (fun N L r h => (eclamp.F_eq N L).trans h) (by kernel_rfl) (fun _ => ⟨rfl, rfl⟩) (fun _ _ => ⟨rfl, rfl⟩)
noncomputable def factor.sig : Eng.Sig := { args := [.at (.int .i64 0)], n := 0, pre := [], post := [], m := 0, ret := .at (.int .i64 0) }
noncomputable def factor.C (N : Nat) : Cfg := { P := Try.prog, N := N, RT := noRT, specs := [(43, clamp.spec)], inl := [], hi := 0, mv := [] }
abbrev factor.R : Type := Int
def factor.dec (L : Eng.Leaves) : factor.R := (L.i 0)
def factor.enc (r : factor.R) : Eng.Leaves := mkL [r] [] [] []
noncomputable def factor.K (N : Nat) : FCfg := { anns := [], unr := [], lits := [], lets := [] }
noncomputable def factor.F (N : Nat) (a : Int) : Option factor.R :=
  (obind (Rc.clamp.F N a ((-2147483648 : Int)) ((2147483648 : Int))) fun r0 =>
   (some r0))
theorem factor.F_eq (N : Nat) (L : Eng.Leaves) : evSig (factor.C N) (factor.K N) 0 Try.f96 factor.sig L factor.dec = factor.F N (L.i 0) := by
  kernel_rfl
noncomputable def factor.spec : Eng.Spec := factor.sig.spec (fun N L => factor.F N (L.i 0)) factor.enc
theorem factor.cok (N : Nat) : CfgOK (factor.C N) := ⟨fun _ _ _ _ h => by simp [factor.C, noRT] at h, wide, by
  simp only [factor.C, List.mem_cons, List.not_mem_nil, or_false, forall_eq_or_imp, forall_eq, false_imp_iff, implies_true]
  exact ⟨clamp.ok, by kernel_rfl⟩, fun g hg => by simp [factor.C] at hg, fun m hm => by simp [factor.C] at hm, fun q hq => by simp [factor.C] at hq⟩
theorem factor.aok (N : Nat) : AnnsOK (factor.K N) := by
  intro q hq
  simp only [factor.K, List.mem_cons, List.not_mem_nil, or_false] at hq
theorem factor.ok : CallOK Try.prog 96 factor.spec :=
  callOK_of_sig (fn := Try.f96) (Cf := factor.C) (K := factor.K) (d := 0) (dec := factor.dec) (by kernel_rfl) (fun _ => rfl) factor.cok (fun _ q hq => by simp [factor.C] at hq) factor.aok
   (fun N L r h => (factor.F_eq N L).trans h) (by kernel_rfl) (fun _ => ⟨rfl, rfl⟩) (fun _ _ => ⟨rfl, rfl⟩)
noncomputable def fmul.sig : Eng.Sig := { args := [.at (.int .i64 0), .at (.int .i64 1), .at (.int .i64 2)], n := 0, pre := [], post := [], m := 0, ret := .at (.int .i64 0) }
noncomputable def fmul.C (N : Nat) : Cfg := { P := Try.prog, N := N, RT := noRT, specs := [(96, factor.spec)], inl := [], hi := 0, mv := [] }
abbrev fmul.R : Type := Int
def fmul.dec (L : Eng.Leaves) : fmul.R := (L.i 0)
def fmul.enc (r : fmul.R) : Eng.Leaves := mkL [r] [] [] []
noncomputable def fmul.K (N : Nat) : FCfg := { anns := [], unr := [], lits := [], lets := [] }
noncomputable def fmul.F (N : Nat) (a : Int) (b : Int) (s : Int) : Option fmul.R :=
  (obind (Rc.factor.F N a) fun r0 =>
   (obind (Rc.factor.F N b) fun r1 =>
   (br (s == (0 : Int))
   (some (IntKind.i64.wrap (r0 * r1)))
   (br (decide (s < (0 : Int)))
   (some ((0 : Int)))
   (br (decide (s > (62 : Int)))
   (some ((0 : Int)))
   (chk ((0 : Int) ≤ IntKind.i64.wrap (s - (1 : Int)))
   (chk ((0 : Int) ≤ s)
   (some ((IntKind.i64.wrap (IntKind.i64.wrap (r0 * r1) + IntKind.i64.wrap ((1 : Int) * (2 : Int) ^ min (IntKind.i64.wrap (s - (1 : Int))).toNat IntKind.i64.bits))).fdiv ((2 : Int) ^ min s.toNat IntKind.i64.bits))))))))))
theorem fmul.F_eq (N : Nat) (L : Eng.Leaves) : evSig (fmul.C N) (fmul.K N) 0 Try.f82 fmul.sig L fmul.dec = fmul.F N (L.i 0) (L.i 1) (L.i 2) := by
  kernel_rfl
noncomputable def fmul.spec : Eng.Spec := fmul.sig.spec (fun N L => fmul.F N (L.i 0) (L.i 1) (L.i 2)) fmul.enc
theorem fmul.cok (N : Nat) : CfgOK (fmul.C N) := ⟨fun _ _ _ _ h => by simp [fmul.C, noRT] at h, wide, by
  simp only [fmul.C, List.mem_cons, List.not_mem_nil, or_false, forall_eq_or_imp, forall_eq, false_imp_iff, implies_true]
  exact ⟨factor.ok, by kernel_rfl⟩, fun g hg => by simp [fmul.C] at hg, fun m hm => by simp [fmul.C] at hm, fun q hq => by simp [fmul.C] at hq⟩
theorem fmul.aok (N : Nat) : AnnsOK (fmul.K N) := by
  intro q hq
  simp only [fmul.K, List.mem_cons, List.not_mem_nil, or_false] at hq
theorem fmul.ok : CallOK Try.prog 82 fmul.spec :=
  callOK_of_sig (fn := Try.f82) (Cf := fmul.C) (K := fmul.K) (d := 0) (dec := fmul.dec) (by kernel_rfl) (fun _ => rfl) fmul.cok (fun _ q hq => by simp [fmul.C] at hq) fmul.aok
   (fun N L r h => (fmul.F_eq N L).trans h) (by kernel_rfl) (fun _ => ⟨rfl, rfl⟩) (fun _ _ => ⟨rfl, rfl⟩)
noncomputable def exp2.sig : Eng.Sig := { args := [.at (.int .i64 0)], n := 0, pre := [], post := [], m := 0, ret := .at (.int .i64 0) }
noncomputable def exp2.C (N : Nat) : Cfg := { P := Try.prog, N := N, RT := noRT, specs := [(43, clamp.spec), (82, fmul.spec)], inl := [], hi := 0, mv := [] }
abbrev exp2.R : Type := Int
def exp2.dec (L : Eng.Leaves) : exp2.R := (L.i 0)
def exp2.enc (r : exp2.R) : Eng.Leaves := mkL [r] [] [] []
abbrev exp2.loop5.R : Type := Int
noncomputable def exp2.loop5.ann : Ann := { nx := 20, slots := [(4, .at (.fint .i64 0)), (5, .at (.int .i64 0)), (14, .agg [.fint .i64 1, .fint .i64 2, .fint .i64 3, .fint .i64 4, .fint .i64 5, .fint .i64 6, .fint .i64 7, .fint .i64 8]), (15, .at (.int .i64 1))], blks := [], mov := [], exId := 0, xslots := [(5, .at (.int .i64 0))], xblks := [], T := exp2.loop5.R, dec := fun L => (L.i 0), enc := fun r => mkL [r] [] [] [], ret := false }
noncomputable def exp2.K (N : Nat) : FCfg := { anns := [(5, exp2.loop5.ann)], unr := [], lits := [], lets := [] }
noncomputable def exp2.loop5 (N : Nat) : Nat → Int → Int → Int → Int → Int → Int → Int → Int → Int → Int → Int → Option exp2.loop5.R
  | 0, _, _, _, _, _, _, _, _, _, _, _ => none
  | nn + 1, s4, s14_0, s14_1, s14_2, s14_3, s14_4, s14_5, s14_6, s14_7, s5, s15 =>
  (br (decide (s15 < (8 : Int)))
   (chk ((0 : Int) ≤ s15 ∧ s15 < ↑(8 : Nat))
   (chk ((0 : Int) ≤ IntKind.i64.wrap ((7 : Int) - s15))
   (br (IntKind.i64.wrap ↑(BitVec.ofInt IntKind.i64.bits (s4.fdiv ((2 : Int) ^ min (IntKind.i64.wrap ((7 : Int) - s15)).toNat IntKind.i64.bits)) &&& BitVec.ofInt IntKind.i64.bits (1 : Int)).toNat == (1 : Int))
   (obind (Rc.fmul.F N s5 ([s14_0, s14_1, s14_2, s14_3, s14_4, s14_5, s14_6, s14_7].getD s15.toNat (0 : Int)) ((30 : Int))) fun r0 =>
   (chkI s4 s4
   (chkI s14_0 s14_0
   (chkI s14_1 s14_1
   (chkI s14_2 s14_2
   (chkI s14_3 s14_3
   (chkI s14_4 s14_4
   (chkI s14_5 s14_5
   (chkI s14_6 s14_6
   (chkI s14_7 s14_7
   (exp2.loop5 N nn s4 s14_0 s14_1 s14_2 s14_3 s14_4 s14_5 s14_6 s14_7 r0 (IntKind.i64.wrap (s15 + (1 : Int))))))))))))))
   (chkI s4 s4
   (chkI s14_0 s14_0
   (chkI s14_1 s14_1
   (chkI s14_2 s14_2
   (chkI s14_3 s14_3
   (chkI s14_4 s14_4
   (chkI s14_5 s14_5
   (chkI s14_6 s14_6
   (chkI s14_7 s14_7
   (exp2.loop5 N nn s4 s14_0 s14_1 s14_2 s14_3 s14_4 s14_5 s14_6 s14_7 s5 (IntKind.i64.wrap (s15 + (1 : Int))))))))))))))))
   (some s5))
noncomputable def exp2.loop5R (N nn : Nat) (s4 : Int) (s14_0 : Int) (s14_1 : Int) (s14_2 : Int) (s14_3 : Int) (s14_4 : Int) (s14_5 : Int) (s14_6 : Int) (s14_7 : Int) (s5 : Int) (s15 : Int) : Option exp2.loop5.R := loopF exp2.loop5.ann (mkL [s4, s14_0, s14_1, s14_2, s14_3, s14_4, s14_5, s14_6, s14_7] [] [] []) (evCode ((exp2.C N).inLoop exp2.loop5.ann) (exp2.K N) (inlTab (exp2.C N) 0) (bodyAt 5 Try.f62)) nn (mkL [s5, s15] [] [] [])
theorem exp2.loop5_eq (N : Nat) : ∀ (nn : Nat) (s4 : Int) (s14_0 : Int) (s14_1 : Int) (s14_2 : Int) (s14_3 : Int) (s14_4 : Int) (s14_5 : Int) (s14_6 : Int) (s14_7 : Int) (s5 : Int) (s15 : Int), exp2.loop5R N nn s4 s14_0 s14_1 s14_2 s14_3 s14_4 s14_5 s14_6 s14_7 s5 s15 = exp2.loop5 N nn s4 s14_0 s14_1 s14_2 s14_3 s14_4 s14_5 s14_6 s14_7 s5 s15
  | 0, _, _, _, _, _, _, _, _, _, _, _ => by kernel_rfl
  | nn + 1, s4, s14_0, s14_1, s14_2, s14_3, s14_4, s14_5, s14_6, s14_7, s5, s15 => by
    have h : exp2.loop5R N (nn + 1) s4 s14_0 s14_1 s14_2 s14_3 s14_4 s14_5 s14_6 s14_7 s5 s15 =
  (br (decide (s15 < (8 : Int)))
   (chk ((0 : Int) ≤ s15 ∧ s15 < ↑(8 : Nat))
   (chk ((0 : Int) ≤ IntKind.i64.wrap ((7 : Int) - s15))
   (br (IntKind.i64.wrap ↑(BitVec.ofInt IntKind.i64.bits (s4.fdiv ((2 : Int) ^ min (IntKind.i64.wrap ((7 : Int) - s15)).toNat IntKind.i64.bits)) &&& BitVec.ofInt IntKind.i64.bits (1 : Int)).toNat == (1 : Int))
   (obind (Rc.fmul.F N s5 ([s14_0, s14_1, s14_2, s14_3, s14_4, s14_5, s14_6, s14_7].getD s15.toNat (0 : Int)) ((30 : Int))) fun r0 =>
   (chkI s4 s4
   (chkI s14_0 s14_0
   (chkI s14_1 s14_1
   (chkI s14_2 s14_2
   (chkI s14_3 s14_3
   (chkI s14_4 s14_4
   (chkI s14_5 s14_5
   (chkI s14_6 s14_6
   (chkI s14_7 s14_7
   (exp2.loop5R N nn s4 s14_0 s14_1 s14_2 s14_3 s14_4 s14_5 s14_6 s14_7 r0 (IntKind.i64.wrap (s15 + (1 : Int))))))))))))))
   (chkI s4 s4
   (chkI s14_0 s14_0
   (chkI s14_1 s14_1
   (chkI s14_2 s14_2
   (chkI s14_3 s14_3
   (chkI s14_4 s14_4
   (chkI s14_5 s14_5
   (chkI s14_6 s14_6
   (chkI s14_7 s14_7
   (exp2.loop5R N nn s4 s14_0 s14_1 s14_2 s14_3 s14_4 s14_5 s14_6 s14_7 s5 (IntKind.i64.wrap (s15 + (1 : Int))))))))))))))))
   (some s5)) := by kernel_rfl
    rw [h, exp2.loop5]
    try simp only [exp2.loop5_eq N nn]
noncomputable def exp2.F (N : Nat) (q : Int) : Option exp2.R :=
  (obind (Rc.clamp.F N q ((0 : Int)) ((7935 : Int))) fun r0 =>
   (obind (exp2.loop5 N N (IntKind.i64.wrap ↑(BitVec.ofInt IntKind.i64.bits r0 &&& BitVec.ofInt IntKind.i64.bits (255 : Int)).toNat) ((1518500250 : Int)) ((1276901417 : Int)) ((1170923762 : Int)) ((1121280436 : Int)) ((1097253708 : Int)) ((1085434106 : Int)) ((1079572136 : Int)) ((1076653033 : Int)) ((1073741824 : Int)) ((0 : Int))) fun r1 =>
   (br (r0.fdiv ((2 : Int) ^ min (Int.toNat (8 : Int)) IntKind.i64.bits) == (30 : Int))
   (some r1)
   (obind (Rc.fmul.F N r1 ((1 : Int)) (IntKind.i64.wrap ((30 : Int) - r0.fdiv ((2 : Int) ^ min (Int.toNat (8 : Int)) IntKind.i64.bits)))) fun r2 =>
   (some r2)))))
theorem exp2.F_eq (N : Nat) (L : Eng.Leaves) : evSig (exp2.C N) (exp2.K N) 0 Try.f62 exp2.sig L exp2.dec = exp2.F N (L.i 0) := by
  have h : ∀ (q : Int), evSig (exp2.C N) (exp2.K N) 0 Try.f62 exp2.sig (mkL [q] [] [] []) exp2.dec =
  (obind (Rc.clamp.F N q ((0 : Int)) ((7935 : Int))) fun r0 =>
   (obind (exp2.loop5R N N (IntKind.i64.wrap ↑(BitVec.ofInt IntKind.i64.bits r0 &&& BitVec.ofInt IntKind.i64.bits (255 : Int)).toNat) ((1518500250 : Int)) ((1276901417 : Int)) ((1170923762 : Int)) ((1121280436 : Int)) ((1097253708 : Int)) ((1085434106 : Int)) ((1079572136 : Int)) ((1076653033 : Int)) ((1073741824 : Int)) ((0 : Int))) fun r1 =>
   (br (r0.fdiv ((2 : Int) ^ min (Int.toNat (8 : Int)) IntKind.i64.bits) == (30 : Int))
   (some r1)
   (obind (Rc.fmul.F N r1 ((1 : Int)) (IntKind.i64.wrap ((30 : Int) - r0.fdiv ((2 : Int) ^ min (Int.toNat (8 : Int)) IntKind.i64.bits)))) fun r2 =>
   (some r2))))) := by
    intro q
    kernel_rfl
  have h2 : evSig (exp2.C N) (exp2.K N) 0 Try.f62 exp2.sig L exp2.dec = evSig (exp2.C N) (exp2.K N) 0 Try.f62 exp2.sig (mkL [L.i 0] [] [] []) exp2.dec := by kernel_rfl
  rw [h2, h, exp2.F]
  try simp only [exp2.loop5_eq N]
noncomputable def exp2.spec : Eng.Spec := exp2.sig.spec (fun N L => exp2.F N (L.i 0)) exp2.enc
theorem exp2.cok (N : Nat) : CfgOK (exp2.C N) := ⟨fun _ _ _ _ h => by simp [exp2.C, noRT] at h, wide, by
  simp only [exp2.C, List.mem_cons, List.not_mem_nil, or_false, forall_eq_or_imp, forall_eq, false_imp_iff, implies_true]
  exact ⟨⟨clamp.ok, by kernel_rfl⟩, ⟨fmul.ok, by kernel_rfl⟩⟩, fun g hg => by simp [exp2.C] at hg, fun m hm => by simp [exp2.C] at hm, fun q hq => by simp [exp2.C] at hq⟩
theorem exp2.aok (N : Nat) : AnnsOK (exp2.K N) := by
  intro q hq
  simp only [exp2.K, List.mem_cons, List.not_mem_nil, or_false] at hq
  subst hq
  exact fun _ _ => ⟨rfl, rfl⟩
theorem exp2.ok : CallOK Try.prog 62 exp2.spec :=
  callOK_of_sig (fn := Try.f62) (Cf := exp2.C) (K := exp2.K) (d := 0) (dec := exp2.dec) (by kernel_rfl) (fun _ => rfl) exp2.cok (fun _ q hq => by simp [exp2.C] at hq) exp2.aok
   (fun N L r h => (exp2.F_eq N L).trans h) (by kernel_rfl) (fun _ => ⟨rfl, rfl⟩) (fun _ _ => ⟨rfl, rfl⟩)
noncomputable def fsqrt.sig : Eng.Sig := { args := [.at (.int .i64 0)], n := 0, pre := [], post := [], m := 0, ret := .at (.int .i64 0) }
noncomputable def fsqrt.C (N : Nat) : Cfg := { P := Try.prog, N := N, RT := noRT, specs := [], inl := [], hi := 0, mv := [] }
abbrev fsqrt.R : Type := Int
def fsqrt.dec (L : Eng.Leaves) : fsqrt.R := (L.i 0)
def fsqrt.enc (r : fsqrt.R) : Eng.Leaves := mkL [r] [] [] []
abbrev fsqrt.loop5.R : Type := Int
noncomputable def fsqrt.loop5.ann : Ann := { nx := 20, slots := [(3, .at (.int .u64 0)), (4, .at (.int .u64 1)), (5, .at (.int .u64 2))], blks := [], mov := [], exId := 0, xslots := [(4, .at (.int .u64 0))], xblks := [], T := fsqrt.loop5.R, dec := fun L => (L.i 0), enc := fun r => mkL [r] [] [] [], ret := false }
noncomputable def fsqrt.K (N : Nat) : FCfg := { anns := [(5, fsqrt.loop5.ann)], unr := [], lits := [], lets := [] }
noncomputable def fsqrt.loop5 (N : Nat) : Nat → Int → Int → Int → Option fsqrt.loop5.R
  | 0, _, _, _ => none
  | nn + 1, s3, s4, s5 =>
  (br (decide (s5 > (0 : Int)))
   (br (decide (s3 ≥ IntKind.u64.wrap (s4 + s5)))
   (fsqrt.loop5 N nn (IntKind.u64.wrap (s3 - IntKind.u64.wrap (s4 + s5))) (IntKind.u64.wrap (s4.fdiv ((2 : Int) ^ min (Int.toNat (1 : Int)) IntKind.u64.bits) + s5)) (s5.fdiv ((2 : Int) ^ min (Int.toNat (2 : Int)) IntKind.u64.bits)))
   (fsqrt.loop5 N nn s3 (s4.fdiv ((2 : Int) ^ min (Int.toNat (1 : Int)) IntKind.u64.bits)) (s5.fdiv ((2 : Int) ^ min (Int.toNat (2 : Int)) IntKind.u64.bits))))
   (some s4))
noncomputable def fsqrt.loop5R (N nn : Nat) (s3 : Int) (s4 : Int) (s5 : Int) : Option fsqrt.loop5.R := loopF fsqrt.loop5.ann (mkL [] [] [] []) (evCode ((fsqrt.C N).inLoop fsqrt.loop5.ann) (fsqrt.K N) (inlTab (fsqrt.C N) 0) (bodyAt 5 Try.f31)) nn (mkL [s3, s4, s5] [] [] [])
theorem fsqrt.loop5_eq (N : Nat) : ∀ (nn : Nat) (s3 : Int) (s4 : Int) (s5 : Int), fsqrt.loop5R N nn s3 s4 s5 = fsqrt.loop5 N nn s3 s4 s5
  | 0, _, _, _ => by kernel_rfl
  | nn + 1, s3, s4, s5 => by
    have h : fsqrt.loop5R N (nn + 1) s3 s4 s5 =
  (br (decide (s5 > (0 : Int)))
   (br (decide (s3 ≥ IntKind.u64.wrap (s4 + s5)))
   (fsqrt.loop5R N nn (IntKind.u64.wrap (s3 - IntKind.u64.wrap (s4 + s5))) (IntKind.u64.wrap (s4.fdiv ((2 : Int) ^ min (Int.toNat (1 : Int)) IntKind.u64.bits) + s5)) (s5.fdiv ((2 : Int) ^ min (Int.toNat (2 : Int)) IntKind.u64.bits)))
   (fsqrt.loop5R N nn s3 (s4.fdiv ((2 : Int) ^ min (Int.toNat (1 : Int)) IntKind.u64.bits)) (s5.fdiv ((2 : Int) ^ min (Int.toNat (2 : Int)) IntKind.u64.bits))))
   (some s4)) := by kernel_rfl
    rw [h, fsqrt.loop5]
    try simp only [fsqrt.loop5_eq N nn]
noncomputable def fsqrt.F (N : Nat) (a : Int) : Option fsqrt.R :=
  (br (decide (a < (0 : Int)))
   (some ((0 : Int)))
   (obind (fsqrt.loop5 N N (IntKind.u64.wrap a) ((0 : Int)) ((4611686018427387904 : Int))) fun r0 =>
   (some (IntKind.i64.wrap r0))))
theorem fsqrt.F_eq (N : Nat) (L : Eng.Leaves) : evSig (fsqrt.C N) (fsqrt.K N) 0 Try.f31 fsqrt.sig L fsqrt.dec = fsqrt.F N (L.i 0) := by
  have h : ∀ (a : Int), evSig (fsqrt.C N) (fsqrt.K N) 0 Try.f31 fsqrt.sig (mkL [a] [] [] []) fsqrt.dec =
  (br (decide (a < (0 : Int)))
   (some ((0 : Int)))
   (obind (fsqrt.loop5R N N (IntKind.u64.wrap a) ((0 : Int)) ((4611686018427387904 : Int))) fun r0 =>
   (some (IntKind.i64.wrap r0)))) := by
    intro a
    kernel_rfl
  have h2 : evSig (fsqrt.C N) (fsqrt.K N) 0 Try.f31 fsqrt.sig L fsqrt.dec = evSig (fsqrt.C N) (fsqrt.K N) 0 Try.f31 fsqrt.sig (mkL [L.i 0] [] [] []) fsqrt.dec := by kernel_rfl
  rw [h2, h, fsqrt.F]
  try simp only [fsqrt.loop5_eq N]
noncomputable def fsqrt.spec : Eng.Spec := fsqrt.sig.spec (fun N L => fsqrt.F N (L.i 0)) fsqrt.enc
theorem fsqrt.cok (N : Nat) : CfgOK (fsqrt.C N) := ⟨fun _ _ _ _ h => by simp [fsqrt.C, noRT] at h, wide, by
  simp only [fsqrt.C, List.mem_cons, List.not_mem_nil, or_false, forall_eq_or_imp, forall_eq, false_imp_iff, implies_true], fun g hg => by simp [fsqrt.C] at hg, fun m hm => by simp [fsqrt.C] at hm, fun q hq => by simp [fsqrt.C] at hq⟩
theorem fsqrt.aok (N : Nat) : AnnsOK (fsqrt.K N) := by
  intro q hq
  simp only [fsqrt.K, List.mem_cons, List.not_mem_nil, or_false] at hq
  subst hq
  exact fun _ _ => ⟨rfl, rfl⟩
theorem fsqrt.ok : CallOK Try.prog 31 fsqrt.spec :=
  callOK_of_sig (fn := Try.f31) (Cf := fsqrt.C) (K := fsqrt.K) (d := 0) (dec := fsqrt.dec) (by kernel_rfl) (fun _ => rfl) fsqrt.cok (fun _ q hq => by simp [fsqrt.C] at hq) fsqrt.aok
   (fun N L r h => (fsqrt.F_eq N L).trans h) (by kernel_rfl) (fun _ => ⟨rfl, rfl⟩) (fun _ _ => ⟨rfl, rfl⟩)
noncomputable def esize.sig : Eng.Sig := { args := [.at (.int .i64 0)], n := 0, pre := [], post := [], m := 0, ret := .at (.int .i64 0) }
noncomputable def esize.C (N : Nat) : Cfg := { P := Try.prog, N := N, RT := noRT, specs := [(63, eclamp.spec), (62, exp2.spec)], inl := [], hi := 0, mv := [] }
abbrev esize.R : Type := Int
def esize.dec (L : Eng.Leaves) : esize.R := (L.i 0)
def esize.enc (r : esize.R) : Eng.Leaves := mkL [r] [] [] []
noncomputable def esize.K (N : Nat) : FCfg := { anns := [], unr := [], lits := [], lets := [] }
noncomputable def esize.F (N : Nat) (eq : Int) : Option esize.R :=
  (obind (Rc.eclamp.F N eq) fun r0 =>
   (obind (Rc.exp2.F N (IntKind.i64.wrap ((64 : Int) * r0))) fun r1 =>
   (some r1)))
theorem esize.F_eq (N : Nat) (L : Eng.Leaves) : evSig (esize.C N) (esize.K N) 0 Try.f30 esize.sig L esize.dec = esize.F N (L.i 0) := by
  kernel_rfl
noncomputable def esize.spec : Eng.Spec := esize.sig.spec (fun N L => esize.F N (L.i 0)) esize.enc
theorem esize.cok (N : Nat) : CfgOK (esize.C N) := ⟨fun _ _ _ _ h => by simp [esize.C, noRT] at h, wide, by
  simp only [esize.C, List.mem_cons, List.not_mem_nil, or_false, forall_eq_or_imp, forall_eq, false_imp_iff, implies_true]
  exact ⟨⟨eclamp.ok, by kernel_rfl⟩, ⟨exp2.ok, by kernel_rfl⟩⟩, fun g hg => by simp [esize.C] at hg, fun m hm => by simp [esize.C] at hm, fun q hq => by simp [esize.C] at hq⟩
theorem esize.aok (N : Nat) : AnnsOK (esize.K N) := by
  intro q hq
  simp only [esize.K, List.mem_cons, List.not_mem_nil, or_false] at hq
theorem esize.ok : CallOK Try.prog 30 esize.spec :=
  callOK_of_sig (fn := Try.f30) (Cf := esize.C) (K := esize.K) (d := 0) (dec := esize.dec) (by kernel_rfl) (fun _ => rfl) esize.cok (fun _ q hq => by simp [esize.C] at hq) esize.aok
   (fun N L r h => (esize.F_eq N L).trans h) (by kernel_rfl) (fun _ => ⟨rfl, rfl⟩) (fun _ _ => ⟨rfl, rfl⟩)
noncomputable def rmul.sig : Eng.Sig := { args := [.at (.int .i64 0), .at (.int .i64 1), .at (.int .i64 2)], n := 0, pre := [], post := [], m := 0, ret := .at (.int .i64 0) }
noncomputable def rmul.C (N : Nat) : Cfg := { P := Try.prog, N := N, RT := noRT, specs := [(44, rclamp.spec)], inl := [], hi := 0, mv := [] }
abbrev rmul.R : Type := Int
def rmul.dec (L : Eng.Leaves) : rmul.R := (L.i 0)
def rmul.enc (r : rmul.R) : Eng.Leaves := mkL [r] [] [] []
noncomputable def rmul.K (N : Nat) : FCfg := { anns := [], unr := [], lits := [], lets := [] }
noncomputable def rmul.F (N : Nat) (a : Int) (b : Int) (s : Int) : Option rmul.R :=
  (obind (Rc.rclamp.F N a ((-2147483648 : Int)) ((2147483648 : Int))) fun r0 =>
   (obind (Rc.rclamp.F N b ((-2147483648 : Int)) ((2147483648 : Int))) fun r1 =>
   (br (decide (s < (0 : Int)))
   (some ((0 : Int)))
   (br (decide (s > (62 : Int)))
   (some ((0 : Int)))
   (br (s == (0 : Int))
   (some (IntKind.i64.wrap (r0 * r1)))
   (chk ((0 : Int) ≤ IntKind.u64.wrap (IntKind.i64.wrap (s - (1 : Int))))
   (chk ((0 : Int) ≤ IntKind.u64.wrap s)
   (chk ((0 : Int) ≤ IntKind.u64.wrap s)
   (br (decide (IntKind.i64.wrap (IntKind.i64.wrap (r0 * r1) - IntKind.i64.wrap ((IntKind.i64.wrap (r0 * r1)).fdiv ((2 : Int) ^ min (IntKind.u64.wrap s).toNat IntKind.i64.bits) * (2 : Int) ^ min (IntKind.u64.wrap s).toNat IntKind.i64.bits)) ≥ IntKind.i64.wrap ((1 : Int) * (2 : Int) ^ min (IntKind.u64.wrap (IntKind.i64.wrap (s - (1 : Int)))).toNat IntKind.i64.bits)))
   (some (IntKind.i64.wrap ((IntKind.i64.wrap (r0 * r1)).fdiv ((2 : Int) ^ min (IntKind.u64.wrap s).toNat IntKind.i64.bits) + (1 : Int))))
   (some ((IntKind.i64.wrap (r0 * r1)).fdiv ((2 : Int) ^ min (IntKind.u64.wrap s).toNat IntKind.i64.bits))))))))))))
theorem rmul.F_eq (N : Nat) (L : Eng.Leaves) : evSig (rmul.C N) (rmul.K N) 0 Try.f95 rmul.sig L rmul.dec = rmul.F N (L.i 0) (L.i 1) (L.i 2) := by
  kernel_rfl
noncomputable def rmul.spec : Eng.Spec := rmul.sig.spec (fun N L => rmul.F N (L.i 0) (L.i 1) (L.i 2)) rmul.enc
theorem rmul.cok (N : Nat) : CfgOK (rmul.C N) := ⟨fun _ _ _ _ h => by simp [rmul.C, noRT] at h, wide, by
  simp only [rmul.C, List.mem_cons, List.not_mem_nil, or_false, forall_eq_or_imp, forall_eq, false_imp_iff, implies_true]
  exact ⟨rclamp.ok, by kernel_rfl⟩, fun g hg => by simp [rmul.C] at hg, fun m hm => by simp [rmul.C] at hm, fun q hq => by simp [rmul.C] at hq⟩
theorem rmul.aok (N : Nat) : AnnsOK (rmul.K N) := by
  intro q hq
  simp only [rmul.K, List.mem_cons, List.not_mem_nil, or_false] at hq
theorem rmul.ok : CallOK Try.prog 95 rmul.spec :=
  callOK_of_sig (fn := Try.f95) (Cf := rmul.C) (K := rmul.K) (d := 0) (dec := rmul.dec) (by kernel_rfl) (fun _ => rfl) rmul.cok (fun _ q hq => by simp [rmul.C] at hq) rmul.aok
   (fun N L r h => (rmul.F_eq N L).trans h) (by kernel_rfl) (fun _ => ⟨rfl, rfl⟩) (fun _ _ => ⟨rfl, rfl⟩)
noncomputable def rexp2.sig : Eng.Sig := { args := [.at (.int .i64 0)], n := 0, pre := [], post := [], m := 0, ret := .at (.int .i64 0) }
noncomputable def rexp2.C (N : Nat) : Cfg := { P := Try.prog, N := N, RT := noRT, specs := [(44, rclamp.spec), (95, rmul.spec)], inl := [], hi := 0, mv := [] }
abbrev rexp2.R : Type := Int
def rexp2.dec (L : Eng.Leaves) : rexp2.R := (L.i 0)
def rexp2.enc (r : rexp2.R) : Eng.Leaves := mkL [r] [] [] []
abbrev rexp2.loop5.R : Type := Int
noncomputable def rexp2.loop5.ann : Ann := { nx := 20, slots := [(0, .at (.fint .i64 0)), (3, .at (.full 0 true)), (4, .at (.int .i64 0)), (5, .at (.int .i64 1))], blks := [(0, .fints true .i64 0)], mov := [], exId := 0, xslots := [(3, .at (.full 0 true)), (4, .at (.int .i64 0))], xblks := [(0, .fints true .i64 0)], T := rexp2.loop5.R, dec := fun L => (L.i 0), enc := fun r => mkL [r] [] [] [], ret := false }
noncomputable def rexp2.K (N : Nat) : FCfg := { anns := [(5, rexp2.loop5.ann)], unr := [], lits := [], lets := [] }
noncomputable def rexp2.loop5 (N : Nat) : Nat → Int → List Int → Int → Int → Option rexp2.loop5.R
  | 0, _, _, _, _ => none
  | nn + 1, q, l0, s4, s5 =>
  (br (decide (s5 < (8 : Int)))
   (chk ((0 : Int) ≤ IntKind.u64.wrap (IntKind.i64.wrap ((7 : Int) - s5)))
   (br (IntKind.i64.wrap ↑(BitVec.ofInt IntKind.i64.bits (q.fdiv ((2 : Int) ^ min (IntKind.u64.wrap (IntKind.i64.wrap ((7 : Int) - s5))).toNat IntKind.i64.bits)) &&& BitVec.ofInt IntKind.i64.bits (1 : Int)).toNat == (1 : Int))
   (chk ((0 : Int) ≤ s5 ∧ s5 < ↑l0.length)
   (obind (Rc.rmul.F N s4 (l0.getD s5.toNat (0 : Int)) ((30 : Int))) fun r0 =>
   (chkI q q
   (chkL l0 l0
   (rexp2.loop5 N nn q l0 r0 (IntKind.i64.wrap (s5 + (1 : Int))))))))
   (chkI q q
   (chkL l0 l0
   (rexp2.loop5 N nn q l0 s4 (IntKind.i64.wrap (s5 + (1 : Int))))))))
   (chkL l0 l0
   (some s4)))
noncomputable def rexp2.loop5R (N nn : Nat) (q : Int) (l0 : List Int) (s4 : Int) (s5 : Int) : Option rexp2.loop5.R := loopF rexp2.loop5.ann (mkL [q] [] [l0] []) (evCode ((rexp2.C N).inLoop rexp2.loop5.ann) (rexp2.K N) (inlTab (rexp2.C N) 0) (bodyAt 5 Try.f77)) nn (mkL [s4, s5] [] [] [])
theorem rexp2.loop5_eq (N : Nat) : ∀ (nn : Nat) (q : Int) (l0 : List Int) (s4 : Int) (s5 : Int), rexp2.loop5R N nn q l0 s4 s5 = rexp2.loop5 N nn q l0 s4 s5
  | 0, _, _, _, _ => by kernel_rfl
  | nn + 1, q, l0, s4, s5 => by
    have h : rexp2.loop5R N (nn + 1) q l0 s4 s5 =
  (br (decide (s5 < (8 : Int)))
   (chk ((0 : Int) ≤ IntKind.u64.wrap (IntKind.i64.wrap ((7 : Int) - s5)))
   (br (IntKind.i64.wrap ↑(BitVec.ofInt IntKind.i64.bits (q.fdiv ((2 : Int) ^ min (IntKind.u64.wrap (IntKind.i64.wrap ((7 : Int) - s5))).toNat IntKind.i64.bits)) &&& BitVec.ofInt IntKind.i64.bits (1 : Int)).toNat == (1 : Int))
   (chk ((0 : Int) ≤ s5 ∧ s5 < ↑l0.length)
   (obind (Rc.rmul.F N s4 (l0.getD s5.toNat (0 : Int)) ((30 : Int))) fun r0 =>
   (chkI q q
   (chkL l0 l0
   (rexp2.loop5R N nn q l0 r0 (IntKind.i64.wrap (s5 + (1 : Int))))))))
   (chkI q q
   (chkL l0 l0
   (rexp2.loop5R N nn q l0 s4 (IntKind.i64.wrap (s5 + (1 : Int))))))))
   (chkL l0 l0
   (some s4))) := by kernel_rfl
    rw [h, rexp2.loop5]
    try simp only [rexp2.loop5_eq N nn]
noncomputable def rexp2.F (N : Nat) (q : Int) : Option rexp2.R :=
  (obind (Rc.rclamp.F N q ((0 : Int)) ((7935 : Int))) fun r0 =>
   (obind (rexp2.loop5 N N r0 ([(1518500250 : Int), (1276901417 : Int), (1170923762 : Int), (1121280436 : Int), (1097253708 : Int), (1085434106 : Int), (1079572136 : Int), (1076653033 : Int)]) ((1073741824 : Int)) ((0 : Int))) fun r1 =>
   (obind (Rc.rmul.F N r1 ((1 : Int)) (IntKind.i64.wrap ((30 : Int) - IntKind.i64.wrap (r0.tdiv (256 : Int))))) fun r2 =>
   (some r2))))
theorem rexp2.F_eq (N : Nat) (L : Eng.Leaves) : evSig (rexp2.C N) (rexp2.K N) 0 Try.f77 rexp2.sig L rexp2.dec = rexp2.F N (L.i 0) := by
  have h : ∀ (q : Int), evSig (rexp2.C N) (rexp2.K N) 0 Try.f77 rexp2.sig (mkL [q] [] [] []) rexp2.dec =
  (obind (Rc.rclamp.F N q ((0 : Int)) ((7935 : Int))) fun r0 =>
   (obind (rexp2.loop5R N N r0 ([(1518500250 : Int), (1276901417 : Int), (1170923762 : Int), (1121280436 : Int), (1097253708 : Int), (1085434106 : Int), (1079572136 : Int), (1076653033 : Int)]) ((1073741824 : Int)) ((0 : Int))) fun r1 =>
   (obind (Rc.rmul.F N r1 ((1 : Int)) (IntKind.i64.wrap ((30 : Int) - IntKind.i64.wrap (r0.tdiv (256 : Int))))) fun r2 =>
   (some r2)))) := by
    intro q
    kernel_rfl
  have h2 : evSig (rexp2.C N) (rexp2.K N) 0 Try.f77 rexp2.sig L rexp2.dec = evSig (rexp2.C N) (rexp2.K N) 0 Try.f77 rexp2.sig (mkL [L.i 0] [] [] []) rexp2.dec := by kernel_rfl
  rw [h2, h, rexp2.F]
  try simp only [rexp2.loop5_eq N]
noncomputable def rexp2.spec : Eng.Spec := rexp2.sig.spec (fun N L => rexp2.F N (L.i 0)) rexp2.enc
theorem rexp2.cok (N : Nat) : CfgOK (rexp2.C N) := ⟨fun _ _ _ _ h => by simp [rexp2.C, noRT] at h, wide, by
  simp only [rexp2.C, List.mem_cons, List.not_mem_nil, or_false, forall_eq_or_imp, forall_eq, false_imp_iff, implies_true]
  exact ⟨⟨rclamp.ok, by kernel_rfl⟩, ⟨rmul.ok, by kernel_rfl⟩⟩, fun g hg => by simp [rexp2.C] at hg, fun m hm => by simp [rexp2.C] at hm, fun q hq => by simp [rexp2.C] at hq⟩
theorem rexp2.aok (N : Nat) : AnnsOK (rexp2.K N) := by
  intro q hq
  simp only [rexp2.K, List.mem_cons, List.not_mem_nil, or_false] at hq
  subst hq
  exact fun _ _ => ⟨rfl, rfl⟩
theorem rexp2.ok : CallOK Try.prog 77 rexp2.spec :=
  callOK_of_sig (fn := Try.f77) (Cf := rexp2.C) (K := rexp2.K) (d := 0) (dec := rexp2.dec) (by kernel_rfl) (fun _ => rfl) rexp2.cok (fun _ q hq => by simp [rexp2.C] at hq) rexp2.aok
   (fun N L r h => (rexp2.F_eq N L).trans h) (by kernel_rfl) (fun _ => ⟨rfl, rfl⟩) (fun _ _ => ⟨rfl, rfl⟩)
noncomputable def rsqrt.sig : Eng.Sig := { args := [.at (.int .i64 0)], n := 0, pre := [], post := [], m := 0, ret := .at (.int .i64 0) }
noncomputable def rsqrt.C (N : Nat) : Cfg := { P := Try.prog, N := N, RT := noRT, specs := [], inl := [], hi := 0, mv := [] }
abbrev rsqrt.R : Type := Int
def rsqrt.dec (L : Eng.Leaves) : rsqrt.R := (L.i 0)
def rsqrt.enc (r : rsqrt.R) : Eng.Leaves := mkL [r] [] [] []
abbrev rsqrt.loop3.R : Type := Int
noncomputable def rsqrt.loop3.ann : Ann := { nx := 20, slots := [(0, .at (.fint .i64 0)), (3, .at (.int .i64 0)), (4, .at (.int .i64 1))], blks := [], mov := [], exId := 0, xslots := [(3, .at (.int .i64 0))], xblks := [], T := rsqrt.loop3.R, dec := fun L => (L.i 0), enc := fun r => mkL [r] [] [] [], ret := false }
noncomputable def rsqrt.K (N : Nat) : FCfg := { anns := [(3, rsqrt.loop3.ann)], unr := [], lits := [], lets := [] }
noncomputable def rsqrt.loop3 (N : Nat) : Nat → Int → Int → Int → Option rsqrt.loop3.R
  | 0, _, _, _ => none
  | nn + 1, a, s3, s4 =>
  (br (decide (s4 ≥ (0 : Int)))
   (chk ((0 : Int) ≤ IntKind.u64.wrap s4)
   (br (decide (IntKind.i64.wrap (s3 + IntKind.i64.wrap ((1 : Int) * (2 : Int) ^ min (IntKind.u64.wrap s4).toNat IntKind.i64.bits)) ≤ (3037000499 : Int)))
   (br (decide (IntKind.i64.wrap (IntKind.i64.wrap (s3 + IntKind.i64.wrap ((1 : Int) * (2 : Int) ^ min (IntKind.u64.wrap s4).toNat IntKind.i64.bits)) * IntKind.i64.wrap (s3 + IntKind.i64.wrap ((1 : Int) * (2 : Int) ^ min (IntKind.u64.wrap s4).toNat IntKind.i64.bits))) ≤ a))
   (chkI a a
   (rsqrt.loop3 N nn a (IntKind.i64.wrap (s3 + IntKind.i64.wrap ((1 : Int) * (2 : Int) ^ min (IntKind.u64.wrap s4).toNat IntKind.i64.bits))) (IntKind.i64.wrap (s4 - (1 : Int)))))
   (chkI a a
   (rsqrt.loop3 N nn a s3 (IntKind.i64.wrap (s4 - (1 : Int))))))
   (chkI a a
   (rsqrt.loop3 N nn a s3 (IntKind.i64.wrap (s4 - (1 : Int)))))))
   (some s3))
noncomputable def rsqrt.loop3R (N nn : Nat) (a : Int) (s3 : Int) (s4 : Int) : Option rsqrt.loop3.R := loopF rsqrt.loop3.ann (mkL [a] [] [] []) (evCode ((rsqrt.C N).inLoop rsqrt.loop3.ann) (rsqrt.K N) (inlTab (rsqrt.C N) 0) (bodyAt 3 Try.f45)) nn (mkL [s3, s4] [] [] [])
theorem rsqrt.loop3_eq (N : Nat) : ∀ (nn : Nat) (a : Int) (s3 : Int) (s4 : Int), rsqrt.loop3R N nn a s3 s4 = rsqrt.loop3 N nn a s3 s4
  | 0, _, _, _ => by kernel_rfl
  | nn + 1, a, s3, s4 => by
    have h : rsqrt.loop3R N (nn + 1) a s3 s4 =
  (br (decide (s4 ≥ (0 : Int)))
   (chk ((0 : Int) ≤ IntKind.u64.wrap s4)
   (br (decide (IntKind.i64.wrap (s3 + IntKind.i64.wrap ((1 : Int) * (2 : Int) ^ min (IntKind.u64.wrap s4).toNat IntKind.i64.bits)) ≤ (3037000499 : Int)))
   (br (decide (IntKind.i64.wrap (IntKind.i64.wrap (s3 + IntKind.i64.wrap ((1 : Int) * (2 : Int) ^ min (IntKind.u64.wrap s4).toNat IntKind.i64.bits)) * IntKind.i64.wrap (s3 + IntKind.i64.wrap ((1 : Int) * (2 : Int) ^ min (IntKind.u64.wrap s4).toNat IntKind.i64.bits))) ≤ a))
   (chkI a a
   (rsqrt.loop3R N nn a (IntKind.i64.wrap (s3 + IntKind.i64.wrap ((1 : Int) * (2 : Int) ^ min (IntKind.u64.wrap s4).toNat IntKind.i64.bits))) (IntKind.i64.wrap (s4 - (1 : Int)))))
   (chkI a a
   (rsqrt.loop3R N nn a s3 (IntKind.i64.wrap (s4 - (1 : Int))))))
   (chkI a a
   (rsqrt.loop3R N nn a s3 (IntKind.i64.wrap (s4 - (1 : Int)))))))
   (some s3)) := by kernel_rfl
    rw [h, rsqrt.loop3]
    try simp only [rsqrt.loop3_eq N nn]
noncomputable def rsqrt.F (N : Nat) (a : Int) : Option rsqrt.R :=
  (obind (rsqrt.loop3 N N a ((0 : Int)) ((31 : Int))) fun r0 =>
   (some r0))
theorem rsqrt.F_eq (N : Nat) (L : Eng.Leaves) : evSig (rsqrt.C N) (rsqrt.K N) 0 Try.f45 rsqrt.sig L rsqrt.dec = rsqrt.F N (L.i 0) := by
  have h : ∀ (a : Int), evSig (rsqrt.C N) (rsqrt.K N) 0 Try.f45 rsqrt.sig (mkL [a] [] [] []) rsqrt.dec =
  (obind (rsqrt.loop3R N N a ((0 : Int)) ((31 : Int))) fun r0 =>
   (some r0)) := by
    intro a
    kernel_rfl
  have h2 : evSig (rsqrt.C N) (rsqrt.K N) 0 Try.f45 rsqrt.sig L rsqrt.dec = evSig (rsqrt.C N) (rsqrt.K N) 0 Try.f45 rsqrt.sig (mkL [L.i 0] [] [] []) rsqrt.dec := by kernel_rfl
  rw [h2, h, rsqrt.F]
  try simp only [rsqrt.loop3_eq N]
noncomputable def rsqrt.spec : Eng.Spec := rsqrt.sig.spec (fun N L => rsqrt.F N (L.i 0)) rsqrt.enc
theorem rsqrt.cok (N : Nat) : CfgOK (rsqrt.C N) := ⟨fun _ _ _ _ h => by simp [rsqrt.C, noRT] at h, wide, by
  simp only [rsqrt.C, List.mem_cons, List.not_mem_nil, or_false, forall_eq_or_imp, forall_eq, false_imp_iff, implies_true], fun g hg => by simp [rsqrt.C] at hg, fun m hm => by simp [rsqrt.C] at hm, fun q hq => by simp [rsqrt.C] at hq⟩
theorem rsqrt.aok (N : Nat) : AnnsOK (rsqrt.K N) := by
  intro q hq
  simp only [rsqrt.K, List.mem_cons, List.not_mem_nil, or_false] at hq
  subst hq
  exact fun _ _ => ⟨rfl, rfl⟩
theorem rsqrt.ok : CallOK Try.prog 45 rsqrt.spec :=
  callOK_of_sig (fn := Try.f45) (Cf := rsqrt.C) (K := rsqrt.K) (d := 0) (dec := rsqrt.dec) (by kernel_rfl) (fun _ => rfl) rsqrt.cok (fun _ q hq => by simp [rsqrt.C] at hq) rsqrt.aok
   (fun N L r h => (rsqrt.F_eq N L).trans h) (by kernel_rfl) (fun _ => ⟨rfl, rfl⟩) (fun _ _ => ⟨rfl, rfl⟩)
noncomputable def rsize.sig : Eng.Sig := { args := [.at (.int .i64 0)], n := 0, pre := [], post := [], m := 0, ret := .at (.int .i64 0) }
noncomputable def rsize.C (N : Nat) : Cfg := { P := Try.prog, N := N, RT := noRT, specs := [(44, rclamp.spec), (77, rexp2.spec)], inl := [], hi := 0, mv := [] }
abbrev rsize.R : Type := Int
def rsize.dec (L : Eng.Leaves) : rsize.R := (L.i 0)
def rsize.enc (r : rsize.R) : Eng.Leaves := mkL [r] [] [] []
noncomputable def rsize.K (N : Nat) : FCfg := { anns := [], unr := [], lits := [], lets := [] }
noncomputable def rsize.F (N : Nat) (eq : Int) : Option rsize.R :=
  (obind (Rc.rclamp.F N eq ((0 : Int)) ((100 : Int))) fun r0 =>
   (obind (Rc.rexp2.F N (IntKind.i64.wrap ((64 : Int) * r0))) fun r1 =>
   (some r1)))
theorem rsize.F_eq (N : Nat) (L : Eng.Leaves) : evSig (rsize.C N) (rsize.K N) 0 Try.f57 rsize.sig L rsize.dec = rsize.F N (L.i 0) := by
  kernel_rfl
noncomputable def rsize.spec : Eng.Spec := rsize.sig.spec (fun N L => rsize.F N (L.i 0)) rsize.enc
theorem rsize.cok (N : Nat) : CfgOK (rsize.C N) := ⟨fun _ _ _ _ h => by simp [rsize.C, noRT] at h, wide, by
  simp only [rsize.C, List.mem_cons, List.not_mem_nil, or_false, forall_eq_or_imp, forall_eq, false_imp_iff, implies_true]
  exact ⟨⟨rclamp.ok, by kernel_rfl⟩, ⟨rexp2.ok, by kernel_rfl⟩⟩, fun g hg => by simp [rsize.C] at hg, fun m hm => by simp [rsize.C] at hm, fun q hq => by simp [rsize.C] at hq⟩
theorem rsize.aok (N : Nat) : AnnsOK (rsize.K N) := by
  intro q hq
  simp only [rsize.K, List.mem_cons, List.not_mem_nil, or_false] at hq
theorem rsize.ok : CallOK Try.prog 57 rsize.spec :=
  callOK_of_sig (fn := Try.f57) (Cf := rsize.C) (K := rsize.K) (d := 0) (dec := rsize.dec) (by kernel_rfl) (fun _ => rfl) rsize.cok (fun _ q hq => by simp [rsize.C] at hq) rsize.aok
   (fun N L r h => (rsize.F_eq N L).trans h) (by kernel_rfl) (fun _ => ⟨rfl, rfl⟩) (fun _ _ => ⟨rfl, rfl⟩)
noncomputable def flen.sig : Eng.Sig := { args := [.at (.int .i64 0)], n := 0, pre := [], post := [], m := 0, ret := .at (.int .i64 0) }
noncomputable def flen.C (N : Nat) : Cfg := { P := Try.prog, N := N, RT := noRT, specs := [(47, len64.spec)], inl := [], hi := 0, mv := [] }
abbrev flen.R : Type := Int
def flen.dec (L : Eng.Leaves) : flen.R := (L.i 0)
def flen.enc (r : flen.R) : Eng.Leaves := mkL [r] [] [] []
noncomputable def flen.K (N : Nat) : FCfg := { anns := [], unr := [], lits := [], lets := [] }
noncomputable def flen.F (N : Nat) (a : Int) : Option flen.R :=
  (br (decide (a ≤ (0 : Int)))
   (some ((0 : Int)))
   (obind (Rc.len64.F N (IntKind.u64.wrap a)) fun r0 =>
   (some r0)))
theorem flen.F_eq (N : Nat) (L : Eng.Leaves) : evSig (flen.C N) (flen.K N) 0 Try.f84 flen.sig L flen.dec = flen.F N (L.i 0) := by
  kernel_rfl
noncomputable def flen.spec : Eng.Spec := flen.sig.spec (fun N L => flen.F N (L.i 0)) flen.enc
theorem flen.cok (N : Nat) : CfgOK (flen.C N) := ⟨fun _ _ _ _ h => by simp [flen.C, noRT] at h, wide, by
  simp only [flen.C, List.mem_cons, List.not_mem_nil, or_false, forall_eq_or_imp, forall_eq, false_imp_iff, implies_true]
  exact ⟨len64.ok, by kernel_rfl⟩, fun g hg => by simp [flen.C] at hg, fun m hm => by simp [flen.C] at hm, fun q hq => by simp [flen.C] at hq⟩
theorem flen.aok (N : Nat) : AnnsOK (flen.K N) := by
  intro q hq
  simp only [flen.K, List.mem_cons, List.not_mem_nil, or_false] at hq
theorem flen.ok : CallOK Try.prog 84 flen.spec :=
  callOK_of_sig (fn := Try.f84) (Cf := flen.C) (K := flen.K) (d := 0) (dec := flen.dec) (by kernel_rfl) (fun _ => rfl) flen.cok (fun _ q hq => by simp [flen.C] at hq) flen.aok
   (fun N L r h => (flen.F_eq N L).trans h) (by kernel_rfl) (fun _ => ⟨rfl, rfl⟩) (fun _ _ => ⟨rfl, rfl⟩)
noncomputable def apulses.sig : Eng.Sig := { args := [.at (.int .i64 0), .at (.int .i64 1)], n := 0, pre := [], post := [], m := 0, ret := .at (.int .i64 0) }
noncomputable def apulses.C (N : Nat) : Cfg := { P := Try.prog, N := N, RT := noRT, specs := [(68, pmost.spec), (71, pcount.spec), (84, flen.spec)], inl := [], hi := 0, mv := [] }
abbrev apulses.R : Type := Int
def apulses.dec (L : Eng.Leaves) : apulses.R := (L.i 0)
def apulses.enc (r : apulses.R) : Eng.Leaves := mkL [r] [] [] []
abbrev apulses.loop2.R : Type := Int
noncomputable def apulses.loop2.ann : Ann := { nx := 20, slots := [(0, .at (.fint .i64 0)), (1, .at (.fint .i64 1)), (5, .at (.int .i64 0)), (6, .at (.int .i64 1))], blks := [], mov := [], exId := 0, xslots := [(5, .at (.int .i64 0))], xblks := [], T := apulses.loop2.R, dec := fun L => (L.i 0), enc := fun r => mkL [r] [] [] [], ret := false }
noncomputable def apulses.K (N : Nat) : FCfg := { anns := [(2, apulses.loop2.ann)], unr := [], lits := [], lets := [] }
noncomputable def apulses.loop2 (N : Nat) : Nat → Int → Int → Int → Int → Option apulses.loop2.R
  | 0, _, _, _, _ => none
  | nn + 1, n, bits, s5, s6 =>
  (br (decide (s5 < s6))
   (obind (Rc.pcount.F N n (IntKind.i64.wrap ((IntKind.i64.wrap (IntKind.i64.wrap (s5 + s6) + (1 : Int))).tdiv (2 : Int)))) fun r0 =>
   (obind (Rc.flen.F N (IntKind.i64.wrap (r0 - (1 : Int)))) fun r1 =>
   (br (decide (r1 ≤ bits))
   (chkI n n
   (chkI bits bits
   (apulses.loop2 N nn n bits (IntKind.i64.wrap ((IntKind.i64.wrap (IntKind.i64.wrap (s5 + s6) + (1 : Int))).tdiv (2 : Int))) s6)))
   (chkI n n
   (chkI bits bits
   (apulses.loop2 N nn n bits s5 (IntKind.i64.wrap (IntKind.i64.wrap ((IntKind.i64.wrap (IntKind.i64.wrap (s5 + s6) + (1 : Int))).tdiv (2 : Int)) - (1 : Int)))))))))
   (some s5))
noncomputable def apulses.loop2R (N nn : Nat) (n : Int) (bits : Int) (s5 : Int) (s6 : Int) : Option apulses.loop2.R := loopF apulses.loop2.ann (mkL [n, bits] [] [] []) (evCode ((apulses.C N).inLoop apulses.loop2.ann) (apulses.K N) (inlTab (apulses.C N) 0) (bodyAt 2 Try.f66)) nn (mkL [s5, s6] [] [] [])
theorem apulses.loop2_eq (N : Nat) : ∀ (nn : Nat) (n : Int) (bits : Int) (s5 : Int) (s6 : Int), apulses.loop2R N nn n bits s5 s6 = apulses.loop2 N nn n bits s5 s6
  | 0, _, _, _, _ => by kernel_rfl
  | nn + 1, n, bits, s5, s6 => by
    have h : apulses.loop2R N (nn + 1) n bits s5 s6 =
  (br (decide (s5 < s6))
   (obind (Rc.pcount.F N n (IntKind.i64.wrap ((IntKind.i64.wrap (IntKind.i64.wrap (s5 + s6) + (1 : Int))).tdiv (2 : Int)))) fun r0 =>
   (obind (Rc.flen.F N (IntKind.i64.wrap (r0 - (1 : Int)))) fun r1 =>
   (br (decide (r1 ≤ bits))
   (chkI n n
   (chkI bits bits
   (apulses.loop2R N nn n bits (IntKind.i64.wrap ((IntKind.i64.wrap (IntKind.i64.wrap (s5 + s6) + (1 : Int))).tdiv (2 : Int))) s6)))
   (chkI n n
   (chkI bits bits
   (apulses.loop2R N nn n bits s5 (IntKind.i64.wrap (IntKind.i64.wrap ((IntKind.i64.wrap (IntKind.i64.wrap (s5 + s6) + (1 : Int))).tdiv (2 : Int)) - (1 : Int)))))))))
   (some s5)) := by kernel_rfl
    rw [h, apulses.loop2]
    try simp only [apulses.loop2_eq N nn]
noncomputable def apulses.F (N : Nat) (n : Int) (bits : Int) : Option apulses.R :=
  (obind (Rc.pmost.F N n) fun r0 =>
   (obind (apulses.loop2 N N n bits ((0 : Int)) r0) fun r1 =>
   (some r1)))
theorem apulses.F_eq (N : Nat) (L : Eng.Leaves) : evSig (apulses.C N) (apulses.K N) 0 Try.f66 apulses.sig L apulses.dec = apulses.F N (L.i 0) (L.i 1) := by
  have h : ∀ (n : Int) (bits : Int), evSig (apulses.C N) (apulses.K N) 0 Try.f66 apulses.sig (mkL [n, bits] [] [] []) apulses.dec =
  (obind (Rc.pmost.F N n) fun r0 =>
   (obind (apulses.loop2R N N n bits ((0 : Int)) r0) fun r1 =>
   (some r1))) := by
    intro n bits
    kernel_rfl
  have h2 : evSig (apulses.C N) (apulses.K N) 0 Try.f66 apulses.sig L apulses.dec = evSig (apulses.C N) (apulses.K N) 0 Try.f66 apulses.sig (mkL [L.i 0, L.i 1] [] [] []) apulses.dec := by kernel_rfl
  rw [h2, h, apulses.F]
  try simp only [apulses.loop2_eq N]
noncomputable def apulses.spec : Eng.Spec := apulses.sig.spec (fun N L => apulses.F N (L.i 0) (L.i 1)) apulses.enc
theorem apulses.cok (N : Nat) : CfgOK (apulses.C N) := ⟨fun _ _ _ _ h => by simp [apulses.C, noRT] at h, wide, by
  simp only [apulses.C, List.mem_cons, List.not_mem_nil, or_false, forall_eq_or_imp, forall_eq, false_imp_iff, implies_true]
  exact ⟨⟨pmost.ok, by kernel_rfl⟩, ⟨pcount.ok, by kernel_rfl⟩, ⟨flen.ok, by kernel_rfl⟩⟩, fun g hg => by simp [apulses.C] at hg, fun m hm => by simp [apulses.C] at hm, fun q hq => by simp [apulses.C] at hq⟩
theorem apulses.aok (N : Nat) : AnnsOK (apulses.K N) := by
  intro q hq
  simp only [apulses.K, List.mem_cons, List.not_mem_nil, or_false] at hq
  subst hq
  exact fun _ _ => ⟨rfl, rfl⟩
theorem apulses.ok : CallOK Try.prog 66 apulses.spec :=
  callOK_of_sig (fn := Try.f66) (Cf := apulses.C) (K := apulses.K) (d := 0) (dec := apulses.dec) (by kernel_rfl) (fun _ => rfl) apulses.cok (fun _ q hq => by simp [apulses.C] at hq) apulses.aok
   (fun N L r h => (apulses.F_eq N L).trans h) (by kernel_rfl) (fun _ => ⟨rfl, rfl⟩) (fun _ _ => ⟨rfl, rfl⟩)
noncomputable def apieces.sig : Eng.Sig := { args := [.at (.int .i64 0)], n := 0, pre := [], post := [], m := 0, ret := .at (.int .i64 0) }
noncomputable def apieces.C (N : Nat) : Cfg := { P := Try.prog, N := N, RT := noRT, specs := [], inl := [], hi := 0, mv := [] }
abbrev apieces.R : Type := Int
def apieces.dec (L : Eng.Leaves) : apieces.R := (L.i 0)
def apieces.enc (r : apieces.R) : Eng.Leaves := mkL [r] [] [] []
noncomputable def apieces.K (N : Nat) : FCfg := { anns := [], unr := [], lits := [], lets := [] }
noncomputable def apieces.F (N : Nat) (n : Int) : Option apieces.R :=
  (br (decide (n < (1 : Int)))
   (some ((0 : Int)))
   (br (decide (n > (1000 : Int)))
   (some ((0 : Int)))
   (some (IntKind.i64.wrap ((IntKind.i64.wrap (IntKind.i64.wrap (n + (16 : Int)) - (1 : Int))).tdiv (16 : Int))))))
theorem apieces.F_eq (N : Nat) (L : Eng.Leaves) : evSig (apieces.C N) (apieces.K N) 0 Try.f83 apieces.sig L apieces.dec = apieces.F N (L.i 0) := by
  kernel_rfl
noncomputable def apieces.spec : Eng.Spec := apieces.sig.spec (fun N L => apieces.F N (L.i 0)) apieces.enc
theorem apieces.cok (N : Nat) : CfgOK (apieces.C N) := ⟨fun _ _ _ _ h => by simp [apieces.C, noRT] at h, wide, by
  simp only [apieces.C, List.mem_cons, List.not_mem_nil, or_false, forall_eq_or_imp, forall_eq, false_imp_iff, implies_true], fun g hg => by simp [apieces.C] at hg, fun m hm => by simp [apieces.C] at hm, fun q hq => by simp [apieces.C] at hq⟩
theorem apieces.aok (N : Nat) : AnnsOK (apieces.K N) := by
  intro q hq
  simp only [apieces.K, List.mem_cons, List.not_mem_nil, or_false] at hq
theorem apieces.ok : CallOK Try.prog 83 apieces.spec :=
  callOK_of_sig (fn := Try.f83) (Cf := apieces.C) (K := apieces.K) (d := 0) (dec := apieces.dec) (by kernel_rfl) (fun _ => rfl) apieces.cok (fun _ q hq => by simp [apieces.C] at hq) apieces.aok
   (fun N L r h => (apieces.F_eq N L).trans h) (by kernel_rfl) (fun _ => ⟨rfl, rfl⟩) (fun _ _ => ⟨rfl, rfl⟩)
noncomputable def aPieces.sig : Eng.Sig := { args := [.at (.int .i64 0)], n := 0, pre := [], post := [(0, .ints true .i64 0)], m := 1, ret := .at (.full 0 false) }
noncomputable def aPieces.C (N : Nat) : Cfg := { P := Try.prog, N := N, RT := noRT, specs := [(83, apieces.spec)], inl := [], hi := 0, mv := [] }
abbrev aPieces.R : Type := List Int
def aPieces.dec (L : Eng.Leaves) : aPieces.R := (L.l 0)
def aPieces.enc (r : aPieces.R) : Eng.Leaves := mkL [] [] [r] []
abbrev aPieces.loop4.R : Type := List Int
noncomputable def aPieces.loop4.ann : Ann := { nx := 21, slots := [(0, .at (.fint .i64 0)), (3, .at (.fint .i64 1)), (4, .at (.full 20 false)), (8, .at (.fint .i64 2)), (9, .at (.int .i64 0))], blks := [(20, .ints true .i64 0)], mov := [20], exId := 0, xslots := [(4, .at (.full 20 false))], xblks := [(20, .ints true .i64 0)], T := aPieces.loop4.R, dec := fun L => (L.l 0), enc := fun r => mkL [] [] [r] [], ret := false }
noncomputable def aPieces.K (N : Nat) : FCfg := { anns := [(4, aPieces.loop4.ann)], unr := [], lits := [], lets := [] }
noncomputable def aPieces.loop4 (N : Nat) : Nat → Int → Int → Int → Int → List Int → Option aPieces.loop4.R
  | 0, _, _, _, _, _ => none
  | nn + 1, n, s3, s8, s9, s4 =>
  (br (decide (s9 < s8))
   (chk (s3 ≠ (0 : Int))
   (chk (s3 ≠ (0 : Int))
   (chk (s4.length + [IntKind.i64.wrap (IntKind.i64.wrap ((IntKind.i64.wrap (IntKind.i64.wrap (s9 + (1 : Int)) * n)).tdiv s3) - IntKind.i64.wrap ((IntKind.i64.wrap (s9 * n)).tdiv s3))].length ≤ (17592186043904 : Nat))
   (chkI n n
   (chkI s3 s3
   (chkI s8 s8
   (aPieces.loop4 N nn n s3 s8 (IntKind.i64.wrap (s9 + (1 : Int))) (s4 ++ [IntKind.i64.wrap (IntKind.i64.wrap ((IntKind.i64.wrap (IntKind.i64.wrap (s9 + (1 : Int)) * n)).tdiv s3) - IntKind.i64.wrap ((IntKind.i64.wrap (s9 * n)).tdiv s3))]))))))))
   (some s4))
noncomputable def aPieces.loop4R (N nn : Nat) (n : Int) (s3 : Int) (s8 : Int) (s9 : Int) (s4 : List Int) : Option aPieces.loop4.R := loopF aPieces.loop4.ann (mkL [n, s3, s8] [] [] []) (evCode ((aPieces.C N).inLoop aPieces.loop4.ann) (aPieces.K N) (inlTab (aPieces.C N) 0) (bodyAt 4 Try.f65)) nn (mkL [s9] [] [s4] [])
theorem aPieces.loop4_eq (N : Nat) : ∀ (nn : Nat) (n : Int) (s3 : Int) (s8 : Int) (s9 : Int) (s4 : List Int), aPieces.loop4R N nn n s3 s8 s9 s4 = aPieces.loop4 N nn n s3 s8 s9 s4
  | 0, _, _, _, _, _ => by kernel_rfl
  | nn + 1, n, s3, s8, s9, s4 => by
    have h : aPieces.loop4R N (nn + 1) n s3 s8 s9 s4 =
  (br (decide (s9 < s8))
   (chk (s3 ≠ (0 : Int))
   (chk (s3 ≠ (0 : Int))
   (chk (s4.length + [IntKind.i64.wrap (IntKind.i64.wrap ((IntKind.i64.wrap (IntKind.i64.wrap (s9 + (1 : Int)) * n)).tdiv s3) - IntKind.i64.wrap ((IntKind.i64.wrap (s9 * n)).tdiv s3))].length ≤ (17592186043904 : Nat))
   (chkI n n
   (chkI s3 s3
   (chkI s8 s8
   (aPieces.loop4R N nn n s3 s8 (IntKind.i64.wrap (s9 + (1 : Int))) (s4 ++ [IntKind.i64.wrap (IntKind.i64.wrap ((IntKind.i64.wrap (IntKind.i64.wrap (s9 + (1 : Int)) * n)).tdiv s3) - IntKind.i64.wrap ((IntKind.i64.wrap (s9 * n)).tdiv s3))]))))))))
   (some s4)) := by kernel_rfl
    rw [h, aPieces.loop4]
    try simp only [aPieces.loop4_eq N nn]
noncomputable def aPieces.F (N : Nat) (n : Int) : Option aPieces.R :=
  (obind (Rc.apieces.F N n) fun r0 =>
   (obind (aPieces.loop4 N N n r0 r0 ((0 : Int)) (([] : List Int))) fun r1 =>
   (some r1)))
theorem aPieces.F_eq (N : Nat) (L : Eng.Leaves) : evSig (aPieces.C N) (aPieces.K N) 0 Try.f65 aPieces.sig L aPieces.dec = aPieces.F N (L.i 0) := by
  have h : ∀ (n : Int), evSig (aPieces.C N) (aPieces.K N) 0 Try.f65 aPieces.sig (mkL [n] [] [] []) aPieces.dec =
  (obind (Rc.apieces.F N n) fun r0 =>
   (obind (aPieces.loop4R N N n r0 r0 ((0 : Int)) (([] : List Int))) fun r1 =>
   (some r1))) := by
    intro n
    kernel_rfl
  have h2 : evSig (aPieces.C N) (aPieces.K N) 0 Try.f65 aPieces.sig L aPieces.dec = evSig (aPieces.C N) (aPieces.K N) 0 Try.f65 aPieces.sig (mkL [L.i 0] [] [] []) aPieces.dec := by kernel_rfl
  rw [h2, h, aPieces.F]
  try simp only [aPieces.loop4_eq N]
noncomputable def aPieces.spec : Eng.Spec := aPieces.sig.spec (fun N L => aPieces.F N (L.i 0)) aPieces.enc
theorem aPieces.cok (N : Nat) : CfgOK (aPieces.C N) := ⟨fun _ _ _ _ h => by simp [aPieces.C, noRT] at h, wide, by
  simp only [aPieces.C, List.mem_cons, List.not_mem_nil, or_false, forall_eq_or_imp, forall_eq, false_imp_iff, implies_true]
  exact ⟨apieces.ok, by kernel_rfl⟩, fun g hg => by simp [aPieces.C] at hg, fun m hm => by simp [aPieces.C] at hm, fun q hq => by simp [aPieces.C] at hq⟩
theorem aPieces.aok (N : Nat) : AnnsOK (aPieces.K N) := by
  intro q hq
  simp only [aPieces.K, List.mem_cons, List.not_mem_nil, or_false] at hq
  subst hq
  exact fun _ _ => ⟨rfl, rfl⟩
theorem aPieces.ok : CallOK Try.prog 65 aPieces.spec :=
  callOK_of_sig (fn := Try.f65) (Cf := aPieces.C) (K := aPieces.K) (d := 0) (dec := aPieces.dec) (by kernel_rfl) (fun _ => rfl) aPieces.cok (fun _ q hq => by simp [aPieces.C] at hq) aPieces.aok
   (fun N L r h => (aPieces.F_eq N L).trans h) (by kernel_rfl) (fun _ => ⟨rfl, rfl⟩) (fun _ _ => ⟨rfl, rfl⟩)
noncomputable def asplit.sig : Eng.Sig := { args := [.at (.int .i64 0), .at (.int .i64 1)], n := 0, pre := [], post := [(0, .ints true .i64 0)], m := 1, ret := .at (.full 0 false) }
noncomputable def asplit.C (N : Nat) : Cfg := { P := Try.prog, N := N, RT := noRT, specs := [(83, apieces.spec)], inl := [], hi := 0, mv := [] }
abbrev asplit.R : Type := List Int
def asplit.dec (L : Eng.Leaves) : asplit.R := (L.l 0)
def asplit.enc (r : asplit.R) : Eng.Leaves := mkL [] [] [r] []
abbrev asplit.loop5.R : Type := List Int
noncomputable def asplit.loop5.ann : Ann := { nx := 21, slots := [(1, .at (.fint .i64 0)), (5, .at (.fint .i64 1)), (6, .at (.full 20 false)), (14, .at (.fint .i64 2)), (15, .at (.int .i64 0))], blks := [(20, .ints true .i64 0)], mov := [20], exId := 0, xslots := [(6, .at (.full 20 false))], xblks := [(20, .ints true .i64 0)], T := asplit.loop5.R, dec := fun L => (L.l 0), enc := fun r => mkL [] [] [r] [], ret := false }
noncomputable def asplit.K (N : Nat) : FCfg := { anns := [(5, asplit.loop5.ann)], unr := [], lits := [], lets := [] }
noncomputable def asplit.loop5 (N : Nat) : Nat → Int → Int → Int → Int → List Int → Option asplit.loop5.R
  | 0, _, _, _, _, _ => none
  | nn + 1, bits, s5, s14, s15, s6 =>
  (br (decide (s15 < s14))
   (chk (s5 ≠ (0 : Int))
   (chk (s5 ≠ (0 : Int))
   (br (decide (s15 < bits.tmod s5))
   (chk (s6.length + [IntKind.i64.wrap (IntKind.i64.wrap (bits.tdiv s5) + (1 : Int))].length ≤ (17592186043904 : Nat))
   (chkI bits bits
   (chkI s5 s5
   (chkI s14 s14
   (asplit.loop5 N nn bits s5 s14 (IntKind.i64.wrap (s15 + (1 : Int))) (s6 ++ [IntKind.i64.wrap (IntKind.i64.wrap (bits.tdiv s5) + (1 : Int))]))))))
   (chk (s6.length + [IntKind.i64.wrap (bits.tdiv s5)].length ≤ (17592186043904 : Nat))
   (chkI bits bits
   (chkI s5 s5
   (chkI s14 s14
   (asplit.loop5 N nn bits s5 s14 (IntKind.i64.wrap (s15 + (1 : Int))) (s6 ++ [IntKind.i64.wrap (bits.tdiv s5)])))))))))
   (some s6))
noncomputable def asplit.loop5R (N nn : Nat) (bits : Int) (s5 : Int) (s14 : Int) (s15 : Int) (s6 : List Int) : Option asplit.loop5.R := loopF asplit.loop5.ann (mkL [bits, s5, s14] [] [] []) (evCode ((asplit.C N).inLoop asplit.loop5.ann) (asplit.K N) (inlTab (asplit.C N) 0) (bodyAt 5 Try.f64)) nn (mkL [s15] [] [s6] [])
theorem asplit.loop5_eq (N : Nat) : ∀ (nn : Nat) (bits : Int) (s5 : Int) (s14 : Int) (s15 : Int) (s6 : List Int), asplit.loop5R N nn bits s5 s14 s15 s6 = asplit.loop5 N nn bits s5 s14 s15 s6
  | 0, _, _, _, _, _ => by kernel_rfl
  | nn + 1, bits, s5, s14, s15, s6 => by
    have h : asplit.loop5R N (nn + 1) bits s5 s14 s15 s6 =
  (br (decide (s15 < s14))
   (chk (s5 ≠ (0 : Int))
   (chk (s5 ≠ (0 : Int))
   (br (decide (s15 < bits.tmod s5))
   (chk (s6.length + [IntKind.i64.wrap (IntKind.i64.wrap (bits.tdiv s5) + (1 : Int))].length ≤ (17592186043904 : Nat))
   (chkI bits bits
   (chkI s5 s5
   (chkI s14 s14
   (asplit.loop5R N nn bits s5 s14 (IntKind.i64.wrap (s15 + (1 : Int))) (s6 ++ [IntKind.i64.wrap (IntKind.i64.wrap (bits.tdiv s5) + (1 : Int))]))))))
   (chk (s6.length + [IntKind.i64.wrap (bits.tdiv s5)].length ≤ (17592186043904 : Nat))
   (chkI bits bits
   (chkI s5 s5
   (chkI s14 s14
   (asplit.loop5R N nn bits s5 s14 (IntKind.i64.wrap (s15 + (1 : Int))) (s6 ++ [IntKind.i64.wrap (bits.tdiv s5)])))))))))
   (some s6)) := by kernel_rfl
    rw [h, asplit.loop5]
    try simp only [asplit.loop5_eq N nn]
noncomputable def asplit.F (N : Nat) (n : Int) (bits : Int) : Option asplit.R :=
  (obind (Rc.apieces.F N n) fun r0 =>
   (obind (asplit.loop5 N N (if (1048576 : Int) < if (0 : Int) > bits then (0 : Int) else bits then (1048576 : Int) else if (0 : Int) > bits then (0 : Int) else bits) r0 r0 ((0 : Int)) (([] : List Int))) fun r1 =>
   (some r1)))
theorem asplit.F_eq (N : Nat) (L : Eng.Leaves) : evSig (asplit.C N) (asplit.K N) 0 Try.f64 asplit.sig L asplit.dec = asplit.F N (L.i 0) (L.i 1) := by
  have h : ∀ (n : Int) (bits : Int), evSig (asplit.C N) (asplit.K N) 0 Try.f64 asplit.sig (mkL [n, bits] [] [] []) asplit.dec =
  (obind (Rc.apieces.F N n) fun r0 =>
   (obind (asplit.loop5R N N (if (1048576 : Int) < if (0 : Int) > bits then (0 : Int) else bits then (1048576 : Int) else if (0 : Int) > bits then (0 : Int) else bits) r0 r0 ((0 : Int)) (([] : List Int))) fun r1 =>
   (some r1))) := by
    intro n bits
    kernel_rfl
  have h2 : evSig (asplit.C N) (asplit.K N) 0 Try.f64 asplit.sig L asplit.dec = evSig (asplit.C N) (asplit.K N) 0 Try.f64 asplit.sig (mkL [L.i 0, L.i 1] [] [] []) asplit.dec := by kernel_rfl
  rw [h2, h, asplit.F]
  try simp only [asplit.loop5_eq N]
noncomputable def asplit.spec : Eng.Spec := asplit.sig.spec (fun N L => asplit.F N (L.i 0) (L.i 1)) asplit.enc
theorem asplit.cok (N : Nat) : CfgOK (asplit.C N) := ⟨fun _ _ _ _ h => by simp [asplit.C, noRT] at h, wide, by
  simp only [asplit.C, List.mem_cons, List.not_mem_nil, or_false, forall_eq_or_imp, forall_eq, false_imp_iff, implies_true]
  exact ⟨apieces.ok, by kernel_rfl⟩, fun g hg => by simp [asplit.C] at hg, fun m hm => by simp [asplit.C] at hm, fun q hq => by simp [asplit.C] at hq⟩
theorem asplit.aok (N : Nat) : AnnsOK (asplit.K N) := by
  intro q hq
  simp only [asplit.K, List.mem_cons, List.not_mem_nil, or_false] at hq
  subst hq
  exact fun _ _ => ⟨rfl, rfl⟩
theorem asplit.ok : CallOK Try.prog 64 asplit.spec :=
  callOK_of_sig (fn := Try.f64) (Cf := asplit.C) (K := asplit.K) (d := 0) (dec := asplit.dec) (by kernel_rfl) (fun _ => rfl) asplit.cok (fun _ q hq => by simp [asplit.C] at hq) asplit.aok
   (fun N L r h => (asplit.F_eq N L).trans h) (by kernel_rfl) (fun _ => ⟨rfl, rfl⟩) (fun _ _ => ⟨rfl, rfl⟩)
noncomputable def nnext.sig : Eng.Sig := { args := [.at (.ptr 0 0)], n := 1, pre := [(0, .cells 1 [.int .u32 0])], post := [(0, .cells 1 [.int .u32 1])], m := 0, ret := .at (.int .u32 0) }
noncomputable def nnext.C (N : Nat) : Cfg := { P := Try.prog, N := N, RT := noRT, specs := [], inl := [], hi := 1, mv := [] }
abbrev nnext.R : Type := Int × Int
def nnext.dec (L : Eng.Leaves) : nnext.R := (L.i 0, L.i 1)
def nnext.enc (r : nnext.R) : Eng.Leaves := mkL [r.1, r.2] [] [] []
noncomputable def nnext.K (N : Nat) : FCfg := { anns := [], unr := [], lits := [], lets := [] }
noncomputable def nnext.F (N : Nat) (s_Seed : Int) : Option nnext.R :=
  (some ((IntKind.u32.wrap (IntKind.u32.wrap (s_Seed * (1664525 : Int)) + (1013904223 : Int)), IntKind.u32.wrap (IntKind.u32.wrap (s_Seed * (1664525 : Int)) + (1013904223 : Int)))))
theorem nnext.F_eq (N : Nat) (L : Eng.Leaves) : evSig (nnext.C N) (nnext.K N) 0 Try.f17 nnext.sig L nnext.dec = nnext.F N (L.i 0) := by
  kernel_rfl
noncomputable def nnext.spec : Eng.Spec := nnext.sig.spec (fun N L => nnext.F N (L.i 0)) nnext.enc
theorem nnext.cok (N : Nat) : CfgOK (nnext.C N) := ⟨fun _ _ _ _ h => by simp [nnext.C, noRT] at h, wide, by
  simp only [nnext.C, List.mem_cons, List.not_mem_nil, or_false, forall_eq_or_imp, forall_eq, false_imp_iff, implies_true], fun g hg => by simp [nnext.C] at hg, fun m hm => by simp [nnext.C] at hm, fun q hq => by simp [nnext.C] at hq⟩
theorem nnext.aok (N : Nat) : AnnsOK (nnext.K N) := by
  intro q hq
  simp only [nnext.K, List.mem_cons, List.not_mem_nil, or_false] at hq
theorem nnext.ok : CallOK Try.prog 17 nnext.spec :=
  callOK_of_sig (fn := Try.f17) (Cf := nnext.C) (K := nnext.K) (d := 0) (dec := nnext.dec) (by kernel_rfl) (fun _ => rfl) nnext.cok (fun _ q hq => by simp [nnext.C] at hq) nnext.aok
   (fun N L r h => (nnext.F_eq N L).trans h) (by kernel_rfl) (fun _ => ⟨rfl, rfl⟩) (fun _ _ => ⟨rfl, rfl⟩)
noncomputable def nsign.sig : Eng.Sig := { args := [.at (.ptr 0 0)], n := 1, pre := [(0, .cells 1 [.int .u32 0])], post := [(0, .cells 1 [.int .u32 1])], m := 0, ret := .at (.int .i64 0) }
noncomputable def nsign.C (N : Nat) : Cfg := { P := Try.prog, N := N, RT := noRT, specs := [(17, nnext.spec)], inl := [], hi := 1, mv := [] }
abbrev nsign.R : Type := Int × Int
def nsign.dec (L : Eng.Leaves) : nsign.R := (L.i 0, L.i 1)
def nsign.enc (r : nsign.R) : Eng.Leaves := mkL [r.1, r.2] [] [] []
noncomputable def nsign.K (N : Nat) : FCfg := { anns := [], unr := [], lits := [], lets := [] }
noncomputable def nsign.F (N : Nat) (s_Seed : Int) : Option nsign.R :=
  (obind (Rc.nnext.F N s_Seed) fun r0 =>
   (br (decide (r0.fst < (2147483648 : Int)))
   (some (((1 : Int), r0.snd)))
   (some (((-1 : Int), r0.snd)))))
theorem nsign.F_eq (N : Nat) (L : Eng.Leaves) : evSig (nsign.C N) (nsign.K N) 0 Try.f20 nsign.sig L nsign.dec = nsign.F N (L.i 0) := by
  kernel_rfl
noncomputable def nsign.spec : Eng.Spec := nsign.sig.spec (fun N L => nsign.F N (L.i 0)) nsign.enc
theorem nsign.cok (N : Nat) : CfgOK (nsign.C N) := ⟨fun _ _ _ _ h => by simp [nsign.C, noRT] at h, wide, by
  simp only [nsign.C, List.mem_cons, List.not_mem_nil, or_false, forall_eq_or_imp, forall_eq, false_imp_iff, implies_true]
  exact ⟨nnext.ok, by kernel_rfl⟩, fun g hg => by simp [nsign.C] at hg, fun m hm => by simp [nsign.C] at hm, fun q hq => by simp [nsign.C] at hq⟩
theorem nsign.aok (N : Nat) : AnnsOK (nsign.K N) := by
  intro q hq
  simp only [nsign.K, List.mem_cons, List.not_mem_nil, or_false] at hq
theorem nsign.ok : CallOK Try.prog 20 nsign.spec :=
  callOK_of_sig (fn := Try.f20) (Cf := nsign.C) (K := nsign.K) (d := 0) (dec := nsign.dec) (by kernel_rfl) (fun _ => rfl) nsign.cok (fun _ q hq => by simp [nsign.C] at hq) nsign.aok
   (fun N L r h => (nsign.F_eq N L).trans h) (by kernel_rfl) (fun _ => ⟨rfl, rfl⟩) (fun _ _ => ⟨rfl, rfl⟩)
noncomputable def sdown.sig : Eng.Sig := { args := [.at (.int .i64 0), .at (.int .i64 1)], n := 0, pre := [], post := [], m := 0, ret := .at (.int .i64 0) }
noncomputable def sdown.C (N : Nat) : Cfg := { P := Try.prog, N := N, RT := noRT, specs := [], inl := [], hi := 0, mv := [] }
abbrev sdown.R : Type := Int
def sdown.dec (L : Eng.Leaves) : sdown.R := (L.i 0)
def sdown.enc (r : sdown.R) : Eng.Leaves := mkL [r] [] [] []
noncomputable def sdown.K (N : Nat) : FCfg := { anns := [], unr := [], lits := [], lets := [] }
noncomputable def sdown.F (N : Nat) (a : Int) (b : Int) : Option sdown.R :=
  (chk (b ≠ (0 : Int))
   (chk (b ≠ (0 : Int))
   (br (decide (a.tmod b < (0 : Int)))
   (some (IntKind.i64.wrap (IntKind.i64.wrap (a.tdiv b) - (1 : Int))))
   (some (IntKind.i64.wrap (a.tdiv b))))))
theorem sdown.F_eq (N : Nat) (L : Eng.Leaves) : evSig (sdown.C N) (sdown.K N) 0 Try.f32 sdown.sig L sdown.dec = sdown.F N (L.i 0) (L.i 1) := by
  kernel_rfl
noncomputable def sdown.spec : Eng.Spec := sdown.sig.spec (fun N L => sdown.F N (L.i 0) (L.i 1)) sdown.enc
theorem sdown.cok (N : Nat) : CfgOK (sdown.C N) := ⟨fun _ _ _ _ h => by simp [sdown.C, noRT] at h, wide, by
  simp only [sdown.C, List.mem_cons, List.not_mem_nil, or_false, forall_eq_or_imp, forall_eq, false_imp_iff, implies_true], fun g hg => by simp [sdown.C] at hg, fun m hm => by simp [sdown.C] at hm, fun q hq => by simp [sdown.C] at hq⟩
theorem sdown.aok (N : Nat) : AnnsOK (sdown.K N) := by
  intro q hq
  simp only [sdown.K, List.mem_cons, List.not_mem_nil, or_false] at hq
theorem sdown.ok : CallOK Try.prog 32 sdown.spec :=
  callOK_of_sig (fn := Try.f32) (Cf := sdown.C) (K := sdown.K) (d := 0) (dec := sdown.dec) (by kernel_rfl) (fun _ => rfl) sdown.cok (fun _ q hq => by simp [sdown.C] at hq) sdown.aok
   (fun N L r h => (sdown.F_eq N L).trans h) (by kernel_rfl) (fun _ => ⟨rfl, rfl⟩) (fun _ _ => ⟨rfl, rfl⟩)
noncomputable def sfill.sig : Eng.Sig := { args := [.at (.roi .i64 0), .at (.int .i64 0)], n := 0, pre := [], post := [(0, .ints true .i64 0)], m := 1, ret := .tup [(false, [.full 0 false]), (false, [.int .i64 0])] }
noncomputable def sfill.C (N : Nat) : Cfg := { P := Try.prog, N := N, RT := noRT, specs := [(31, fsqrt.spec), (32, sdown.spec)], inl := [], hi := 0, mv := [] }
abbrev sfill.R : Type := Int × List Int
def sfill.dec (L : Eng.Leaves) : sfill.R := (L.i 0, L.l 0)
def sfill.enc (r : sfill.R) : Eng.Leaves := mkL [r.1] [] [r.2] []
abbrev sfill.loop5.R : Type := Int × Int × List Int
noncomputable def sfill.loop5.ann : Ann := { nx := 21, slots := [(4, .at (.full 20 false)), (5, .at (.int .i64 0)), (6, .at (.int .i64 1)), (30, .at (.froi .i64 0)), (31, .at (.fint .i64 0)), (32, .at (.int .i64 2))], blks := [(20, .ints true .i64 0)], mov := [20], exId := 0, xslots := [(4, .at (.full 20 false)), (5, .at (.int .i64 0)), (6, .at (.int .i64 1))], xblks := [(20, .ints true .i64 0)], T := sfill.loop5.R, dec := fun L => (L.i 0, L.i 1, L.l 0), enc := fun r => mkL [r.1, r.2.1] [] [r.2.2] [], ret := true }
abbrev sfill.loop16.R : Type := List Int
noncomputable def sfill.loop16.ann : Ann := { nx := 22, slots := [(1, .at (.fint .i64 0)), (9, .at (.full 21 true)), (10, .at (.fint .i64 1)), (11, .at (.fint .i64 2)), (61, .at (.froi .i64 0)), (62, .at (.fint .i64 3)), (63, .at (.int .i64 0))], blks := [(21, .ints true .i64 0)], mov := [], exId := 2, xslots := [(9, .at (.full 21 true))], xblks := [(21, .ints true .i64 0)], T := sfill.loop16.R, dec := fun L => (L.l 0), enc := fun r => mkL [] [] [r] [], ret := false }
noncomputable def sfill.K (N : Nat) : FCfg := { anns := [(5, sfill.loop5.ann), (16, sfill.loop16.ann)], unr := [], lits := [], lets := [] }
noncomputable def sfill.loop16 (N : Nat) : Nat → Int → Int → Int → Int → List Int → Int → List Int → Option sfill.loop16.R
  | 0, _, _, _, _, _, _, _ => none
  | nn + 1, size, s10, s11, s62, s61, s63, l21 =>
  (br (decide (s63 < s62))
   (chk ((0 : Int) ≤ s63 ∧ s63 < ↑s61.length)
   (obind (Rc.sdown.F N (IntKind.i64.wrap (IntKind.i64.wrap (size * s61.getD s63.toNat (0 : Int)) * s11)) s10) fun r0 =>
   (chk ((0 : Int) ≤ s63 ∧ s63 < ↑l21.length)
   (chkI size size
   (chkI s10 s10
   (chkI s11 s11
   (chkL s61 s61
   (chkI s62 s62
   (sfill.loop16 N nn size s10 s11 s62 s61 (IntKind.i64.wrap (s63 + (1 : Int))) (l21.set s63.toNat r0))))))))))
   (some l21))
noncomputable def sfill.loop16R (N nn : Nat) (size : Int) (s10 : Int) (s11 : Int) (s62 : Int) (s61 : List Int) (s63 : Int) (l21 : List Int) : Option sfill.loop16.R := loopF sfill.loop16.ann (mkL [size, s10, s11, s62] [] [s61] []) (evCode ((sfill.C N).inLoop sfill.loop16.ann) (sfill.K N) (inlTab (sfill.C N) 0) (bodyAt 16 Try.f11)) nn (mkL [s63] [] [l21] [])
theorem sfill.loop16_eq (N : Nat) : ∀ (nn : Nat) (size : Int) (s10 : Int) (s11 : Int) (s62 : Int) (s61 : List Int) (s63 : Int) (l21 : List Int), sfill.loop16R N nn size s10 s11 s62 s61 s63 l21 = sfill.loop16 N nn size s10 s11 s62 s61 s63 l21
  | 0, _, _, _, _, _, _, _ => by kernel_rfl
  | nn + 1, size, s10, s11, s62, s61, s63, l21 => by
    have h : sfill.loop16R N (nn + 1) size s10 s11 s62 s61 s63 l21 =
  (br (decide (s63 < s62))
   (chk ((0 : Int) ≤ s63 ∧ s63 < ↑s61.length)
   (obind (Rc.sdown.F N (IntKind.i64.wrap (IntKind.i64.wrap (size * s61.getD s63.toNat (0 : Int)) * s11)) s10) fun r0 =>
   (chk ((0 : Int) ≤ s63 ∧ s63 < ↑l21.length)
   (chkI size size
   (chkI s10 s10
   (chkI s11 s11
   (chkL s61 s61
   (chkI s62 s62
   (sfill.loop16R N nn size s10 s11 s62 s61 (IntKind.i64.wrap (s63 + (1 : Int))) (l21.set s63.toNat r0))))))))))
   (some l21)) := by kernel_rfl
    rw [h, sfill.loop16]
    try simp only [sfill.loop16_eq N nn]
noncomputable def sfill.loop5 (N : Nat) : Nat → Int → List Int → Int → List Int → Int → Int → Int → List Int → Option (sfill.loop5.R ⊕ sfill.R)
  | 0, _, _, _, _, _, _, _, _ => none
  | nn + 1, e_size, e_y, s31, s30, s5, s6, s32, s4 =>
  (br (decide (s32 < s31))
   (chk ((0 : Int) ≤ s32 ∧ s32 < ↑s30.length)
   (br (decide (s30.getD s32.toNat (0 : Int) < (-64 : Int)))
   (omap
   (some (((1 : Int), ([] : List Int)))) .inr)
   (br (decide (s30.getD s32.toNat (0 : Int) > (64 : Int)))
   (omap
   (some (((1 : Int), ([] : List Int)))) .inr)
   (chkL s30 s30
   (chkI s31 s31
   (sfill.loop5 N nn e_size e_y s31 s30 s5 (IntKind.i64.wrap (s6 + IntKind.i64.wrap (s30.getD s32.toNat (0 : Int) * s30.getD s32.toNat (0 : Int)))) (IntKind.i64.wrap (s32 + (1 : Int))) s4))))))
   (some (Sum.inl (s5, s6, s4))))
noncomputable def sfill.loop5R (N nn : Nat) (e_size : Int) (e_y : List Int) (s31 : Int) (s30 : List Int) (s5 : Int) (s6 : Int) (s32 : Int) (s4 : List Int) : Option (sfill.loop5.R ⊕ sfill.R) := loopR sfill.loop5.ann (mkL [s31] [] [s30] []) (evCode ((sfill.C N).inLoop sfill.loop5.ann) (sfill.K N) (inlTab (sfill.C N) 0) (bodyAt 5 Try.f11)) (sigKr Try.prog Try.f11 sfill.sig (mkL [e_size] [] [e_y] []) fun L => (L.i 0, L.l 0)) nn (mkL [s5, s6, s32] [] [s4] [])
theorem sfill.loop5_eq (N : Nat) : ∀ (nn : Nat) (e_size : Int) (e_y : List Int) (s31 : Int) (s30 : List Int) (s5 : Int) (s6 : Int) (s32 : Int) (s4 : List Int), sfill.loop5R N nn e_size e_y s31 s30 s5 s6 s32 s4 = sfill.loop5 N nn e_size e_y s31 s30 s5 s6 s32 s4
  | 0, _, _, _, _, _, _, _, _ => by kernel_rfl
  | nn + 1, e_size, e_y, s31, s30, s5, s6, s32, s4 => by
    have h : sfill.loop5R N (nn + 1) e_size e_y s31 s30 s5 s6 s32 s4 =
  (br (decide (s32 < s31))
   (chk ((0 : Int) ≤ s32 ∧ s32 < ↑s30.length)
   (br (decide (s30.getD s32.toNat (0 : Int) < (-64 : Int)))
   (omap
   (some (((1 : Int), ([] : List Int)))) .inr)
   (br (decide (s30.getD s32.toNat (0 : Int) > (64 : Int)))
   (omap
   (some (((1 : Int), ([] : List Int)))) .inr)
   (chkL s30 s30
   (chkI s31 s31
   (sfill.loop5R N nn e_size e_y s31 s30 s5 (IntKind.i64.wrap (s6 + IntKind.i64.wrap (s30.getD s32.toNat (0 : Int) * s30.getD s32.toNat (0 : Int)))) (IntKind.i64.wrap (s32 + (1 : Int))) s4))))))
   (some (Sum.inl (s5, s6, s4)))) := by kernel_rfl
    rw [h, sfill.loop5]
    try simp only [sfill.loop5_eq N nn]
noncomputable def sfill.F (N : Nat) (size : Int) (y : List Int) : Option sfill.R :=
  (br (decide (↑y.length < (1 : Int)))
   (some (((1 : Int), ([] : List Int))))
   (br (decide (↑y.length > (16 : Int)))
   (some (((1 : Int), ([] : List Int))))
   (br (decide (size < (0 : Int)))
   (some (((1 : Int), ([] : List Int))))
   (br (decide (size > (33554432 : Int)))
   (some (((1 : Int), ([] : List Int))))
   (osum (sfill.loop5 N N size y (↑y.length) y ((0 : Int)) ((0 : Int)) ((0 : Int)) (([] : List Int))) fun r0 =>
   (chk ((0 : Int) ≤ ↑y.length ∧ (y.length : Int) ≤ ↑y.length ∧ (y.length : Int) ≤ ↑(17592186043904 : Nat))
   (br (r0.snd.fst == (0 : Int))
   (some (((0 : Int), List.replicate (↑y.length : Int).toNat (0 : Int))))
   (obind (Rc.fsqrt.F N (IntKind.i64.wrap ((1048576 : Int) * r0.snd.fst))) fun r1 =>
   (obind (Rc.fsqrt.F N (IntKind.i64.wrap ((1048576 : Int) * ↑y.length))) fun r2 =>
   (obind (sfill.loop16 N N size r1 r2 (↑y.length) y ((0 : Int)) (List.replicate (↑y.length : Int).toNat (0 : Int))) fun r3 =>
   (some (((0 : Int), r3)))))))))))))
theorem sfill.F_eq (N : Nat) (L : Eng.Leaves) : evSig (sfill.C N) (sfill.K N) 0 Try.f11 sfill.sig L sfill.dec = sfill.F N (L.i 0) (L.l 0) := by
  have h : ∀ (size : Int) (y : List Int), evSig (sfill.C N) (sfill.K N) 0 Try.f11 sfill.sig (mkL [size] [] [y] []) sfill.dec =
  (br (decide (↑y.length < (1 : Int)))
   (some (((1 : Int), ([] : List Int))))
   (br (decide (↑y.length > (16 : Int)))
   (some (((1 : Int), ([] : List Int))))
   (br (decide (size < (0 : Int)))
   (some (((1 : Int), ([] : List Int))))
   (br (decide (size > (33554432 : Int)))
   (some (((1 : Int), ([] : List Int))))
   (osum (sfill.loop5R N N size y (↑y.length) y ((0 : Int)) ((0 : Int)) ((0 : Int)) (([] : List Int))) fun r0 =>
   (chk ((0 : Int) ≤ ↑y.length ∧ (y.length : Int) ≤ ↑y.length ∧ (y.length : Int) ≤ ↑(17592186043904 : Nat))
   (br (r0.snd.fst == (0 : Int))
   (some (((0 : Int), List.replicate (↑y.length : Int).toNat (0 : Int))))
   (obind (Rc.fsqrt.F N (IntKind.i64.wrap ((1048576 : Int) * r0.snd.fst))) fun r1 =>
   (obind (Rc.fsqrt.F N (IntKind.i64.wrap ((1048576 : Int) * ↑y.length))) fun r2 =>
   (obind (sfill.loop16R N N size r1 r2 (↑y.length) y ((0 : Int)) (List.replicate (↑y.length : Int).toNat (0 : Int))) fun r3 =>
   (some (((0 : Int), r3))))))))))))) := by
    intro size y
    kernel_rfl
  have h2 : evSig (sfill.C N) (sfill.K N) 0 Try.f11 sfill.sig L sfill.dec = evSig (sfill.C N) (sfill.K N) 0 Try.f11 sfill.sig (mkL [L.i 0] [] [L.l 0] []) sfill.dec := by kernel_rfl
  rw [h2, h, sfill.F]
  try simp only [sfill.loop5_eq N, sfill.loop16_eq N]
noncomputable def sfill.spec : Eng.Spec := sfill.sig.spec (fun N L => sfill.F N (L.i 0) (L.l 0)) sfill.enc
theorem sfill.cok (N : Nat) : CfgOK (sfill.C N) := ⟨fun _ _ _ _ h => by simp [sfill.C, noRT] at h, wide, by
  simp only [sfill.C, List.mem_cons, List.not_mem_nil, or_false, forall_eq_or_imp, forall_eq, false_imp_iff, implies_true]
  exact ⟨⟨fsqrt.ok, by kernel_rfl⟩, ⟨sdown.ok, by kernel_rfl⟩⟩, fun g hg => by simp [sfill.C] at hg, fun m hm => by simp [sfill.C] at hm, fun q hq => by simp [sfill.C] at hq⟩
theorem sfill.aok (N : Nat) : AnnsOK (sfill.K N) := by
  intro q hq
  simp only [sfill.K, List.mem_cons, List.not_mem_nil, or_false] at hq
  rcases hq with rfl | rfl
  · exact fun _ _ => ⟨rfl, rfl⟩
  · exact fun _ _ => ⟨rfl, rfl⟩
theorem sfill.ok : CallOK Try.prog 11 sfill.spec :=
  callOK_of_sig (fn := Try.f11) (Cf := sfill.C) (K := sfill.K) (d := 0) (dec := sfill.dec) (by kernel_rfl) (fun _ => rfl) sfill.cok (fun _ q hq => by simp [sfill.C] at hq) sfill.aok
   (fun N L r h => (sfill.F_eq N L).trans h) (by kernel_rfl) (fun _ => ⟨rfl, rfl⟩) (fun _ _ => ⟨rfl, rfl⟩)
noncomputable def shush.sig : Eng.Sig := { args := [.at (.int .i64 0), .at (.int .i64 1), .at (.ptr 0 0)], n := 1, pre := [(0, .cells 1 [.int .u32 2])], post := [(0, .cells 1 [.int .u32 0]), (1, .ints true .i64 0)], m := 1, ret := .at (.full 1 false) }
noncomputable def shush.C (N : Nat) : Cfg := { P := Try.prog, N := N, RT := noRT, specs := [(43, clamp.spec), (20, nsign.spec)], inl := [], hi := 1, mv := [] }
abbrev shush.R : Type := Int × List Int
def shush.dec (L : Eng.Leaves) : shush.R := (L.i 0, L.l 0)
def shush.enc (r : shush.R) : Eng.Leaves := mkL [r.1] [] [r.2] []
abbrev shush.loop6.R : Type := Int × List Int
noncomputable def shush.loop6.ann : Ann := { nx := 20, slots := [(1, .at (.fint .i64 0)), (2, .at (.ptr 0 0)), (7, .at (.full 1 true)), (20, .at (.fint .i64 1)), (21, .at (.int .i64 0))], blks := [(0, .cells 1 [.int .u32 1]), (1, .ints true .i64 0)], mov := [], exId := 0, xslots := [(2, .at (.ptr 0 0)), (7, .at (.full 1 true))], xblks := [(0, .cells 1 [.int .u32 0]), (1, .ints true .i64 0)], T := shush.loop6.R, dec := fun L => (L.i 0, L.l 0), enc := fun r => mkL [r.1] [] [r.2] [], ret := false }
noncomputable def shush.K (N : Nat) : FCfg := { anns := [(6, shush.loop6.ann)], unr := [], lits := [], lets := [] }
noncomputable def shush.loop6 (N : Nat) : Nat → Int → Int → Int → Int → List Int → Option shush.loop6.R
  | 0, _, _, _, _, _ => none
  | nn + 1, size, s20, s21, s_Seed, l1 =>
  (br (decide (s21 < s20))
   (obind (Rc.nsign.F N s_Seed) fun r0 =>
   (chk ((0 : Int) ≤ s21 ∧ s21 < ↑l1.length)
   (chkI size size
   (chkI s20 s20
   (shush.loop6 N nn size s20 (IntKind.i64.wrap (s21 + (1 : Int))) r0.snd (l1.set s21.toNat (IntKind.i64.wrap (r0.fst * IntKind.i64.wrap ((IntKind.i64.wrap (size + (1 : Int))).tdiv (2 : Int))))))))))
   (some ((s_Seed, l1))))
noncomputable def shush.loop6R (N nn : Nat) (size : Int) (s20 : Int) (s21 : Int) (s_Seed : Int) (l1 : List Int) : Option shush.loop6.R := loopF shush.loop6.ann (mkL [size, s20] [] [] []) (evCode ((shush.C N).inLoop shush.loop6.ann) (shush.K N) (inlTab (shush.C N) 0) (bodyAt 6 Try.f18)) nn (mkL [s21, s_Seed] [] [l1] [])
theorem shush.loop6_eq (N : Nat) : ∀ (nn : Nat) (size : Int) (s20 : Int) (s21 : Int) (s_Seed : Int) (l1 : List Int), shush.loop6R N nn size s20 s21 s_Seed l1 = shush.loop6 N nn size s20 s21 s_Seed l1
  | 0, _, _, _, _, _ => by kernel_rfl
  | nn + 1, size, s20, s21, s_Seed, l1 => by
    have h : shush.loop6R N (nn + 1) size s20 s21 s_Seed l1 =
  (br (decide (s21 < s20))
   (obind (Rc.nsign.F N s_Seed) fun r0 =>
   (chk ((0 : Int) ≤ s21 ∧ s21 < ↑l1.length)
   (chkI size size
   (chkI s20 s20
   (shush.loop6R N nn size s20 (IntKind.i64.wrap (s21 + (1 : Int))) r0.snd (l1.set s21.toNat (IntKind.i64.wrap (r0.fst * IntKind.i64.wrap ((IntKind.i64.wrap (size + (1 : Int))).tdiv (2 : Int))))))))))
   (some ((s_Seed, l1)))) := by kernel_rfl
    rw [h, shush.loop6]
    try simp only [shush.loop6_eq N nn]
noncomputable def shush.F (N : Nat) (n : Int) (size : Int) (s_Seed : Int) : Option shush.R :=
  (br (decide (n < (1 : Int)))
   (some ((s_Seed, ([] : List Int))))
   (br (decide (n > (1000 : Int)))
   (some ((s_Seed, ([] : List Int))))
   (obind (Rc.clamp.F N size ((0 : Int)) ((33554432 : Int))) fun r0 =>
   (chk ((0 : Int) ≤ n ∧ n ≤ n ∧ n ≤ ↑(17592186043904 : Nat))
   (obind (shush.loop6 N N r0 (↑(List.replicate n.toNat (0 : Int)).length) ((0 : Int)) s_Seed (List.replicate n.toNat (0 : Int))) fun r1 =>
   (some ((r1.fst, r1.snd))))))))
theorem shush.F_eq (N : Nat) (L : Eng.Leaves) : evSig (shush.C N) (shush.K N) 0 Try.f18 shush.sig L shush.dec = shush.F N (L.i 0) (L.i 1) (L.i 2) := by
  have h : ∀ (n : Int) (size : Int) (s_Seed : Int), evSig (shush.C N) (shush.K N) 0 Try.f18 shush.sig (mkL [n, size, s_Seed] [] [] []) shush.dec =
  (br (decide (n < (1 : Int)))
   (some ((s_Seed, ([] : List Int))))
   (br (decide (n > (1000 : Int)))
   (some ((s_Seed, ([] : List Int))))
   (obind (Rc.clamp.F N size ((0 : Int)) ((33554432 : Int))) fun r0 =>
   (chk ((0 : Int) ≤ n ∧ n ≤ n ∧ n ≤ ↑(17592186043904 : Nat))
   (obind (shush.loop6R N N r0 (↑(List.replicate n.toNat (0 : Int)).length) ((0 : Int)) s_Seed (List.replicate n.toNat (0 : Int))) fun r1 =>
   (some ((r1.fst, r1.snd)))))))) := by
    intro n size s_Seed
    kernel_rfl
  have h2 : evSig (shush.C N) (shush.K N) 0 Try.f18 shush.sig L shush.dec = evSig (shush.C N) (shush.K N) 0 Try.f18 shush.sig (mkL [L.i 0, L.i 1, L.i 2] [] [] []) shush.dec := by kernel_rfl
  rw [h2, h, shush.F]
  try simp only [shush.loop6_eq N]
noncomputable def shush.spec : Eng.Spec := shush.sig.spec (fun N L => shush.F N (L.i 0) (L.i 1) (L.i 2)) shush.enc
theorem shush.cok (N : Nat) : CfgOK (shush.C N) := ⟨fun _ _ _ _ h => by simp [shush.C, noRT] at h, wide, by
  simp only [shush.C, List.mem_cons, List.not_mem_nil, or_false, forall_eq_or_imp, forall_eq, false_imp_iff, implies_true]
  exact ⟨⟨clamp.ok, by kernel_rfl⟩, ⟨nsign.ok, by kernel_rfl⟩⟩, fun g hg => by simp [shush.C] at hg, fun m hm => by simp [shush.C] at hm, fun q hq => by simp [shush.C] at hq⟩
theorem shush.aok (N : Nat) : AnnsOK (shush.K N) := by
  intro q hq
  simp only [shush.K, List.mem_cons, List.not_mem_nil, or_false] at hq
  subst hq
  exact fun _ _ => ⟨rfl, rfl⟩
theorem shush.ok : CallOK Try.prog 18 shush.spec :=
  callOK_of_sig (fn := Try.f18) (Cf := shush.C) (K := shush.K) (d := 0) (dec := shush.dec) (by kernel_rfl) (fun _ => rfl) shush.cok (fun _ q hq => by simp [shush.C] at hq) shush.aok
   (fun N L r h => (shush.F_eq N L).trans h) (by kernel_rfl) (fun _ => ⟨rfl, rfl⟩) (fun _ _ => ⟨rfl, rfl⟩)
noncomputable def filled.sig : Eng.Sig := { args := [.at (.roi .i64 0), .at (.int .i64 0), .at (.int .i64 1), .at (.ptr 0 0)], n := 1, pre := [(0, .cells 1 [.int .u32 2])], post := [(0, .cells 1 [.int .u32 0]), (1, .ints true .i64 0)], m := 1, ret := .at (.full 1 false) }
noncomputable def filled.C (N : Nat) : Cfg := { P := Try.prog, N := N, RT := noRT, specs := [(30, esize.spec), (18, shush.spec), (11, sfill.spec)], inl := [], hi := 1, mv := [] }
abbrev filled.R : Type := Int × List Int
def filled.dec (L : Eng.Leaves) : filled.R := (L.i 0, L.l 0)
def filled.enc (r : filled.R) : Eng.Leaves := mkL [r.1] [] [r.2] []
noncomputable def filled.K (N : Nat) : FCfg := { anns := [], unr := [], lits := [], lets := [] }
noncomputable def filled.F (N : Nat) (n : Int) (eq : Int) (s_Seed : Int) (y : List Int) : Option filled.R :=
  (nilN y.length
   (obind (Rc.esize.F N eq) fun r0 =>
   (obind (Rc.shush.F N n r0 s_Seed) fun r1 =>
   (some ((r1.fst, r1.snd)))))
   (obind (Rc.esize.F N eq) fun r2 =>
   (obind (Rc.sfill.F N r2 y) fun r3 =>
   (some ((s_Seed, r3.snd))))))
theorem filled.F_eq (N : Nat) (L : Eng.Leaves) : evSig (filled.C N) (filled.K N) 0 Try.f36 filled.sig L filled.dec = filled.F N (L.i 0) (L.i 1) (L.i 2) (L.l 0) := by
  kernel_rfl
noncomputable def filled.spec : Eng.Spec := filled.sig.spec (fun N L => filled.F N (L.i 0) (L.i 1) (L.i 2) (L.l 0)) filled.enc
theorem filled.cok (N : Nat) : CfgOK (filled.C N) := ⟨fun _ _ _ _ h => by simp [filled.C, noRT] at h, wide, by
  simp only [filled.C, List.mem_cons, List.not_mem_nil, or_false, forall_eq_or_imp, forall_eq, false_imp_iff, implies_true]
  exact ⟨⟨esize.ok, by kernel_rfl⟩, ⟨shush.ok, by kernel_rfl⟩, ⟨sfill.ok, by kernel_rfl⟩⟩, fun g hg => by simp [filled.C] at hg, fun m hm => by simp [filled.C] at hm, fun q hq => by simp [filled.C] at hq⟩
theorem filled.aok (N : Nat) : AnnsOK (filled.K N) := by
  intro q hq
  simp only [filled.K, List.mem_cons, List.not_mem_nil, or_false] at hq
theorem filled.ok : CallOK Try.prog 36 filled.spec :=
  callOK_of_sig (fn := Try.f36) (Cf := filled.C) (K := filled.K) (d := 0) (dec := filled.dec) (by kernel_rfl) (fun _ => rfl) filled.cok (fun _ q hq => by simp [filled.C] at hq) filled.aok
   (fun N L r h => (filled.F_eq N L).trans h) (by kernel_rfl) (fun _ => ⟨rfl, rfl⟩) (fun _ _ => ⟨rfl, rfl⟩)
end Go.Proofs.Rc
