/-
  Functions of the program: what each comes to, and its contract (written by a program).
  Conditions: none: each contract is proved for every input of its shape.
-/
import Derived.Test.YtghbobmkkbdhpaaGreatEngRegToEngWords
import Derived.Laws.Externs
import Derived.Test.YtghbobmkkbdhpaaGreatProg
import Derived.Test.YtghbobmkkbdhpaaGreatRencFns
set_option linter.unusedVariables false
set_option linter.unusedSimpArgs false
namespace Go.Proofs.Rc
noncomputable section
open Go.Eng
set_option maxRecDepth 100000
def clamp.sig : Eng.Sig := { args := [.at (.int .i64 0), .at (.int .i64 1), .at (.int .i64 2)], n := 0, pre := [], post := [], m := 0, ret := .at (.int .i64 0) }
def clamp.C (N : Nat) : Cfg := { P := Tryz.prog, N := N, RT := noRT, specs := [], inl := [], hi := 0, mv := [] }
abbrev clamp.R : Type := Int
def clamp.dec (L : Eng.Leaves) : clamp.R := (L.i 0)
def clamp.enc (r : clamp.R) : Eng.Leaves := mkL [r] [] [] []
def clamp.K (N : Nat) : FCfg := { anns := [], unr := [], lits := [], lets := [] }
def clamp.F (N : Nat) (a lo hi : Int) : Option clamp.R :=
  (br (decide (lo > hi))
  (some lo)
  (br (decide (a < lo))
  (some lo)
  (br (decide (a > hi))
  (some hi)
  (some a))))
theorem clamp.F_eq (N : Nat) (L : Eng.Leaves) : evSig (clamp.C N) (clamp.K N) 0 Tryz.f121 clamp.sig L clamp.dec = clamp.F N (L.i 0) (L.i 1) (L.i 2) := by
  kernel_rfl
def clamp.spec : Eng.Spec := clamp.sig.spec (fun N L => clamp.F N (L.i 0) (L.i 1) (L.i 2)) clamp.enc
theorem clamp.cok (N : Nat) : CfgOK (clamp.C N) := cok0 wide trivial (by kernel_rfl) rfl rfl rfl rfl
theorem clamp.aok (N : Nat) : AnnsOK (clamp.K N) := aok1 trivial
theorem clamp.ok : CallOK Tryz.prog 121 clamp.spec := ok0 clamp.cok (fun _ => iok0 rfl) clamp.aok clamp.F_eq (by kernel_rfl) (by kernel_rfl) (fun _ => rfl) (fun _ => ⟨rfl, rfl⟩) fun _ _ => ⟨rfl, rfl⟩
def factor.sig : Eng.Sig := { args := [.at (.int .i64 0)], n := 0, pre := [], post := [], m := 0, ret := .at (.int .i64 0) }
def factor.C (N : Nat) : Cfg := { P := Tryz.prog, N := N, RT := noRT, specs := [(121, clamp.spec)], inl := [], hi := 0, mv := [] }
abbrev factor.R : Type := Int
def factor.dec (L : Eng.Leaves) : factor.R := (L.i 0)
def factor.enc (r : factor.R) : Eng.Leaves := mkL [r] [] [] []
def factor.K (N : Nat) : FCfg := { anns := [], unr := [], lits := [], lets := [] }
def factor.F (N : Nat) (a : Int) : Option factor.R :=
  (obind (Rc.clamp.F N a ((-2147483648 : Int)) ((2147483648 : Int))) fun r0 =>
  (some r0))
theorem factor.F_eq (N : Nat) (L : Eng.Leaves) : evSig (factor.C N) (factor.K N) 0 Tryz.f154 factor.sig L factor.dec = factor.F N (L.i 0) := by
  kernel_rfl
def factor.spec : Eng.Spec := factor.sig.spec (fun N L => factor.F N (L.i 0)) factor.enc
theorem factor.cok (N : Nat) : CfgOK (factor.C N) := cok0 wide ⟨clamp.ok, trivial⟩ (by kernel_rfl) rfl rfl rfl rfl
theorem factor.aok (N : Nat) : AnnsOK (factor.K N) := aok1 trivial
theorem factor.ok : CallOK Tryz.prog 154 factor.spec := ok0 factor.cok (fun _ => iok0 rfl) factor.aok factor.F_eq (by kernel_rfl) (by kernel_rfl) (fun _ => rfl) (fun _ => ⟨rfl, rfl⟩) fun _ _ => ⟨rfl, rfl⟩
def fmul.sig : Eng.Sig := { args := [.at (.int .i64 0), .at (.int .i64 1), .at (.int .i64 2)], n := 0, pre := [], post := [], m := 0, ret := .at (.int .i64 0) }
def fmul.C (N : Nat) : Cfg := { P := Tryz.prog, N := N, RT := noRT, specs := [(154, factor.spec)], inl := [], hi := 0, mv := [] }
abbrev fmul.R : Type := Int
def fmul.dec (L : Eng.Leaves) : fmul.R := (L.i 0)
def fmul.enc (r : fmul.R) : Eng.Leaves := mkL [r] [] [] []
def fmul.K (N : Nat) : FCfg := { anns := [], unr := [], lits := [], lets := [] }
def fmul.F (N : Nat) (a b s : Int) : Option fmul.R :=
  (obind (Rc.factor.F N a) fun r0 =>
  (obind (Rc.factor.F N b) fun r1 =>
  (br (s == (0 : Int))
  (some (IntKind.i64.wrap (r0 * r1)))
  (br (decide (s < (0 : Int)))
  (some ((0 : Int)))
  (br (decide (s > (62 : Int)))
  (some ((0 : Int)))
  (chk ((0 : Int) ≤ IntKind.i64.wrap (s - (1 : Int)))
  (chk ((0 : Int) ≤ s)
  (some ((IntKind.i64.wrap (IntKind.i64.wrap (r0 * r1) + IntKind.i64.wrap ((1 : Int) * (2 : Int) ^ min (IntKind.i64.wrap (s - (1 : Int))).toNat IntKind.i64.bits))).fdiv ((2 : Int) ^ min s.toNat IntKind.i64.bits))))))))))
theorem fmul.F_eq (N : Nat) (L : Eng.Leaves) : evSig (fmul.C N) (fmul.K N) 0 Tryz.f123 fmul.sig L fmul.dec = fmul.F N (L.i 0) (L.i 1) (L.i 2) := by
  kernel_rfl
def fmul.spec : Eng.Spec := fmul.sig.spec (fun N L => fmul.F N (L.i 0) (L.i 1) (L.i 2)) fmul.enc
theorem fmul.cok (N : Nat) : CfgOK (fmul.C N) := cok0 wide ⟨factor.ok, trivial⟩ (by kernel_rfl) rfl rfl rfl rfl
theorem fmul.aok (N : Nat) : AnnsOK (fmul.K N) := aok1 trivial
theorem fmul.ok : CallOK Tryz.prog 123 fmul.spec := ok0 fmul.cok (fun _ => iok0 rfl) fmul.aok fmul.F_eq (by kernel_rfl) (by kernel_rfl) (fun _ => rfl) (fun _ => ⟨rfl, rfl⟩) fun _ _ => ⟨rfl, rfl⟩
def exp2.sig : Eng.Sig := { args := [.at (.int .i64 0)], n := 0, pre := [], post := [], m := 0, ret := .at (.int .i64 0) }
def exp2.C (N : Nat) : Cfg := { P := Tryz.prog, N := N, RT := noRT, specs := [(121, clamp.spec), (123, fmul.spec)], inl := [], hi := 0, mv := [] }
abbrev exp2.R : Type := Int
def exp2.dec (L : Eng.Leaves) : exp2.R := (L.i 0)
def exp2.enc (r : exp2.R) : Eng.Leaves := mkL [r] [] [] []
abbrev exp2.loop5.R : Type := Int
def exp2.loop5.ann : Ann := { nx := 20, slots := [(4, .at (.fint .i64 0)), (5, .at (.int .i64 0)), (14, .agg [.fint .i64 1, .fint .i64 2, .fint .i64 3, .fint .i64 4, .fint .i64 5, .fint .i64 6, .fint .i64 7, .fint .i64 8]), (15, .at (.int .i64 1))], blks := [], mov := [], exId := 0, xslots := [(5, .at (.int .i64 0))], xblks := [], T := exp2.loop5.R, dec := fun L => (L.i 0), enc := fun r => mkL [r] [] [] [], ret := false }
def exp2.K (N : Nat) : FCfg := { anns := [(5, exp2.loop5.ann)], unr := [], lits := [], lets := [] }
def exp2.loop5 (N : Nat) : Nat → Int → Int → Int → Int → Int → Int → Int → Int → Int → Int → Int → Option exp2.loop5.R
  | 0, _, _, _, _, _, _, _, _, _, _, _ => none
  | nn + 1, s4, s14_0, s14_1, s14_2, s14_3, s14_4, s14_5, s14_6, s14_7, s5, s15 =>
  (br (decide (s15 < (8 : Int)))
  (chk ((0 : Int) ≤ s15 ∧ s15 < ↑(8 : Nat))
  (chk ((0 : Int) ≤ IntKind.i64.wrap ((7 : Int) - s15))
  (br (IntKind.i64.wrap ↑(BitVec.ofInt IntKind.i64.bits (s4.fdiv ((2 : Int) ^ min (IntKind.i64.wrap ((7 : Int) - s15)).toNat IntKind.i64.bits)) &&& BitVec.ofInt IntKind.i64.bits (1 : Int)).toNat == (1 : Int))
  (obind (Rc.fmul.F N s5 ([s14_0, s14_1, s14_2, s14_3, s14_4, s14_5, s14_6, s14_7].getD s15.toNat (0 : Int)) ((30 : Int))) fun r0 =>
  (chkI s4 s4
  (chkI s14_0 s14_0
  (chkI s14_1 s14_1
  (chkI s14_2 s14_2
  (chkI s14_3 s14_3
  (chkI s14_4 s14_4
  (chkI s14_5 s14_5
  (chkI s14_6 s14_6
  (chkI s14_7 s14_7
  (exp2.loop5 N nn s4 s14_0 s14_1 s14_2 s14_3 s14_4 s14_5 s14_6 s14_7 r0 (IntKind.i64.wrap (s15 + (1 : Int))))))))))))))
  (chkI s4 s4
  (chkI s14_0 s14_0
  (chkI s14_1 s14_1
  (chkI s14_2 s14_2
  (chkI s14_3 s14_3
  (chkI s14_4 s14_4
  (chkI s14_5 s14_5
  (chkI s14_6 s14_6
  (chkI s14_7 s14_7
  (exp2.loop5 N nn s4 s14_0 s14_1 s14_2 s14_3 s14_4 s14_5 s14_6 s14_7 s5 (IntKind.i64.wrap (s15 + (1 : Int))))))))))))))))
  (some s5))
def exp2.loop5R (N nn : Nat) (s4 s14_0 s14_1 s14_2 s14_3 s14_4 s14_5 s14_6 s14_7 : Int) (s5 s15 : Int) : Option exp2.loop5.R := loopF exp2.loop5.ann (mkL [s4, s14_0, s14_1, s14_2, s14_3, s14_4, s14_5, s14_6, s14_7] [] [] []) (evCode ((exp2.C N).inLoop exp2.loop5.ann) (exp2.K N) (inlTab (exp2.C N) 0) (bodyAt 5 Tryz.f125)) nn (mkL [s5, s15] [] [] [])
theorem exp2.loop5_eq (N : Nat) : ∀ nn, exp2.loop5R N nn = exp2.loop5 N nn
  | 0 => by funext; kernel_rfl
  | nn + 1 => by
    funext; rw [exp2.loop5, ← exp2.loop5_eq N nn]; kernel_rfl
def exp2.F (N : Nat) (q : Int) : Option exp2.R :=
  (obind (Rc.clamp.F N q ((0 : Int)) ((7935 : Int))) fun r0 =>
  (obind (exp2.loop5 N N (IntKind.i64.wrap ↑(BitVec.ofInt IntKind.i64.bits r0 &&& BitVec.ofInt IntKind.i64.bits (255 : Int)).toNat) ((1518500250 : Int)) ((1276901417 : Int)) ((1170923762 : Int)) ((1121280436 : Int)) ((1097253708 : Int)) ((1085434106 : Int)) ((1079572136 : Int)) ((1076653033 : Int)) ((1073741824 : Int)) ((0 : Int))) fun r1 =>
  (br (r0.fdiv ((2 : Int) ^ min (Int.toNat (8 : Int)) IntKind.i64.bits) == (30 : Int))
  (some r1)
  (obind (Rc.fmul.F N r1 ((1 : Int)) (IntKind.i64.wrap ((30 : Int) - r0.fdiv ((2 : Int) ^ min (Int.toNat (8 : Int)) IntKind.i64.bits)))) fun r2 =>
  (some r2)))))
theorem exp2.F_eq (N : Nat) (L : Eng.Leaves) : evSig (exp2.C N) (exp2.K N) 0 Tryz.f125 exp2.sig L exp2.dec = exp2.F N (L.i 0) := by
  rw [exp2.F, ← funext (exp2.loop5_eq N)]; kernel_rfl
def exp2.spec : Eng.Spec := exp2.sig.spec (fun N L => exp2.F N (L.i 0)) exp2.enc
theorem exp2.cok (N : Nat) : CfgOK (exp2.C N) := cok0 wide ⟨clamp.ok, fmul.ok, trivial⟩ (by kernel_rfl) rfl rfl rfl rfl
theorem exp2.aok (N : Nat) : AnnsOK (exp2.K N) := aok1 ⟨fun _ _ => ⟨rfl, rfl⟩, trivial⟩
theorem exp2.ok : CallOK Tryz.prog 125 exp2.spec := ok0 exp2.cok (fun _ => iok0 rfl) exp2.aok exp2.F_eq (by kernel_rfl) (by kernel_rfl) (fun _ => rfl) (fun _ => ⟨rfl, rfl⟩) fun _ _ => ⟨rfl, rfl⟩
def ticdf.sig : Eng.Sig := { args := [.at (.int .i64 0)], n := 0, pre := [], post := [], m := 0, ret := .at (.roi .i64 0) }
def ticdf.C (N : Nat) : Cfg := { P := Tryz.prog, N := N, RT := noRT, specs := [], inl := [], hi := 0, mv := [] }
abbrev ticdf.R : Type := List Int
def ticdf.dec (L : Eng.Leaves) : ticdf.R := (L.l 0)
def ticdf.enc (r : ticdf.R) : Eng.Leaves := mkL [] [] [r] []
def ticdf.K (N : Nat) : FCfg := { anns := [], unr := [], lits := [6, 9, 12, 15, 18, 21, 24, 27, 30], lets := [] }
def ticdf.F (N : Nat) (k : Int) : Option ticdf.R :=
  (br (k == (0 : Int))
  (some ([(192 : Int), (96 : Int), (0 : Int)]))
  (br (k == (1 : Int))
  (some ([(224 : Int), (192 : Int), (160 : Int), (128 : Int), (96 : Int), (64 : Int), (32 : Int), (0 : Int)]))
  (br (k == (2 : Int))
  (some ([(252 : Int), (247 : Int), (240 : Int), (230 : Int), (214 : Int), (190 : Int), (150 : Int), (106 : Int), (66 : Int), (42 : Int), (26 : Int), (16 : Int), (10 : Int), (6 : Int), (4 : Int), (2 : Int), (0 : Int)]))
  (br (k == (3 : Int))
  (some ([(240 : Int), (224 : Int), (208 : Int), (192 : Int), (176 : Int), (160 : Int), (144 : Int), (128 : Int), (112 : Int), (96 : Int), (80 : Int), (64 : Int), (48 : Int), (32 : Int), (16 : Int), (0 : Int)]))
  (br (k == (4 : Int))
  (some ([(253 : Int), (244 : Int), (222 : Int), (170 : Int), (86 : Int), (34 : Int), (12 : Int), (3 : Int), (0 : Int)]))
  (br (k == (5 : Int))
  (some ([(218 : Int), (180 : Int), (148 : Int), (122 : Int), (100 : Int), (82 : Int), (67 : Int), (54 : Int), (43 : Int), (34 : Int), (26 : Int), (19 : Int), (14 : Int), (10 : Int), (6 : Int), (3 : Int), (0 : Int)]))
  (br (k == (6 : Int))
  (some ([(205 : Int), (163 : Int), (128 : Int), (97 : Int), (70 : Int), (44 : Int), (20 : Int), (0 : Int)]))
  (br (k == (7 : Int))
  (some ([(231 : Int), (155 : Int), (38 : Int), (0 : Int)]))
  (br (k == (8 : Int))
  (some ([(192 : Int), (128 : Int), (64 : Int), (0 : Int)]))
  (some (([] : List Int))))))))))))
theorem ticdf.F_eq (N : Nat) (L : Eng.Leaves) : evSig (ticdf.C N) (ticdf.K N) 0 Tryz.f44 ticdf.sig L ticdf.dec = ticdf.F N (L.i 0) := by
  kernel_rfl
def ticdf.spec : Eng.Spec := ticdf.sig.spec (fun N L => ticdf.F N (L.i 0)) ticdf.enc
theorem ticdf.cok (N : Nat) : CfgOK (ticdf.C N) := cok0 wide trivial (by kernel_rfl) rfl rfl rfl rfl
theorem ticdf.aok (N : Nat) : AnnsOK (ticdf.K N) := aok1 trivial
theorem ticdf.ok : CallOK Tryz.prog 44 ticdf.spec := ok0 ticdf.cok (fun _ => iok0 rfl) ticdf.aok ticdf.F_eq (by kernel_rfl) (by kernel_rfl) (fun _ => rfl) (fun _ => ⟨rfl, rfl⟩) fun _ _ => ⟨rfl, rfl⟩
def tfilters.sig : Eng.Sig := { args := [], n := 0, pre := [], post := [], m := 0, ret := .at (.int .i64 0) }
def tfilters.C (N : Nat) : Cfg := { P := Tryz.prog, N := N, RT := noRT, specs := [], inl := [], hi := 0, mv := [] }
abbrev tfilters.R : Type := Int
def tfilters.dec (L : Eng.Leaves) : tfilters.R := (L.i 0)
def tfilters.enc (r : tfilters.R) : Eng.Leaves := mkL [r] [] [] []
def tfilters.K (N : Nat) : FCfg := { anns := [], unr := [], lits := [], lets := [] }
def tfilters.F (N : Nat)  : Option tfilters.R :=
  (some ((8 : Int)))
theorem tfilters.F_eq (N : Nat) (L : Eng.Leaves) : evSig (tfilters.C N) (tfilters.K N) 0 Tryz.f111 tfilters.sig L tfilters.dec = tfilters.F N  := by
  kernel_rfl
def tfilters.spec : Eng.Spec := tfilters.sig.spec (fun N L => tfilters.F N ) tfilters.enc
theorem tfilters.cok (N : Nat) : CfgOK (tfilters.C N) := cok0 wide trivial (by kernel_rfl) rfl rfl rfl rfl
theorem tfilters.aok (N : Nat) : AnnsOK (tfilters.K N) := aok1 trivial
theorem tfilters.ok : CallOK Tryz.prog 111 tfilters.spec := ok0 tfilters.cok (fun _ => iok0 rfl) tfilters.aok tfilters.F_eq (by kernel_rfl) (by kernel_rfl) (fun _ => rfl) (fun _ => ⟨rfl, rfl⟩) fun _ _ => ⟨rfl, rfl⟩
def gclamp.sig : Eng.Sig := { args := [.at (.int .i64 0)], n := 0, pre := [], post := [], m := 0, ret := .at (.int .i64 0) }
def gclamp.C (N : Nat) : Cfg := { P := Tryz.prog, N := N, RT := noRT, specs := [], inl := [], hi := 0, mv := [] }
abbrev gclamp.R : Type := Int
def gclamp.dec (L : Eng.Leaves) : gclamp.R := (L.i 0)
def gclamp.enc (r : gclamp.R) : Eng.Leaves := mkL [r] [] [] []
def gclamp.K (N : Nat) : FCfg := { anns := [], unr := [], lits := [], lets := [] }
def gclamp.F (N : Nat) (g : Int) : Option gclamp.R :=
  (some (if (63 : Int) < if (0 : Int) > g then (0 : Int) else g then (63 : Int) else if (0 : Int) > g then (0 : Int) else g))
theorem gclamp.F_eq (N : Nat) (L : Eng.Leaves) : evSig (gclamp.C N) (gclamp.K N) 0 Tryz.f106 gclamp.sig L gclamp.dec = gclamp.F N (L.i 0) := by
  kernel_rfl
def gclamp.spec : Eng.Spec := gclamp.sig.spec (fun N L => gclamp.F N (L.i 0)) gclamp.enc
theorem gclamp.cok (N : Nat) : CfgOK (gclamp.C N) := cok0 wide trivial (by kernel_rfl) rfl rfl rfl rfl
theorem gclamp.aok (N : Nat) : AnnsOK (gclamp.K N) := aok1 trivial
theorem gclamp.ok : CallOK Tryz.prog 106 gclamp.spec := ok0 gclamp.cok (fun _ => iok0 rfl) gclamp.aok gclamp.F_eq (by kernel_rfl) (by kernel_rfl) (fun _ => rfl) (fun _ => ⟨rfl, rfl⟩) fun _ _ => ⟨rfl, rfl⟩
def gloud.sig : Eng.Sig := { args := [.at (.int .i64 0)], n := 0, pre := [], post := [], m := 0, ret := .at (.int .i64 0) }
def gloud.C (N : Nat) : Cfg := { P := Tryz.prog, N := N, RT := noRT, specs := [(106, gclamp.spec), (125, exp2.spec)], inl := [], hi := 0, mv := [] }
abbrev gloud.R : Type := Int
def gloud.dec (L : Eng.Leaves) : gloud.R := (L.i 0)
def gloud.enc (r : gloud.R) : Eng.Leaves := mkL [r] [] [] []
def gloud.K (N : Nat) : FCfg := { anns := [], unr := [], lits := [], lets := [] }
def gloud.F (N : Nat) (g : Int) : Option gloud.R :=
  (obind (Rc.gclamp.F N g) fun r0 =>
  (obind (Rc.exp2.F N (IntKind.i64.wrap ((70 : Int) * r0))) fun r1 =>
  (some r1)))
theorem gloud.F_eq (N : Nat) (L : Eng.Leaves) : evSig (gloud.C N) (gloud.K N) 0 Tryz.f64 gloud.sig L gloud.dec = gloud.F N (L.i 0) := by
  kernel_rfl
def gloud.spec : Eng.Spec := gloud.sig.spec (fun N L => gloud.F N (L.i 0)) gloud.enc
theorem gloud.cok (N : Nat) : CfgOK (gloud.C N) := cok0 wide ⟨gclamp.ok, exp2.ok, trivial⟩ (by kernel_rfl) rfl rfl rfl rfl
theorem gloud.aok (N : Nat) : AnnsOK (gloud.K N) := aok1 trivial
theorem gloud.ok : CallOK Tryz.prog 64 gloud.spec := ok0 gloud.cok (fun _ => iok0 rfl) gloud.aok gloud.F_eq (by kernel_rfl) (by kernel_rfl) (fun _ => rfl) (fun _ => ⟨rfl, rfl⟩) fun _ _ => ⟨rfl, rfl⟩
def gsymbol.sig : Eng.Sig := { args := [.at (.ptr 0 0), .at (.int .i64 0)], n := 2, pre := [(0, .cells 10 [.full 1 false, .int .u64 1, .int .u64 2, .int .u64 3, .int .i64 4, .int .i64 5, .int .u64 6, .int .i64 7, .int .i64 8, .bool 0]), (1, .ints false .u8 0)], post := [(0, .cells 10 [.full 1 false, .int .u64 1, .int .u64 2, .int .u64 3, .int .i64 4, .fint .i64 5, .fint .u64 6, .fint .i64 7, .int .i64 5, .fbool 0]), (1, .fints false .u8 0)], m := 0, ret := .at (.int .i64 0) }
def gsymbol.C (N : Nat) : Cfg := { P := Tryz.prog, N := N, RT := noRT, specs := [(44, ticdf.spec), (43, symbol.spec)], inl := [], hi := 2, mv := [] }
abbrev gsymbol.R : Type := Int × Int × Int × Int × Int × Int
def gsymbol.dec (L : Eng.Leaves) : gsymbol.R := (L.i 0, L.i 1, L.i 2, L.i 3, L.i 4, L.i 5)
def gsymbol.enc (r : gsymbol.R) : Eng.Leaves := mkL [r.1, r.2.1, r.2.2.1, r.2.2.2.1, r.2.2.2.2.1, r.2.2.2.2.2] [] [] []
def gsymbol.K (N : Nat) : FCfg := { anns := [], unr := [], lits := [], lets := [] }
def gsymbol.F (N : Nat) (k rng val last front back window waiting count : Int) (bad : Bool) (b : List Int) : Option gsymbol.R :=
  (obind (Rc.ticdf.F N k) fun r0 =>
  (obind (Rc.symbol.F N rng val last front back window waiting count bad r0 b) fun r1 =>
  (chkI back back
  (chkI window window
  (chkI waiting waiting
  (chkB bad bad
  (chkL b b
  (some ((r1.1, r1.2.1, r1.2.2.1, r1.2.2.2.1, r1.2.2.2.2.1, r1.2.2.2.2.2))))))))))
theorem gsymbol.F_eq (N : Nat) (L : Eng.Leaves) : evSig (gsymbol.C N) (gsymbol.K N) 0 Tryz.f105 gsymbol.sig L gsymbol.dec = gsymbol.F N (L.i 0) (L.i 1) (L.i 2) (L.i 3) (L.i 4) (L.i 5) (L.i 6) (L.i 7) (L.i 8) (L.b 0) (L.l 0) := by
  kernel_rfl
def gsymbol.spec : Eng.Spec := gsymbol.sig.spec (fun N L => gsymbol.F N (L.i 0) (L.i 1) (L.i 2) (L.i 3) (L.i 4) (L.i 5) (L.i 6) (L.i 7) (L.i 8) (L.b 0) (L.l 0)) gsymbol.enc
theorem gsymbol.cok (N : Nat) : CfgOK (gsymbol.C N) := cok0 wide ⟨ticdf.ok, symbol.ok, trivial⟩ (by kernel_rfl) rfl rfl rfl rfl
theorem gsymbol.aok (N : Nat) : AnnsOK (gsymbol.K N) := aok1 trivial
theorem gsymbol.ok : CallOK Tryz.prog 105 gsymbol.spec := ok0 gsymbol.cok (fun _ => iok0 rfl) gsymbol.aok gsymbol.F_eq (by kernel_rfl) (by kernel_rfl) (fun _ => rfl) (fun _ => ⟨rfl, rfl⟩) fun _ _ => ⟨rfl, rfl⟩
def greadfirst.sig : Eng.Sig := { args := [.at (.ptr 0 0)], n := 2, pre := [(0, .cells 10 [.full 1 false, .int .u64 0, .int .u64 1, .int .u64 2, .int .i64 3, .int .i64 4, .int .u64 5, .int .i64 6, .int .i64 7, .bool 0]), (1, .ints false .u8 0)], post := [(0, .cells 10 [.full 1 false, .int .u64 1, .int .u64 2, .int .u64 3, .int .i64 4, .int .i64 5, .int .u64 6, .int .i64 7, .int .i64 8, .bool 0]), (1, .fints false .u8 0)], m := 0, ret := .at (.int .i64 0) }
def greadfirst.C (N : Nat) : Cfg := { P := Tryz.prog, N := N, RT := noRT, specs := [(105, gsymbol.spec), (45, uint.spec)], inl := [(104, { anns := [], unr := [(3, 4)], lits := [], lets := [] })], hi := 2, mv := [] }
abbrev greadfirst.R : Type := Int × Int × Int × Int × Int × Int × Int × Int × Int × Bool
def greadfirst.dec (L : Eng.Leaves) : greadfirst.R := (L.i 0, L.i 1, L.i 2, L.i 3, L.i 4, L.i 5, L.i 6, L.i 7, L.i 8, L.b 0)
def greadfirst.enc (r : greadfirst.R) : Eng.Leaves := mkL [r.1, r.2.1, r.2.2.1, r.2.2.2.1, r.2.2.2.2.1, r.2.2.2.2.2.1, r.2.2.2.2.2.2.1, r.2.2.2.2.2.2.2.1, r.2.2.2.2.2.2.2.2.1] [r.2.2.2.2.2.2.2.2.2] [] []
def greadfirst.K (N : Nat) : FCfg := { anns := [], unr := [], lits := [], lets := [] }
def greadfirst.F (N : Nat) (rng val last front back window waiting count : Int) (bad : Bool) (b : List Int) : Option greadfirst.R :=
  (obind (Rc.gsymbol.F N ((1 : Int)) rng val last front back window waiting count bad b) fun r0 =>
  (obind (Rc.uint.F N ((8 : Int)) r0.2.1 r0.2.2.1 r0.2.2.2.1 r0.2.2.2.2.1 back window waiting r0.2.2.2.2.2 bad b) fun r1 =>
  (chkL b b
  (some ((IntKind.i64.wrap (IntKind.i64.wrap ((8 : Int) * ([r0.1] ++ [r1.1]).getD (Int.toNat (0 : Int)) (0 : Int)) + ([r0.1] ++ [r1.1]).getD (Int.toNat (1 : Int)) (0 : Int)), r1.2.1, r1.2.2.1, r1.2.2.2.1, r1.2.2.2.2.1, r1.2.2.2.2.2.1, r1.2.2.2.2.2.2.1, r1.2.2.2.2.2.2.2.1, r1.2.2.2.2.2.2.2.2.1, r1.2.2.2.2.2.2.2.2.2))))))
theorem greadfirst.F_eq (N : Nat) (L : Eng.Leaves) : evSig (greadfirst.C N) (greadfirst.K N) 1 Tryz.f46 greadfirst.sig L greadfirst.dec = greadfirst.F N (L.i 0) (L.i 1) (L.i 2) (L.i 3) (L.i 4) (L.i 5) (L.i 6) (L.i 7) (L.b 0) (L.l 0) := by
  kernel_rfl
def greadfirst.spec : Eng.Spec := greadfirst.sig.spec (fun N L => greadfirst.F N (L.i 0) (L.i 1) (L.i 2) (L.i 3) (L.i 4) (L.i 5) (L.i 6) (L.i 7) (L.b 0) (L.l 0)) greadfirst.enc
theorem greadfirst.cok (N : Nat) : CfgOK (greadfirst.C N) := cok0 wide ⟨gsymbol.ok, uint.ok, trivial⟩ (by kernel_rfl) rfl rfl rfl rfl
theorem greadfirst.aok (N : Nat) : AnnsOK (greadfirst.K N) := aok1 trivial
theorem greadfirst.ok : CallOK Tryz.prog 46 greadfirst.spec := ok0 greadfirst.cok (fun _ q hq => by
      simp only [greadfirst.C, List.mem_cons, List.not_mem_nil, or_false] at hq
      subst hq
      exact ⟨fun q hq => by simp at hq, by kernel_rfl⟩) greadfirst.aok greadfirst.F_eq (by kernel_rfl) (by kernel_rfl) (fun _ => rfl) (fun _ => ⟨rfl, rfl⟩) fun _ _ => ⟨rfl, rfl⟩
def gwritefirst.sig : Eng.Sig := { args := [.at (.ptr 0 0), .at (.int .i64 0)], n := 3, pre := [(0, .cells 6 [.full 1 false, .int .u64 1, .int .u64 2, .full 2 false, .int .i64 3, .int .i64 4]), (1, .ints true .u8 0), (2, .ints true .u8 1)], post := [(0, .cells 6 [.full 3 false, .int .u64 1, .int .u64 2, .full 4 false, .int .i64 3, .int .i64 4]), (1, .dead), (2, .dead), (3, .ints true .u8 0), (4, .ints true .u8 1)], m := 2, ret := .at (.int .i64 0) }
def gwritefirst.C (N : Nat) : Cfg := { P := Tryz.prog, N := N, RT := noRT, specs := [(44, ticdf.spec), (55, esymbol.spec), (56, euint.spec)], inl := [], hi := 3, mv := [] }
abbrev gwritefirst.R : Type := Int × Int × Int × Int × Int × List Int × List Int
def gwritefirst.dec (L : Eng.Leaves) : gwritefirst.R := (L.i 0, L.i 1, L.i 2, L.i 3, L.i 4, L.l 0, L.l 1)
def gwritefirst.enc (r : gwritefirst.R) : Eng.Leaves := mkL [r.1, r.2.1, r.2.2.1, r.2.2.2.1, r.2.2.2.2.1] [] [r.2.2.2.2.2.1, r.2.2.2.2.2.2] []
def gwritefirst.K (N : Nat) : FCfg := { anns := [], unr := [], lits := [], lets := [] }
def gwritefirst.F (N : Nat) (g val rng rawBits count : Int) (told raw : List Int) : Option gwritefirst.R :=
  (br (decide (g < (0 : Int)))
  (some (((1 : Int), val, rng, rawBits, count, told, raw)))
  (br (decide (g > (63 : Int)))
  (some (((1 : Int), val, rng, rawBits, count, told, raw)))
  (obind (Rc.ticdf.F N ((1 : Int))) fun r0 =>
  (obind (Rc.esymbol.F N (IntKind.i64.wrap (g.tdiv (8 : Int))) val rng rawBits count r0 told raw) fun r1 =>
  (br (r1.1 != (0 : Int))
  (some ((r1.1, r1.2.1, r1.2.2.1, r1.2.2.2.1, r1.2.2.2.2.1, r1.2.2.2.2.2.2, r1.2.2.2.2.2.1)))
  (obind (Rc.euint.F N (g.tmod (8 : Int)) ((8 : Int)) r1.2.1 r1.2.2.1 r1.2.2.2.1 r1.2.2.2.2.1 r1.2.2.2.2.2.2 r1.2.2.2.2.2.1) fun r2 =>
  (some ((r2.1, r2.2.1, r2.2.2.1, r2.2.2.2.1, r2.2.2.2.2.1, r2.2.2.2.2.2.1, r2.2.2.2.2.2.2)))))))))
theorem gwritefirst.F_eq (N : Nat) (L : Eng.Leaves) : evSig (gwritefirst.C N) (gwritefirst.K N) 0 Tryz.f57 gwritefirst.sig L gwritefirst.dec = gwritefirst.F N (L.i 0) (L.i 1) (L.i 2) (L.i 3) (L.i 4) (L.l 0) (L.l 1) := by
  kernel_rfl
def gwritefirst.spec : Eng.Spec := gwritefirst.sig.spec (fun N L => gwritefirst.F N (L.i 0) (L.i 1) (L.i 2) (L.i 3) (L.i 4) (L.l 0) (L.l 1)) gwritefirst.enc
theorem gwritefirst.cok (N : Nat) : CfgOK (gwritefirst.C N) := cok0 wide ⟨ticdf.ok, esymbol.ok, euint.ok, trivial⟩ (by kernel_rfl) rfl rfl rfl rfl
theorem gwritefirst.aok (N : Nat) : AnnsOK (gwritefirst.K N) := aok1 trivial
theorem gwritefirst.ok : CallOK Tryz.prog 57 gwritefirst.spec := ok0 gwritefirst.cok (fun _ => iok0 rfl) gwritefirst.aok gwritefirst.F_eq (by kernel_rfl) (by kernel_rfl) (fun _ => rfl) (fun _ => ⟨rfl, rfl⟩) fun _ _ => ⟨rfl, rfl⟩
def greadnext.sig : Eng.Sig := { args := [.at (.ptr 0 0), .at (.int .i64 0)], n := 2, pre := [(0, .cells 10 [.full 1 false, .int .u64 1, .int .u64 2, .int .u64 3, .int .i64 4, .int .i64 5, .int .u64 6, .int .i64 7, .int .i64 8, .bool 0]), (1, .ints false .u8 0)], post := [(0, .cells 10 [.full 1 false, .int .u64 1, .int .u64 2, .int .u64 3, .int .i64 4, .fint .i64 5, .fint .u64 6, .fint .i64 7, .int .i64 5, .fbool 0]), (1, .fints false .u8 0)], m := 0, ret := .at (.int .i64 0) }
def greadnext.C (N : Nat) : Cfg := { P := Tryz.prog, N := N, RT := noRT, specs := [(106, gclamp.spec), (105, gsymbol.spec)], inl := [], hi := 2, mv := [] }
abbrev greadnext.R : Type := Int × Int × Int × Int × Int × Int
def greadnext.dec (L : Eng.Leaves) : greadnext.R := (L.i 0, L.i 1, L.i 2, L.i 3, L.i 4, L.i 5)
def greadnext.enc (r : greadnext.R) : Eng.Leaves := mkL [r.1, r.2.1, r.2.2.1, r.2.2.2.1, r.2.2.2.2.1, r.2.2.2.2.2] [] [] []
def greadnext.K (N : Nat) : FCfg := { anns := [], unr := [], lits := [], lets := [] }
def greadnext.F (N : Nat) (was rng val last front back window waiting count : Int) (bad : Bool) (b : List Int) : Option greadnext.R :=
  (obind (Rc.gclamp.F N was) fun r0 =>
  (obind (Rc.gsymbol.F N ((2 : Int)) rng val last front back window waiting count bad b) fun r1 =>
  (obind (Rc.gclamp.F N (IntKind.i64.wrap (IntKind.i64.wrap (r0 + r1.1) - (8 : Int)))) fun r2 =>
  (chkI back back
  (chkI window window
  (chkI waiting waiting
  (chkB bad bad
  (chkL b b
  (some ((r2, r1.2.1, r1.2.2.1, r1.2.2.2.1, r1.2.2.2.2.1, r1.2.2.2.2.2)))))))))))
theorem greadnext.F_eq (N : Nat) (L : Eng.Leaves) : evSig (greadnext.C N) (greadnext.K N) 0 Tryz.f47 greadnext.sig L greadnext.dec = greadnext.F N (L.i 0) (L.i 1) (L.i 2) (L.i 3) (L.i 4) (L.i 5) (L.i 6) (L.i 7) (L.i 8) (L.b 0) (L.l 0) := by
  kernel_rfl
def greadnext.spec : Eng.Spec := greadnext.sig.spec (fun N L => greadnext.F N (L.i 0) (L.i 1) (L.i 2) (L.i 3) (L.i 4) (L.i 5) (L.i 6) (L.i 7) (L.i 8) (L.b 0) (L.l 0)) greadnext.enc
theorem greadnext.cok (N : Nat) : CfgOK (greadnext.C N) := cok0 wide ⟨gclamp.ok, gsymbol.ok, trivial⟩ (by kernel_rfl) rfl rfl rfl rfl
theorem greadnext.aok (N : Nat) : AnnsOK (greadnext.K N) := aok1 trivial
theorem greadnext.ok : CallOK Tryz.prog 47 greadnext.spec := ok0 greadnext.cok (fun _ => iok0 rfl) greadnext.aok greadnext.F_eq (by kernel_rfl) (by kernel_rfl) (fun _ => rfl) (fun _ => ⟨rfl, rfl⟩) fun _ _ => ⟨rfl, rfl⟩
def gwritenext.sig : Eng.Sig := { args := [.at (.ptr 0 0), .at (.int .i64 0), .at (.int .i64 1)], n := 3, pre := [(0, .cells 6 [.full 1 false, .int .u64 2, .int .u64 3, .full 2 false, .int .i64 4, .int .i64 5]), (1, .ints true .u8 0), (2, .ints true .u8 1)], post := [(0, .cells 6 [.full 3 false, .int .u64 2, .int .u64 3, .full 2 false, .int .i64 4, .int .i64 5]), (1, .dead), (2, .ints true .u8 0), (3, .ints true .u8 1)], m := 1, ret := .tup [(false, [.int .i64 0]), (false, [.int .i64 1])] }
def gwritenext.C (N : Nat) : Cfg := { P := Tryz.prog, N := N, RT := noRT, specs := [(106, gclamp.spec), (44, ticdf.spec), (55, esymbol.spec)], inl := [], hi := 3, mv := [] }
abbrev gwritenext.R : Type := Int × Int × Int × Int × Int × Int × List Int × List Int
def gwritenext.dec (L : Eng.Leaves) : gwritenext.R := (L.i 0, L.i 1, L.i 2, L.i 3, L.i 4, L.i 5, L.l 0, L.l 1)
def gwritenext.enc (r : gwritenext.R) : Eng.Leaves := mkL [r.1, r.2.1, r.2.2.1, r.2.2.2.1, r.2.2.2.2.1, r.2.2.2.2.2.1] [] [r.2.2.2.2.2.2.1, r.2.2.2.2.2.2.2] []
def gwritenext.K (N : Nat) : FCfg := { anns := [], unr := [], lits := [], lets := [] }
def gwritenext.F (N : Nat) (g was val rng rawBits count : Int) (told raw : List Int) : Option gwritenext.R :=
  (obind (Rc.gclamp.F N g) fun r0 =>
  (obind (Rc.gclamp.F N was) fun r1 =>
  (obind (Rc.gclamp.F N (IntKind.i64.wrap (IntKind.i64.wrap (r1 + if (16 : Int) < if (0 : Int) > IntKind.i64.wrap (IntKind.i64.wrap (r0 - r1) + (8 : Int)) then (0 : Int) else IntKind.i64.wrap (IntKind.i64.wrap (r0 - r1) + (8 : Int)) then (16 : Int) else if (0 : Int) > IntKind.i64.wrap (IntKind.i64.wrap (r0 - r1) + (8 : Int)) then (0 : Int) else IntKind.i64.wrap (IntKind.i64.wrap (r0 - r1) + (8 : Int))) - (8 : Int)))) fun r2 =>
  (obind (Rc.ticdf.F N ((2 : Int))) fun r3 =>
  (obind (Rc.esymbol.F N (if (16 : Int) < if (0 : Int) > IntKind.i64.wrap (IntKind.i64.wrap (r0 - r1) + (8 : Int)) then (0 : Int) else IntKind.i64.wrap (IntKind.i64.wrap (r0 - r1) + (8 : Int)) then (16 : Int) else if (0 : Int) > IntKind.i64.wrap (IntKind.i64.wrap (r0 - r1) + (8 : Int)) then (0 : Int) else IntKind.i64.wrap (IntKind.i64.wrap (r0 - r1) + (8 : Int))) val rng rawBits count r3 told raw) fun r4 =>
  (some ((r2, r4.1, r4.2.1, r4.2.2.1, r4.2.2.2.1, r4.2.2.2.2.1, r4.2.2.2.2.2.1, r4.2.2.2.2.2.2))))))))
theorem gwritenext.F_eq (N : Nat) (L : Eng.Leaves) : evSig (gwritenext.C N) (gwritenext.K N) 0 Tryz.f58 gwritenext.sig L gwritenext.dec = gwritenext.F N (L.i 0) (L.i 1) (L.i 2) (L.i 3) (L.i 4) (L.i 5) (L.l 0) (L.l 1) := by
  kernel_rfl
def gwritenext.spec : Eng.Spec := gwritenext.sig.spec (fun N L => gwritenext.F N (L.i 0) (L.i 1) (L.i 2) (L.i 3) (L.i 4) (L.i 5) (L.l 0) (L.l 1)) gwritenext.enc
theorem gwritenext.cok (N : Nat) : CfgOK (gwritenext.C N) := cok0 wide ⟨gclamp.ok, ticdf.ok, esymbol.ok, trivial⟩ (by kernel_rfl) rfl rfl rfl rfl
theorem gwritenext.aok (N : Nat) : AnnsOK (gwritenext.K N) := aok1 trivial
theorem gwritenext.ok : CallOK Tryz.prog 58 gwritenext.spec := ok0 gwritenext.cok (fun _ => iok0 rfl) gwritenext.aok gwritenext.F_eq (by kernel_rfl) (by kernel_rfl) (fun _ => rfl) (fun _ => ⟨rfl, rfl⟩) fun _ _ => ⟨rfl, rfl⟩
def glags.sig : Eng.Sig := { args := [.at (.int .i64 0)], n := 0, pre := [], post := [], m := 0, ret := .tup [(false, [.int .i64 0]), (false, [.int .i64 1])] }
def glags.C (N : Nat) : Cfg := { P := Tryz.prog, N := N, RT := noRT, specs := [], inl := [], hi := 0, mv := [] }
abbrev glags.R : Type := Int × Int
def glags.dec (L : Eng.Leaves) : glags.R := (L.i 0, L.i 1)
def glags.enc (r : glags.R) : Eng.Leaves := mkL [r.1, r.2] [] [] []
def glags.K (N : Nat) : FCfg := { anns := [], unr := [], lits := [], lets := [] }
def glags.F (N : Nat) (rate : Int) : Option glags.R :=
  (br (rate != (8000 : Int))
  (br (rate != (16000 : Int))
  (some (((0 : Int), (0 : Int))))
  (some ((IntKind.i64.wrap (rate.tdiv (500 : Int)), IntKind.i64.wrap ((IntKind.i64.wrap ((18 : Int) * rate)).tdiv (1000 : Int))))))
  (some ((IntKind.i64.wrap (rate.tdiv (500 : Int)), IntKind.i64.wrap ((IntKind.i64.wrap ((18 : Int) * rate)).tdiv (1000 : Int))))))
theorem glags.F_eq (N : Nat) (L : Eng.Leaves) : evSig (glags.C N) (glags.K N) 0 Tryz.f107 glags.sig L glags.dec = glags.F N (L.i 0) := by
  kernel_rfl
def glags.spec : Eng.Spec := glags.sig.spec (fun N L => glags.F N (L.i 0)) glags.enc
theorem glags.cok (N : Nat) : CfgOK (glags.C N) := cok0 wide trivial (by kernel_rfl) rfl rfl rfl rfl
theorem glags.aok (N : Nat) : AnnsOK (glags.K N) := aok1 trivial
theorem glags.ok : CallOK Tryz.prog 107 glags.spec := ok0 glags.cok (fun _ => iok0 rfl) glags.aok glags.F_eq (by kernel_rfl) (by kernel_rfl) (fun _ => rfl) (fun _ => ⟨rfl, rfl⟩) fun _ _ => ⟨rfl, rfl⟩
def greadltp.sig : Eng.Sig := { args := [.at (.ptr 0 0), .at (.int .i64 0)], n := 2, pre := [(0, .cells 10 [.full 1 false, .int .u64 1, .int .u64 2, .int .u64 3, .int .i64 4, .int .i64 5, .int .u64 6, .int .i64 7, .int .i64 8, .bool 0]), (1, .ints false .u8 0)], post := [(0, .cells 10 [.full 1 false, .int .u64 2, .int .u64 3, .int .u64 4, .int .i64 5, .int .i64 6, .int .u64 7, .int .i64 8, .int .i64 9, .bool 0]), (1, .fints false .u8 0)], m := 0, ret := .agg [.int .i64 0, .int .i64 1] }
def greadltp.C (N : Nat) : Cfg := { P := Tryz.prog, N := N, RT := noRT, specs := [(105, gsymbol.spec), (45, uint.spec), (107, glags.spec)], inl := [(104, { anns := [], unr := [(3, 4)], lits := [], lets := [] })], hi := 2, mv := [] }
abbrev greadltp.R : Type := Int × Int × Int × Int × Int × Int × Int × Int × Int × Int × Bool
def greadltp.dec (L : Eng.Leaves) : greadltp.R := (L.i 0, L.i 1, L.i 2, L.i 3, L.i 4, L.i 5, L.i 6, L.i 7, L.i 8, L.i 9, L.b 0)
def greadltp.enc (r : greadltp.R) : Eng.Leaves := mkL [r.1, r.2.1, r.2.2.1, r.2.2.2.1, r.2.2.2.2.1, r.2.2.2.2.2.1, r.2.2.2.2.2.2.1, r.2.2.2.2.2.2.2.1, r.2.2.2.2.2.2.2.2.1, r.2.2.2.2.2.2.2.2.2.1] [r.2.2.2.2.2.2.2.2.2.2] [] []
def greadltp.K (N : Nat) : FCfg := { anns := [], unr := [], lits := [], lets := [] }
def greadltp.F (N : Nat) (rate rng val last front back window waiting count : Int) (bad : Bool) (b : List Int) : Option greadltp.R :=
  (obind (Rc.glags.F N rate) fun r0 =>
  (br (r0.1 == (0 : Int))
  (chkL b b
  (some (((0 : Int), (0 : Int), rng, val, last, front, back, window, waiting, count, bad))))
  (obind (Rc.uint.F N (IntKind.i64.wrap (IntKind.i64.wrap (r0.2 - r0.1) + (1 : Int))) rng val last front back window waiting count bad b) fun r1 =>
  (obind (Rc.gsymbol.F N ((6 : Int)) r1.2.1 r1.2.2.1 r1.2.2.2.1 r1.2.2.2.2.1 r1.2.2.2.2.2.1 r1.2.2.2.2.2.2.1 r1.2.2.2.2.2.2.2.1 r1.2.2.2.2.2.2.2.2.1 r1.2.2.2.2.2.2.2.2.2 b) fun r2 =>
  (chkL b b
  (some ((IntKind.i64.wrap (r0.1 + ([r1.1] ++ [r2.1]).getD (Int.toNat (0 : Int)) (0 : Int)), ([r1.1] ++ [r2.1]).getD (Int.toNat (1 : Int)) (0 : Int), r2.2.1, r2.2.2.1, r2.2.2.2.1, r2.2.2.2.2.1, r1.2.2.2.2.2.1, r1.2.2.2.2.2.2.1, r1.2.2.2.2.2.2.2.1, r2.2.2.2.2.2, r1.2.2.2.2.2.2.2.2.2))))))))
theorem greadltp.F_eq (N : Nat) (L : Eng.Leaves) : evSig (greadltp.C N) (greadltp.K N) 1 Tryz.f48 greadltp.sig L greadltp.dec = greadltp.F N (L.i 0) (L.i 1) (L.i 2) (L.i 3) (L.i 4) (L.i 5) (L.i 6) (L.i 7) (L.i 8) (L.b 0) (L.l 0) := by
  kernel_rfl
def greadltp.spec : Eng.Spec := greadltp.sig.spec (fun N L => greadltp.F N (L.i 0) (L.i 1) (L.i 2) (L.i 3) (L.i 4) (L.i 5) (L.i 6) (L.i 7) (L.i 8) (L.b 0) (L.l 0)) greadltp.enc
theorem greadltp.cok (N : Nat) : CfgOK (greadltp.C N) := cok0 wide ⟨gsymbol.ok, uint.ok, glags.ok, trivial⟩ (by kernel_rfl) rfl rfl rfl rfl
theorem greadltp.aok (N : Nat) : AnnsOK (greadltp.K N) := aok1 trivial
theorem greadltp.ok : CallOK Tryz.prog 48 greadltp.spec := ok0 greadltp.cok (fun _ q hq => by
      simp only [greadltp.C, List.mem_cons, List.not_mem_nil, or_false] at hq
      subst hq
      exact ⟨fun q hq => by simp at hq, by kernel_rfl⟩) greadltp.aok greadltp.F_eq (by kernel_rfl) (by kernel_rfl) (fun _ => rfl) (fun _ => ⟨rfl, rfl⟩) fun _ _ => ⟨rfl, rfl⟩
def gwriteltp.sig : Eng.Sig := { args := [.at (.ptr 0 0), .at (.int .i64 0), .agg [.int .i64 1, .int .i64 2]], n := 3, pre := [(0, .cells 6 [.full 1 false, .int .u64 3, .int .u64 4, .full 2 false, .int .i64 5, .int .i64 6]), (1, .ints true .u8 0), (2, .ints true .u8 1)], post := [(0, .cells 6 [.full 3 false, .int .u64 1, .int .u64 2, .full 4 false, .int .i64 3, .int .i64 4]), (1, .dead), (2, .dead), (3, .ints true .u8 0), (4, .ints true .u8 1)], m := 2, ret := .at (.int .i64 0) }
def gwriteltp.C (N : Nat) : Cfg := { P := Tryz.prog, N := N, RT := noRT, specs := [(107, glags.spec), (111, tfilters.spec), (56, euint.spec), (44, ticdf.spec), (55, esymbol.spec)], inl := [], hi := 3, mv := [] }
abbrev gwriteltp.R : Type := Int × Int × Int × Int × Int × List Int × List Int
def gwriteltp.dec (L : Eng.Leaves) : gwriteltp.R := (L.i 0, L.i 1, L.i 2, L.i 3, L.i 4, L.l 0, L.l 1)
def gwriteltp.enc (r : gwriteltp.R) : Eng.Leaves := mkL [r.1, r.2.1, r.2.2.1, r.2.2.2.1, r.2.2.2.2.1] [] [r.2.2.2.2.2.1, r.2.2.2.2.2.2] []
def gwriteltp.K (N : Nat) : FCfg := { anns := [], unr := [], lits := [], lets := [] }
def gwriteltp.F (N : Nat) (rate l_Lag l_Taps val rng rawBits count : Int) (told raw : List Int) : Option gwriteltp.R :=
  (obind (Rc.glags.F N rate) fun r0 =>
  (br (r0.1 == (0 : Int))
  (some (((1 : Int), val, rng, rawBits, count, told, raw)))
  (br (decide (l_Lag < r0.1))
  (some (((1 : Int), val, rng, rawBits, count, told, raw)))
  (br (decide (l_Lag > r0.2))
  (some (((1 : Int), val, rng, rawBits, count, told, raw)))
  (br (decide (l_Taps < (0 : Int)))
  (some (((1 : Int), val, rng, rawBits, count, told, raw)))
  (obind (Rc.tfilters.F N) fun r1 =>
  (chkI l_Taps l_Taps
  (br (decide (l_Taps ≥ r1))
  (some (((1 : Int), val, rng, rawBits, count, told, raw)))
  (obind (Rc.euint.F N (IntKind.i64.wrap (l_Lag - r0.1)) (IntKind.i64.wrap (IntKind.i64.wrap (r0.2 - r0.1) + (1 : Int))) val rng rawBits count told raw) fun r2 =>
  (br (r2.1 != (0 : Int))
  (some ((r2.1, r2.2.1, r2.2.2.1, r2.2.2.2.1, r2.2.2.2.2.1, r2.2.2.2.2.2.1, r2.2.2.2.2.2.2)))
  (obind (Rc.ticdf.F N ((6 : Int))) fun r3 =>
  (obind (Rc.esymbol.F N l_Taps r2.2.1 r2.2.2.1 r2.2.2.2.1 r2.2.2.2.2.1 r3 r2.2.2.2.2.2.1 r2.2.2.2.2.2.2) fun r4 =>
  (chkI l_Taps l_Taps
  (some ((r4.1, r4.2.1, r4.2.2.1, r4.2.2.2.1, r4.2.2.2.2.1, r4.2.2.2.2.2.2, r4.2.2.2.2.2.1))))))))))))))))
theorem gwriteltp.F_eq (N : Nat) (L : Eng.Leaves) : evSig (gwriteltp.C N) (gwriteltp.K N) 0 Tryz.f59 gwriteltp.sig L gwriteltp.dec = gwriteltp.F N (L.i 0) (L.i 1) (L.i 2) (L.i 3) (L.i 4) (L.i 5) (L.i 6) (L.l 0) (L.l 1) := by
  kernel_rfl
def gwriteltp.spec : Eng.Spec := gwriteltp.sig.spec (fun N L => gwriteltp.F N (L.i 0) (L.i 1) (L.i 2) (L.i 3) (L.i 4) (L.i 5) (L.i 6) (L.l 0) (L.l 1)) gwriteltp.enc
theorem gwriteltp.cok (N : Nat) : CfgOK (gwriteltp.C N) := cok0 wide ⟨glags.ok, tfilters.ok, euint.ok, ticdf.ok, esymbol.ok, trivial⟩ (by kernel_rfl) rfl rfl rfl rfl
theorem gwriteltp.aok (N : Nat) : AnnsOK (gwriteltp.K N) := aok1 trivial
theorem gwriteltp.ok : CallOK Tryz.prog 59 gwriteltp.spec := ok0 gwriteltp.cok (fun _ => iok0 rfl) gwriteltp.aok gwriteltp.F_eq (by kernel_rfl) (by kernel_rfl) (fun _ => rfl) (fun _ => ⟨rfl, rfl⟩) fun _ _ => ⟨rfl, rfl⟩
def pmay9.sig : Eng.Sig := { args := [.at (.int .i64 0)], n := 0, pre := [], post := [], m := 0, ret := .at (.bool 0) }
def pmay9.C (N : Nat) : Cfg := { P := Tryz.prog, N := N, RT := noRT, specs := [], inl := [], hi := 0, mv := [] }
abbrev pmay9.R : Type := Bool
def pmay9.dec (L : Eng.Leaves) : pmay9.R := (L.b 0)
def pmay9.enc (r : pmay9.R) : Eng.Leaves := mkL [] [r] [] []
def pmay9.K (N : Nat) : FCfg := { anns := [], unr := [], lits := [], lets := [] }
def pmay9.F (N : Nat) (n : Int) : Option pmay9.R :=
  (br (decide (n ≥ (16 : Int)))
  (br (decide (n ≤ (480 : Int)))
  (some (n.tmod (16 : Int) == (0 : Int)))
  (some false))
  (some false))
theorem pmay9.F_eq (N : Nat) (L : Eng.Leaves) : evSig (pmay9.C N) (pmay9.K N) 0 Tryz.f108 pmay9.sig L pmay9.dec = pmay9.F N (L.i 0) := by
  kernel_rfl
def pmay9.spec : Eng.Spec := pmay9.sig.spec (fun N L => pmay9.F N (L.i 0)) pmay9.enc
theorem pmay9.cok (N : Nat) : CfgOK (pmay9.C N) := cok0 wide trivial (by kernel_rfl) rfl rfl rfl rfl
theorem pmay9.aok (N : Nat) : AnnsOK (pmay9.K N) := aok1 trivial
theorem pmay9.ok : CallOK Tryz.prog 108 pmay9.spec := ok0 pmay9.cok (fun _ => iok0 rfl) pmay9.aok pmay9.F_eq (by kernel_rfl) (by kernel_rfl) (fun _ => rfl) (fun _ => ⟨rfl, rfl⟩) fun _ _ => ⟨rfl, rfl⟩
def abs9.sig : Eng.Sig := { args := [.at (.int .i64 0)], n := 0, pre := [], post := [], m := 0, ret := .at (.int .i64 0) }
def abs9.C (N : Nat) : Cfg := { P := Tryz.prog, N := N, RT := noRT, specs := [], inl := [], hi := 0, mv := [] }
abbrev abs9.R : Type := Int
def abs9.dec (L : Eng.Leaves) : abs9.R := (L.i 0)
def abs9.enc (r : abs9.R) : Eng.Leaves := mkL [r] [] [] []
def abs9.K (N : Nat) : FCfg := { anns := [], unr := [], lits := [], lets := [] }
def abs9.F (N : Nat) (v : Int) : Option abs9.R :=
  (some (if IntKind.i64.wrap ((0 : Int) - v) > v then IntKind.i64.wrap ((0 : Int) - v) else v))
theorem abs9.F_eq (N : Nat) (L : Eng.Leaves) : evSig (abs9.C N) (abs9.K N) 0 Tryz.f152 abs9.sig L abs9.dec = abs9.F N (L.i 0) := by
  kernel_rfl
def abs9.spec : Eng.Spec := abs9.sig.spec (fun N L => abs9.F N (L.i 0)) abs9.enc
theorem abs9.cok (N : Nat) : CfgOK (abs9.C N) := cok0 wide trivial (by kernel_rfl) rfl rfl rfl rfl
theorem abs9.aok (N : Nat) : AnnsOK (abs9.K N) := aok1 trivial
theorem abs9.ok : CallOK Tryz.prog 152 abs9.spec := ok0 abs9.cok (fun _ => iok0 rfl) abs9.aok abs9.F_eq (by kernel_rfl) (by kernel_rfl) (fun _ => rfl) (fun _ => ⟨rfl, rfl⟩) fun _ _ => ⟨rfl, rfl⟩
def count9.sig : Eng.Sig := { args := [.at (.roi .i64 0)], n := 0, pre := [], post := [], m := 0, ret := .at (.int .i64 0) }
def count9.C (N : Nat) : Cfg := { P := Tryz.prog, N := N, RT := noRT, specs := [(121, clamp.spec), (152, abs9.spec)], inl := [], hi := 0, mv := [] }
abbrev count9.R : Type := Int
def count9.dec (L : Eng.Leaves) : count9.R := (L.i 0)
def count9.enc (r : count9.R) : Eng.Leaves := mkL [r] [] [] []
abbrev count9.loop3.R : Type := Int
def count9.loop3.ann : Ann := { nx := 20, slots := [(3, .at (.int .i64 0)), (6, .at (.froi .i64 0)), (7, .at (.fint .i64 0)), (8, .at (.int .i64 1))], blks := [], mov := [], exId := 0, xslots := [(3, .at (.int .i64 0))], xblks := [], T := count9.loop3.R, dec := fun L => (L.i 0), enc := fun r => mkL [r] [] [] [], ret := false }
def count9.K (N : Nat) : FCfg := { anns := [(3, count9.loop3.ann)], unr := [], lits := [], lets := [] }
def count9.loop3 (N : Nat) : Nat → Int → List Int → Int → Int → Option count9.loop3.R
  | 0, _, _, _, _ => none
  | nn + 1, s7, s6, s3, s8 =>
  (br (decide (s8 < s7))
  (chk ((0 : Int) ≤ s8 ∧ s8 < ↑s6.length)
  (obind (Rc.clamp.F N (s6.getD s8.toNat (0 : Int)) ((-32 : Int)) ((32 : Int))) fun r0 =>
  (obind (Rc.abs9.F N r0) fun r1 =>
  (chkL s6 s6
  (chkI s7 s7
  (count9.loop3 N nn s7 s6 (IntKind.i64.wrap (s3 + r1)) (IntKind.i64.wrap (s8 + (1 : Int)))))))))
  (some s3))
def count9.loop3R (N nn : Nat) (s7 : Int) (s6 : List Int) (s3 s8 : Int) : Option count9.loop3.R := loopF count9.loop3.ann (mkL [s7] [] [s6] []) (evCode ((count9.C N).inLoop count9.loop3.ann) (count9.K N) (inlTab (count9.C N) 0) (bodyAt 3 Tryz.f113)) nn (mkL [s3, s8] [] [] [])
theorem count9.loop3_eq (N : Nat) : ∀ nn, count9.loop3R N nn = count9.loop3 N nn
  | 0 => by funext; kernel_rfl
  | nn + 1 => by
    funext; rw [count9.loop3, ← count9.loop3_eq N nn]; kernel_rfl
def count9.F (N : Nat) (l : List Int) : Option count9.R :=
  (obind (count9.loop3 N N (↑l.length) l ((0 : Int)) ((0 : Int))) fun r0 =>
  (some r0))
theorem count9.F_eq (N : Nat) (L : Eng.Leaves) : evSig (count9.C N) (count9.K N) 0 Tryz.f113 count9.sig L count9.dec = count9.F N (L.l 0) := by
  rw [count9.F, ← funext (count9.loop3_eq N)]; kernel_rfl
def count9.spec : Eng.Spec := count9.sig.spec (fun N L => count9.F N (L.l 0)) count9.enc
theorem count9.cok (N : Nat) : CfgOK (count9.C N) := cok0 wide ⟨clamp.ok, abs9.ok, trivial⟩ (by kernel_rfl) rfl rfl rfl rfl
theorem count9.aok (N : Nat) : AnnsOK (count9.K N) := aok1 ⟨fun _ _ => ⟨rfl, rfl⟩, trivial⟩
theorem count9.ok : CallOK Tryz.prog 113 count9.spec := ok0 count9.cok (fun _ => iok0 rfl) count9.aok count9.F_eq (by kernel_rfl) (by kernel_rfl) (fun _ => rfl) (fun _ => ⟨rfl, rfl⟩) fun _ _ => ⟨rfl, rfl⟩
def good9.sig : Eng.Sig := { args := [.at (.roi .i64 0)], n := 0, pre := [], post := [], m := 0, ret := .at (.bool 0) }
def good9.C (N : Nat) : Cfg := { P := Tryz.prog, N := N, RT := noRT, specs := [(108, pmay9.spec), (113, count9.spec)], inl := [], hi := 0, mv := [] }
abbrev good9.R : Type := Bool
def good9.dec (L : Eng.Leaves) : good9.R := (L.b 0)
def good9.enc (r : good9.R) : Eng.Leaves := mkL [] [r] [] []
abbrev good9.loop4.R : Type := Bool
def good9.loop4.ann : Ann := { nx := 20, slots := [(0, .at (.froi .i64 0)), (2, .at (.bool 0)), (3, .at (.int .i64 0))], blks := [], mov := [], exId := 0, xslots := [(2, .at (.bool 0))], xblks := [], T := good9.loop4.R, dec := fun L => (L.b 0), enc := fun r => mkL [] [r] [] [], ret := true }
def good9.K (N : Nat) : FCfg := { anns := [(4, good9.loop4.ann)], unr := [], lits := [], lets := [] }
def good9.loop4 (N : Nat) : Nat → List Int → List Int → Int → Bool → Option (good9.loop4.R ⊕ good9.R)
  | 0, _, _, _, _ => none
  | nn + 1, e_l, l, s3, s2 =>
  (br (decide (s3 < ↑l.length))
  (chk ((0 : Int) ≤ IntKind.i64.wrap (s3 + (16 : Int)) ∧ IntKind.i64.wrap (s3 + (16 : Int)) ≤ ↑l.length)
  (chk ((0 : Int) ≤ s3 ∧ s3 ≤ ↑(IntKind.i64.wrap (s3 + (16 : Int))).toNat)
  (obind (Rc.count9.F N (List.take ((IntKind.i64.wrap (s3 + (16 : Int))).toNat - s3.toNat) (List.drop s3.toNat l))) fun r0 =>
  (br (decide (r0 > (16 : Int)))
  (omap
  (some false) .inr)
  (chkL l l
  (good9.loop4 N nn e_l l (IntKind.i64.wrap (s3 + (16 : Int))) s2))))))
  (some (Sum.inl s2)))
def good9.loop4R (N nn : Nat) (e_l : List Int) (l : List Int) (s3 : Int) (s2 : Bool) : Option (good9.loop4.R ⊕ good9.R) := loopR good9.loop4.ann (mkL [] [] [l] []) (evCode ((good9.C N).inLoop good9.loop4.ann) (good9.K N) (inlTab (good9.C N) 0) (bodyAt 4 Tryz.f112)) (sigKr Tryz.prog Tryz.f112 good9.sig (mkL [] [] [e_l] []) fun L => (L.b 0)) nn (mkL [s3] [s2] [] [])
theorem good9.loop4_eq (N : Nat) : ∀ nn, good9.loop4R N nn = good9.loop4 N nn
  | 0 => by funext; kernel_rfl
  | nn + 1 => by
    funext; rw [good9.loop4, ← good9.loop4_eq N nn]; kernel_rfl
def good9.F (N : Nat) (l : List Int) : Option good9.R :=
  (obind (Rc.pmay9.F N (↑l.length)) fun r0 =>
  (br (!r0)
  (some false)
  (osum (good9.loop4 N N l l ((0 : Int)) false) fun r1 =>
  (some true))))
theorem good9.F_eq (N : Nat) (L : Eng.Leaves) : evSig (good9.C N) (good9.K N) 0 Tryz.f112 good9.sig L good9.dec = good9.F N (L.l 0) := by
  rw [good9.F, ← funext (good9.loop4_eq N)]; kernel_rfl
def good9.spec : Eng.Spec := good9.sig.spec (fun N L => good9.F N (L.l 0)) good9.enc
theorem good9.cok (N : Nat) : CfgOK (good9.C N) := cok0 wide ⟨pmay9.ok, count9.ok, trivial⟩ (by kernel_rfl) rfl rfl rfl rfl
theorem good9.aok (N : Nat) : AnnsOK (good9.K N) := aok1 ⟨fun _ _ => ⟨rfl, rfl⟩, trivial⟩
theorem good9.ok : CallOK Tryz.prog 112 good9.spec := ok0 good9.cok (fun _ => iok0 rfl) good9.aok good9.F_eq (by kernel_rfl) (by kernel_rfl) (fun _ => rfl) (fun _ => ⟨rfl, rfl⟩) fun _ _ => ⟨rfl, rfl⟩
def share9.sig : Eng.Sig := { args := [.at (.ptr 0 0), .at (.full 2 false), .at (.int .i64 0)], n := 3, pre := [(0, .cells 10 [.full 1 false, .int .u64 1, .int .u64 2, .int .u64 3, .int .i64 4, .int .i64 5, .int .u64 6, .int .i64 7, .int .i64 8, .bool 0]), (1, .ints false .u8 0), (2, .ints false .i64 1)], post := [(0, .cells 10 [.full 1 false, .int .u64 0, .int .u64 1, .int .u64 2, .int .i64 3, .int .i64 4, .int .u64 5, .int .i64 6, .int .i64 7, .bool 0]), (1, .fints false .u8 0), (2, .ints false .i64 0)], m := 0, ret := .at (.unk) }
abbrev share9.R : Type := Int × Int × Int × Int × Int × Int × Int × Int × Bool × List Int
def share9.dec (L : Eng.Leaves) : share9.R := (L.i 0, L.i 1, L.i 2, L.i 3, L.i 4, L.i 5, L.i 6, L.i 7, L.b 0, L.l 0)
def share9.enc (r : share9.R) : Eng.Leaves := mkL [r.1, r.2.1, r.2.2.1, r.2.2.2.1, r.2.2.2.2.1, r.2.2.2.2.2.1, r.2.2.2.2.2.2.1, r.2.2.2.2.2.2.2.1] [r.2.2.2.2.2.2.2.2.1] [r.2.2.2.2.2.2.2.2.2] []
def share9.G (N : Nat) : Nat → Int → Int → Int → Int → Int → Int → Int → Int → Int → Bool → List Int → List Int → Option share9.R
  | 0, _, _, _, _, _, _, _, _, _, _, _, _ => none
  | nn + 1, k, rng, val, last, front, back, window, waiting, count, bad, b, l =>
  (br (↑l.length == (1 : Int))
  (chk ((0 : Int) ≤ (0 : Int) ∧ (0 : Int) < ↑l.length)
  (chkL b b
  (some ((rng, val, last, front, back, window, waiting, count, bad, l.set (Int.toNat (0 : Int)) k)))))
  (obind (Rc.uint.F N (IntKind.i64.wrap (k + (1 : Int))) rng val last front back window waiting count bad b) fun r0 =>
  (chk ((0 : Int) ≤ IntKind.i64.wrap ((↑l.length : Int).tdiv (2 : Int)) ∧ IntKind.i64.wrap ((↑l.length : Int).tdiv (2 : Int)) ≤ ↑l.length)
  (chk ((0 : Nat) + ((IntKind.i64.wrap ((↑l.length : Int).tdiv (2 : Int))).toNat - (0 : Nat)) ≤ l.length)
  (obind (Rc.share9.G N nn r0.1 r0.2.1 r0.2.2.1 r0.2.2.2.1 r0.2.2.2.2.1 r0.2.2.2.2.2.1 r0.2.2.2.2.2.2.1 r0.2.2.2.2.2.2.2.1 r0.2.2.2.2.2.2.2.2.1 r0.2.2.2.2.2.2.2.2.2 b (List.take ((IntKind.i64.wrap ((↑l.length : Int).tdiv (2 : Int))).toNat - (0 : Nat)) (List.drop (0 : Nat) l))) fun r1 =>
  (chk ((0 : Int) ≤ IntKind.i64.wrap ((↑(List.take (0 : Nat) l ++ (r1.2.2.2.2.2.2.2.2.2 ++ List.drop ((0 : Nat) + ((IntKind.i64.wrap ((↑l.length : Int).tdiv (2 : Int))).toNat - (0 : Nat))) l)).length : Int).tdiv (2 : Int)) ∧ IntKind.i64.wrap ((↑(List.take (0 : Nat) l ++ (r1.2.2.2.2.2.2.2.2.2 ++ List.drop ((0 : Nat) + ((IntKind.i64.wrap ((↑l.length : Int).tdiv (2 : Int))).toNat - (0 : Nat))) l)).length : Int).tdiv (2 : Int)) ≤ ↑(List.take (0 : Nat) l ++ (r1.2.2.2.2.2.2.2.2.2 ++ List.drop ((0 : Nat) + ((IntKind.i64.wrap ((↑l.length : Int).tdiv (2 : Int))).toNat - (0 : Nat))) l)).length)
  (chk ((IntKind.i64.wrap ((↑(List.take (0 : Nat) l ++ (r1.2.2.2.2.2.2.2.2.2 ++ List.drop ((0 : Nat) + ((IntKind.i64.wrap ((↑l.length : Int).tdiv (2 : Int))).toNat - (0 : Nat))) l)).length : Int).tdiv (2 : Int))).toNat + ((List.take (0 : Nat) l ++ (r1.2.2.2.2.2.2.2.2.2 ++ List.drop ((0 : Nat) + ((IntKind.i64.wrap ((↑l.length : Int).tdiv (2 : Int))).toNat - (0 : Nat))) l)).length - (IntKind.i64.wrap ((↑(List.take (0 : Nat) l ++ (r1.2.2.2.2.2.2.2.2.2 ++ List.drop ((0 : Nat) + ((IntKind.i64.wrap ((↑l.length : Int).tdiv (2 : Int))).toNat - (0 : Nat))) l)).length : Int).tdiv (2 : Int))).toNat) ≤ (List.take (0 : Nat) l ++ (r1.2.2.2.2.2.2.2.2.2 ++ List.drop ((0 : Nat) + ((IntKind.i64.wrap ((↑l.length : Int).tdiv (2 : Int))).toNat - (0 : Nat))) l)).length)
  (obind (Rc.share9.G N nn (IntKind.i64.wrap (k - r0.1)) r1.1 r1.2.1 r1.2.2.1 r1.2.2.2.1 r1.2.2.2.2.1 r1.2.2.2.2.2.1 r1.2.2.2.2.2.2.1 r1.2.2.2.2.2.2.2.1 r1.2.2.2.2.2.2.2.2.1 b (List.take ((List.take (0 : Nat) l ++ (r1.2.2.2.2.2.2.2.2.2 ++ List.drop ((0 : Nat) + ((IntKind.i64.wrap ((↑l.length : Int).tdiv (2 : Int))).toNat - (0 : Nat))) l)).length - (IntKind.i64.wrap ((↑(List.take (0 : Nat) l ++ (r1.2.2.2.2.2.2.2.2.2 ++ List.drop ((0 : Nat) + ((IntKind.i64.wrap ((↑l.length : Int).tdiv (2 : Int))).toNat - (0 : Nat))) l)).length : Int).tdiv (2 : Int))).toNat) (List.drop (IntKind.i64.wrap ((↑(List.take (0 : Nat) l ++ (r1.2.2.2.2.2.2.2.2.2 ++ List.drop ((0 : Nat) + ((IntKind.i64.wrap ((↑l.length : Int).tdiv (2 : Int))).toNat - (0 : Nat))) l)).length : Int).tdiv (2 : Int))).toNat (List.take (0 : Nat) l ++ (r1.2.2.2.2.2.2.2.2.2 ++ List.drop ((0 : Nat) + ((IntKind.i64.wrap ((↑l.length : Int).tdiv (2 : Int))).toNat - (0 : Nat))) l))))) fun r2 =>
  (chkL b b
  (some ((r2.1, r2.2.1, r2.2.2.1, r2.2.2.2.1, r2.2.2.2.2.1, r2.2.2.2.2.2.1, r2.2.2.2.2.2.2.1, r2.2.2.2.2.2.2.2.1, r2.2.2.2.2.2.2.2.2.1, List.take (IntKind.i64.wrap ((↑(List.take (0 : Nat) l ++ (r1.2.2.2.2.2.2.2.2.2 ++ List.drop ((0 : Nat) + ((IntKind.i64.wrap ((↑l.length : Int).tdiv (2 : Int))).toNat - (0 : Nat))) l)).length : Int).tdiv (2 : Int))).toNat (List.take (0 : Nat) l ++ (r1.2.2.2.2.2.2.2.2.2 ++ List.drop ((0 : Nat) + ((IntKind.i64.wrap ((↑l.length : Int).tdiv (2 : Int))).toNat - (0 : Nat))) l)) ++ (r2.2.2.2.2.2.2.2.2.2 ++ List.drop ((IntKind.i64.wrap ((↑(List.take (0 : Nat) l ++ (r1.2.2.2.2.2.2.2.2.2 ++ List.drop ((0 : Nat) + ((IntKind.i64.wrap ((↑l.length : Int).tdiv (2 : Int))).toNat - (0 : Nat))) l)).length : Int).tdiv (2 : Int))).toNat + ((List.take (0 : Nat) l ++ (r1.2.2.2.2.2.2.2.2.2 ++ List.drop ((0 : Nat) + ((IntKind.i64.wrap ((↑l.length : Int).tdiv (2 : Int))).toNat - (0 : Nat))) l)).length - (IntKind.i64.wrap ((↑(List.take (0 : Nat) l ++ (r1.2.2.2.2.2.2.2.2.2 ++ List.drop ((0 : Nat) + ((IntKind.i64.wrap ((↑l.length : Int).tdiv (2 : Int))).toNat - (0 : Nat))) l)).length : Int).tdiv (2 : Int))).toNat)) (List.take (0 : Nat) l ++ (r1.2.2.2.2.2.2.2.2.2 ++ List.drop ((0 : Nat) + ((IntKind.i64.wrap ((↑l.length : Int).tdiv (2 : Int))).toNat - (0 : Nat))) l)))))))))))))))
def share9.specAt (nn : Nat) : Eng.Spec := share9.sig.spec (fun N L => share9.G N nn (L.i 0) (L.i 1) (L.i 2) (L.i 3) (L.i 4) (L.i 5) (L.i 6) (L.i 7) (L.i 8) (L.b 0) (L.l 0) (L.l 1)) share9.enc
def share9.C (N : Nat) (nn : Nat) : Cfg := { P := Tryz.prog, N := N, RT := noRT, specs := [(45, uint.spec), (109, share9.specAt nn)], inl := [], hi := 3, mv := [] }
def share9.K (N : Nat) : FCfg := { anns := [], unr := [], lits := [], lets := [] }
def share9.F (N : Nat) (k rng val last front back window waiting count : Int) (bad : Bool) (b l : List Int) : Option share9.R := share9.G N N k rng val last front back window waiting count bad b l
theorem share9.F_eq (N nn : Nat) (L : Eng.Leaves) : evSig (share9.C N nn) (share9.K N) 0 Tryz.f109 share9.sig L share9.dec = share9.G N (nn + 1) (L.i 0) (L.i 1) (L.i 2) (L.i 3) (L.i 4) (L.i 5) (L.i 6) (L.i 7) (L.i 8) (L.b 0) (L.l 0) (L.l 1) := by
  kernel_rfl
theorem share9.cok (nn : Nat) (hrec : CallOK Tryz.prog 109 (share9.specAt nn)) (N : Nat) : CfgOK (share9.C N nn) := ⟨fun _ _ _ _ h => by simp [share9.C, noRT] at h, wide, by
  simp only [share9.C, List.mem_cons, List.not_mem_nil, or_false, forall_eq_or_imp, forall_eq, false_imp_iff, implies_true]
  exact ⟨⟨uint.ok, by kernel_rfl⟩, ⟨hrec, by kernel_rfl⟩⟩, fun g hg => by simp [share9.C] at hg, fun m hm => by simp [share9.C] at hm, fun q hq => by simp [share9.C] at hq⟩
theorem share9.aok (N : Nat) : AnnsOK (share9.K N) := aok1 trivial
theorem share9.okAt : ∀ nn, CallOK Tryz.prog 109 (share9.specAt nn) :=
  callOK_rec (run := fun N nn L => share9.G N nn (L.i 0) (L.i 1) (L.i 2) (L.i 3) (L.i 4) (L.i 5) (L.i 6) (L.i 7) (L.i 8) (L.b 0) (L.l 0) (L.l 1)) (fun _ _ => rfl) (by kernel_rfl) fun nn hrec =>
  callOK_of_sig (fn := Tryz.f109) (Cf := fun N => share9.C N nn) (K := share9.K) (d := 0) (dec := share9.dec) (by kernel_rfl) (fun _ => rfl) (share9.cok nn hrec) (fun _ q hq => by simp [share9.C] at hq) share9.aok
  (fun N L r h => (share9.F_eq N nn L).trans h) (by kernel_rfl) (fun _ => ⟨rfl, rfl⟩) (fun _ _ => ⟨rfl, rfl⟩)
def share9.spec : Eng.Spec := share9.sig.spec (fun N L => share9.F N (L.i 0) (L.i 1) (L.i 2) (L.i 3) (L.i 4) (L.i 5) (L.i 6) (L.i 7) (L.i 8) (L.b 0) (L.l 0) (L.l 1)) share9.enc
theorem share9.ok : CallOK Tryz.prog 109 share9.spec := callOK_diag (run := fun N nn L => share9.G N nn (L.i 0) (L.i 1) (L.i 2) (L.i 3) (L.i 4) (L.i 5) (L.i 6) (L.i 7) (L.i 8) (L.b 0) (L.l 0) (L.l 1)) share9.okAt
def read9.sig : Eng.Sig := { args := [.at (.ptr 0 0), .at (.int .i64 0)], n := 2, pre := [(0, .cells 10 [.full 1 false, .int .u64 1, .int .u64 2, .int .u64 3, .int .i64 4, .int .i64 5, .int .u64 6, .int .i64 7, .int .i64 8, .bool 0]), (1, .ints false .u8 0)], post := [(0, .cells 10 [.full 1 false, .int .u64 1, .int .u64 2, .int .u64 3, .int .i64 4, .int .i64 5, .int .u64 6, .int .i64 7, .int .i64 8, .bool 0]), (1, .fints false .u8 0), (2, .ints true .i64 0)], m := 1, ret := .tup [(false, [.full 2 false]), (false, [.int .i64 0])] }
def read9.C (N : Nat) : Cfg := { P := Tryz.prog, N := N, RT := noRT, specs := [(108, pmay9.spec), (44, ticdf.spec), (43, symbol.spec), (109, share9.spec), (42, bits.spec)], inl := [], hi := 2, mv := [] }
abbrev read9.R : Type := Int × Int × Int × Int × Int × Int × Int × Int × Int × Bool × List Int
def read9.dec (L : Eng.Leaves) : read9.R := (L.i 0, L.i 1, L.i 2, L.i 3, L.i 4, L.i 5, L.i 6, L.i 7, L.i 8, L.b 0, L.l 0)
def read9.enc (r : read9.R) : Eng.Leaves := mkL [r.1, r.2.1, r.2.2.1, r.2.2.2.1, r.2.2.2.2.1, r.2.2.2.2.2.1, r.2.2.2.2.2.2.1, r.2.2.2.2.2.2.2.1, r.2.2.2.2.2.2.2.2.1] [r.2.2.2.2.2.2.2.2.2.1] [r.2.2.2.2.2.2.2.2.2.2] []
abbrev read9.loop5.R : Type := Int × Int × Int × Int × Int × Int × Int × Int × Bool × List Int
def read9.loop5.ann : Ann := { nx := 20, slots := [(0, .at (.ptr 0 0)), (1, .at (.fint .i64 0)), (6, .at (.full 2 true)), (7, .at (.int .i64 0))], blks := [(0, .cells 10 [.full 1 false, .int .u64 1, .int .u64 2, .int .u64 3, .int .i64 4, .int .i64 5, .int .u64 6, .int .i64 7, .int .i64 8, .bool 0]), (1, .fints false .u8 0), (2, .ints true .i64 0)], mov := [], exId := 0, xslots := [(0, .at (.ptr 0 0)), (6, .at (.full 2 true))], xblks := [(0, .cells 10 [.full 1 false, .int .u64 0, .int .u64 1, .int .u64 2, .int .i64 3, .int .i64 4, .int .u64 5, .int .i64 6, .int .i64 7, .bool 0]), (1, .fints false .u8 0), (2, .ints true .i64 0)], T := read9.loop5.R, dec := fun L => (L.i 0, L.i 1, L.i 2, L.i 3, L.i 4, L.i 5, L.i 6, L.i 7, L.b 0, L.l 0), enc := fun r => mkL [r.1, r.2.1, r.2.2.1, r.2.2.2.1, r.2.2.2.2.1, r.2.2.2.2.2.1, r.2.2.2.2.2.2.1, r.2.2.2.2.2.2.2.1] [r.2.2.2.2.2.2.2.2.1] [r.2.2.2.2.2.2.2.2.2] [], ret := false }
abbrev read9.loop10.R : Type := Int × Int × Int × Int × List Int
def read9.loop10.ann : Ann := { nx := 25, slots := [(0, .at (.ptr 0 0)), (8, .at (.fsub 2 0 1)), (32, .at (.fint .i64 2)), (33, .at (.int .i64 0))], blks := [(0, .cells 10 [.full 1 false, .fint .u64 3, .fint .u64 4, .fint .u64 5, .fint .i64 6, .int .i64 1, .int .u64 2, .int .i64 3, .int .i64 4, .fbool 0]), (1, .fints false .u8 0), (2, .ints true .i64 0)], mov := [], exId := 2, xslots := [(0, .at (.ptr 0 0)), (8, .at (.fsub 2 0 1))], xblks := [(0, .cells 10 [.full 1 false, .fint .u64 3, .fint .u64 4, .fint .u64 5, .fint .i64 6, .int .i64 0, .int .u64 1, .int .i64 2, .int .i64 3, .fbool 0]), (1, .fints false .u8 0), (2, .ints true .i64 0)], T := read9.loop10.R, dec := fun L => (L.i 0, L.i 1, L.i 2, L.i 3, L.l 0), enc := fun r => mkL [r.1, r.2.1, r.2.2.1, r.2.2.2.1] [] [r.2.2.2.2] [], ret := false }
def read9.K (N : Nat) : FCfg := { anns := [(5, read9.loop5.ann), (10, read9.loop10.ann)], unr := [], lits := [], lets := [] }
def read9.loop10 (N : Nat) : Nat → Int → Int → Int → Int → Int → Int → Int → Bool → List Int → Int → Int → Int → Int → Int → List Int → Option read9.loop10.R
  | 0, _, _, _, _, _, _, _, _, _, _, _, _, _, _, _ => none
  | nn + 1, s8_lo, s8_n, s32, rng, val, last, front, bad, b, s33, back, window, waiting, count, l2 =>
  (br (decide (s33 < s32))
  (chk ((0 : Int) ≤ s33 ∧ s33 < ↑s8_n.toNat)
  (br (decide (l2.getD (s8_lo.toNat + s33.toNat) (0 : Int) > (0 : Int)))
  (obind (Rc.bits.F N ((1 : Int)) rng val last front back window waiting count bad b) fun r0 =>
  (br (r0.1 == (1 : Int))
  (chk ((0 : Int) ≤ s33 ∧ s33 < ↑s8_n.toNat)
  (chk ((0 : Int) ≤ s33 ∧ s33 < ↑s8_n.toNat)
  (chkN s8_lo.toNat s8_lo.toNat
  (chkN s8_n.toNat s8_n.toNat
  (chkI s32 s32
  (chkI rng rng
  (chkI val val
  (chkI last last
  (chkI front front
  (chkB bad bad
  (chkL b b
  (read9.loop10 N nn s8_lo s8_n s32 rng val last front bad b (IntKind.i64.wrap (s33 + (1 : Int))) r0.2.1 r0.2.2.1 r0.2.2.2.1 r0.2.2.2.2 (l2.set (s8_lo.toNat + s33.toNat) (IntKind.i64.wrap ((0 : Int) - l2.getD (s8_lo.toNat + s33.toNat) (0 : Int))))))))))))))))
  (chkN s8_lo.toNat s8_lo.toNat
  (chkN s8_n.toNat s8_n.toNat
  (chkI s32 s32
  (chkI rng rng
  (chkI val val
  (chkI last last
  (chkI front front
  (chkB bad bad
  (chkL b b
  (read9.loop10 N nn s8_lo s8_n s32 rng val last front bad b (IntKind.i64.wrap (s33 + (1 : Int))) r0.2.1 r0.2.2.1 r0.2.2.2.1 r0.2.2.2.2 l2))))))))))))
  (chkN s8_lo.toNat s8_lo.toNat
  (chkN s8_n.toNat s8_n.toNat
  (chkI s32 s32
  (chkI rng rng
  (chkI val val
  (chkI last last
  (chkI front front
  (chkB bad bad
  (chkL b b
  (read9.loop10 N nn s8_lo s8_n s32 rng val last front bad b (IntKind.i64.wrap (s33 + (1 : Int))) back window waiting count l2))))))))))))
  (chkN s8_lo.toNat s8_lo.toNat
  (chkN s8_n.toNat s8_n.toNat
  (chkI rng rng
  (chkI val val
  (chkI last last
  (chkI front front
  (chkB bad bad
  (chkL b b
  (some ((back, window, waiting, count, l2))))))))))))
def read9.loop10R (N nn : Nat) (s8_lo s8_n s32 rng val last front : Int) (bad : Bool) (b : List Int) (s33 back window waiting count : Int) (l2 : List Int) : Option read9.loop10.R := loopF read9.loop10.ann (mkL [s8_lo, s8_n, s32, rng, val, last, front] [bad] [b] []) (evCode ((read9.C N).inLoop read9.loop10.ann) (read9.K N) (inlTab (read9.C N) 0) (bodyAt 10 Tryz.f49)) nn (mkL [s33, back, window, waiting, count] [] [l2] [])
theorem read9.loop10_eq (N : Nat) : ∀ nn, read9.loop10R N nn = read9.loop10 N nn
  | 0 => by funext; kernel_rfl
  | nn + 1 => by
    funext; rw [read9.loop10, ← read9.loop10_eq N nn]; kernel_rfl
def read9.loop5 (N : Nat) : Nat → Int → List Int → Int → Int → Int → Int → Int → Int → Int → Int → Int → Bool → List Int → Option read9.loop5.R
  | 0, _, _, _, _, _, _, _, _, _, _, _, _, _ => none
  | nn + 1, n, b, s7, rng, val, last, front, back, window, waiting, count, bad, l2 =>
  (br (decide (s7 < n))
  (chk ((0 : Int) ≤ IntKind.i64.wrap (s7 + (16 : Int)) ∧ IntKind.i64.wrap (s7 + (16 : Int)) ≤ ↑l2.length)
  (chk ((0 : Int) ≤ s7 ∧ s7 ≤ ↑(IntKind.i64.wrap (s7 + (16 : Int))).toNat)
  (obind (Rc.ticdf.F N ((5 : Int))) fun r0 =>
  (obind (Rc.symbol.F N rng val last front back window waiting count bad r0 b) fun r1 =>
  (chk (s7.toNat + ((IntKind.i64.wrap (s7 + (16 : Int))).toNat - s7.toNat) ≤ l2.length)
  (obind (Rc.share9.F N r1.1 r1.2.1 r1.2.2.1 r1.2.2.2.1 r1.2.2.2.2.1 back window waiting r1.2.2.2.2.2 bad b (List.take ((IntKind.i64.wrap (s7 + (16 : Int))).toNat - s7.toNat) (List.drop s7.toNat l2))) fun r2 =>
  (obind (read9.loop10 N N (↑s7.toNat) (↑((IntKind.i64.wrap (s7 + (16 : Int))).toNat - s7.toNat)) (↑((IntKind.i64.wrap (s7 + (16 : Int))).toNat - s7.toNat)) r2.1 r2.2.1 r2.2.2.1 r2.2.2.2.1 r2.2.2.2.2.2.2.2.2.1 b ((0 : Int)) r2.2.2.2.2.1 r2.2.2.2.2.2.1 r2.2.2.2.2.2.2.1 r2.2.2.2.2.2.2.2.1 (List.take s7.toNat l2 ++ (r2.2.2.2.2.2.2.2.2.2 ++ List.drop (s7.toNat + ((IntKind.i64.wrap (s7 + (16 : Int))).toNat - s7.toNat)) l2))) fun r3 =>
  (chkI n n
  (chkL b b
  (read9.loop5 N nn n b (IntKind.i64.wrap (s7 + (16 : Int))) r2.1 r2.2.1 r2.2.2.1 r2.2.2.2.1 r3.1 r3.2.1 r3.2.2.1 r3.2.2.2.1 r2.2.2.2.2.2.2.2.2.1 r3.2.2.2.2))))))))))
  (chkL b b
  (some ((rng, val, last, front, back, window, waiting, count, bad, l2)))))
def read9.loop5R (N nn : Nat) (n : Int) (b : List Int) (s7 rng val last front back window waiting count : Int) (bad : Bool) (l2 : List Int) : Option read9.loop5.R := loopF read9.loop5.ann (mkL [n] [] [b] []) (evCode ((read9.C N).inLoop read9.loop5.ann) (read9.K N) (inlTab (read9.C N) 0) (bodyAt 5 Tryz.f49)) nn (mkL [s7, rng, val, last, front, back, window, waiting, count] [bad] [l2] [])
theorem read9.loop5_eq (N : Nat) : ∀ nn, read9.loop5R N nn = read9.loop5 N nn
  | 0 => by funext; kernel_rfl
  | nn + 1 => by
    funext; rw [read9.loop5, ← read9.loop5_eq N nn, ← funext (read9.loop10_eq N)]; kernel_rfl
def read9.F (N : Nat) (n rng val last front back window waiting count : Int) (bad : Bool) (b : List Int) : Option read9.R :=
  (obind (Rc.pmay9.F N n) fun r0 =>
  (br (!r0)
  (chkL b b
  (some (((1 : Int), rng, val, last, front, back, window, waiting, count, bad, ([] : List Int)))))
  (chk ((0 : Int) ≤ n ∧ n ≤ n ∧ n ≤ ↑(17592186043904 : Nat))
  (obind (read9.loop5 N N n b ((0 : Int)) rng val last front back window waiting count bad (List.replicate n.toNat (0 : Int))) fun r1 =>
  (chkL b b
  (some (((0 : Int), r1.1, r1.2.1, r1.2.2.1, r1.2.2.2.1, r1.2.2.2.2.1, r1.2.2.2.2.2.1, r1.2.2.2.2.2.2.1, r1.2.2.2.2.2.2.2.1, r1.2.2.2.2.2.2.2.2.1, r1.2.2.2.2.2.2.2.2.2))))))))
theorem read9.F_eq (N : Nat) (L : Eng.Leaves) : evSig (read9.C N) (read9.K N) 0 Tryz.f49 read9.sig L read9.dec = read9.F N (L.i 0) (L.i 1) (L.i 2) (L.i 3) (L.i 4) (L.i 5) (L.i 6) (L.i 7) (L.i 8) (L.b 0) (L.l 0) := by
  rw [read9.F, ← funext (read9.loop5_eq N)]; kernel_rfl
def read9.spec : Eng.Spec := read9.sig.spec (fun N L => read9.F N (L.i 0) (L.i 1) (L.i 2) (L.i 3) (L.i 4) (L.i 5) (L.i 6) (L.i 7) (L.i 8) (L.b 0) (L.l 0)) read9.enc
theorem read9.cok (N : Nat) : CfgOK (read9.C N) := cok0 wide ⟨pmay9.ok, ticdf.ok, symbol.ok, share9.ok, bits.ok, trivial⟩ (by kernel_rfl) rfl rfl rfl rfl
theorem read9.aok (N : Nat) : AnnsOK (read9.K N) := aok1 ⟨fun _ _ => ⟨rfl, rfl⟩, fun _ _ => ⟨rfl, rfl⟩, trivial⟩
theorem read9.ok : CallOK Tryz.prog 49 read9.spec := ok0 read9.cok (fun _ => iok0 rfl) read9.aok read9.F_eq (by kernel_rfl) (by kernel_rfl) (fun _ => rfl) (fun _ => ⟨rfl, rfl⟩) fun _ _ => ⟨rfl, rfl⟩
def spread9.sig : Eng.Sig := { args := [.at (.ptr 0 0), .at (.roi .i64 0)], n := 3, pre := [(0, .cells 6 [.full 1 false, .int .u64 0, .int .u64 1, .full 2 false, .int .i64 2, .int .i64 3]), (1, .ints true .u8 1), (2, .ints true .u8 2)], post := [(0, .cells 6 [.full 3 false, .int .u64 1, .int .u64 2, .full 4 false, .int .i64 3, .int .i64 4]), (1, .dead), (2, .dead), (3, .ints true .u8 0), (4, .ints true .u8 1)], m := 2, ret := .at (.int .i64 0) }
abbrev spread9.R : Type := Int × Int × Int × Int × Int × List Int × List Int
def spread9.dec (L : Eng.Leaves) : spread9.R := (L.i 0, L.i 1, L.i 2, L.i 3, L.i 4, L.l 0, L.l 1)
def spread9.enc (r : spread9.R) : Eng.Leaves := mkL [r.1, r.2.1, r.2.2.1, r.2.2.2.1, r.2.2.2.2.1] [] [r.2.2.2.2.2.1, r.2.2.2.2.2.2] []
def spread9.G (N : Nat) : Nat → Int → Int → Int → Int → List Int → List Int → List Int → Option spread9.R
  | 0, _, _, _, _, _, _, _ => none
  | nn + 1, val, rng, rawBits, count, l, told, raw =>
  (br (↑l.length == (1 : Int))
  (some (((0 : Int), val, rng, rawBits, count, told, raw)))
  (chk ((0 : Int) ≤ IntKind.i64.wrap ((↑l.length : Int).tdiv (2 : Int)) ∧ IntKind.i64.wrap ((↑l.length : Int).tdiv (2 : Int)) ≤ ↑l.length)
  (obind (Rc.count9.F N (List.take ((IntKind.i64.wrap ((↑l.length : Int).tdiv (2 : Int))).toNat - (0 : Nat)) (List.drop (0 : Nat) l))) fun r0 =>
  (obind (Rc.count9.F N l) fun r1 =>
  (obind (Rc.euint.F N r0 (IntKind.i64.wrap (r1 + (1 : Int))) val rng rawBits count told raw) fun r2 =>
  (br (r2.1 != (0 : Int))
  (some ((r2.1, r2.2.1, r2.2.2.1, r2.2.2.2.1, r2.2.2.2.2.1, r2.2.2.2.2.2.1, r2.2.2.2.2.2.2)))
  (obind (Rc.spread9.G N nn r2.2.1 r2.2.2.1 r2.2.2.2.1 r2.2.2.2.2.1 (List.take ((IntKind.i64.wrap ((↑l.length : Int).tdiv (2 : Int))).toNat - (0 : Nat)) (List.drop (0 : Nat) l)) r2.2.2.2.2.2.1 r2.2.2.2.2.2.2) fun r3 =>
  (br (r3.1 != (0 : Int))
  (some ((r3.1, r3.2.1, r3.2.2.1, r3.2.2.2.1, r3.2.2.2.2.1, r3.2.2.2.2.2.1, r3.2.2.2.2.2.2)))
  (chk ((0 : Int) ≤ IntKind.i64.wrap ((↑l.length : Int).tdiv (2 : Int)) ∧ IntKind.i64.wrap ((↑l.length : Int).tdiv (2 : Int)) ≤ ↑l.length)
  (obind (Rc.spread9.G N nn r3.2.1 r3.2.2.1 r3.2.2.2.1 r3.2.2.2.2.1 (List.take (l.length - (IntKind.i64.wrap ((↑l.length : Int).tdiv (2 : Int))).toNat) (List.drop (IntKind.i64.wrap ((↑l.length : Int).tdiv (2 : Int))).toNat l)) r3.2.2.2.2.2.1 r3.2.2.2.2.2.2) fun r4 =>
  (some ((r4.1, r4.2.1, r4.2.2.1, r4.2.2.2.1, r4.2.2.2.2.1, r4.2.2.2.2.2.1, r4.2.2.2.2.2.2)))))))))))))
def spread9.specAt (nn : Nat) : Eng.Spec := spread9.sig.spec (fun N L => spread9.G N nn (L.i 0) (L.i 1) (L.i 2) (L.i 3) (L.l 0) (L.l 1) (L.l 2)) spread9.enc
def spread9.C (N : Nat) (nn : Nat) : Cfg := { P := Tryz.prog, N := N, RT := noRT, specs := [(113, count9.spec), (56, euint.spec), (114, spread9.specAt nn)], inl := [], hi := 3, mv := [] }
def spread9.K (N : Nat) : FCfg := { anns := [], unr := [], lits := [], lets := [] }
def spread9.F (N : Nat) (val rng rawBits count : Int) (l told raw : List Int) : Option spread9.R := spread9.G N N val rng rawBits count l told raw
theorem spread9.F_eq (N nn : Nat) (L : Eng.Leaves) : evSig (spread9.C N nn) (spread9.K N) 0 Tryz.f114 spread9.sig L spread9.dec = spread9.G N (nn + 1) (L.i 0) (L.i 1) (L.i 2) (L.i 3) (L.l 0) (L.l 1) (L.l 2) := by
  kernel_rfl
theorem spread9.cok (nn : Nat) (hrec : CallOK Tryz.prog 114 (spread9.specAt nn)) (N : Nat) : CfgOK (spread9.C N nn) := ⟨fun _ _ _ _ h => by simp [spread9.C, noRT] at h, wide, by
  simp only [spread9.C, List.mem_cons, List.not_mem_nil, or_false, forall_eq_or_imp, forall_eq, false_imp_iff, implies_true]
  exact ⟨⟨count9.ok, by kernel_rfl⟩, ⟨euint.ok, by kernel_rfl⟩, ⟨hrec, by kernel_rfl⟩⟩, fun g hg => by simp [spread9.C] at hg, fun m hm => by simp [spread9.C] at hm, fun q hq => by simp [spread9.C] at hq⟩
theorem spread9.aok (N : Nat) : AnnsOK (spread9.K N) := aok1 trivial
theorem spread9.okAt : ∀ nn, CallOK Tryz.prog 114 (spread9.specAt nn) :=
  callOK_rec (run := fun N nn L => spread9.G N nn (L.i 0) (L.i 1) (L.i 2) (L.i 3) (L.l 0) (L.l 1) (L.l 2)) (fun _ _ => rfl) (by kernel_rfl) fun nn hrec =>
  callOK_of_sig (fn := Tryz.f114) (Cf := fun N => spread9.C N nn) (K := spread9.K) (d := 0) (dec := spread9.dec) (by kernel_rfl) (fun _ => rfl) (spread9.cok nn hrec) (fun _ q hq => by simp [spread9.C] at hq) spread9.aok
  (fun N L r h => (spread9.F_eq N nn L).trans h) (by kernel_rfl) (fun _ => ⟨rfl, rfl⟩) (fun _ _ => ⟨rfl, rfl⟩)
def spread9.spec : Eng.Spec := spread9.sig.spec (fun N L => spread9.F N (L.i 0) (L.i 1) (L.i 2) (L.i 3) (L.l 0) (L.l 1) (L.l 2)) spread9.enc
theorem spread9.ok : CallOK Tryz.prog 114 spread9.spec := callOK_diag (run := fun N nn L => spread9.G N nn (L.i 0) (L.i 1) (L.i 2) (L.i 3) (L.l 0) (L.l 1) (L.l 2)) spread9.okAt
def signs9.sig : Eng.Sig := { args := [.at (.ptr 0 0), .at (.roi .i64 0)], n := 3, pre := [(0, .cells 6 [.full 1 false, .int .u64 0, .int .u64 1, .full 2 false, .int .i64 2, .int .i64 3]), (1, .ints true .u8 1), (2, .ints true .u8 2)], post := [(0, .cells 6 [.full 1 false, .int .u64 1, .int .u64 2, .full 3 false, .int .i64 3, .int .i64 4]), (1, .ints true .u8 0), (2, .dead), (3, .ints true .u8 1)], m := 1, ret := .at (.int .i64 0) }
def signs9.C (N : Nat) : Cfg := { P := Tryz.prog, N := N, RT := noRT, specs := [(53, ebits.spec)], inl := [], hi := 3, mv := [] }
abbrev signs9.R : Type := Int × Int × Int × Int × Int × List Int × List Int
def signs9.dec (L : Eng.Leaves) : signs9.R := (L.i 0, L.i 1, L.i 2, L.i 3, L.i 4, L.l 0, L.l 1)
def signs9.enc (r : signs9.R) : Eng.Leaves := mkL [r.1, r.2.1, r.2.2.1, r.2.2.2.1, r.2.2.2.2.1] [] [r.2.2.2.2.2.1, r.2.2.2.2.2.2] []
abbrev signs9.loop2.R : Type := Int × Int × Int × List Int
def signs9.loop2.ann : Ann := { nx := 21, slots := [(0, .at (.ptr 0 0)), (4, .at (.int .i64 0)), (9, .at (.froi .i64 0)), (10, .at (.fint .i64 0)), (11, .at (.int .i64 1))], blks := [(0, .cells 6 [.full 1 false, .fint .u64 1, .fint .u64 2, .full 20 false, .int .i64 2, .int .i64 3]), (1, .fints true .u8 1), (20, .ints true .u8 0)], mov := [20], exId := 0, xslots := [(0, .at (.ptr 0 0)), (4, .at (.int .i64 0))], xblks := [(0, .cells 6 [.full 1 false, .fint .u64 1, .fint .u64 2, .full 20 false, .int .i64 1, .int .i64 2]), (1, .fints true .u8 1), (20, .ints true .u8 0)], T := signs9.loop2.R, dec := fun L => (L.i 0, L.i 1, L.i 2, L.l 0), enc := fun r => mkL [r.1, r.2.1, r.2.2.1] [] [r.2.2.2] [], ret := true }
def signs9.K (N : Nat) : FCfg := { anns := [(2, signs9.loop2.ann)], unr := [], lits := [], lets := [] }
def signs9.loop2 (N : Nat) : Nat → Int → Int → Int → Int → List Int → List Int → List Int → Int → Int → Int → List Int → List Int → Int → Int → Int → Int → List Int → Option (signs9.loop2.R ⊕ signs9.R)
  | 0, _, _, _, _, _, _, _, _, _, _, _, _, _, _, _, _, _ => none
  | nn + 1, e_val, e_rng, e_rawBits, e_count, e_l, e_told, e_raw, s10, val, rng, s9, told, s4, s11, rawBits, count, raw =>
  (br (decide (s11 < s10))
  (chk ((0 : Int) ≤ s11 ∧ s11 < ↑s9.length)
  (br (s9.getD s11.toNat (0 : Int) == (0 : Int))
  (chkL s9 s9
  (chkI s10 s10
  (chkI val val
  (chkI rng rng
  (chkL told told
  (signs9.loop2 N nn e_val e_rng e_rawBits e_count e_l e_told e_raw s10 val rng s9 told s4 (IntKind.i64.wrap (s11 + (1 : Int))) rawBits count raw))))))
  (br (decide (s9.getD s11.toNat (0 : Int) < (0 : Int)))
  (obind (Rc.ebits.F N ((1 : Int)) ((1 : Int)) val rng rawBits count told raw) fun r0 =>
  (br (r0.1 != (0 : Int))
  (omap
  (some ((r0.1, val, rng, r0.2.1, r0.2.2.1, told, r0.2.2.2))) .inr)
  (chkL s9 s9
  (chkI s10 s10
  (chkI val val
  (chkI rng rng
  (chkL told told
  (signs9.loop2 N nn e_val e_rng e_rawBits e_count e_l e_told e_raw s10 val rng s9 told s4 (IntKind.i64.wrap (s11 + (1 : Int))) r0.2.1 r0.2.2.1 r0.2.2.2))))))))
  (obind (Rc.ebits.F N ((0 : Int)) ((1 : Int)) val rng rawBits count told raw) fun r1 =>
  (br (r1.1 != (0 : Int))
  (omap
  (some ((r1.1, val, rng, r1.2.1, r1.2.2.1, told, r1.2.2.2))) .inr)
  (chkL s9 s9
  (chkI s10 s10
  (chkI val val
  (chkI rng rng
  (chkL told told
  (signs9.loop2 N nn e_val e_rng e_rawBits e_count e_l e_told e_raw s10 val rng s9 told s4 (IntKind.i64.wrap (s11 + (1 : Int))) r1.2.1 r1.2.2.1 r1.2.2.2)))))))))))
  (chkI val val
  (chkI rng rng
  (chkL told told
  (some (Sum.inl (s4, rawBits, count, raw)))))))
def signs9.loop2R (N nn : Nat) (e_val e_rng e_rawBits e_count : Int) (e_l e_told e_raw : List Int) (s10 val rng : Int) (s9 told : List Int) (s4 s11 rawBits count : Int) (raw : List Int) : Option (signs9.loop2.R ⊕ signs9.R) := loopR signs9.loop2.ann (mkL [s10, val, rng] [] [s9, told] []) (evCode ((signs9.C N).inLoop signs9.loop2.ann) (signs9.K N) (inlTab (signs9.C N) 0) (bodyAt 2 Tryz.f115)) (sigKr Tryz.prog Tryz.f115 signs9.sig (mkL [e_val, e_rng, e_rawBits, e_count] [] [e_l, e_told, e_raw] []) fun L => (L.i 0, L.i 1, L.i 2, L.i 3, L.i 4, L.l 0, L.l 1)) nn (mkL [s4, s11, rawBits, count] [] [raw] [])
theorem signs9.loop2_eq (N : Nat) : ∀ nn, signs9.loop2R N nn = signs9.loop2 N nn
  | 0 => by funext; kernel_rfl
  | nn + 1 => by
    funext; rw [signs9.loop2, ← signs9.loop2_eq N nn]; kernel_rfl
def signs9.F (N : Nat) (val rng rawBits count : Int) (l told raw : List Int) : Option signs9.R :=
  (osum (signs9.loop2 N N val rng rawBits count l told raw (↑l.length) val rng l told ((0 : Int)) ((0 : Int)) rawBits count raw) fun r0 =>
  (some (((0 : Int), val, rng, r0.2.1, r0.2.2.1, told, r0.2.2.2))))
theorem signs9.F_eq (N : Nat) (L : Eng.Leaves) : evSig (signs9.C N) (signs9.K N) 0 Tryz.f115 signs9.sig L signs9.dec = signs9.F N (L.i 0) (L.i 1) (L.i 2) (L.i 3) (L.l 0) (L.l 1) (L.l 2) := by
  rw [signs9.F, ← funext (signs9.loop2_eq N)]; kernel_rfl
def signs9.spec : Eng.Spec := signs9.sig.spec (fun N L => signs9.F N (L.i 0) (L.i 1) (L.i 2) (L.i 3) (L.l 0) (L.l 1) (L.l 2)) signs9.enc
theorem signs9.cok (N : Nat) : CfgOK (signs9.C N) := cok0 wide ⟨ebits.ok, trivial⟩ (by kernel_rfl) rfl rfl rfl rfl
theorem signs9.aok (N : Nat) : AnnsOK (signs9.K N) := aok1 ⟨fun _ _ => ⟨rfl, rfl⟩, trivial⟩
theorem signs9.ok : CallOK Tryz.prog 115 signs9.spec := ok0 signs9.cok (fun _ => iok0 rfl) signs9.aok signs9.F_eq (by kernel_rfl) (by kernel_rfl) (fun _ => rfl) (fun _ => ⟨rfl, rfl⟩) fun _ _ => ⟨rfl, rfl⟩
def write9.sig : Eng.Sig := { args := [.at (.ptr 0 0), .at (.roi .i64 0)], n := 3, pre := [(0, .cells 6 [.full 1 false, .int .u64 0, .int .u64 1, .full 2 false, .int .i64 2, .int .i64 3]), (1, .ints true .u8 1), (2, .ints true .u8 2)], post := [(0, .cells 6 [.full 3 false, .int .u64 1, .int .u64 2, .full 4 false, .int .i64 3, .int .i64 4]), (1, .dead), (2, .dead), (3, .ints true .u8 0), (4, .ints true .u8 1)], m := 2, ret := .at (.int .i64 0) }
def write9.C (N : Nat) : Cfg := { P := Tryz.prog, N := N, RT := noRT, specs := [(112, good9.spec), (113, count9.spec), (44, ticdf.spec), (55, esymbol.spec), (114, spread9.spec), (115, signs9.spec)], inl := [], hi := 3, mv := [] }
abbrev write9.R : Type := Int × Int × Int × Int × Int × List Int × List Int
def write9.dec (L : Eng.Leaves) : write9.R := (L.i 0, L.i 1, L.i 2, L.i 3, L.i 4, L.l 0, L.l 1)
def write9.enc (r : write9.R) : Eng.Leaves := mkL [r.1, r.2.1, r.2.2.1, r.2.2.2.1, r.2.2.2.2.1] [] [r.2.2.2.2.2.1, r.2.2.2.2.2.2] []
abbrev write9.loop4.R : Type := Int × Int × Int × Int × Int × List Int × List Int
def write9.loop4.ann : Ann := { nx := 22, slots := [(0, .at (.ptr 0 0)), (1, .at (.froi .i64 0)), (4, .at (.int .i64 0)), (5, .at (.int .i64 1))], blks := [(0, .cells 6 [.full 20 false, .int .u64 2, .int .u64 3, .full 21 false, .int .i64 4, .int .i64 5]), (20, .ints true .u8 0), (21, .ints true .u8 1)], mov := [20, 21], exId := 0, xslots := [(0, .at (.ptr 0 0)), (4, .at (.int .i64 0))], xblks := [(0, .cells 6 [.full 20 false, .int .u64 1, .int .u64 2, .full 21 false, .int .i64 3, .int .i64 4]), (20, .ints true .u8 0), (21, .ints true .u8 1)], T := write9.loop4.R, dec := fun L => (L.i 0, L.i 1, L.i 2, L.i 3, L.i 4, L.l 0, L.l 1), enc := fun r => mkL [r.1, r.2.1, r.2.2.1, r.2.2.2.1, r.2.2.2.2.1] [] [r.2.2.2.2.2.1, r.2.2.2.2.2.2] [], ret := true }
def write9.K (N : Nat) : FCfg := { anns := [(4, write9.loop4.ann)], unr := [], lits := [], lets := [] }
def write9.loop4 (N : Nat) : Nat → Int → Int → Int → Int → List Int → List Int → List Int → List Int → Int → Int → Int → Int → Int → Int → List Int → List Int → Option (write9.loop4.R ⊕ write9.R)
  | 0, _, _, _, _, _, _, _, _, _, _, _, _, _, _, _, _ => none
  | nn + 1, e_val, e_rng, e_rawBits, e_count, e_l, e_told, e_raw, l, s4, s5, val, rng, rawBits, count, told, raw =>
  (br (decide (s5 < ↑l.length))
  (chk ((0 : Int) ≤ IntKind.i64.wrap (s5 + (16 : Int)) ∧ IntKind.i64.wrap (s5 + (16 : Int)) ≤ ↑l.length)
  (chk ((0 : Int) ≤ s5 ∧ s5 ≤ ↑(IntKind.i64.wrap (s5 + (16 : Int))).toNat)
  (obind (Rc.count9.F N (List.take ((IntKind.i64.wrap (s5 + (16 : Int))).toNat - s5.toNat) (List.drop s5.toNat l))) fun r0 =>
  (obind (Rc.ticdf.F N ((5 : Int))) fun r1 =>
  (obind (Rc.esymbol.F N r0 val rng rawBits count r1 told raw) fun r2 =>
  (br (r2.1 != (0 : Int))
  (omap
  (some ((r2.1, r2.2.1, r2.2.2.1, r2.2.2.2.1, r2.2.2.2.2.1, r2.2.2.2.2.2.2, r2.2.2.2.2.2.1))) .inr)
  (obind (Rc.spread9.F N r2.2.1 r2.2.2.1 r2.2.2.2.1 r2.2.2.2.2.1 (List.take ((IntKind.i64.wrap (s5 + (16 : Int))).toNat - s5.toNat) (List.drop s5.toNat l)) r2.2.2.2.2.2.2 r2.2.2.2.2.2.1) fun r3 =>
  (br (r3.1 != (0 : Int))
  (omap
  (some ((r3.1, r3.2.1, r3.2.2.1, r3.2.2.2.1, r3.2.2.2.2.1, r3.2.2.2.2.2.1, r3.2.2.2.2.2.2))) .inr)
  (obind (Rc.signs9.F N r3.2.1 r3.2.2.1 r3.2.2.2.1 r3.2.2.2.2.1 (List.take ((IntKind.i64.wrap (s5 + (16 : Int))).toNat - s5.toNat) (List.drop s5.toNat l)) r3.2.2.2.2.2.1 r3.2.2.2.2.2.2) fun r4 =>
  (br (r4.1 != (0 : Int))
  (omap
  (some ((r4.1, r4.2.1, r4.2.2.1, r4.2.2.2.1, r4.2.2.2.2.1, r4.2.2.2.2.2.1, r4.2.2.2.2.2.2))) .inr)
  (chkL l l
  (write9.loop4 N nn e_val e_rng e_rawBits e_count e_l e_told e_raw l s4 (IntKind.i64.wrap (s5 + (16 : Int))) r4.2.1 r4.2.2.1 r4.2.2.2.1 r4.2.2.2.2.1 r4.2.2.2.2.2.1 r4.2.2.2.2.2.2))))))))))))
  (some (Sum.inl (s4, val, rng, rawBits, count, told, raw))))
def write9.loop4R (N nn : Nat) (e_val e_rng e_rawBits e_count : Int) (e_l e_told e_raw : List Int) (l : List Int) (s4 s5 val rng rawBits count : Int) (told raw : List Int) : Option (write9.loop4.R ⊕ write9.R) := loopR write9.loop4.ann (mkL [] [] [l] []) (evCode ((write9.C N).inLoop write9.loop4.ann) (write9.K N) (inlTab (write9.C N) 0) (bodyAt 4 Tryz.f60)) (sigKr Tryz.prog Tryz.f60 write9.sig (mkL [e_val, e_rng, e_rawBits, e_count] [] [e_l, e_told, e_raw] []) fun L => (L.i 0, L.i 1, L.i 2, L.i 3, L.i 4, L.l 0, L.l 1)) nn (mkL [s4, s5, val, rng, rawBits, count] [] [told, raw] [])
theorem write9.loop4_eq (N : Nat) : ∀ nn, write9.loop4R N nn = write9.loop4 N nn
  | 0 => by funext; kernel_rfl
  | nn + 1 => by
    funext; rw [write9.loop4, ← write9.loop4_eq N nn]; kernel_rfl
def write9.F (N : Nat) (val rng rawBits count : Int) (l told raw : List Int) : Option write9.R :=
  (obind (Rc.good9.F N l) fun r0 =>
  (br (!r0)
  (some (((1 : Int), val, rng, rawBits, count, told, raw)))
  (osum (write9.loop4 N N val rng rawBits count l told raw l ((0 : Int)) ((0 : Int)) val rng rawBits count told raw) fun r1 =>
  (some (((0 : Int), r1.2.1, r1.2.2.1, r1.2.2.2.1, r1.2.2.2.2.1, r1.2.2.2.2.2.1, r1.2.2.2.2.2.2))))))
theorem write9.F_eq (N : Nat) (L : Eng.Leaves) : evSig (write9.C N) (write9.K N) 0 Tryz.f60 write9.sig L write9.dec = write9.F N (L.i 0) (L.i 1) (L.i 2) (L.i 3) (L.l 0) (L.l 1) (L.l 2) := by
  rw [write9.F, ← funext (write9.loop4_eq N)]; kernel_rfl
def write9.spec : Eng.Spec := write9.sig.spec (fun N L => write9.F N (L.i 0) (L.i 1) (L.i 2) (L.i 3) (L.l 0) (L.l 1) (L.l 2)) write9.enc
theorem write9.cok (N : Nat) : CfgOK (write9.C N) := cok0 wide ⟨good9.ok, count9.ok, ticdf.ok, esymbol.ok, spread9.ok, signs9.ok, trivial⟩ (by kernel_rfl) rfl rfl rfl rfl
theorem write9.aok (N : Nat) : AnnsOK (write9.K N) := aok1 ⟨fun _ _ => ⟨rfl, rfl⟩, trivial⟩
theorem write9.ok : CallOK Tryz.prog 60 write9.spec := ok0 write9.cok (fun _ => iok0 rfl) write9.aok write9.F_eq (by kernel_rfl) (by kernel_rfl) (fun _ => rfl) (fun _ => ⟨rfl, rfl⟩) fun _ _ => ⟨rfl, rfl⟩
end
end Go.Proofs.Rc
