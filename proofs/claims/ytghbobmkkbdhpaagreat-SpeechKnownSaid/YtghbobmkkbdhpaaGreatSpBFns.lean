/-
  Functions of the program: what each comes to, and its contract (written by a program).
  Conditions: none: each contract is proved for every input of its shape.
-/
import Derived.Test.YtghbobmkkbdhpaaGreatEngRegToEngWords
import Derived.Laws.Externs
import Derived.Test.YtghbobmkkbdhpaaGreatProg
import Derived.Test.YtghbobmkkbdhpaaGreatSpAFns
set_option linter.unusedVariables false
set_option linter.unusedSimpArgs false
namespace Go.Proofs.Rc
noncomputable section
open Go.Eng
set_option maxRecDepth 100000
def torder.sig : Eng.Sig := { args := [.at (.int .i64 0)], n := 0, pre := [], post := [], m := 0, ret := .at (.int .i64 0) }
def torder.C (N : Nat) : Cfg := { P := Tryz.prog, N := N, RT := noRT, specs := [], inl := [], hi := 0, mv := [] }
abbrev torder.R : Type := Int
def torder.dec (L : Eng.Leaves) : torder.R := (L.i 0)
def torder.enc (r : torder.R) : Eng.Leaves := mkL [r] [] [] []
def torder.K (N : Nat) : FCfg := { anns := [], unr := [], lits := [], lets := [] }
def torder.F (N : Nat) (rate : Int) : Option torder.R :=
  (br (rate == (8000 : Int))
  (some ((10 : Int)))
  (br (rate == (16000 : Int))
  (some ((16 : Int)))
  (some ((0 : Int)))))
theorem torder.F_eq (N : Nat) (L : Eng.Leaves) : evSig (torder.C N) (torder.K N) 0 Tryz.f34 torder.sig L torder.dec = torder.F N (L.i 0) := by
  kernel_rfl
def torder.spec : Eng.Spec := torder.sig.spec (fun N L => torder.F N (L.i 0)) torder.enc
theorem torder.cok (N : Nat) : CfgOK (torder.C N) := cok0 wide trivial (by kernel_rfl) rfl rfl rfl rfl
theorem torder.aok (N : Nat) : AnnsOK (torder.K N) := aok1 trivial
theorem torder.ok : CallOK Tryz.prog 34 torder.spec := ok0 torder.cok (fun _ => iok0 rfl) torder.aok torder.F_eq (by kernel_rfl) (by kernel_rfl) (fun _ => rfl) (fun _ => ⟨rfl, rfl⟩) fun _ _ => ⟨rfl, rfl⟩
def tlsf.sig : Eng.Sig := { args := [.at (.int .i64 0), .at (.int .i64 1)], n := 0, pre := [], post := [(0, .ints true .i64 0)], m := 1, ret := .at (.full 0 false) }
def tlsf.C (N : Nat) : Cfg := { P := Tryz.prog, N := N, RT := noRT, specs := [], inl := [], hi := 0, mv := [] }
abbrev tlsf.R : Type := List Int
def tlsf.dec (L : Eng.Leaves) : tlsf.R := (L.l 0)
def tlsf.enc (r : tlsf.R) : Eng.Leaves := mkL [] [] [r] []
abbrev tlsf.loop8.R : Type := List Int
def tlsf.loop8.ann : Ann := { nx := 20, slots := [(0, .at (.fint .i64 0)), (1, .at (.fint .i64 1)), (5, .at (.fint .i64 2)), (6, .at (.full 0 true)), (27, .at (.fint .i64 3)), (28, .at (.int .i64 0))], blks := [(0, .ints true .i64 0)], mov := [], exId := 0, xslots := [(6, .at (.full 0 true))], xblks := [(0, .ints true .i64 0)], T := tlsf.loop8.R, dec := fun L => (L.l 0), enc := fun r => mkL [] [] [r] [], ret := false }
def tlsf.K (N : Nat) : FCfg := { anns := [(8, tlsf.loop8.ann)], unr := [], lits := [], lets := [] }
def tlsf.loop8 (N : Nat) : Nat → Int → Int → Int → Int → Int → List Int → Option tlsf.loop8.R
  | 0, _, _, _, _, _, _ => none
  | nn + 1, order, i, s5, s27, s28, l0 =>
  (br (decide (s28 < s27))
  (chk (IntKind.i64.wrap (order + (1 : Int)) ≠ (0 : Int))
  (chk ((0 : Int) ≤ s28 ∧ s28 < ↑l0.length)
  (chkI order order
  (chkI i i
  (chkI s5 s5
  (chkI s27 s27
  (tlsf.loop8 N nn order i s5 s27 (IntKind.i64.wrap (s28 + (1 : Int))) (l0.set s28.toNat (IntKind.i64.wrap (IntKind.i64.wrap ((IntKind.i64.wrap ((32768 : Int) * IntKind.i64.wrap (s28 + (1 : Int)))).tdiv (IntKind.i64.wrap (order + (1 : Int)))) + IntKind.i64.wrap (s5 * IntKind.i64.wrap ((IntKind.i64.wrap (IntKind.i64.wrap ((37 : Int) * i) + IntKind.i64.wrap ((53 : Int) * s28))).tmod (64 : Int) - (32 : Int)))))))))))))
  (some l0))
def tlsf.loop8R (N nn : Nat) (order i s5 s27 : Int) (s28 : Int) (l0 : List Int) : Option tlsf.loop8.R := loopF tlsf.loop8.ann (mkL [order, i, s5, s27] [] [] []) (evCode ((tlsf.C N).inLoop tlsf.loop8.ann) (tlsf.K N) (inlTab (tlsf.C N) 0) (bodyAt 8 Tryz.f116)) nn (mkL [s28] [] [l0] [])
theorem tlsf.loop8_eq (N : Nat) : ∀ nn, tlsf.loop8R N nn = tlsf.loop8 N nn
  | 0 => by funext; kernel_rfl
  | nn + 1 => by
    funext; rw [tlsf.loop8, ← tlsf.loop8_eq N nn]; kernel_rfl
def tlsf.F (N : Nat) (order i : Int) : Option tlsf.R :=
  (br (order != (10 : Int))
  (br (order != (16 : Int))
  (some (([] : List Int)))
  (br (decide (i < (0 : Int)))
  (some (([] : List Int)))
  (br (decide (i ≥ (16 : Int)))
  (some (([] : List Int)))
  (br (order == (16 : Int))
  (chk ((0 : Int) ≤ order ∧ order ≤ order ∧ order ≤ ↑(17592186043904 : Nat))
  (obind (tlsf.loop8 N N order i ((14 : Int)) (↑(List.replicate order.toNat (0 : Int)).length) ((0 : Int)) (List.replicate order.toNat (0 : Int))) fun r0 =>
  (some r0)))
  (chk ((0 : Int) ≤ order ∧ order ≤ order ∧ order ≤ ↑(17592186043904 : Nat))
  (obind (tlsf.loop8 N N order i ((24 : Int)) (↑(List.replicate order.toNat (0 : Int)).length) ((0 : Int)) (List.replicate order.toNat (0 : Int))) fun r1 =>
  (some r1)))))))
  (br (decide (i < (0 : Int)))
  (some (([] : List Int)))
  (br (decide (i ≥ (16 : Int)))
  (some (([] : List Int)))
  (br (order == (16 : Int))
  (chk ((0 : Int) ≤ order ∧ order ≤ order ∧ order ≤ ↑(17592186043904 : Nat))
  (obind (tlsf.loop8 N N order i ((14 : Int)) (↑(List.replicate order.toNat (0 : Int)).length) ((0 : Int)) (List.replicate order.toNat (0 : Int))) fun r2 =>
  (some r2)))
  (chk ((0 : Int) ≤ order ∧ order ≤ order ∧ order ≤ ↑(17592186043904 : Nat))
  (obind (tlsf.loop8 N N order i ((24 : Int)) (↑(List.replicate order.toNat (0 : Int)).length) ((0 : Int)) (List.replicate order.toNat (0 : Int))) fun r3 =>
  (some r3)))))))
theorem tlsf.F_eq (N : Nat) (L : Eng.Leaves) : evSig (tlsf.C N) (tlsf.K N) 0 Tryz.f116 tlsf.sig L tlsf.dec = tlsf.F N (L.i 0) (L.i 1) := by
  rw [tlsf.F, ← funext (tlsf.loop8_eq N)]; kernel_rfl
def tlsf.spec : Eng.Spec := tlsf.sig.spec (fun N L => tlsf.F N (L.i 0) (L.i 1)) tlsf.enc
theorem tlsf.cok (N : Nat) : CfgOK (tlsf.C N) := cok0 wide trivial (by kernel_rfl) rfl rfl rfl rfl
theorem tlsf.aok (N : Nat) : AnnsOK (tlsf.K N) := aok1 ⟨fun _ _ => ⟨rfl, rfl⟩, trivial⟩
theorem tlsf.ok : CallOK Tryz.prog 116 tlsf.spec := ok0 tlsf.cok (fun _ => iok0 rfl) tlsf.aok tlsf.F_eq (by kernel_rfl) (by kernel_rfl) (fun _ => rfl) (fun _ => ⟨rfl, rfl⟩) fun _ _ => ⟨rfl, rfl⟩
def ttaps.sig : Eng.Sig := { args := [.at (.int .i64 0)], n := 0, pre := [], post := [], m := 0, ret := .agg [.int .i64 0, .int .i64 1, .int .i64 2, .int .i64 3, .int .i64 4] }
def ttaps.C (N : Nat) : Cfg := { P := Tryz.prog, N := N, RT := noRT, specs := [], inl := [], hi := 0, mv := [] }
abbrev ttaps.R : Type := Int × Int × Int × Int × Int
def ttaps.dec (L : Eng.Leaves) : ttaps.R := (L.i 0, L.i 1, L.i 2, L.i 3, L.i 4)
def ttaps.enc (r : ttaps.R) : Eng.Leaves := mkL [r.1, r.2.1, r.2.2.1, r.2.2.2.1, r.2.2.2.2] [] [] []
def ttaps.K (N : Nat) : FCfg := { anns := [], unr := [], lits := [], lets := [] }
def ttaps.F (N : Nat) (i : Int) : Option ttaps.R :=
  (br (i == (0 : Int))
  (some (((13 : Int), (22 : Int), (39 : Int), (23 : Int), (12 : Int))))
  (br (i == (1 : Int))
  (some (((-1 : Int), (36 : Int), (64 : Int), (27 : Int), (-6 : Int))))
  (br (i == (2 : Int))
  (some (((4 : Int), (6 : Int), (24 : Int), (7 : Int), (5 : Int))))
  (br (i == (3 : Int))
  (some (((-2 : Int), (6 : Int), (118 : Int), (7 : Int), (-3 : Int))))
  (br (i == (4 : Int))
  (some (((2 : Int), (10 : Int), (70 : Int), (15 : Int), (0 : Int))))
  (br (i == (5 : Int))
  (some (((-9 : Int), (30 : Int), (80 : Int), (34 : Int), (-10 : Int))))
  (br (i == (6 : Int))
  (some (((0 : Int), (0 : Int), (96 : Int), (0 : Int), (0 : Int))))
  (br (i == (7 : Int))
  (some (((5 : Int), (29 : Int), (50 : Int), (29 : Int), (5 : Int))))
  (some (((0 : Int), (0 : Int), (0 : Int), (0 : Int), (0 : Int))))))))))))
theorem ttaps.F_eq (N : Nat) (L : Eng.Leaves) : evSig (ttaps.C N) (ttaps.K N) 0 Tryz.f65 ttaps.sig L ttaps.dec = ttaps.F N (L.i 0) := by
  kernel_rfl
def ttaps.spec : Eng.Spec := ttaps.sig.spec (fun N L => ttaps.F N (L.i 0)) ttaps.enc
theorem ttaps.cok (N : Nat) : CfgOK (ttaps.C N) := cok0 wide trivial (by kernel_rfl) rfl rfl rfl rfl
theorem ttaps.aok (N : Nat) : AnnsOK (ttaps.K N) := aok1 trivial
theorem ttaps.ok : CallOK Tryz.prog 65 ttaps.spec := ok0 ttaps.cok (fun _ => iok0 rfl) ttaps.aok ttaps.F_eq (by kernel_rfl) (by kernel_rfl) (fun _ => rfl) (fun _ => ⟨rfl, rfl⟩) fun _ _ => ⟨rfl, rfl⟩
def fseries.sig : Eng.Sig := { args := [.at (.int .i64 0), .at (.roi .i64 0)], n := 0, pre := [], post := [], m := 0, ret := .at (.int .i64 0) }
def fseries.C (N : Nat) : Cfg := { P := Tryz.prog, N := N, RT := noRT, specs := [(123, fmul.spec)], inl := [], hi := 0, mv := [] }
abbrev fseries.R : Type := Int
def fseries.dec (L : Eng.Leaves) : fseries.R := (L.i 0)
def fseries.enc (r : fseries.R) : Eng.Leaves := mkL [r] [] [] []
abbrev fseries.loop3.R : Type := Int
def fseries.loop3.ann : Ann := { nx := 20, slots := [(0, .at (.fint .i64 0)), (5, .at (.int .i64 0)), (12, .at (.froi .i64 0)), (13, .at (.fint .i64 1)), (14, .at (.int .i64 1))], blks := [], mov := [], exId := 0, xslots := [(5, .at (.int .i64 0))], xblks := [], T := fseries.loop3.R, dec := fun L => (L.i 0), enc := fun r => mkL [r] [] [] [], ret := false }
def fseries.K (N : Nat) : FCfg := { anns := [(3, fseries.loop3.ann)], unr := [], lits := [], lets := [] }
def fseries.loop3 (N : Nat) : Nat → Int → Int → List Int → Int → Int → Option fseries.loop3.R
  | 0, _, _, _, _, _ => none
  | nn + 1, x, s13, s12, s5, s14 =>
  (br (decide (s14 < s13))
  (chk ((0 : Int) ≤ s14 ∧ s14 < ↑s12.length)
  (obind (Rc.fmul.F N x s5 ((30 : Int))) fun r0 =>
  (chkI x x
  (chkL s12 s12
  (chkI s13 s13
  (fseries.loop3 N nn x s13 s12 (IntKind.i64.wrap (s12.getD s14.toNat (0 : Int) + r0)) (IntKind.i64.wrap (s14 + (1 : Int)))))))))
  (some s5))
def fseries.loop3R (N nn : Nat) (x s13 : Int) (s12 : List Int) (s5 s14 : Int) : Option fseries.loop3.R := loopF fseries.loop3.ann (mkL [x, s13] [] [s12] []) (evCode ((fseries.C N).inLoop fseries.loop3.ann) (fseries.K N) (inlTab (fseries.C N) 0) (bodyAt 3 Tryz.f153)) nn (mkL [s5, s14] [] [] [])
theorem fseries.loop3_eq (N : Nat) : ∀ nn, fseries.loop3R N nn = fseries.loop3 N nn
  | 0 => by funext; kernel_rfl
  | nn + 1 => by
    funext; rw [fseries.loop3, ← fseries.loop3_eq N nn]; kernel_rfl
def fseries.F (N : Nat) (x : Int) (a : List Int) : Option fseries.R :=
  (chk ((0 : Int) ≤ (0 : Int) ∧ (0 : Int) < ↑a.length)
  (chk ((0 : Int) ≤ (1 : Int) ∧ (1 : Int) ≤ ↑a.length)
  (obind (fseries.loop3 N N x (↑(List.take (a.length - (1 : Nat)) (List.drop (1 : Nat) a)).length) (List.take (a.length - (1 : Nat)) (List.drop (1 : Nat) a)) (a.getD (0 : Nat) (0 : Int)) ((0 : Int))) fun r0 =>
  (some r0))))
theorem fseries.F_eq (N : Nat) (L : Eng.Leaves) : evSig (fseries.C N) (fseries.K N) 0 Tryz.f153 fseries.sig L fseries.dec = fseries.F N (L.i 0) (L.l 0) := by
  rw [fseries.F, ← funext (fseries.loop3_eq N)]; kernel_rfl
def fseries.spec : Eng.Spec := fseries.sig.spec (fun N L => fseries.F N (L.i 0) (L.l 0)) fseries.enc
theorem fseries.cok (N : Nat) : CfgOK (fseries.C N) := cok0 wide ⟨fmul.ok, trivial⟩ (by kernel_rfl) rfl rfl rfl rfl
theorem fseries.aok (N : Nat) : AnnsOK (fseries.K N) := aok1 ⟨fun _ _ => ⟨rfl, rfl⟩, trivial⟩
theorem fseries.ok : CallOK Tryz.prog 153 fseries.spec := ok0 fseries.cok (fun _ => iok0 rfl) fseries.aok fseries.F_eq (by kernel_rfl) (by kernel_rfl) (fun _ => rfl) (fun _ => ⟨rfl, rfl⟩) fun _ _ => ⟨rfl, rfl⟩
def fcos.sig : Eng.Sig := { args := [.at (.int .i64 0)], n := 0, pre := [], post := [], m := 0, ret := .at (.int .i64 0) }
def fcos.C (N : Nat) : Cfg := { P := Tryz.prog, N := N, RT := noRT, specs := [(123, fmul.spec), (153, fseries.spec)], inl := [], hi := 0, mv := [] }
abbrev fcos.R : Type := Int
def fcos.dec (L : Eng.Leaves) : fcos.R := (L.i 0)
def fcos.enc (r : fcos.R) : Eng.Leaves := mkL [r] [] [] []
def fcos.K (N : Nat) : FCfg := { anns := [], unr := [], lits := [], lets := [] }
def fcos.F (N : Nat) (a : Int) : Option fcos.R :=
  (br (decide (IntKind.i64.wrap ↑(BitVec.ofInt (64 : Nat) a &&& BitVec.ofInt (64 : Nat) (65535 : Int)).toNat > (32768 : Int)))
  (br (decide (IntKind.i64.wrap ((65536 : Int) - IntKind.i64.wrap ↑(BitVec.ofInt (64 : Nat) a &&& BitVec.ofInt (64 : Nat) (65535 : Int)).toNat) > (16384 : Int)))
  (br (decide (IntKind.i64.wrap ((32768 : Int) - IntKind.i64.wrap ((65536 : Int) - IntKind.i64.wrap ↑(BitVec.ofInt (64 : Nat) a &&& BitVec.ofInt (64 : Nat) (65535 : Int)).toNat)) ≤ (8192 : Int)))
  (obind (Rc.fmul.F N (IntKind.i64.wrap ((32768 : Int) - IntKind.i64.wrap ((65536 : Int) - IntKind.i64.wrap ↑(BitVec.ofInt (64 : Nat) a &&& BitVec.ofInt (64 : Nat) (65535 : Int)).toNat))) ((1686629713 : Int)) ((14 : Int))) fun r0 =>
  (obind (Rc.fmul.F N r0 r0 ((30 : Int))) fun r1 =>
  (obind (Rc.fseries.F N r1 ([(-296 : Int), (26631 : Int), (-1491308 : Int), (44739243 : Int), (-536870912 : Int), (1073741824 : Int)])) fun r2 =>
  (obind (Rc.fmul.F N r2 ((1 : Int)) ((15 : Int))) fun r3 =>
  (br (decide (IntKind.i64.wrap ((65536 : Int) - IntKind.i64.wrap ↑(BitVec.ofInt (64 : Nat) a &&& BitVec.ofInt (64 : Nat) (65535 : Int)).toNat) > (16384 : Int)))
  (some (IntKind.i64.wrap ((0 : Int) - r3)))
  (some r3))))))
  (obind (Rc.fmul.F N (IntKind.i64.wrap ((16384 : Int) - IntKind.i64.wrap ((32768 : Int) - IntKind.i64.wrap ((65536 : Int) - IntKind.i64.wrap ↑(BitVec.ofInt (64 : Nat) a &&& BitVec.ofInt (64 : Nat) (65535 : Int)).toNat)))) ((1686629713 : Int)) ((14 : Int))) fun r4 =>
  (obind (Rc.fmul.F N r4 r4 ((30 : Int))) fun r5 =>
  (obind (Rc.fseries.F N r5 ([(2959 : Int), (-213044 : Int), (8947849 : Int), (-178956971 : Int), (1073741824 : Int)])) fun r6 =>
  (obind (Rc.fmul.F N r4 r6 ((30 : Int))) fun r7 =>
  (obind (Rc.fmul.F N r7 ((1 : Int)) ((15 : Int))) fun r8 =>
  (br (decide (IntKind.i64.wrap ((65536 : Int) - IntKind.i64.wrap ↑(BitVec.ofInt (64 : Nat) a &&& BitVec.ofInt (64 : Nat) (65535 : Int)).toNat) > (16384 : Int)))
  (some (IntKind.i64.wrap ((0 : Int) - r8)))
  (some r8))))))))
  (br (decide (IntKind.i64.wrap ((65536 : Int) - IntKind.i64.wrap ↑(BitVec.ofInt (64 : Nat) a &&& BitVec.ofInt (64 : Nat) (65535 : Int)).toNat) ≤ (8192 : Int)))
  (obind (Rc.fmul.F N (IntKind.i64.wrap ((65536 : Int) - IntKind.i64.wrap ↑(BitVec.ofInt (64 : Nat) a &&& BitVec.ofInt (64 : Nat) (65535 : Int)).toNat)) ((1686629713 : Int)) ((14 : Int))) fun r9 =>
  (obind (Rc.fmul.F N r9 r9 ((30 : Int))) fun r10 =>
  (obind (Rc.fseries.F N r10 ([(-296 : Int), (26631 : Int), (-1491308 : Int), (44739243 : Int), (-536870912 : Int), (1073741824 : Int)])) fun r11 =>
  (obind (Rc.fmul.F N r11 ((1 : Int)) ((15 : Int))) fun r12 =>
  (br (decide (IntKind.i64.wrap ((65536 : Int) - IntKind.i64.wrap ↑(BitVec.ofInt (64 : Nat) a &&& BitVec.ofInt (64 : Nat) (65535 : Int)).toNat) > (16384 : Int)))
  (some (IntKind.i64.wrap ((0 : Int) - r12)))
  (some r12))))))
  (obind (Rc.fmul.F N (IntKind.i64.wrap ((16384 : Int) - IntKind.i64.wrap ((65536 : Int) - IntKind.i64.wrap ↑(BitVec.ofInt (64 : Nat) a &&& BitVec.ofInt (64 : Nat) (65535 : Int)).toNat))) ((1686629713 : Int)) ((14 : Int))) fun r13 =>
  (obind (Rc.fmul.F N r13 r13 ((30 : Int))) fun r14 =>
  (obind (Rc.fseries.F N r14 ([(2959 : Int), (-213044 : Int), (8947849 : Int), (-178956971 : Int), (1073741824 : Int)])) fun r15 =>
  (obind (Rc.fmul.F N r13 r15 ((30 : Int))) fun r16 =>
  (obind (Rc.fmul.F N r16 ((1 : Int)) ((15 : Int))) fun r17 =>
  (br (decide (IntKind.i64.wrap ((65536 : Int) - IntKind.i64.wrap ↑(BitVec.ofInt (64 : Nat) a &&& BitVec.ofInt (64 : Nat) (65535 : Int)).toNat) > (16384 : Int)))
  (some (IntKind.i64.wrap ((0 : Int) - r17)))
  (some r17)))))))))
  (br (decide (IntKind.i64.wrap ↑(BitVec.ofInt (64 : Nat) a &&& BitVec.ofInt (64 : Nat) (65535 : Int)).toNat > (16384 : Int)))
  (br (decide (IntKind.i64.wrap ((32768 : Int) - IntKind.i64.wrap ↑(BitVec.ofInt (64 : Nat) a &&& BitVec.ofInt (64 : Nat) (65535 : Int)).toNat) ≤ (8192 : Int)))
  (obind (Rc.fmul.F N (IntKind.i64.wrap ((32768 : Int) - IntKind.i64.wrap ↑(BitVec.ofInt (64 : Nat) a &&& BitVec.ofInt (64 : Nat) (65535 : Int)).toNat)) ((1686629713 : Int)) ((14 : Int))) fun r18 =>
  (obind (Rc.fmul.F N r18 r18 ((30 : Int))) fun r19 =>
  (obind (Rc.fseries.F N r19 ([(-296 : Int), (26631 : Int), (-1491308 : Int), (44739243 : Int), (-536870912 : Int), (1073741824 : Int)])) fun r20 =>
  (obind (Rc.fmul.F N r20 ((1 : Int)) ((15 : Int))) fun r21 =>
  (br (decide (IntKind.i64.wrap ↑(BitVec.ofInt (64 : Nat) a &&& BitVec.ofInt (64 : Nat) (65535 : Int)).toNat > (16384 : Int)))
  (some (IntKind.i64.wrap ((0 : Int) - r21)))
  (some r21))))))
  (obind (Rc.fmul.F N (IntKind.i64.wrap ((16384 : Int) - IntKind.i64.wrap ((32768 : Int) - IntKind.i64.wrap ↑(BitVec.ofInt (64 : Nat) a &&& BitVec.ofInt (64 : Nat) (65535 : Int)).toNat))) ((1686629713 : Int)) ((14 : Int))) fun r22 =>
  (obind (Rc.fmul.F N r22 r22 ((30 : Int))) fun r23 =>
  (obind (Rc.fseries.F N r23 ([(2959 : Int), (-213044 : Int), (8947849 : Int), (-178956971 : Int), (1073741824 : Int)])) fun r24 =>
  (obind (Rc.fmul.F N r22 r24 ((30 : Int))) fun r25 =>
  (obind (Rc.fmul.F N r25 ((1 : Int)) ((15 : Int))) fun r26 =>
  (br (decide (IntKind.i64.wrap ↑(BitVec.ofInt (64 : Nat) a &&& BitVec.ofInt (64 : Nat) (65535 : Int)).toNat > (16384 : Int)))
  (some (IntKind.i64.wrap ((0 : Int) - r26)))
  (some r26))))))))
  (br (decide (IntKind.i64.wrap ↑(BitVec.ofInt (64 : Nat) a &&& BitVec.ofInt (64 : Nat) (65535 : Int)).toNat ≤ (8192 : Int)))
  (obind (Rc.fmul.F N (IntKind.i64.wrap ↑(BitVec.ofInt (64 : Nat) a &&& BitVec.ofInt (64 : Nat) (65535 : Int)).toNat) ((1686629713 : Int)) ((14 : Int))) fun r27 =>
  (obind (Rc.fmul.F N r27 r27 ((30 : Int))) fun r28 =>
  (obind (Rc.fseries.F N r28 ([(-296 : Int), (26631 : Int), (-1491308 : Int), (44739243 : Int), (-536870912 : Int), (1073741824 : Int)])) fun r29 =>
  (obind (Rc.fmul.F N r29 ((1 : Int)) ((15 : Int))) fun r30 =>
  (br (decide (IntKind.i64.wrap ↑(BitVec.ofInt (64 : Nat) a &&& BitVec.ofInt (64 : Nat) (65535 : Int)).toNat > (16384 : Int)))
  (some (IntKind.i64.wrap ((0 : Int) - r30)))
  (some r30))))))
  (obind (Rc.fmul.F N (IntKind.i64.wrap ((16384 : Int) - IntKind.i64.wrap ↑(BitVec.ofInt (64 : Nat) a &&& BitVec.ofInt (64 : Nat) (65535 : Int)).toNat)) ((1686629713 : Int)) ((14 : Int))) fun r31 =>
  (obind (Rc.fmul.F N r31 r31 ((30 : Int))) fun r32 =>
  (obind (Rc.fseries.F N r32 ([(2959 : Int), (-213044 : Int), (8947849 : Int), (-178956971 : Int), (1073741824 : Int)])) fun r33 =>
  (obind (Rc.fmul.F N r31 r33 ((30 : Int))) fun r34 =>
  (obind (Rc.fmul.F N r34 ((1 : Int)) ((15 : Int))) fun r35 =>
  (br (decide (IntKind.i64.wrap ↑(BitVec.ofInt (64 : Nat) a &&& BitVec.ofInt (64 : Nat) (65535 : Int)).toNat > (16384 : Int)))
  (some (IntKind.i64.wrap ((0 : Int) - r35)))
  (some r35))))))))))
theorem fcos.F_eq (N : Nat) (L : Eng.Leaves) : evSig (fcos.C N) (fcos.K N) 0 Tryz.f120 fcos.sig L fcos.dec = fcos.F N (L.i 0) := by
  kernel_rfl
def fcos.spec : Eng.Spec := fcos.sig.spec (fun N L => fcos.F N (L.i 0)) fcos.enc
theorem fcos.cok (N : Nat) : CfgOK (fcos.C N) := cok0 wide ⟨fmul.ok, fseries.ok, trivial⟩ (by kernel_rfl) rfl rfl rfl rfl
theorem fcos.aok (N : Nat) : AnnsOK (fcos.K N) := aok1 trivial
theorem fcos.ok : CallOK Tryz.prog 120 fcos.spec := ok0 fcos.cok (fun _ => iok0 rfl) fcos.aok fcos.F_eq (by kernel_rfl) (by kernel_rfl) (fun _ => rfl) (fun _ => ⟨rfl, rfl⟩) fun _ _ => ⟨rfl, rfl⟩
def fdiv.sig : Eng.Sig := { args := [.at (.int .i64 0), .at (.int .i64 1), .at (.int .i64 2)], n := 0, pre := [], post := [], m := 0, ret := .at (.int .i64 0) }
def fdiv.C (N : Nat) : Cfg := { P := Tryz.prog, N := N, RT := noRT, specs := [(154, factor.spec)], inl := [], hi := 0, mv := [] }
abbrev fdiv.R : Type := Int
def fdiv.dec (L : Eng.Leaves) : fdiv.R := (L.i 0)
def fdiv.enc (r : fdiv.R) : Eng.Leaves := mkL [r] [] [] []
def fdiv.K (N : Nat) : FCfg := { anns := [], unr := [], lits := [], lets := [] }
def fdiv.F (N : Nat) (a b s : Int) : Option fdiv.R :=
  (obind (Rc.factor.F N a) fun r0 =>
  (obind (Rc.factor.F N b) fun r1 =>
  (br (r1 == (0 : Int))
  (some ((0 : Int)))
  (br (decide (s < (0 : Int)))
  (some ((0 : Int)))
  (br (decide (s > (30 : Int)))
  (some ((0 : Int)))
  (chk ((0 : Int) ≤ s)
  (chk (r1 ≠ (0 : Int))
  (chk (r1 ≠ (0 : Int))
  (br ((IntKind.i64.wrap (r0 * (2 : Int) ^ min s.toNat (64 : Nat))).tmod r1 != (0 : Int))
  (br (!decide (IntKind.i64.wrap (r0 * (2 : Int) ^ min s.toNat (64 : Nat)) < (0 : Int)) == decide (r1 < (0 : Int)))
  (some (IntKind.i64.wrap (IntKind.i64.wrap ((IntKind.i64.wrap (r0 * (2 : Int) ^ min s.toNat (64 : Nat))).tdiv r1) - (1 : Int))))
  (some (IntKind.i64.wrap ((IntKind.i64.wrap (r0 * (2 : Int) ^ min s.toNat (64 : Nat))).tdiv r1))))
  (some (IntKind.i64.wrap ((IntKind.i64.wrap (r0 * (2 : Int) ^ min s.toNat (64 : Nat))).tdiv r1))))))))))))
theorem fdiv.F_eq (N : Nat) (L : Eng.Leaves) : evSig (fdiv.C N) (fdiv.K N) 0 Tryz.f163 fdiv.sig L fdiv.dec = fdiv.F N (L.i 0) (L.i 1) (L.i 2) := by
  kernel_rfl
def fdiv.spec : Eng.Spec := fdiv.sig.spec (fun N L => fdiv.F N (L.i 0) (L.i 1) (L.i 2)) fdiv.enc
theorem fdiv.cok (N : Nat) : CfgOK (fdiv.C N) := cok0 wide ⟨factor.ok, trivial⟩ (by kernel_rfl) rfl rfl rfl rfl
theorem fdiv.aok (N : Nat) : AnnsOK (fdiv.K N) := aok1 trivial
theorem fdiv.ok : CallOK Tryz.prog 163 fdiv.spec := ok0 fdiv.cok (fun _ => iok0 rfl) fdiv.aok fdiv.F_eq (by kernel_rfl) (by kernel_rfl) (fun _ => rfl) (fun _ => ⟨rfl, rfl⟩) fun _ _ => ⟨rfl, rfl⟩
def fsat.sig : Eng.Sig := { args := [.at (.int .i64 0)], n := 0, pre := [], post := [], m := 0, ret := .at (.int .i64 0) }
def fsat.C (N : Nat) : Cfg := { P := Tryz.prog, N := N, RT := noRT, specs := [(121, clamp.spec)], inl := [], hi := 0, mv := [] }
abbrev fsat.R : Type := Int
def fsat.dec (L : Eng.Leaves) : fsat.R := (L.i 0)
def fsat.enc (r : fsat.R) : Eng.Leaves := mkL [r] [] [] []
def fsat.K (N : Nat) : FCfg := { anns := [], unr := [], lits := [], lets := [] }
def fsat.F (N : Nat) (v : Int) : Option fsat.R :=
  (obind (Rc.clamp.F N v ((-32768 : Int)) ((32767 : Int))) fun r0 =>
  (some r0))
theorem fsat.F_eq (N : Nat) (L : Eng.Leaves) : evSig (fsat.C N) (fsat.K N) 0 Tryz.f128 fsat.sig L fsat.dec = fsat.F N (L.i 0) := by
  kernel_rfl
def fsat.spec : Eng.Spec := fsat.sig.spec (fun N L => fsat.F N (L.i 0)) fsat.enc
theorem fsat.cok (N : Nat) : CfgOK (fsat.C N) := cok0 wide ⟨clamp.ok, trivial⟩ (by kernel_rfl) rfl rfl rfl rfl
theorem fsat.aok (N : Nat) : AnnsOK (fsat.K N) := aok1 trivial
theorem fsat.ok : CallOK Tryz.prog 128 fsat.spec := ok0 fsat.cok (fun _ => iok0 rfl) fsat.aok fsat.F_eq (by kernel_rfl) (by kernel_rfl) (fun _ => rfl) (fun _ => ⟨rfl, rfl⟩) fun _ _ => ⟨rfl, rfl⟩
def lunit.sig : Eng.Sig := { args := [.at (.int .i64 0)], n := 0, pre := [], post := [], m := 0, ret := .at (.int .i64 0) }
def lunit.C (N : Nat) : Cfg := { P := Tryz.prog, N := N, RT := noRT, specs := [], inl := [], hi := 0, mv := [] }
abbrev lunit.R : Type := Int
def lunit.dec (L : Eng.Leaves) : lunit.R := (L.i 0)
def lunit.enc (r : lunit.R) : Eng.Leaves := mkL [r] [] [] []
def lunit.K (N : Nat) : FCfg := { anns := [], unr := [], lits := [], lets := [] }
def lunit.F (N : Nat) (order : Int) : Option lunit.R :=
  (br (order == (10 : Int))
  (some ((400 : Int)))
  (br (order == (16 : Int))
  (some ((250 : Int)))
  (some ((0 : Int)))))
theorem lunit.F_eq (N : Nat) (L : Eng.Leaves) : evSig (lunit.C N) (lunit.K N) 0 Tryz.f117 lunit.sig L lunit.dec = lunit.F N (L.i 0) := by
  kernel_rfl
def lunit.spec : Eng.Spec := lunit.sig.spec (fun N L => lunit.F N (L.i 0)) lunit.enc
theorem lunit.cok (N : Nat) : CfgOK (lunit.C N) := cok0 wide trivial (by kernel_rfl) rfl rfl rfl rfl
theorem lunit.aok (N : Nat) : AnnsOK (lunit.K N) := aok1 trivial
theorem lunit.ok : CallOK Tryz.prog 117 lunit.spec := ok0 lunit.cok (fun _ => iok0 rfl) lunit.aok lunit.F_eq (by kernel_rfl) (by kernel_rfl) (fun _ => rfl) (fun _ => ⟨rfl, rfl⟩) fun _ _ => ⟨rfl, rfl⟩
def lgood.sig : Eng.Sig := { args := [.at (.int .i64 0), .agg [.int .i64 1, .roi .i64 0]], n := 0, pre := [], post := [], m := 0, ret := .at (.bool 0) }
def lgood.C (N : Nat) : Cfg := { P := Tryz.prog, N := N, RT := noRT, specs := [(117, lunit.spec)], inl := [], hi := 0, mv := [] }
abbrev lgood.R : Type := Bool
def lgood.dec (L : Eng.Leaves) : lgood.R := (L.b 0)
def lgood.enc (r : lgood.R) : Eng.Leaves := mkL [] [r] [] []
abbrev lgood.loop4.R : Type := Bool
def lgood.loop4.ann : Ann := { nx := 20, slots := [(4, .at (.bool 0)), (28, .at (.froi .i64 0)), (29, .at (.fint .i64 0)), (30, .at (.int .i64 0))], blks := [], mov := [], exId := 0, xslots := [(4, .at (.bool 0))], xblks := [], T := lgood.loop4.R, dec := fun L => (L.b 0), enc := fun r => mkL [] [r] [] [], ret := true }
def lgood.K (N : Nat) : FCfg := { anns := [(4, lgood.loop4.ann)], unr := [], lits := [], lets := [] }
def lgood.loop4 (N : Nat) : Nat → Int → Int → List Int → Int → List Int → Int → Bool → Option (lgood.loop4.R ⊕ lgood.R)
  | 0, _, _, _, _, _, _, _ => none
  | nn + 1, e_order, e_x_One, e_x_Two, s29, s28, s30, s4 =>
  (br (decide (s30 < s29))
  (chk ((0 : Int) ≤ s30 ∧ s30 < ↑s28.length)
  (br (decide (s28.getD s30.toNat (0 : Int) < (-4 : Int)))
  (omap
  (some false) .inr)
  (br (decide (s28.getD s30.toNat (0 : Int) > (4 : Int)))
  (omap
  (some false) .inr)
  (chkL s28 s28
  (chkI s29 s29
  (lgood.loop4 N nn e_order e_x_One e_x_Two s29 s28 (IntKind.i64.wrap (s30 + (1 : Int))) s4))))))
  (some (Sum.inl s4)))
def lgood.loop4R (N nn : Nat) (e_order e_x_One : Int) (e_x_Two : List Int) (s29 : Int) (s28 : List Int) (s30 : Int) (s4 : Bool) : Option (lgood.loop4.R ⊕ lgood.R) := loopR lgood.loop4.ann (mkL [s29] [] [s28] []) (evCode ((lgood.C N).inLoop lgood.loop4.ann) (lgood.K N) (inlTab (lgood.C N) 0) (bodyAt 4 Tryz.f72)) (sigKr Tryz.prog Tryz.f72 lgood.sig (mkL [e_order, e_x_One] [] [e_x_Two] []) fun L => (L.b 0)) nn (mkL [s30] [s4] [] [])
theorem lgood.loop4_eq (N : Nat) : ∀ nn, lgood.loop4R N nn = lgood.loop4 N nn
  | 0 => by funext; kernel_rfl
  | nn + 1 => by
    funext; rw [lgood.loop4, ← lgood.loop4_eq N nn]; kernel_rfl
def lgood.F (N : Nat) (order x_One : Int) (x_Two : List Int) : Option lgood.R :=
  (obind (Rc.lunit.F N order) fun r0 =>
  (br (r0 == (0 : Int))
  (some false)
  (br (decide (x_One < (0 : Int)))
  (some false)
  (br (decide (x_One ≥ (16 : Int)))
  (some false)
  (br (↑x_Two.length != order)
  (some false)
  (osum (lgood.loop4 N N order x_One x_Two (↑x_Two.length) x_Two ((0 : Int)) false) fun r1 =>
  (some true)))))))
theorem lgood.F_eq (N : Nat) (L : Eng.Leaves) : evSig (lgood.C N) (lgood.K N) 0 Tryz.f72 lgood.sig L lgood.dec = lgood.F N (L.i 0) (L.i 1) (L.l 0) := by
  rw [lgood.F, ← funext (lgood.loop4_eq N)]; kernel_rfl
def lgood.spec : Eng.Spec := lgood.sig.spec (fun N L => lgood.F N (L.i 0) (L.i 1) (L.l 0)) lgood.enc
theorem lgood.cok (N : Nat) : CfgOK (lgood.C N) := cok0 wide ⟨lunit.ok, trivial⟩ (by kernel_rfl) rfl rfl rfl rfl
theorem lgood.aok (N : Nat) : AnnsOK (lgood.K N) := aok1 ⟨fun _ _ => ⟨rfl, rfl⟩, trivial⟩
theorem lgood.ok : CallOK Tryz.prog 72 lgood.spec := ok0 lgood.cok (fun _ => iok0 rfl) lgood.aok lgood.F_eq (by kernel_rfl) (by kernel_rfl) (fun _ => rfl) (fun _ => ⟨rfl, rfl⟩) fun _ _ => ⟨rfl, rfl⟩
def lclamped.sig : Eng.Sig := { args := [.at (.roi .i64 0)], n := 0, pre := [], post := [(0, .ints true .i64 0)], m := 1, ret := .at (.full 0 false) }
def lclamped.C (N : Nat) : Cfg := { P := Tryz.prog, N := N, RT := noRT, specs := [(121, clamp.spec)], inl := [], hi := 0, mv := [] }
abbrev lclamped.R : Type := List Int
def lclamped.dec (L : Eng.Leaves) : lclamped.R := (L.l 0)
def lclamped.enc (r : lclamped.R) : Eng.Leaves := mkL [] [] [r] []
abbrev lclamped.loop3.R : Type := List Int
def lclamped.loop3.ann : Ann := { nx := 20, slots := [(3, .at (.full 0 true)), (9, .at (.froi .i64 0)), (10, .at (.fint .i64 0)), (11, .at (.int .i64 0))], blks := [(0, .ints true .i64 0)], mov := [], exId := 0, xslots := [(3, .at (.full 0 true))], xblks := [(0, .ints true .i64 0)], T := lclamped.loop3.R, dec := fun L => (L.l 0), enc := fun r => mkL [] [] [r] [], ret := false }
def lclamped.K (N : Nat) : FCfg := { anns := [(3, lclamped.loop3.ann)], unr := [], lits := [], lets := [] }
def lclamped.loop3 (N : Nat) : Nat → Int → List Int → Int → List Int → Option lclamped.loop3.R
  | 0, _, _, _, _ => none
  | nn + 1, s10, s9, s11, l0 =>
  (br (decide (s11 < s10))
  (chk ((0 : Int) ≤ s11 ∧ s11 < ↑s9.length)
  (obind (Rc.clamp.F N (s9.getD s11.toNat (0 : Int)) ((0 : Int)) ((32768 : Int))) fun r0 =>
  (chk ((0 : Int) ≤ s11 ∧ s11 < ↑l0.length)
  (chkL s9 s9
  (chkI s10 s10
  (lclamped.loop3 N nn s10 s9 (IntKind.i64.wrap (s11 + (1 : Int))) (l0.set s11.toNat r0)))))))
  (some l0))
def lclamped.loop3R (N nn : Nat) (s10 : Int) (s9 : List Int) (s11 : Int) (l0 : List Int) : Option lclamped.loop3.R := loopF lclamped.loop3.ann (mkL [s10] [] [s9] []) (evCode ((lclamped.C N).inLoop lclamped.loop3.ann) (lclamped.K N) (inlTab (lclamped.C N) 0) (bodyAt 3 Tryz.f119)) nn (mkL [s11] [] [l0] [])
theorem lclamped.loop3_eq (N : Nat) : ∀ nn, lclamped.loop3R N nn = lclamped.loop3 N nn
  | 0 => by funext; kernel_rfl
  | nn + 1 => by
    funext; rw [lclamped.loop3, ← lclamped.loop3_eq N nn]; kernel_rfl
def lclamped.F (N : Nat) (l : List Int) : Option lclamped.R :=
  (chk ((0 : Int) ≤ ↑l.length ∧ (l.length : Int) ≤ ↑l.length ∧ (l.length : Int) ≤ ↑(17592186043904 : Nat))
  (obind (lclamped.loop3 N N (↑l.length) l ((0 : Int)) (List.replicate (↑l.length : Int).toNat (0 : Int))) fun r0 =>
  (some r0)))
theorem lclamped.F_eq (N : Nat) (L : Eng.Leaves) : evSig (lclamped.C N) (lclamped.K N) 0 Tryz.f119 lclamped.sig L lclamped.dec = lclamped.F N (L.l 0) := by
  rw [lclamped.F, ← funext (lclamped.loop3_eq N)]; kernel_rfl
def lclamped.spec : Eng.Spec := lclamped.sig.spec (fun N L => lclamped.F N (L.l 0)) lclamped.enc
theorem lclamped.cok (N : Nat) : CfgOK (lclamped.C N) := cok0 wide ⟨clamp.ok, trivial⟩ (by kernel_rfl) rfl rfl rfl rfl
theorem lclamped.aok (N : Nat) : AnnsOK (lclamped.K N) := aok1 ⟨fun _ _ => ⟨rfl, rfl⟩, trivial⟩
theorem lclamped.ok : CallOK Tryz.prog 119 lclamped.spec := ok0 lclamped.cok (fun _ => iok0 rfl) lclamped.aok lclamped.F_eq (by kernel_rfl) (by kernel_rfl) (fun _ => rfl) (fun _ => ⟨rfl, rfl⟩) fun _ _ => ⟨rfl, rfl⟩
def lsteady.sig : Eng.Sig := { args := [.at (.roi .i64 0)], n := 0, pre := [], post := [(0, .ints true .i64 0)], m := 1, ret := .at (.full 0 false) }
def lsteady.C (N : Nat) : Cfg := { P := Tryz.prog, N := N, RT := noRT, specs := [(119, lclamped.spec)], inl := [], hi := 0, mv := [] }
abbrev lsteady.R : Type := List Int
def lsteady.dec (L : Eng.Leaves) : lsteady.R := (L.l 0)
def lsteady.enc (r : lsteady.R) : Eng.Leaves := mkL [] [] [r] []
abbrev lsteady.loop6.R : Type := Int × List Int
def lsteady.loop6.ann : Ann := { nx := 20, slots := [(3, .at (.full 0 false)), (4, .at (.int .i64 0)), (13, .at (.full 0 false)), (14, .at (.fint .i64 0)), (15, .at (.int .i64 1))], blks := [(0, .ints true .i64 0)], mov := [], exId := 0, xslots := [(3, .at (.full 0 false)), (13, .at (.full 0 false)), (4, .at (.int .i64 0))], xblks := [(0, .ints true .i64 0)], T := lsteady.loop6.R, dec := fun L => (L.i 0, L.l 0), enc := fun r => mkL [r.1] [] [r.2] [], ret := false }
abbrev lsteady.loop13.R : Type := Int × List Int
def lsteady.loop13.ann : Ann := { nx := 20, slots := [(3, .at (.full 0 false)), (4, .at (.int .i64 0)), (7, .at (.int .i64 1))], blks := [(0, .ints true .i64 0)], mov := [], exId := 2, xslots := [(3, .at (.full 0 false)), (4, .at (.int .i64 0))], xblks := [(0, .ints true .i64 0)], T := lsteady.loop13.R, dec := fun L => (L.i 0, L.l 0), enc := fun r => mkL [r.1] [] [r.2] [], ret := false }
def lsteady.K (N : Nat) : FCfg := { anns := [(6, lsteady.loop6.ann), (13, lsteady.loop13.ann)], unr := [], lits := [], lets := [] }
def lsteady.loop13 (N : Nat) : Nat → Int → Int → List Int → Option lsteady.loop13.R
  | 0, _, _, _ => none
  | nn + 1, s4, s7, l0 =>
  (br (decide (s7 ≥ (0 : Int)))
  (chk ((0 : Int) ≤ s7 ∧ s7 < ↑l0.length)
  (chk ((0 : Int) ≤ s7 ∧ s7 < ↑l0.length)
  (chk ((0 : Int) ≤ s7 ∧ s7 < ↑(l0.set s7.toNat (if IntKind.i64.wrap (s4 - (250 : Int)) < l0.getD s7.toNat (0 : Int) then IntKind.i64.wrap (s4 - (250 : Int)) else l0.getD s7.toNat (0 : Int))).length)
  (lsteady.loop13 N nn ((l0.set s7.toNat (if IntKind.i64.wrap (s4 - (250 : Int)) < l0.getD s7.toNat (0 : Int) then IntKind.i64.wrap (s4 - (250 : Int)) else l0.getD s7.toNat (0 : Int))).getD s7.toNat (0 : Int)) (IntKind.i64.wrap (s7 - (1 : Int))) (l0.set s7.toNat (if IntKind.i64.wrap (s4 - (250 : Int)) < l0.getD s7.toNat (0 : Int) then IntKind.i64.wrap (s4 - (250 : Int)) else l0.getD s7.toNat (0 : Int)))))))
  (some ((s4, l0))))
def lsteady.loop13R (N nn : Nat) (s4 s7 : Int) (l0 : List Int) : Option lsteady.loop13.R := loopF lsteady.loop13.ann (mkL [] [] [] []) (evCode ((lsteady.C N).inLoop lsteady.loop13.ann) (lsteady.K N) (inlTab (lsteady.C N) 0) (bodyAt 13 Tryz.f118)) nn (mkL [s4, s7] [] [l0] [])
theorem lsteady.loop13_eq (N : Nat) : ∀ nn, lsteady.loop13R N nn = lsteady.loop13 N nn
  | 0 => by funext; kernel_rfl
  | nn + 1 => by
    funext; rw [lsteady.loop13, ← lsteady.loop13_eq N nn]; kernel_rfl
def lsteady.loop6 (N : Nat) : Nat → Int → Int → Int → List Int → Option lsteady.loop6.R
  | 0, _, _, _, _ => none
  | nn + 1, s14, s4, s15, l0 =>
  (br (decide (s15 < s14))
  (chk ((0 : Int) ≤ s15 ∧ s15 < ↑l0.length)
  (chk ((0 : Int) ≤ s15 ∧ s15 < ↑l0.length)
  (chk ((0 : Int) ≤ s15 ∧ s15 < ↑(l0.set s15.toNat (if IntKind.i64.wrap (s4 + (250 : Int)) > l0.getD s15.toNat (0 : Int) then IntKind.i64.wrap (s4 + (250 : Int)) else l0.getD s15.toNat (0 : Int))).length)
  (chkI s14 s14
  (lsteady.loop6 N nn s14 ((l0.set s15.toNat (if IntKind.i64.wrap (s4 + (250 : Int)) > l0.getD s15.toNat (0 : Int) then IntKind.i64.wrap (s4 + (250 : Int)) else l0.getD s15.toNat (0 : Int))).getD s15.toNat (0 : Int)) (IntKind.i64.wrap (s15 + (1 : Int))) (l0.set s15.toNat (if IntKind.i64.wrap (s4 + (250 : Int)) > l0.getD s15.toNat (0 : Int) then IntKind.i64.wrap (s4 + (250 : Int)) else l0.getD s15.toNat (0 : Int))))))))
  (some ((s4, l0))))
def lsteady.loop6R (N nn : Nat) (s14 : Int) (s4 s15 : Int) (l0 : List Int) : Option lsteady.loop6.R := loopF lsteady.loop6.ann (mkL [s14] [] [] []) (evCode ((lsteady.C N).inLoop lsteady.loop6.ann) (lsteady.K N) (inlTab (lsteady.C N) 0) (bodyAt 6 Tryz.f118)) nn (mkL [s4, s15] [] [l0] [])
theorem lsteady.loop6_eq (N : Nat) : ∀ nn, lsteady.loop6R N nn = lsteady.loop6 N nn
  | 0 => by funext; kernel_rfl
  | nn + 1 => by
    funext; rw [lsteady.loop6, ← lsteady.loop6_eq N nn]; kernel_rfl
def lsteady.F (N : Nat) (l : List Int) : Option lsteady.R :=
  (br (decide (↑l.length > (64 : Int)))
  (some (([] : List Int)))
  (obind (Rc.lclamped.F N l) fun r0 =>
  (obind (lsteady.loop6 N N (↑r0.length) ((0 : Int)) ((0 : Int)) r0) fun r1 =>
  (obind (lsteady.loop13 N N ((32768 : Int)) (IntKind.i64.wrap (↑r1.2.length - (1 : Int))) r1.2) fun r2 =>
  (some r2.2)))))
theorem lsteady.F_eq (N : Nat) (L : Eng.Leaves) : evSig (lsteady.C N) (lsteady.K N) 0 Tryz.f118 lsteady.sig L lsteady.dec = lsteady.F N (L.l 0) := by
  rw [lsteady.F, ← funext (lsteady.loop6_eq N), ← funext (lsteady.loop13_eq N)]; kernel_rfl
def lsteady.spec : Eng.Spec := lsteady.sig.spec (fun N L => lsteady.F N (L.l 0)) lsteady.enc
theorem lsteady.cok (N : Nat) : CfgOK (lsteady.C N) := cok0 wide ⟨lclamped.ok, trivial⟩ (by kernel_rfl) rfl rfl rfl rfl
theorem lsteady.aok (N : Nat) : AnnsOK (lsteady.K N) := aok1 ⟨fun _ _ => ⟨rfl, rfl⟩, fun _ _ => ⟨rfl, rfl⟩, trivial⟩
theorem lsteady.ok : CallOK Tryz.prog 118 lsteady.spec := ok0 lsteady.cok (fun _ => iok0 rfl) lsteady.aok lsteady.F_eq (by kernel_rfl) (by kernel_rfl) (fun _ => rfl) (fun _ => ⟨rfl, rfl⟩) fun _ _ => ⟨rfl, rfl⟩
def ldecode.sig : Eng.Sig := { args := [.at (.int .i64 0), .agg [.int .i64 1, .roi .i64 0]], n := 0, pre := [], post := [(0, .ints true .i64 0)], m := 1, ret := .tup [(false, [.full 0 false]), (false, [.int .i64 0])] }
def ldecode.C (N : Nat) : Cfg := { P := Tryz.prog, N := N, RT := noRT, specs := [(72, lgood.spec), (116, tlsf.spec), (117, lunit.spec), (118, lsteady.spec)], inl := [], hi := 0, mv := [] }
abbrev ldecode.R : Type := Int × List Int
def ldecode.dec (L : Eng.Leaves) : ldecode.R := (L.i 0, L.l 0)
def ldecode.enc (r : ldecode.R) : Eng.Leaves := mkL [r.1] [] [r.2] []
abbrev ldecode.loop5.R : Type := List Int
def ldecode.loop5.ann : Ann := { nx := 20, slots := [(0, .at (.fint .i64 0)), (3, .at (.ptr 0 0)), (6, .at (.full 1 false)), (17, .at (.fint .i64 1)), (18, .at (.int .i64 0))], blks := [(0, .cells 2 [.fint .i64 2, .froi .i64 0]), (1, .ints true .i64 0)], mov := [], exId := 0, xslots := [(3, .at (.ptr 0 0)), (6, .at (.full 1 false))], xblks := [(0, .cells 2 [.fint .i64 2, .froi .i64 0]), (1, .ints true .i64 0)], T := ldecode.loop5.R, dec := fun L => (L.l 0), enc := fun r => mkL [] [] [r] [], ret := false }
def ldecode.K (N : Nat) : FCfg := { anns := [(5, ldecode.loop5.ann)], unr := [], lits := [], lets := [] }
def ldecode.loop5 (N : Nat) : Nat → Int → Int → Int → List Int → Int → List Int → Option ldecode.loop5.R
  | 0, _, _, _, _, _, _ => none
  | nn + 1, order, s17, c0_0, c0_1, s18, l1 =>
  (br (decide (s18 < s17))
  (chk ((0 : Int) ≤ s18 ∧ s18 < ↑l1.length)
  (obind (Rc.lunit.F N order) fun r0 =>
  (chk ((0 : Int) ≤ s18 ∧ s18 < ↑c0_1.length)
  (chk ((0 : Int) ≤ s18 ∧ s18 < ↑l1.length)
  (chkL c0_1 c0_1
  (chkI (l1.getD s18.toNat (0 : Int)) (l1.getD s18.toNat (0 : Int))
  (chk ((0 : Int) ≤ s18 ∧ s18 < ↑l1.length)
  (chkN s18.toNat s18.toNat
  (chkI order order
  (chkI s17 s17
  (chkI c0_0 c0_0
  (chkL c0_1 c0_1
  (ldecode.loop5 N nn order s17 c0_0 c0_1 (IntKind.i64.wrap (s18 + (1 : Int))) (l1.set s18.toNat (IntKind.i64.wrap (l1.getD s18.toNat (0 : Int) + IntKind.i64.wrap (r0 * c0_1.getD s18.toNat (0 : Int))))))))))))))))))
  (chkI c0_0 c0_0
  (chkL c0_1 c0_1
  (some l1))))
def ldecode.loop5R (N nn : Nat) (order s17 c0_0 : Int) (c0_1 : List Int) (s18 : Int) (l1 : List Int) : Option ldecode.loop5.R := loopF ldecode.loop5.ann (mkL [order, s17, c0_0] [] [c0_1] []) (evCode ((ldecode.C N).inLoop ldecode.loop5.ann) (ldecode.K N) (inlTab (ldecode.C N) 0) (bodyAt 5 Tryz.f61)) nn (mkL [s18] [] [l1] [])
theorem ldecode.loop5_eq (N : Nat) : ∀ nn, ldecode.loop5R N nn = ldecode.loop5 N nn
  | 0 => by funext; kernel_rfl
  | nn + 1 => by
    funext; rw [ldecode.loop5, ← ldecode.loop5_eq N nn]; kernel_rfl
def ldecode.F (N : Nat) (order x_One : Int) (x_Two : List Int) : Option ldecode.R :=
  (obind (Rc.lgood.F N order x_One x_Two) fun r0 =>
  (br (!r0)
  (some (((1 : Int), ([] : List Int))))
  (obind (Rc.tlsf.F N order x_One) fun r1 =>
  (obind (ldecode.loop5 N N order (↑r1.length) x_One x_Two ((0 : Int)) r1) fun r2 =>
  (obind (Rc.lsteady.F N r2) fun r3 =>
  (some (((0 : Int), r3))))))))
theorem ldecode.F_eq (N : Nat) (L : Eng.Leaves) : evSig (ldecode.C N) (ldecode.K N) 0 Tryz.f61 ldecode.sig L ldecode.dec = ldecode.F N (L.i 0) (L.i 1) (L.l 0) := by
  rw [ldecode.F, ← funext (ldecode.loop5_eq N)]; kernel_rfl
def ldecode.spec : Eng.Spec := ldecode.sig.spec (fun N L => ldecode.F N (L.i 0) (L.i 1) (L.l 0)) ldecode.enc
theorem ldecode.cok (N : Nat) : CfgOK (ldecode.C N) := cok0 wide ⟨lgood.ok, tlsf.ok, lunit.ok, lsteady.ok, trivial⟩ (by kernel_rfl) rfl rfl rfl rfl
theorem ldecode.aok (N : Nat) : AnnsOK (ldecode.K N) := aok1 ⟨fun _ _ => ⟨rfl, rfl⟩, trivial⟩
theorem ldecode.ok : CallOK Tryz.prog 61 ldecode.spec := ok0 ldecode.cok (fun _ => iok0 rfl) ldecode.aok ldecode.F_eq (by kernel_rfl) (by kernel_rfl) (fun _ => rfl) (fun _ => ⟨rfl, rfl⟩) fun _ _ => ⟨rfl, rfl⟩
def lbetween.sig : Eng.Sig := { args := [.at (.roi .i64 0), .at (.roi .i64 1), .at (.int .i64 0)], n := 0, pre := [], post := [(0, .ints true .i64 0)], m := 1, ret := .tup [(false, [.full 0 false]), (false, [.int .i64 0])] }
def lbetween.C (N : Nat) : Cfg := { P := Tryz.prog, N := N, RT := noRT, specs := [(119, lclamped.spec)], inl := [], hi := 0, mv := [] }
abbrev lbetween.R : Type := Int × List Int
def lbetween.dec (L : Eng.Leaves) : lbetween.R := (L.i 0, L.l 0)
def lbetween.enc (r : lbetween.R) : Eng.Leaves := mkL [r.1] [] [r.2] []
abbrev lbetween.loop5.R : Type := List Int
def lbetween.loop5.ann : Ann := { nx := 20, slots := [(0, .at (.full 0 false)), (1, .at (.full 1 false)), (2, .at (.fint .i64 0)), (32, .at (.fint .i64 1)), (33, .at (.int .i64 0))], blks := [(0, .ints true .i64 0), (1, .fints true .i64 0)], mov := [], exId := 0, xslots := [(0, .at (.full 0 false)), (1, .at (.full 1 false))], xblks := [(0, .ints true .i64 0), (1, .fints true .i64 0)], T := lbetween.loop5.R, dec := fun L => (L.l 0), enc := fun r => mkL [] [] [r] [], ret := false }
def lbetween.K (N : Nat) : FCfg := { anns := [(5, lbetween.loop5.ann)], unr := [], lits := [], lets := [] }
def lbetween.loop5 (N : Nat) : Nat → Int → Int → List Int → Int → List Int → Option lbetween.loop5.R
  | 0, _, _, _, _, _ => none
  | nn + 1, w, s32, l1, s33, l0 =>
  (br (decide (s33 < s32))
  (chk ((0 : Int) ≤ s33 ∧ s33 < ↑l0.length)
  (chk ((0 : Int) ≤ s33 ∧ s33 < ↑l1.length)
  (chk ((0 : Int) ≤ s33 ∧ s33 < ↑l0.length)
  (chk ((0 : Int) ≤ s33 ∧ s33 < ↑l0.length)
  (chkI w w
  (chkI s32 s32
  (chkL l1 l1
  (lbetween.loop5 N nn w s32 l1 (IntKind.i64.wrap (s33 + (1 : Int))) (l0.set s33.toNat (IntKind.i64.wrap (l0.getD s33.toNat (0 : Int) + (IntKind.i64.wrap (IntKind.i64.wrap (l1.getD s33.toNat (0 : Int) - l0.getD s33.toNat (0 : Int)) * w)).fdiv ((2 : Int) ^ (2 : Nat)))))))))))))
  (chkL l1 l1
  (some l0)))
def lbetween.loop5R (N nn : Nat) (w s32 : Int) (l1 : List Int) (s33 : Int) (l0 : List Int) : Option lbetween.loop5.R := loopF lbetween.loop5.ann (mkL [w, s32] [] [l1] []) (evCode ((lbetween.C N).inLoop lbetween.loop5.ann) (lbetween.K N) (inlTab (lbetween.C N) 0) (bodyAt 5 Tryz.f62)) nn (mkL [s33] [] [l0] [])
theorem lbetween.loop5_eq (N : Nat) : ∀ nn, lbetween.loop5R N nn = lbetween.loop5 N nn
  | 0 => by funext; kernel_rfl
  | nn + 1 => by
    funext; rw [lbetween.loop5, ← lbetween.loop5_eq N nn]; kernel_rfl
def lbetween.F (N : Nat) (w : Int) (a b : List Int) : Option lbetween.R :=
  (br ((a.length : Int) != ↑b.length)
  (some (((1 : Int), ([] : List Int))))
  (br (decide (↑a.length > (64 : Int)))
  (some (((1 : Int), ([] : List Int))))
  (br (decide (w < (0 : Int)))
  (some (((1 : Int), ([] : List Int))))
  (br (decide (w > (4 : Int)))
  (some (((1 : Int), ([] : List Int))))
  (obind (Rc.lclamped.F N a) fun r0 =>
  (obind (Rc.lclamped.F N b) fun r1 =>
  (obind (lbetween.loop5 N N w (↑r0.length) r1 ((0 : Int)) r0) fun r2 =>
  (some (((0 : Int), r2))))))))))
theorem lbetween.F_eq (N : Nat) (L : Eng.Leaves) : evSig (lbetween.C N) (lbetween.K N) 0 Tryz.f62 lbetween.sig L lbetween.dec = lbetween.F N (L.i 0) (L.l 0) (L.l 1) := by
  rw [lbetween.F, ← funext (lbetween.loop5_eq N)]; kernel_rfl
def lbetween.spec : Eng.Spec := lbetween.sig.spec (fun N L => lbetween.F N (L.i 0) (L.l 0) (L.l 1)) lbetween.enc
theorem lbetween.cok (N : Nat) : CfgOK (lbetween.C N) := cok0 wide ⟨lclamped.ok, trivial⟩ (by kernel_rfl) rfl rfl rfl rfl
theorem lbetween.aok (N : Nat) : AnnsOK (lbetween.K N) := aok1 ⟨fun _ _ => ⟨rfl, rfl⟩, trivial⟩
theorem lbetween.ok : CallOK Tryz.prog 62 lbetween.spec := ok0 lbetween.cok (fun _ => iok0 rfl) lbetween.aok lbetween.F_eq (by kernel_rfl) (by kernel_rfl) (fun _ => rfl) (fun _ => ⟨rfl, rfl⟩) fun _ _ => ⟨rfl, rfl⟩
def lpoly.sig : Eng.Sig := { args := [.at (.roi .i64 0)], n := 0, pre := [], post := [(0, .ints true .i64 0)], m := 1, ret := .at (.full 0 false) }
def lpoly.C (N : Nat) : Cfg := { P := Tryz.prog, N := N, RT := noRT, specs := [(123, fmul.spec)], inl := [], hi := 0, mv := [] }
abbrev lpoly.R : Type := List Int
def lpoly.dec (L : Eng.Leaves) : lpoly.R := (L.l 0)
def lpoly.enc (r : lpoly.R) : Eng.Leaves := mkL [] [] [r] []
abbrev lpoly.loop4.R : Type := List Int
def lpoly.loop4.ann : Ann := { nx := 20, slots := [(0, .at (.froi .i64 0)), (3, .at (.full 0 true)), (4, .at (.int .i64 0))], blks := [(0, .ints true .i64 0)], mov := [], exId := 0, xslots := [(3, .at (.full 0 true))], xblks := [(0, .ints true .i64 0)], T := lpoly.loop4.R, dec := fun L => (L.l 0), enc := fun r => mkL [] [] [r] [], ret := false }
abbrev lpoly.loop8.R : Type := List Int
def lpoly.loop8.ann : Ann := { nx := 20, slots := [(0, .at (.froi .i64 0)), (3, .at (.full 0 true)), (4, .at (.fint .i64 0)), (5, .at (.int .i64 0))], blks := [(0, .ints true .i64 0)], mov := [], exId := 2, xslots := [(3, .at (.full 0 true))], xblks := [(0, .ints true .i64 0)], T := lpoly.loop8.R, dec := fun L => (L.l 0), enc := fun r => mkL [] [] [r] [], ret := false }
def lpoly.K (N : Nat) : FCfg := { anns := [(4, lpoly.loop4.ann), (8, lpoly.loop8.ann)], unr := [], lits := [], lets := [] }
def lpoly.loop8 (N : Nat) : Nat → Int → List Int → Int → List Int → Option lpoly.loop8.R
  | 0, _, _, _, _ => none
  | nn + 1, s4, y, s5, l0 =>
  (br (decide (s5 ≥ (2 : Int)))
  (chk ((0 : Int) ≤ s5 ∧ s5 < ↑l0.length)
  (chk ((0 : Int) ≤ IntKind.i64.wrap (s5 - (2 : Int)) ∧ IntKind.i64.wrap (s5 - (2 : Int)) < ↑l0.length)
  (chk ((0 : Int) ≤ s4 ∧ s4 < ↑y.length)
  (chk ((0 : Int) ≤ IntKind.i64.wrap (s5 - (1 : Int)) ∧ IntKind.i64.wrap (s5 - (1 : Int)) < ↑l0.length)
  (obind (Rc.fmul.F N (y.getD s4.toNat (0 : Int)) (l0.getD (IntKind.i64.wrap (s5 - (1 : Int))).toNat (0 : Int)) ((16 : Int))) fun r0 =>
  (chk ((0 : Int) ≤ s5 ∧ s5 < ↑l0.length)
  (chkI (l0.getD (IntKind.i64.wrap (s5 - (2 : Int))).toNat (0 : Int)) (l0.getD (IntKind.i64.wrap (s5 - (2 : Int))).toNat (0 : Int))
  (chk ((0 : Int) ≤ IntKind.i64.wrap (s5 - (2 : Int)) ∧ IntKind.i64.wrap (s5 - (2 : Int)) < ↑l0.length)
  (chkN ((IntKind.i64.wrap (s5 - (2 : Int))).toNat) ((IntKind.i64.wrap (s5 - (2 : Int))).toNat)
  (chkI (l0.getD s5.toNat (0 : Int)) (l0.getD s5.toNat (0 : Int))
  (chk ((0 : Int) ≤ s5 ∧ s5 < ↑l0.length)
  (chkN s5.toNat s5.toNat
  (chkL y y
  (chkI s4 s4
  (lpoly.loop8 N nn s4 y (IntKind.i64.wrap (s5 - (1 : Int))) (l0.set s5.toNat (IntKind.i64.wrap (l0.getD s5.toNat (0 : Int) + IntKind.i64.wrap (l0.getD (IntKind.i64.wrap (s5 - (2 : Int))).toNat (0 : Int) - r0)))))))))))))))))))
  (some l0))
def lpoly.loop8R (N nn : Nat) (s4 : Int) (y : List Int) (s5 : Int) (l0 : List Int) : Option lpoly.loop8.R := loopF lpoly.loop8.ann (mkL [s4] [] [y] []) (evCode ((lpoly.C N).inLoop lpoly.loop8.ann) (lpoly.K N) (inlTab (lpoly.C N) 0) (bodyAt 8 Tryz.f122)) nn (mkL [s5] [] [l0] [])
theorem lpoly.loop8_eq (N : Nat) : ∀ nn, lpoly.loop8R N nn = lpoly.loop8 N nn
  | 0 => by funext; kernel_rfl
  | nn + 1 => by
    funext; rw [lpoly.loop8, ← lpoly.loop8_eq N nn]; kernel_rfl
def lpoly.loop4 (N : Nat) : Nat → List Int → Int → List Int → Option lpoly.loop4.R
  | 0, _, _, _ => none
  | nn + 1, y, s4, l0 =>
  (br (decide (s4 < ↑y.length))
  (chk ((0 : Int) ≤ IntKind.i64.wrap (s4 - (1 : Int)) ∧ IntKind.i64.wrap (s4 - (1 : Int)) < ↑l0.length)
  (chk ((0 : Int) ≤ s4 ∧ s4 < ↑y.length)
  (chk ((0 : Int) ≤ s4 ∧ s4 < ↑l0.length)
  (obind (Rc.fmul.F N (y.getD s4.toNat (0 : Int)) (l0.getD s4.toNat (0 : Int)) ((16 : Int))) fun r0 =>
  (chk ((0 : Int) ≤ IntKind.i64.wrap (s4 + (1 : Int)) ∧ IntKind.i64.wrap (s4 + (1 : Int)) < ↑l0.length)
  (chkI (l0.getD (IntKind.i64.wrap (s4 - (1 : Int))).toNat (0 : Int)) (l0.getD (IntKind.i64.wrap (s4 - (1 : Int))).toNat (0 : Int))
  (chk ((0 : Int) ≤ IntKind.i64.wrap (s4 - (1 : Int)) ∧ IntKind.i64.wrap (s4 - (1 : Int)) < ↑l0.length)
  (chkN ((IntKind.i64.wrap (s4 - (1 : Int))).toNat) ((IntKind.i64.wrap (s4 - (1 : Int))).toNat)
  (obind (lpoly.loop8 N N s4 y s4 (l0.set (IntKind.i64.wrap (s4 + (1 : Int))).toNat (IntKind.i64.wrap (IntKind.i64.wrap ((2 : Int) * l0.getD (IntKind.i64.wrap (s4 - (1 : Int))).toNat (0 : Int)) - r0)))) fun r1 =>
  (chk ((0 : Int) ≤ (1 : Int) ∧ (1 : Int) < ↑r1.length)
  (chk ((0 : Int) ≤ s4 ∧ s4 < ↑y.length)
  (chk ((0 : Int) ≤ (1 : Int) ∧ (1 : Int) < ↑r1.length)
  (chkL y y
  (lpoly.loop4 N nn y (IntKind.i64.wrap (s4 + (1 : Int))) (r1.set (1 : Nat) (IntKind.i64.wrap (r1.getD (1 : Nat) (0 : Int) - y.getD s4.toNat (0 : Int))))))))))))))))))
  (some l0))
def lpoly.loop4R (N nn : Nat) (y : List Int) (s4 : Int) (l0 : List Int) : Option lpoly.loop4.R := loopF lpoly.loop4.ann (mkL [] [] [y] []) (evCode ((lpoly.C N).inLoop lpoly.loop4.ann) (lpoly.K N) (inlTab (lpoly.C N) 0) (bodyAt 4 Tryz.f122)) nn (mkL [s4] [] [l0] [])
theorem lpoly.loop4_eq (N : Nat) : ∀ nn, lpoly.loop4R N nn = lpoly.loop4 N nn
  | 0 => by funext; kernel_rfl
  | nn + 1 => by
    funext; rw [lpoly.loop4, ← lpoly.loop4_eq N nn, ← funext (lpoly.loop8_eq N)]; kernel_rfl
def lpoly.F (N : Nat) (y : List Int) : Option lpoly.R :=
  (chk ((0 : Int) ≤ IntKind.i64.wrap (↑y.length + (1 : Int)) ∧ IntKind.i64.wrap (↑y.length + (1 : Int)) ≤ IntKind.i64.wrap (↑y.length + (1 : Int)) ∧ IntKind.i64.wrap (↑y.length + (1 : Int)) ≤ ↑(17592186043904 : Nat))
  (chk ((0 : Int) ≤ (0 : Int) ∧ (0 : Int) < ↑y.length)
  (chk ((0 : Int) ≤ (0 : Int) ∧ (0 : Int) < ↑(List.replicate (IntKind.i64.wrap (↑y.length + (1 : Int))).toNat (0 : Int)).length)
  (chk ((0 : Int) ≤ (1 : Int) ∧ (1 : Int) < ↑((List.replicate (IntKind.i64.wrap (↑y.length + (1 : Int))).toNat (0 : Int)).set (0 : Nat) (65536 : Int)).length)
  (obind (lpoly.loop4 N N y ((1 : Int)) (((List.replicate (IntKind.i64.wrap (↑y.length + (1 : Int))).toNat (0 : Int)).set (0 : Nat) (65536 : Int)).set (1 : Nat) (IntKind.i64.wrap ((0 : Int) - y.getD (0 : Nat) (0 : Int))))) fun r0 =>
  (some r0))))))
theorem lpoly.F_eq (N : Nat) (L : Eng.Leaves) : evSig (lpoly.C N) (lpoly.K N) 0 Tryz.f122 lpoly.sig L lpoly.dec = lpoly.F N (L.l 0) := by
  rw [lpoly.F, ← funext (lpoly.loop4_eq N)]; kernel_rfl
def lpoly.spec : Eng.Spec := lpoly.sig.spec (fun N L => lpoly.F N (L.l 0)) lpoly.enc
theorem lpoly.cok (N : Nat) : CfgOK (lpoly.C N) := cok0 wide ⟨fmul.ok, trivial⟩ (by kernel_rfl) rfl rfl rfl rfl
theorem lpoly.aok (N : Nat) : AnnsOK (lpoly.K N) := aok1 ⟨fun _ _ => ⟨rfl, rfl⟩, fun _ _ => ⟨rfl, rfl⟩, trivial⟩
theorem lpoly.ok : CallOK Tryz.prog 122 lpoly.spec := ok0 lpoly.cok (fun _ => iok0 rfl) lpoly.aok lpoly.F_eq (by kernel_rfl) (by kernel_rfl) (fun _ => rfl) (fun _ => ⟨rfl, rfl⟩) fun _ _ => ⟨rfl, rfl⟩
def lstable.sig : Eng.Sig := { args := [.at (.roi .i64 0)], n := 0, pre := [], post := [], m := 0, ret := .at (.bool 0) }
def lstable.C (N : Nat) : Cfg := { P := Tryz.prog, N := N, RT := noRT, specs := [(121, clamp.spec), (123, fmul.spec), (163, fdiv.spec)], inl := [], hi := 0, mv := [] }
abbrev lstable.R : Type := Bool
def lstable.dec (L : Eng.Leaves) : lstable.R := (L.b 0)
def lstable.enc (r : lstable.R) : Eng.Leaves := mkL [] [r] [] []
abbrev lstable.loop5.R : Type := List Int
def lstable.loop5.ann : Ann := { nx := 20, slots := [(3, .at (.full 0 true)), (18, .at (.froi .i64 0)), (19, .at (.fint .i64 0)), (20, .at (.int .i64 0))], blks := [(0, .ints true .i64 0)], mov := [], exId := 0, xslots := [(3, .at (.full 0 true))], xblks := [(0, .ints true .i64 0)], T := lstable.loop5.R, dec := fun L => (L.l 0), enc := fun r => mkL [] [] [r] [], ret := false }
abbrev lstable.loop10.R : Type := Bool × List Int
def lstable.loop10.ann : Ann := { nx := 20, slots := [(2, .at (.bool 0)), (3, .at (.full 0 true)), (6, .at (.int .i64 0))], blks := [(0, .ints true .i64 0)], mov := [], exId := 2, xslots := [(3, .at (.full 0 true)), (2, .at (.bool 0))], xblks := [(0, .ints true .i64 0)], T := lstable.loop10.R, dec := fun L => (L.b 0, L.l 0), enc := fun r => mkL [] [r.1] [r.2] [], ret := true }
abbrev lstable.loop18.R : Type := List Int
def lstable.loop18.ann : Ann := { nx := 22, slots := [(3, .at (.full 0 true)), (6, .at (.fint .i64 0)), (7, .at (.fint .i64 1)), (8, .at (.fint .i64 2)), (9, .at (.full 21 true)), (58, .at (.fint .i64 3)), (59, .at (.int .i64 0))], blks := [(0, .ints true .i64 0), (21, .fints true .i64 0)], mov := [], exId := 4, xslots := [(3, .at (.full 0 true)), (9, .at (.full 21 true))], xblks := [(0, .ints true .i64 0), (21, .fints true .i64 0)], T := lstable.loop18.R, dec := fun L => (L.l 0), enc := fun r => mkL [] [] [r] [], ret := false }
def lstable.K (N : Nat) : FCfg := { anns := [(5, lstable.loop5.ann), (10, lstable.loop10.ann), (18, lstable.loop18.ann)], unr := [], lits := [], lets := [] }
def lstable.loop18 (N : Nat) : Nat → Int → Int → Int → Int → List Int → Int → List Int → Option lstable.loop18.R
  | 0, _, _, _, _, _, _, _ => none
  | nn + 1, s6, s7, s8, s58, l21, s59, l0 =>
  (br (decide (s59 < s58))
  (chk ((0 : Int) ≤ s59 ∧ s59 < ↑l21.length)
  (chk ((0 : Int) ≤ IntKind.i64.wrap (IntKind.i64.wrap (s6 - (1 : Int)) - s59) ∧ IntKind.i64.wrap (IntKind.i64.wrap (s6 - (1 : Int)) - s59) < ↑l21.length)
  (obind (Rc.fmul.F N s7 (l21.getD (IntKind.i64.wrap (IntKind.i64.wrap (s6 - (1 : Int)) - s59)).toNat (0 : Int)) ((24 : Int))) fun r0 =>
  (chkI (l21.getD s59.toNat (0 : Int)) (l21.getD s59.toNat (0 : Int))
  (chk ((0 : Int) ≤ s59 ∧ s59 < ↑l21.length)
  (chkN s59.toNat s59.toNat
  (obind (Rc.fdiv.F N (IntKind.i64.wrap (l21.getD s59.toNat (0 : Int) + r0)) s8 ((24 : Int))) fun r1 =>
  (obind (Rc.clamp.F N r1 ((-2147483648 : Int)) ((2147483648 : Int))) fun r2 =>
  (chk ((0 : Int) ≤ s59 ∧ s59 < ↑l0.length)
  (chkI s6 s6
  (chkI s7 s7
  (chkI s8 s8
  (chkI s58 s58
  (chkL l21 l21
  (lstable.loop18 N nn s6 s7 s8 s58 l21 (IntKind.i64.wrap (s59 + (1 : Int))) (l0.set s59.toNat r2))))))))))))))))
  (chkL l21 l21
  (some l0)))
def lstable.loop18R (N nn : Nat) (s6 s7 s8 s58 : Int) (l21 : List Int) (s59 : Int) (l0 : List Int) : Option lstable.loop18.R := loopF lstable.loop18.ann (mkL [s6, s7, s8, s58] [] [l21] []) (evCode ((lstable.C N).inLoop lstable.loop18.ann) (lstable.K N) (inlTab (lstable.C N) 0) (bodyAt 18 Tryz.f155)) nn (mkL [s59] [] [l0] [])
theorem lstable.loop18_eq (N : Nat) : ∀ nn, lstable.loop18R N nn = lstable.loop18 N nn
  | 0 => by funext; kernel_rfl
  | nn + 1 => by
    funext; rw [lstable.loop18, ← lstable.loop18_eq N nn]; kernel_rfl
def lstable.loop10 (N : Nat) : Nat → List Int → Int → Bool → List Int → Option (lstable.loop10.R ⊕ lstable.R)
  | 0, _, _, _, _ => none
  | nn + 1, e_a, s6, s2, l0 =>
  (br (decide (s6 ≥ (0 : Int)))
  (chk ((0 : Int) ≤ s6 ∧ s6 < ↑l0.length)
  (br (decide (l0.getD s6.toNat (0 : Int) > (16760438 : Int)))
  (omap
  (some false) .inr)
  (br (decide (l0.getD s6.toNat (0 : Int) < (-16760438 : Int)))
  (omap
  (some false) .inr)
  (obind (Rc.fmul.F N (l0.getD s6.toNat (0 : Int)) (l0.getD s6.toNat (0 : Int)) ((24 : Int))) fun r0 =>
  (chk ((0 : Int) ≤ s6 ∧ s6 ≤ ↑l0.length)
  (chk ((0 : Nat) + (List.take (s6.toNat - (0 : Nat)) (List.drop (0 : Nat) l0)).length ≤ (17592186043904 : Nat))
  (obind (lstable.loop18 N N s6 (l0.getD s6.toNat (0 : Int)) (IntKind.i64.wrap ((16777216 : Int) - r0)) s6 (([] : List Int) ++ List.take (s6.toNat - (0 : Nat)) (List.drop (0 : Nat) l0)) ((0 : Int)) l0) fun r1 =>
  (lstable.loop10 N nn e_a (IntKind.i64.wrap (s6 - (1 : Int))) s2 r1))))))))
  (some (Sum.inl (s2, l0))))
def lstable.loop10R (N nn : Nat) (e_a : List Int) (s6 : Int) (s2 : Bool) (l0 : List Int) : Option (lstable.loop10.R ⊕ lstable.R) := loopR lstable.loop10.ann (mkL [] [] [] []) (evCode ((lstable.C N).inLoop lstable.loop10.ann) (lstable.K N) (inlTab (lstable.C N) 0) (bodyAt 10 Tryz.f155)) (sigKr Tryz.prog Tryz.f155 lstable.sig (mkL [] [] [e_a] []) fun L => (L.b 0)) nn (mkL [s6] [s2] [l0] [])
theorem lstable.loop10_eq (N : Nat) : ∀ nn, lstable.loop10R N nn = lstable.loop10 N nn
  | 0 => by funext; kernel_rfl
  | nn + 1 => by
    funext; rw [lstable.loop10, ← lstable.loop10_eq N nn, ← funext (lstable.loop18_eq N)]; kernel_rfl
def lstable.loop5 (N : Nat) : Nat → Int → List Int → Int → List Int → Option lstable.loop5.R
  | 0, _, _, _, _ => none
  | nn + 1, s19, s18, s20, l0 =>
  (br (decide (s20 < s19))
  (chk ((0 : Int) ≤ s20 ∧ s20 < ↑s18.length)
  (obind (Rc.clamp.F N (s18.getD s20.toNat (0 : Int)) ((-131072 : Int)) ((131072 : Int))) fun r0 =>
  (chk ((0 : Int) ≤ s20 ∧ s20 < ↑l0.length)
  (chkL s18 s18
  (chkI s19 s19
  (lstable.loop5 N nn s19 s18 (IntKind.i64.wrap (s20 + (1 : Int))) (l0.set s20.toNat (IntKind.i64.wrap ((4096 : Int) * r0)))))))))
  (some l0))
def lstable.loop5R (N nn : Nat) (s19 : Int) (s18 : List Int) (s20 : Int) (l0 : List Int) : Option lstable.loop5.R := loopF lstable.loop5.ann (mkL [s19] [] [s18] []) (evCode ((lstable.C N).inLoop lstable.loop5.ann) (lstable.K N) (inlTab (lstable.C N) 0) (bodyAt 5 Tryz.f155)) nn (mkL [s20] [] [l0] [])
theorem lstable.loop5_eq (N : Nat) : ∀ nn, lstable.loop5R N nn = lstable.loop5 N nn
  | 0 => by funext; kernel_rfl
  | nn + 1 => by
    funext; rw [lstable.loop5, ← lstable.loop5_eq N nn]; kernel_rfl
def lstable.F (N : Nat) (a : List Int) : Option lstable.R :=
  (br (decide (↑a.length > (32 : Int)))
  (some false)
  (chk ((0 : Int) ≤ ↑a.length ∧ (a.length : Int) ≤ ↑a.length ∧ (a.length : Int) ≤ ↑(17592186043904 : Nat))
  (obind (lstable.loop5 N N (↑a.length) a ((0 : Int)) (List.replicate (↑a.length : Int).toNat (0 : Int))) fun r0 =>
  (osum (lstable.loop10 N N a (IntKind.i64.wrap (↑r0.length - (1 : Int))) false r0) fun r1 =>
  (some true)))))
theorem lstable.F_eq (N : Nat) (L : Eng.Leaves) : evSig (lstable.C N) (lstable.K N) 0 Tryz.f155 lstable.sig L lstable.dec = lstable.F N (L.l 0) := by
  rw [lstable.F, ← funext (lstable.loop5_eq N), ← funext (lstable.loop10_eq N)]; kernel_rfl
def lstable.spec : Eng.Spec := lstable.sig.spec (fun N L => lstable.F N (L.l 0)) lstable.enc
theorem lstable.cok (N : Nat) : CfgOK (lstable.C N) := cok0 wide ⟨clamp.ok, fmul.ok, fdiv.ok, trivial⟩ (by kernel_rfl) rfl rfl rfl rfl
theorem lstable.aok (N : Nat) : AnnsOK (lstable.K N) := aok1 ⟨fun _ _ => ⟨rfl, rfl⟩, fun _ _ => ⟨rfl, rfl⟩, fun _ _ => ⟨rfl, rfl⟩, trivial⟩
theorem lstable.ok : CallOK Tryz.prog 155 lstable.spec := ok0 lstable.cok (fun _ => iok0 rfl) lstable.aok lstable.F_eq (by kernel_rfl) (by kernel_rfl) (fun _ => rfl) (fun _ => ⟨rfl, rfl⟩) fun _ _ => ⟨rfl, rfl⟩
def lchirp.sig : Eng.Sig := { args := [.at (.roi .i64 0), .at (.int .i64 0)], n := 0, pre := [], post := [(0, .ints true .i64 0)], m := 1, ret := .at (.full 0 false) }
def lchirp.C (N : Nat) : Cfg := { P := Tryz.prog, N := N, RT := noRT, specs := [(121, clamp.spec), (123, fmul.spec)], inl := [], hi := 0, mv := [] }
abbrev lchirp.R : Type := List Int
def lchirp.dec (L : Eng.Leaves) : lchirp.R := (L.l 0)
def lchirp.enc (r : lchirp.R) : Eng.Leaves := mkL [] [] [r] []
abbrev lchirp.loop6.R : Type := List Int
def lchirp.loop6.ann : Ann := { nx := 20, slots := [(1, .at (.fint .i64 0)), (5, .at (.full 0 true)), (16, .at (.froi .i64 0)), (17, .at (.fint .i64 1)), (18, .at (.int .i64 0))], blks := [(0, .ints true .i64 0)], mov := [], exId := 0, xslots := [(5, .at (.full 0 true))], xblks := [(0, .ints true .i64 0)], T := lchirp.loop6.R, dec := fun L => (L.l 0), enc := fun r => mkL [] [] [r] [], ret := false }
abbrev lchirp.loop9.R : Type := Int
def lchirp.loop9.ann : Ann := { nx := 20, slots := [(1, .at (.fint .i64 0)), (7, .at (.int .i64 0)), (24, .at (.fint .i64 1)), (25, .at (.int .i64 1))], blks := [], mov := [], exId := 2, xslots := [(7, .at (.int .i64 0))], xblks := [], T := lchirp.loop9.R, dec := fun L => (L.i 0), enc := fun r => mkL [r] [] [] [], ret := false }
def lchirp.K (N : Nat) : FCfg := { anns := [(6, lchirp.loop6.ann), (9, lchirp.loop9.ann)], unr := [], lits := [], lets := [] }
def lchirp.loop9 (N : Nat) : Nat → Int → Int → Int → Int → Option lchirp.loop9.R
  | 0, _, _, _, _ => none
  | nn + 1, c, s24, s7, s25 =>
  (br (decide (s25 < s24))
  (obind (Rc.fmul.F N s7 c ((16 : Int))) fun r0 =>
  (chkI c c
  (chkI s24 s24
  (lchirp.loop9 N nn c s24 r0 (IntKind.i64.wrap (s25 + (1 : Int)))))))
  (some s7))
def lchirp.loop9R (N nn : Nat) (c s24 : Int) (s7 s25 : Int) : Option lchirp.loop9.R := loopF lchirp.loop9.ann (mkL [c, s24] [] [] []) (evCode ((lchirp.C N).inLoop lchirp.loop9.ann) (lchirp.K N) (inlTab (lchirp.C N) 0) (bodyAt 9 Tryz.f156)) nn (mkL [s7, s25] [] [] [])
theorem lchirp.loop9_eq (N : Nat) : ∀ nn, lchirp.loop9R N nn = lchirp.loop9 N nn
  | 0 => by funext; kernel_rfl
  | nn + 1 => by
    funext; rw [lchirp.loop9, ← lchirp.loop9_eq N nn]; kernel_rfl
def lchirp.loop6 (N : Nat) : Nat → Int → Int → List Int → Int → List Int → Option lchirp.loop6.R
  | 0, _, _, _, _, _ => none
  | nn + 1, c, s17, s16, s18, l0 =>
  (br (decide (s18 < s17))
  (chk ((0 : Int) ≤ s18 ∧ s18 < ↑s16.length)
  (obind (lchirp.loop9 N N c (IntKind.i64.wrap (s18 + (1 : Int))) (s16.getD s18.toNat (0 : Int)) ((0 : Int))) fun r0 =>
  (chk ((0 : Int) ≤ s18 ∧ s18 < ↑l0.length)
  (chkI c c
  (chkL s16 s16
  (chkI s17 s17
  (lchirp.loop6 N nn c s17 s16 (IntKind.i64.wrap (s18 + (1 : Int))) (l0.set s18.toNat r0))))))))
  (some l0))
def lchirp.loop6R (N nn : Nat) (c s17 : Int) (s16 : List Int) (s18 : Int) (l0 : List Int) : Option lchirp.loop6.R := loopF lchirp.loop6.ann (mkL [c, s17] [] [s16] []) (evCode ((lchirp.C N).inLoop lchirp.loop6.ann) (lchirp.K N) (inlTab (lchirp.C N) 0) (bodyAt 6 Tryz.f156)) nn (mkL [s18] [] [l0] [])
theorem lchirp.loop6_eq (N : Nat) : ∀ nn, lchirp.loop6R N nn = lchirp.loop6 N nn
  | 0 => by funext; kernel_rfl
  | nn + 1 => by
    funext; rw [lchirp.loop6, ← lchirp.loop6_eq N nn, ← funext (lchirp.loop9_eq N)]; kernel_rfl
def lchirp.F (N : Nat) (c : Int) (a : List Int) : Option lchirp.R :=
  (br (decide (↑a.length > (32 : Int)))
  (some (([] : List Int)))
  (obind (Rc.clamp.F N c ((0 : Int)) ((65536 : Int))) fun r0 =>
  (chk ((0 : Int) ≤ ↑a.length ∧ (a.length : Int) ≤ ↑a.length ∧ (a.length : Int) ≤ ↑(17592186043904 : Nat))
  (obind (lchirp.loop6 N N r0 (↑a.length) a ((0 : Int)) (List.replicate (↑a.length : Int).toNat (0 : Int))) fun r1 =>
  (some r1)))))
theorem lchirp.F_eq (N : Nat) (L : Eng.Leaves) : evSig (lchirp.C N) (lchirp.K N) 0 Tryz.f156 lchirp.sig L lchirp.dec = lchirp.F N (L.i 0) (L.l 0) := by
  rw [lchirp.F, ← funext (lchirp.loop6_eq N)]; kernel_rfl
def lchirp.spec : Eng.Spec := lchirp.sig.spec (fun N L => lchirp.F N (L.i 0) (L.l 0)) lchirp.enc
theorem lchirp.cok (N : Nat) : CfgOK (lchirp.C N) := cok0 wide ⟨clamp.ok, fmul.ok, trivial⟩ (by kernel_rfl) rfl rfl rfl rfl
theorem lchirp.aok (N : Nat) : AnnsOK (lchirp.K N) := aok1 ⟨fun _ _ => ⟨rfl, rfl⟩, fun _ _ => ⟨rfl, rfl⟩, trivial⟩
theorem lchirp.ok : CallOK Tryz.prog 156 lchirp.spec := ok0 lchirp.cok (fun _ => iok0 rfl) lchirp.aok lchirp.F_eq (by kernel_rfl) (by kernel_rfl) (fun _ => rfl) (fun _ => ⟨rfl, rfl⟩) fun _ _ => ⟨rfl, rfl⟩
def lfit.sig : Eng.Sig := { args := [.at (.roi .i64 0)], n := 0, pre := [], post := [(0, .ints true .i64 0)], m := 1, ret := .at (.full 0 false) }
def lfit.C (N : Nat) : Cfg := { P := Tryz.prog, N := N, RT := noRT, specs := [(121, clamp.spec), (155, lstable.spec), (156, lchirp.spec)], inl := [], hi := 0, mv := [] }
abbrev lfit.R : Type := List Int
def lfit.dec (L : Eng.Leaves) : lfit.R := (L.l 0)
def lfit.enc (r : lfit.R) : Eng.Leaves := mkL [] [] [r] []
abbrev lfit.loop5.R : Type := List Int
def lfit.loop5.ann : Ann := { nx := 20, slots := [(3, .at (.full 0 true)), (13, .at (.froi .i64 0)), (14, .at (.fint .i64 0)), (15, .at (.int .i64 0))], blks := [(0, .ints true .i64 0)], mov := [], exId := 0, xslots := [(3, .at (.full 0 true))], xblks := [(0, .ints true .i64 0)], T := lfit.loop5.R, dec := fun L => (L.l 0), enc := fun r => mkL [] [] [r] [], ret := false }
abbrev lfit.loop10.R : Type := List Int
def lfit.loop10.ann : Ann := { nx := 20, slots := [(3, .at (.full 0 false)), (6, .at (.int .i64 0))], blks := [(0, .ints true .i64 0)], mov := [0], exId := 2, xslots := [(3, .at (.full 0 false))], xblks := [(0, .ints true .i64 0)], T := lfit.loop10.R, dec := fun L => (L.l 0), enc := fun r => mkL [] [] [r] [], ret := false }
def lfit.K (N : Nat) : FCfg := { anns := [(5, lfit.loop5.ann), (10, lfit.loop10.ann)], unr := [], lits := [], lets := [] }
def lfit.loop10 (N : Nat) : Nat → Int → List Int → Option lfit.loop10.R
  | 0, _, _ => none
  | nn + 1, s6, l0 =>
  (br (decide (s6 ≤ (16 : Int)))
  (obind (Rc.lstable.F N l0) fun r0 =>
  (br (!r0)
  (obind (Rc.lchirp.F N (IntKind.i64.wrap ((65536 : Int) - IntKind.i64.wrap ((2048 : Int) * s6))) l0) fun r1 =>
  (lfit.loop10 N nn (IntKind.i64.wrap (s6 + (1 : Int))) r1))
  (some l0)))
  (some l0))
def lfit.loop10R (N nn : Nat) (s6 : Int) (l0 : List Int) : Option lfit.loop10.R := loopF lfit.loop10.ann (mkL [] [] [] []) (evCode ((lfit.C N).inLoop lfit.loop10.ann) (lfit.K N) (inlTab (lfit.C N) 0) (bodyAt 10 Tryz.f124)) nn (mkL [s6] [] [l0] [])
theorem lfit.loop10_eq (N : Nat) : ∀ nn, lfit.loop10R N nn = lfit.loop10 N nn
  | 0 => by funext; kernel_rfl
  | nn + 1 => by
    funext; rw [lfit.loop10, ← lfit.loop10_eq N nn]; kernel_rfl
def lfit.loop5 (N : Nat) : Nat → Int → List Int → Int → List Int → Option lfit.loop5.R
  | 0, _, _, _, _ => none
  | nn + 1, s14, s13, s15, l0 =>
  (br (decide (s15 < s14))
  (chk ((0 : Int) ≤ s15 ∧ s15 < ↑s13.length)
  (obind (Rc.clamp.F N (s13.getD s15.toNat (0 : Int)) ((-131072 : Int)) ((131072 : Int))) fun r0 =>
  (chk ((0 : Int) ≤ s15 ∧ s15 < ↑l0.length)
  (chkL s13 s13
  (chkI s14 s14
  (lfit.loop5 N nn s14 s13 (IntKind.i64.wrap (s15 + (1 : Int))) (l0.set s15.toNat r0)))))))
  (some l0))
def lfit.loop5R (N nn : Nat) (s14 : Int) (s13 : List Int) (s15 : Int) (l0 : List Int) : Option lfit.loop5.R := loopF lfit.loop5.ann (mkL [s14] [] [s13] []) (evCode ((lfit.C N).inLoop lfit.loop5.ann) (lfit.K N) (inlTab (lfit.C N) 0) (bodyAt 5 Tryz.f124)) nn (mkL [s15] [] [l0] [])
theorem lfit.loop5_eq (N : Nat) : ∀ nn, lfit.loop5R N nn = lfit.loop5 N nn
  | 0 => by funext; kernel_rfl
  | nn + 1 => by
    funext; rw [lfit.loop5, ← lfit.loop5_eq N nn]; kernel_rfl
def lfit.F (N : Nat) (a : List Int) : Option lfit.R :=
  (br (decide (↑a.length > (32 : Int)))
  (some (([] : List Int)))
  (chk ((0 : Int) ≤ ↑a.length ∧ (a.length : Int) ≤ ↑a.length ∧ (a.length : Int) ≤ ↑(17592186043904 : Nat))
  (obind (lfit.loop5 N N (↑a.length) a ((0 : Int)) (List.replicate (↑a.length : Int).toNat (0 : Int))) fun r0 =>
  (obind (lfit.loop10 N N ((1 : Int)) r0) fun r1 =>
  (obind (Rc.lstable.F N r1) fun r2 =>
  (br (!r2)
  (some (List.replicate r1.length (0 : Int)))
  (some r1)))))))
theorem lfit.F_eq (N : Nat) (L : Eng.Leaves) : evSig (lfit.C N) (lfit.K N) 0 Tryz.f124 lfit.sig L lfit.dec = lfit.F N (L.l 0) := by
  rw [lfit.F, ← funext (lfit.loop5_eq N), ← funext (lfit.loop10_eq N)]; kernel_rfl
def lfit.spec : Eng.Spec := lfit.sig.spec (fun N L => lfit.F N (L.l 0)) lfit.enc
theorem lfit.cok (N : Nat) : CfgOK (lfit.C N) := cok0 wide ⟨clamp.ok, lstable.ok, lchirp.ok, trivial⟩ (by kernel_rfl) rfl rfl rfl rfl
theorem lfit.aok (N : Nat) : AnnsOK (lfit.K N) := aok1 ⟨fun _ _ => ⟨rfl, rfl⟩, fun _ _ => ⟨rfl, rfl⟩, trivial⟩
theorem lfit.ok : CallOK Tryz.prog 124 lfit.spec := ok0 lfit.cok (fun _ => iok0 rfl) lfit.aok lfit.F_eq (by kernel_rfl) (by kernel_rfl) (fun _ => rfl) (fun _ => ⟨rfl, rfl⟩) fun _ _ => ⟨rfl, rfl⟩
def lfrom.sig : Eng.Sig := { args := [.at (.roi .i64 0)], n := 0, pre := [], post := [(0, .ints true .i64 0)], m := 1, ret := .tup [(false, [.full 0 false]), (false, [.int .i64 0])] }
def lfrom.C (N : Nat) : Cfg := { P := Tryz.prog, N := N, RT := noRT, specs := [(121, clamp.spec), (120, fcos.spec), (122, lpoly.spec), (123, fmul.spec), (124, lfit.spec)], inl := [], hi := 0, mv := [] }
abbrev lfrom.R : Type := Int × List Int
def lfrom.dec (L : Eng.Leaves) : lfrom.R := (L.i 0, L.l 0)
def lfrom.enc (r : lfrom.R) : Eng.Leaves := mkL [r.1] [] [r.2] []
abbrev lfrom.loop5.R : Type := List Int × List Int
def lfrom.loop5.ann : Ann := { nx := 22, slots := [(4, .at (.full 20 false)), (5, .at (.full 21 false)), (23, .at (.froi .i64 0)), (24, .at (.fint .i64 0)), (25, .at (.int .i64 0))], blks := [(20, .ints true .i64 0), (21, .ints true .i64 1)], mov := [20, 21], exId := 0, xslots := [(4, .at (.full 20 false)), (5, .at (.full 21 false))], xblks := [(20, .ints true .i64 0), (21, .ints true .i64 1)], T := lfrom.loop5.R, dec := fun L => (L.l 0, L.l 1), enc := fun r => mkL [] [] [r.1, r.2] [], ret := false }
abbrev lfrom.loop15.R : Type := List Int
def lfrom.loop15.ann : Ann := { nx := 25, slots := [(9, .at (.full 22 false)), (10, .at (.full 23 false)), (11, .at (.full 24 true)), (54, .at (.fint .i64 0)), (55, .at (.int .i64 0))], blks := [(22, .fints true .i64 0), (23, .fints true .i64 1), (24, .ints true .i64 0)], mov := [], exId := 2, xslots := [(9, .at (.full 22 false)), (10, .at (.full 23 false)), (11, .at (.full 24 true))], xblks := [(22, .fints true .i64 0), (23, .fints true .i64 1), (24, .ints true .i64 0)], T := lfrom.loop15.R, dec := fun L => (L.l 0), enc := fun r => mkL [] [] [r] [], ret := false }
def lfrom.K (N : Nat) : FCfg := { anns := [(5, lfrom.loop5.ann), (15, lfrom.loop15.ann)], unr := [], lits := [], lets := [] }
def lfrom.loop15 (N : Nat) : Nat → Int → List Int → List Int → Int → List Int → Option lfrom.loop15.R
  | 0, _, _, _, _, _ => none
  | nn + 1, s54, l22, l23, s55, l24 =>
  (br (decide (s55 < s54))
  (chk ((0 : Int) ≤ IntKind.i64.wrap (s55 + (1 : Int)) ∧ IntKind.i64.wrap (s55 + (1 : Int)) < ↑l22.length)
  (chk ((0 : Int) ≤ s55 ∧ s55 < ↑l22.length)
  (chk ((0 : Int) ≤ IntKind.i64.wrap (s55 + (1 : Int)) ∧ IntKind.i64.wrap (s55 + (1 : Int)) < ↑l23.length)
  (chk ((0 : Int) ≤ s55 ∧ s55 < ↑l23.length)
  (obind (Rc.fmul.F N (IntKind.i64.wrap (IntKind.i64.wrap ((0 : Int) - IntKind.i64.wrap (l23.getD (IntKind.i64.wrap (s55 + (1 : Int))).toNat (0 : Int) - l23.getD s55.toNat (0 : Int))) - IntKind.i64.wrap (l22.getD (IntKind.i64.wrap (s55 + (1 : Int))).toNat (0 : Int) + l22.getD s55.toNat (0 : Int)))) ((1 : Int)) ((5 : Int))) fun r0 =>
  (chk ((0 : Int) ≤ s55 ∧ s55 < ↑l24.length)
  (obind (Rc.fmul.F N (IntKind.i64.wrap (IntKind.i64.wrap (l23.getD (IntKind.i64.wrap (s55 + (1 : Int))).toNat (0 : Int) - l23.getD s55.toNat (0 : Int)) - IntKind.i64.wrap (l22.getD (IntKind.i64.wrap (s55 + (1 : Int))).toNat (0 : Int) + l22.getD s55.toNat (0 : Int)))) ((1 : Int)) ((5 : Int))) fun r1 =>
  (chk ((0 : Int) ≤ IntKind.i64.wrap (IntKind.i64.wrap (↑(l24.set s55.toNat r0).length - (1 : Int)) - s55) ∧ IntKind.i64.wrap (IntKind.i64.wrap (↑(l24.set s55.toNat r0).length - (1 : Int)) - s55) < ↑(l24.set s55.toNat r0).length)
  (chkI s54 s54
  (chkL l22 l22
  (chkL l23 l23
  (lfrom.loop15 N nn s54 l22 l23 (IntKind.i64.wrap (s55 + (1 : Int))) ((l24.set s55.toNat r0).set (IntKind.i64.wrap (IntKind.i64.wrap (↑(l24.set s55.toNat r0).length - (1 : Int)) - s55)).toNat r1)))))))))))))
  (chkL l22 l22
  (chkL l23 l23
  (some l24))))
def lfrom.loop15R (N nn : Nat) (s54 : Int) (l22 l23 : List Int) (s55 : Int) (l24 : List Int) : Option lfrom.loop15.R := loopF lfrom.loop15.ann (mkL [s54] [] [l22, l23] []) (evCode ((lfrom.C N).inLoop lfrom.loop15.ann) (lfrom.K N) (inlTab (lfrom.C N) 0) (bodyAt 15 Tryz.f63)) nn (mkL [s55] [] [l24] [])
theorem lfrom.loop15_eq (N : Nat) : ∀ nn, lfrom.loop15R N nn = lfrom.loop15 N nn
  | 0 => by funext; kernel_rfl
  | nn + 1 => by
    funext; rw [lfrom.loop15, ← lfrom.loop15_eq N nn]; kernel_rfl
def lfrom.loop5 (N : Nat) : Nat → Int → List Int → Int → List Int → List Int → Option lfrom.loop5.R
  | 0, _, _, _, _, _ => none
  | nn + 1, s24, s23, s25, s4, s5 =>
  (br (decide (s25 < s24))
  (chk ((0 : Int) ≤ s25 ∧ s25 < ↑s23.length)
  (obind (Rc.clamp.F N (s23.getD s25.toNat (0 : Int)) ((0 : Int)) ((32768 : Int))) fun r0 =>
  (obind (Rc.fcos.F N r0) fun r1 =>
  (br (s25.tmod (2 : Int) == (0 : Int))
  (chk (s4.length + [IntKind.i64.wrap ((4 : Int) * r1)].length ≤ (17592186043904 : Nat))
  (chkL s23 s23
  (chkI s24 s24
  (lfrom.loop5 N nn s24 s23 (IntKind.i64.wrap (s25 + (1 : Int))) (s4 ++ [IntKind.i64.wrap ((4 : Int) * r1)]) s5))))
  (chk (s5.length + [IntKind.i64.wrap ((4 : Int) * r1)].length ≤ (17592186043904 : Nat))
  (chkL s23 s23
  (chkI s24 s24
  (lfrom.loop5 N nn s24 s23 (IntKind.i64.wrap (s25 + (1 : Int))) s4 (s5 ++ [IntKind.i64.wrap ((4 : Int) * r1)])))))))))
  (some ((s4, s5))))
def lfrom.loop5R (N nn : Nat) (s24 : Int) (s23 : List Int) (s25 : Int) (s4 s5 : List Int) : Option lfrom.loop5.R := loopF lfrom.loop5.ann (mkL [s24] [] [s23] []) (evCode ((lfrom.C N).inLoop lfrom.loop5.ann) (lfrom.K N) (inlTab (lfrom.C N) 0) (bodyAt 5 Tryz.f63)) nn (mkL [s25] [] [s4, s5] [])
theorem lfrom.loop5_eq (N : Nat) : ∀ nn, lfrom.loop5R N nn = lfrom.loop5 N nn
  | 0 => by funext; kernel_rfl
  | nn + 1 => by
    funext; rw [lfrom.loop5, ← lfrom.loop5_eq N nn]; kernel_rfl
def lfrom.F (N : Nat) (l : List Int) : Option lfrom.R :=
  (br (↑l.length != (10 : Int))
  (br (↑l.length != (16 : Int))
  (some (((1 : Int), ([] : List Int))))
  (obind (lfrom.loop5 N N (↑l.length) l ((0 : Int)) (([] : List Int)) (([] : List Int))) fun r0 =>
  (obind (Rc.lpoly.F N r0.1) fun r1 =>
  (obind (Rc.lpoly.F N r0.2) fun r2 =>
  (chk ((0 : Int) ≤ ↑l.length ∧ (l.length : Int) ≤ ↑l.length ∧ (l.length : Int) ≤ ↑(17592186043904 : Nat))
  (obind (lfrom.loop15 N N (↑r0.1.length) r1 r2 ((0 : Int)) (List.replicate (↑l.length : Int).toNat (0 : Int))) fun r3 =>
  (obind (Rc.lfit.F N r3) fun r4 =>
  (some (((0 : Int), r4))))))))))
  (obind (lfrom.loop5 N N (↑l.length) l ((0 : Int)) (([] : List Int)) (([] : List Int))) fun r5 =>
  (obind (Rc.lpoly.F N r5.1) fun r6 =>
  (obind (Rc.lpoly.F N r5.2) fun r7 =>
  (chk ((0 : Int) ≤ ↑l.length ∧ (l.length : Int) ≤ ↑l.length ∧ (l.length : Int) ≤ ↑(17592186043904 : Nat))
  (obind (lfrom.loop15 N N (↑r5.1.length) r6 r7 ((0 : Int)) (List.replicate (↑l.length : Int).toNat (0 : Int))) fun r8 =>
  (obind (Rc.lfit.F N r8) fun r9 =>
  (some (((0 : Int), r9))))))))))
theorem lfrom.F_eq (N : Nat) (L : Eng.Leaves) : evSig (lfrom.C N) (lfrom.K N) 0 Tryz.f63 lfrom.sig L lfrom.dec = lfrom.F N (L.l 0) := by
  rw [lfrom.F, ← funext (lfrom.loop5_eq N), ← funext (lfrom.loop15_eq N)]; kernel_rfl
def lfrom.spec : Eng.Spec := lfrom.sig.spec (fun N L => lfrom.F N (L.l 0)) lfrom.enc
theorem lfrom.cok (N : Nat) : CfgOK (lfrom.C N) := cok0 wide ⟨clamp.ok, fcos.ok, lpoly.ok, fmul.ok, lfit.ok, trivial⟩ (by kernel_rfl) rfl rfl rfl rfl
theorem lfrom.aok (N : Nat) : AnnsOK (lfrom.K N) := aok1 ⟨fun _ _ => ⟨rfl, rfl⟩, fun _ _ => ⟨rfl, rfl⟩, trivial⟩
theorem lfrom.ok : CallOK Tryz.prog 63 lfrom.spec := ok0 lfrom.cok (fun _ => iok0 rfl) lfrom.aok lfrom.F_eq (by kernel_rfl) (by kernel_rfl) (fun _ => rfl) (fun _ => ⟨rfl, rfl⟩) fun _ _ => ⟨rfl, rfl⟩
def within1.sig : Eng.Sig := { args := [.at (.int .i64 0), .at (.ptr 0 0)], n := 1, pre := [(0, .cells 1 [.int .i64 1])], post := [(0, .cells 1 [.fint .i64 1])], m := 0, ret := .at (.bool 0) }
def within1.C (N : Nat) : Cfg := { P := Tryz.prog, N := N, RT := noRT, specs := [], inl := [], hi := 1, mv := [] }
abbrev within1.R : Type := Bool
def within1.dec (L : Eng.Leaves) : within1.R := (L.b 0)
def within1.enc (r : within1.R) : Eng.Leaves := mkL [] [r] [] []
def within1.K (N : Nat) : FCfg := { anns := [], unr := [], lits := [], lets := [] }
def within1.F (N : Nat) (v most : Int) : Option within1.R :=
  (br (decide (v < IntKind.i64.wrap ((0 : Int) - most)))
  (chkI most most
  (some true))
  (chkI most most
  (some (decide (v > most)))))
theorem within1.F_eq (N : Nat) (L : Eng.Leaves) : evSig (within1.C N) (within1.K N) 0 Tryz.f165 within1.sig L within1.dec = within1.F N (L.i 0) (L.i 1) := by
  kernel_rfl
def within1.spec : Eng.Spec := within1.sig.spec (fun N L => within1.F N (L.i 0) (L.i 1)) within1.enc
theorem within1.cok (N : Nat) : CfgOK (within1.C N) := cok0 wide trivial (by kernel_rfl) rfl rfl rfl rfl
theorem within1.aok (N : Nat) : AnnsOK (within1.K N) := aok1 trivial
theorem within1.ok : CallOK Tryz.prog 165 within1.spec := ok0 within1.cok (fun _ => iok0 rfl) within1.aok within1.F_eq (by kernel_rfl) (by kernel_rfl) (fun _ => rfl) (fun _ => ⟨rfl, rfl⟩) fun _ _ => ⟨rfl, rfl⟩
def indexf64.sig : Eng.Sig := { args := [.at (.roi .i64 0), .at (.clo 165 [(0, 0)])], n := 1, pre := [(0, .cells 1 [.int .i64 0])], post := [(0, .cells 1 [.int .i64 1])], m := 0, ret := .at (.int .i64 0) }
def indexf64.C (N : Nat) : Cfg := { P := Tryz.prog, N := N, RT := noRT, specs := [(165, within1.spec)], inl := [], hi := 1, mv := [] }
abbrev indexf64.R : Type := Int × Int
def indexf64.dec (L : Eng.Leaves) : indexf64.R := (L.i 0, L.i 1)
def indexf64.enc (r : indexf64.R) : Eng.Leaves := mkL [r.1, r.2] [] [] []
abbrev indexf64.loop2.R : Type := Int
def indexf64.loop2.ann : Ann := { nx := 20, slots := [(0, .at (.froi .i64 0)), (1, .at (.clo 165 [(0, 0)])), (4, .at (.int .i64 0)), (7, .at (.fint .i64 0)), (8, .at (.int .i64 1))], blks := [(0, .cells 1 [.fint .i64 1])], mov := [], exId := 0, xslots := [(1, .at (.clo 165 [(0, 0)])), (4, .at (.int .i64 0))], xblks := [(0, .cells 1 [.fint .i64 1])], T := indexf64.loop2.R, dec := fun L => (L.i 0), enc := fun r => mkL [r] [] [] [], ret := true }
def indexf64.K (N : Nat) : FCfg := { anns := [(2, indexf64.loop2.ann)], unr := [], lits := [], lets := [] }
def indexf64.loop2 (N : Nat) : Nat → Int → List Int → Int → Int → List Int → Int → Int → Option (indexf64.loop2.R ⊕ indexf64.R)
  | 0, _, _, _, _, _, _, _ => none
  | nn + 1, e_most, e_l, s7, most, l, s4, s8 =>
  (br (decide (s8 < s7))
  (chk ((0 : Int) ≤ s8 ∧ s8 < ↑l.length)
  (obind (Rc.within1.F N (l.getD s8.toNat (0 : Int)) most) fun r0 =>
  (br r0
  (omap
  (some ((s8, most))) .inr)
  (chkL l l
  (chkI s7 s7
  (chkI most most
  (indexf64.loop2 N nn e_most e_l s7 most l s4 (IntKind.i64.wrap (s8 + (1 : Int))))))))))
  (chkI most most
  (some (Sum.inl s4))))
def indexf64.loop2R (N nn : Nat) (e_most : Int) (e_l : List Int) (s7 most : Int) (l : List Int) (s4 s8 : Int) : Option (indexf64.loop2.R ⊕ indexf64.R) := loopR indexf64.loop2.ann (mkL [s7, most] [] [l] []) (evCode ((indexf64.C N).inLoop indexf64.loop2.ann) (indexf64.K N) (inlTab (indexf64.C N) 0) (bodyAt 2 Tryz.f168)) (sigKr Tryz.prog Tryz.f168 indexf64.sig (mkL [e_most] [] [e_l] []) fun L => (L.i 0, L.i 1)) nn (mkL [s4, s8] [] [] [])
theorem indexf64.loop2_eq (N : Nat) : ∀ nn, indexf64.loop2R N nn = indexf64.loop2 N nn
  | 0 => by funext; kernel_rfl
  | nn + 1 => by
    funext; rw [indexf64.loop2, ← indexf64.loop2_eq N nn]; kernel_rfl
def indexf64.F (N : Nat) (most : Int) (l : List Int) : Option indexf64.R :=
  (osum (indexf64.loop2 N N most l (↑l.length) most l ((0 : Int)) ((0 : Int))) fun r0 =>
  (some (((-1 : Int), most))))
theorem indexf64.F_eq (N : Nat) (L : Eng.Leaves) : evSig (indexf64.C N) (indexf64.K N) 0 Tryz.f168 indexf64.sig L indexf64.dec = indexf64.F N (L.i 0) (L.l 0) := by
  rw [indexf64.F, ← funext (indexf64.loop2_eq N)]; kernel_rfl
def indexf64.spec : Eng.Spec := indexf64.sig.spec (fun N L => indexf64.F N (L.i 0) (L.l 0)) indexf64.enc
theorem indexf64.cok (N : Nat) : CfgOK (indexf64.C N) := cok0 wide ⟨within1.ok, trivial⟩ (by kernel_rfl) rfl rfl rfl rfl
theorem indexf64.aok (N : Nat) : AnnsOK (indexf64.K N) := aok1 ⟨fun _ _ => ⟨rfl, rfl⟩, trivial⟩
theorem indexf64.ok : CallOK Tryz.prog 168 indexf64.spec := ok0 indexf64.cok (fun _ => iok0 rfl) indexf64.aok indexf64.F_eq (by kernel_rfl) (by kernel_rfl) (fun _ => rfl) (fun _ => ⟨rfl, rfl⟩) fun _ _ => ⟨rfl, rfl⟩
def contains64.sig : Eng.Sig := { args := [.at (.roi .i64 0), .at (.clo 165 [(0, 0)])], n := 1, pre := [(0, .cells 1 [.int .i64 0])], post := [(0, .cells 1 [.int .i64 0])], m := 0, ret := .at (.bool 0) }
def contains64.C (N : Nat) : Cfg := { P := Tryz.prog, N := N, RT := noRT, specs := [(168, indexf64.spec)], inl := [], hi := 1, mv := [] }
abbrev contains64.R : Type := Int × Bool
def contains64.dec (L : Eng.Leaves) : contains64.R := (L.i 0, L.b 0)
def contains64.enc (r : contains64.R) : Eng.Leaves := mkL [r.1] [r.2] [] []
def contains64.K (N : Nat) : FCfg := { anns := [], unr := [], lits := [], lets := [] }
def contains64.F (N : Nat) (most : Int) (l : List Int) : Option contains64.R :=
  (obind (Rc.indexf64.F N most l) fun r0 =>
  (some ((r0.2, decide (r0.1 ≥ (0 : Int))))))
theorem contains64.F_eq (N : Nat) (L : Eng.Leaves) : evSig (contains64.C N) (contains64.K N) 0 Tryz.f164 contains64.sig L contains64.dec = contains64.F N (L.i 0) (L.l 0) := by
  kernel_rfl
def contains64.spec : Eng.Spec := contains64.sig.spec (fun N L => contains64.F N (L.i 0) (L.l 0)) contains64.enc
theorem contains64.cok (N : Nat) : CfgOK (contains64.C N) := cok0 wide ⟨indexf64.ok, trivial⟩ (by kernel_rfl) rfl rfl rfl rfl
theorem contains64.aok (N : Nat) : AnnsOK (contains64.K N) := aok1 trivial
theorem contains64.ok : CallOK Tryz.prog 164 contains64.spec := ok0 contains64.cok (fun _ => iok0 rfl) contains64.aok contains64.F_eq (by kernel_rfl) (by kernel_rfl) (fun _ => rfl) (fun _ => ⟨rfl, rfl⟩) fun _ _ => ⟨rfl, rfl⟩
def within.sig : Eng.Sig := { args := [.at (.roi .i64 0), .at (.int .i64 0)], n := 0, pre := [], post := [], m := 0, ret := .at (.bool 0) }
def within.C (N : Nat) : Cfg := { P := Tryz.prog, N := N, RT := noRT, specs := [(164, contains64.spec)], inl := [], hi := 0, mv := [] }
abbrev within.R : Type := Bool
def within.dec (L : Eng.Leaves) : within.R := (L.b 0)
def within.enc (r : within.R) : Eng.Leaves := mkL [] [r] [] []
def within.K (N : Nat) : FCfg := { anns := [], unr := [], lits := [], lets := [] }
def within.F (N : Nat) (most : Int) (l : List Int) : Option within.R :=
  (obind (Rc.contains64.F N most l) fun r0 =>
  (some (!r0.2)))
theorem within.F_eq (N : Nat) (L : Eng.Leaves) : evSig (within.C N) (within.K N) 0 Tryz.f157 within.sig L within.dec = within.F N (L.i 0) (L.l 0) := by
  kernel_rfl
def within.spec : Eng.Spec := within.sig.spec (fun N L => within.F N (L.i 0) (L.l 0)) within.enc
theorem within.cok (N : Nat) : CfgOK (within.C N) := cok0 wide ⟨contains64.ok, trivial⟩ (by kernel_rfl) rfl rfl rfl rfl
theorem within.aok (N : Nat) : AnnsOK (within.K N) := aok1 trivial
theorem within.ok : CallOK Tryz.prog 157 within.spec := ok0 within.cok (fun _ => iok0 rfl) within.aok within.F_eq (by kernel_rfl) (by kernel_rfl) (fun _ => rfl) (fun _ => ⟨rfl, rfl⟩) fun _ _ => ⟨rfl, rfl⟩
def sygood.sig : Eng.Sig := { args := [.agg [.roi .i64 0, .int .i64 0, .int .i64 1, .int .i64 2, .int .i64 3, .int .i64 4, .int .i64 5, .int .i64 6, .roi .i64 1]], n := 0, pre := [], post := [], m := 0, ret := .at (.bool 0) }
def sygood.C (N : Nat) : Cfg := { P := Tryz.prog, N := N, RT := noRT, specs := [(157, within.spec), (165, within1.spec)], inl := [(157, FCfg.none), (164, FCfg.none), (168, { anns := [], unr := [(2, 7)], lits := [], lets := [] })], hi := 0, mv := [] }
abbrev sygood.R : Type := Bool
def sygood.dec (L : Eng.Leaves) : sygood.R := (L.b 0)
def sygood.enc (r : sygood.R) : Eng.Leaves := mkL [] [r] [] []
def sygood.K (N : Nat) : FCfg := { anns := [], unr := [], lits := [], lets := [] }
def sygood.F (N : Nat) (Loud Lag Taps0 Taps1 Taps2 Taps3 Taps4 : Int) (Pulses Filter : List Int) : Option sygood.R :=
  (br (decide (↑Pulses.length < (1 : Int)))
  (some false)
  (br (decide (↑Pulses.length > (480 : Int)))
  (some false)
  (obind (Rc.within.F N ((16 : Int)) Pulses) fun r0 =>
  (br (!r0)
  (some false)
  (br (decide (Loud < (0 : Int)))
  (some false)
  (br (decide (Loud > (262144 : Int)))
  (some false)
  (br (Lag == (0 : Int))
  (obind (Rc.within1.F N Taps0 ((128 : Int))) fun r1 =>
  (br r1
  (some false)
  (obind (Rc.within1.F N Taps1 ((128 : Int))) fun r2 =>
  (br r2
  (some false)
  (obind (Rc.within1.F N Taps2 ((128 : Int))) fun r3 =>
  (br r3
  (some false)
  (obind (Rc.within1.F N Taps3 ((128 : Int))) fun r4 =>
  (br r4
  (some false)
  (obind (Rc.within1.F N Taps4 ((128 : Int))) fun r5 =>
  (br r5
  (some false)
  (br (decide (↑Filter.length ≤ (32 : Int)))
  (obind (Rc.within.F N ((131072 : Int)) Filter) fun r6 =>
  (some r6))
  (some false))))))))))))
  (br (decide (Lag ≥ (3 : Int)))
  (br (decide (Lag ≤ (318 : Int)))
  (obind (Rc.within1.F N Taps0 ((128 : Int))) fun r7 =>
  (br r7
  (some false)
  (obind (Rc.within1.F N Taps1 ((128 : Int))) fun r8 =>
  (br r8
  (some false)
  (obind (Rc.within1.F N Taps2 ((128 : Int))) fun r9 =>
  (br r9
  (some false)
  (obind (Rc.within1.F N Taps3 ((128 : Int))) fun r10 =>
  (br r10
  (some false)
  (obind (Rc.within1.F N Taps4 ((128 : Int))) fun r11 =>
  (br r11
  (some false)
  (br (decide (↑Filter.length ≤ (32 : Int)))
  (obind (Rc.within.F N ((131072 : Int)) Filter) fun r12 =>
  (some r12))
  (some false))))))))))))
  (some false))
  (some false)))))))))
theorem sygood.F_eq (N : Nat) (L : Eng.Leaves) : evSig (sygood.C N) (sygood.K N) 3 Tryz.f126 sygood.sig L sygood.dec = sygood.F N (L.i 0) (L.i 1) (L.i 2) (L.i 3) (L.i 4) (L.i 5) (L.i 6) (L.l 0) (L.l 1) := by
  kernel_rfl
def sygood.spec : Eng.Spec := sygood.sig.spec (fun N L => sygood.F N (L.i 0) (L.i 1) (L.i 2) (L.i 3) (L.i 4) (L.i 5) (L.i 6) (L.l 0) (L.l 1)) sygood.enc
theorem sygood.cok (N : Nat) : CfgOK (sygood.C N) := cok0 wide ⟨within.ok, within1.ok, trivial⟩ (by kernel_rfl) rfl rfl rfl rfl
theorem sygood.aok (N : Nat) : AnnsOK (sygood.K N) := aok1 trivial
theorem sygood.ok : CallOK Tryz.prog 126 sygood.spec := ok0 sygood.cok (fun _ q hq => by
      simp only [sygood.C, List.mem_cons, List.not_mem_nil, or_false] at hq
      rcases hq with rfl | rfl | rfl
      · exact ⟨fun q hq => by simp [FCfg.none] at hq, by kernel_rfl⟩
      · exact ⟨fun q hq => by simp [FCfg.none] at hq, by kernel_rfl⟩
      · exact ⟨fun q hq => by simp at hq, by kernel_rfl⟩) sygood.aok sygood.F_eq (by kernel_rfl) (by kernel_rfl) (fun _ => rfl) (fun _ => ⟨rfl, rfl⟩) fun _ _ => ⟨rfl, rfl⟩
def sykept.sig : Eng.Sig := { args := [.at (.int .i64 0)], n := 0, pre := [], post := [], m := 0, ret := .at (.int .i64 0) }
def sykept.C (N : Nat) : Cfg := { P := Tryz.prog, N := N, RT := noRT, specs := [(121, clamp.spec)], inl := [], hi := 0, mv := [] }
abbrev sykept.R : Type := Int
def sykept.dec (L : Eng.Leaves) : sykept.R := (L.i 0)
def sykept.enc (r : sykept.R) : Eng.Leaves := mkL [r] [] [] []
def sykept.K (N : Nat) : FCfg := { anns := [], unr := [], lits := [], lets := [] }
def sykept.F (N : Nat) (v : Int) : Option sykept.R :=
  (obind (Rc.clamp.F N v ((-16777216 : Int)) ((16777216 : Int))) fun r0 =>
  (some r0))
theorem sykept.F_eq (N : Nat) (L : Eng.Leaves) : evSig (sykept.C N) (sykept.K N) 0 Tryz.f127 sykept.sig L sykept.dec = sykept.F N (L.i 0) := by
  kernel_rfl
def sykept.spec : Eng.Spec := sykept.sig.spec (fun N L => sykept.F N (L.i 0)) sykept.enc
theorem sykept.cok (N : Nat) : CfgOK (sykept.C N) := cok0 wide ⟨clamp.ok, trivial⟩ (by kernel_rfl) rfl rfl rfl rfl
theorem sykept.aok (N : Nat) : AnnsOK (sykept.K N) := aok1 trivial
theorem sykept.ok : CallOK Tryz.prog 127 sykept.spec := ok0 sykept.cok (fun _ => iok0 rfl) sykept.aok sykept.F_eq (by kernel_rfl) (by kernel_rfl) (fun _ => rfl) (fun _ => ⟨rfl, rfl⟩) fun _ _ => ⟨rfl, rfl⟩
def syrun.sig : Eng.Sig := { args := [.at (.ptr 0 0), .agg [.roi .i64 0, .int .i64 0, .int .i64 1, .int .i64 2, .int .i64 3, .int .i64 4, .int .i64 5, .int .i64 6, .roi .i64 1]], n := 1, pre := [(0, .ints false .i64 2)], post := [(0, .ints false .i64 0), (1, .ints true .i64 1)], m := 1, ret := .tup [(false, [.full 1 false]), (false, [.int .i64 0])] }
def syrun.C (N : Nat) : Cfg := { P := Tryz.prog, N := N, RT := noRT, specs := [(126, sygood.spec), (123, fmul.spec), (127, sykept.spec)], inl := [], hi := 1, mv := [] }
abbrev syrun.R : Type := Int × List Int × List Int
def syrun.dec (L : Eng.Leaves) : syrun.R := (L.i 0, L.l 0, L.l 1)
def syrun.enc (r : syrun.R) : Eng.Leaves := mkL [r.1] [] [r.2.1, r.2.2] []
abbrev syrun.loop5.R : Type := List Int × List Int
def syrun.loop5.ann : Ann := { nx := 20, slots := [(0, .at (.ptr 0 0)), (3, .at (.ptr 1 0)), (6, .at (.full 2 false)), (23, .at (.froi .i64 0)), (24, .at (.fint .i64 0)), (25, .at (.int .i64 0))], blks := [(0, .ints false .i64 0), (1, .cells 9 [.froi .i64 1, .fint .i64 1, .fint .i64 2, .fint .i64 3, .fint .i64 4, .fint .i64 5, .fint .i64 6, .fint .i64 7, .froi .i64 2]), (2, .ints true .i64 1)], mov := [2], exId := 0, xslots := [(0, .at (.ptr 0 0)), (3, .at (.ptr 1 0)), (6, .at (.full 2 false))], xblks := [(0, .ints false .i64 0), (1, .cells 9 [.froi .i64 1, .fint .i64 1, .fint .i64 2, .fint .i64 3, .fint .i64 4, .fint .i64 5, .fint .i64 6, .fint .i64 7, .froi .i64 2]), (2, .ints true .i64 1)], T := syrun.loop5.R, dec := fun L => (L.l 0, L.l 1), enc := fun r => mkL [] [] [r.1, r.2] [], ret := false }
abbrev syrun.loop10.R : Type := Int
def syrun.loop10.ann : Ann := { nx := 20, slots := [(0, .at (.ptr 0 0)), (3, .at (.ptr 1 0)), (9, .at (.int .i64 0)), (37, .agg [.fint .i64 0, .fint .i64 1, .fint .i64 2, .fint .i64 3, .fint .i64 4]), (38, .at (.int .i64 1))], blks := [(0, .fints false .i64 0), (1, .cells 9 [.froi .i64 1, .fint .i64 5, .fint .i64 6, .fint .i64 7, .fint .i64 8, .fint .i64 9, .fint .i64 10, .fint .i64 11, .froi .i64 2])], mov := [], exId := 2, xslots := [(0, .at (.ptr 0 0)), (3, .at (.ptr 1 0)), (9, .at (.int .i64 0))], xblks := [(0, .fints false .i64 0), (1, .cells 9 [.froi .i64 1, .fint .i64 5, .fint .i64 6, .fint .i64 7, .fint .i64 8, .fint .i64 9, .fint .i64 10, .fint .i64 11, .froi .i64 2])], T := syrun.loop10.R, dec := fun L => (L.i 0), enc := fun r => mkL [r] [] [] [], ret := false }
abbrev syrun.loop17.R : Type := Int
def syrun.loop17.ann : Ann := { nx := 20, slots := [(0, .at (.ptr 0 0)), (12, .at (.int .i64 0)), (61, .at (.froi .i64 0)), (62, .at (.fint .i64 0)), (63, .at (.int .i64 1))], blks := [(0, .fints false .i64 1)], mov := [], exId := 4, xslots := [(0, .at (.ptr 0 0)), (12, .at (.int .i64 0))], xblks := [(0, .fints false .i64 1)], T := syrun.loop17.R, dec := fun L => (L.i 0), enc := fun r => mkL [r] [] [] [], ret := false }
def syrun.K (N : Nat) : FCfg := { anns := [(5, syrun.loop5.ann), (10, syrun.loop10.ann), (17, syrun.loop17.ann)], unr := [], lits := [], lets := [] }
def syrun.loop17 (N : Nat) : Nat → Int → List Int → List Int → Int → Int → Option syrun.loop17.R
  | 0, _, _, _, _, _ => none
  | nn + 1, s62, s61, v, s12, s63 =>
  (br (decide (s63 < s62))
  (chk ((0 : Int) ≤ s63 ∧ s63 < ↑s61.length)
  (chk (((0 : Int) ≤ s63 ∧ s63 < ↑(32 : Nat)) ∧ (352 : Nat) ≤ v.length)
  (obind (Rc.fmul.F N (s61.getD s63.toNat (0 : Int)) (v.getD ((320 : Nat) + s63.toNat) (0 : Int)) ((12 : Int))) fun r0 =>
  (chkL s61 s61
  (chkI s62 s62
  (chkL v v
  (syrun.loop17 N nn s62 s61 v (IntKind.i64.wrap (s12 + r0)) (IntKind.i64.wrap (s63 + (1 : Int))))))))))
  (chkL v v
  (some s12)))
def syrun.loop17R (N nn : Nat) (s62 : Int) (s61 v : List Int) (s12 s63 : Int) : Option syrun.loop17.R := loopF syrun.loop17.ann (mkL [s62] [] [s61, v] []) (evCode ((syrun.C N).inLoop syrun.loop17.ann) (syrun.K N) (inlTab (syrun.C N) 0) (bodyAt 17 Tryz.f66)) nn (mkL [s12, s63] [] [] [])
theorem syrun.loop17_eq (N : Nat) : ∀ nn, syrun.loop17R N nn = syrun.loop17 N nn
  | 0 => by funext; kernel_rfl
  | nn + 1 => by
    funext; rw [syrun.loop17, ← syrun.loop17_eq N nn]; kernel_rfl
def syrun.loop10 (N : Nat) : Nat → Int → Int → Int → Int → Int → Int → Int → Int → Int → Int → Int → Int → List Int → List Int → List Int → Int → Int → Option syrun.loop10.R
  | 0, _, _, _, _, _, _, _, _, _, _, _, _, _, _, _, _, _ => none
  | nn + 1, s37_0, s37_1, s37_2, s37_3, s37_4, c1_1, c1_2, c1_3, c1_4, c1_5, c1_6, c1_7, v, c1_0, c1_8, s9, s38 =>
  (br (decide (s38 < (5 : Int)))
  (chk ((0 : Int) ≤ s38 ∧ s38 < ↑(5 : Nat))
  (chk (((0 : Int) ≤ IntKind.i64.wrap (IntKind.i64.wrap (c1_2 - (3 : Int)) + s38) ∧ IntKind.i64.wrap (IntKind.i64.wrap (c1_2 - (3 : Int)) + s38) < ↑(320 : Nat)) ∧ (320 : Nat) ≤ v.length)
  (obind (Rc.fmul.F N ([s37_0, s37_1, s37_2, s37_3, s37_4].getD s38.toNat (0 : Int)) (v.getD ((0 : Nat) + (IntKind.i64.wrap (IntKind.i64.wrap (c1_2 - (3 : Int)) + s38)).toNat) (0 : Int)) ((7 : Int))) fun r0 =>
  (chkI s37_0 s37_0
  (chkI s37_1 s37_1
  (chkI s37_2 s37_2
  (chkI s37_3 s37_3
  (chkI s37_4 s37_4
  (chkL v v
  (chkL c1_0 c1_0
  (chkI c1_1 c1_1
  (chkI c1_2 c1_2
  (chkI c1_3 c1_3
  (chkI c1_4 c1_4
  (chkI c1_5 c1_5
  (chkI c1_6 c1_6
  (chkI c1_7 c1_7
  (chkL c1_8 c1_8
  (syrun.loop10 N nn s37_0 s37_1 s37_2 s37_3 s37_4 c1_1 c1_2 c1_3 c1_4 c1_5 c1_6 c1_7 v c1_0 c1_8 (IntKind.i64.wrap (s9 + r0)) (IntKind.i64.wrap (s38 + (1 : Int))))))))))))))))))))))
  (chkL v v
  (chkL c1_0 c1_0
  (chkI c1_1 c1_1
  (chkI c1_2 c1_2
  (chkI c1_3 c1_3
  (chkI c1_4 c1_4
  (chkI c1_5 c1_5
  (chkI c1_6 c1_6
  (chkI c1_7 c1_7
  (chkL c1_8 c1_8
  (some s9))))))))))))
def syrun.loop10R (N nn : Nat) (s37_0 s37_1 s37_2 s37_3 s37_4 c1_1 c1_2 c1_3 c1_4 c1_5 c1_6 c1_7 : Int) (v c1_0 c1_8 : List Int) (s9 s38 : Int) : Option syrun.loop10.R := loopF syrun.loop10.ann (mkL [s37_0, s37_1, s37_2, s37_3, s37_4, c1_1, c1_2, c1_3, c1_4, c1_5, c1_6, c1_7] [] [v, c1_0, c1_8] []) (evCode ((syrun.C N).inLoop syrun.loop10.ann) (syrun.K N) (inlTab (syrun.C N) 0) (bodyAt 10 Tryz.f66)) nn (mkL [s9, s38] [] [] [])
theorem syrun.loop10_eq (N : Nat) : ∀ nn, syrun.loop10R N nn = syrun.loop10 N nn
  | 0 => by funext; kernel_rfl
  | nn + 1 => by
    funext; rw [syrun.loop10, ← syrun.loop10_eq N nn]; kernel_rfl
def syrun.loop5 (N : Nat) : Nat → Int → Int → Int → Int → Int → Int → Int → Int → List Int → List Int → List Int → Int → List Int → List Int → Option syrun.loop5.R
  | 0, _, _, _, _, _, _, _, _, _, _, _, _, _, _ => none
  | nn + 1, s24, c1_1, c1_2, c1_3, c1_4, c1_5, c1_6, c1_7, s23, c1_0, c1_8, s25, v, l2 =>
  (br (decide (s25 < s24))
  (chk ((0 : Int) ≤ s25 ∧ s25 < ↑s23.length)
  (br (decide (c1_2 > (0 : Int)))
  (obind (syrun.loop10 N N c1_3 c1_4 c1_5 c1_6 c1_7 c1_1 c1_2 c1_3 c1_4 c1_5 c1_6 c1_7 v c1_0 c1_8 (IntKind.i64.wrap (s23.getD s25.toNat (0 : Int) * c1_1)) ((0 : Int))) fun r0 =>
  (obind (Rc.sykept.F N r0) fun r1 =>
  (obind (syrun.loop17 N N (↑c1_8.length) c1_8 v r1 ((0 : Int))) fun r2 =>
  (obind (Rc.sykept.F N r2) fun r3 =>
  (chk ((320 : Nat) ≤ v.length)
  (chk ((320 : Nat) ≤ v.length)
  (chk ((320 : Nat) ≤ v.length)
  (chk ((352 : Nat) ≤ (List.take (1 : Nat) v ++ (List.take (319 : Nat) (List.take (320 : Nat) (List.drop (0 : Nat) v)) ++ List.drop ((1 : Nat) + min (List.take (320 : Nat) (List.drop (0 : Nat) v)).length (319 : Nat)) v)).length)
  (chk ((352 : Nat) ≤ (List.take (1 : Nat) v ++ (List.take (319 : Nat) (List.take (320 : Nat) (List.drop (0 : Nat) v)) ++ List.drop ((1 : Nat) + min (List.take (320 : Nat) (List.drop (0 : Nat) v)).length (319 : Nat)) v)).length)
  (chk ((352 : Nat) ≤ (List.take (1 : Nat) v ++ (List.take (319 : Nat) (List.take (320 : Nat) (List.drop (0 : Nat) v)) ++ List.drop ((1 : Nat) + min (List.take (320 : Nat) (List.drop (0 : Nat) v)).length (319 : Nat)) v)).length)
  (chk (((0 : Int) ≤ (0 : Int) ∧ (0 : Int) < ↑(320 : Nat)) ∧ (320 : Nat) ≤ (List.take (321 : Nat) (List.take (1 : Nat) v ++ (List.take (319 : Nat) (List.take (320 : Nat) (List.drop (0 : Nat) v)) ++ List.drop ((1 : Nat) + min (List.take (320 : Nat) (List.drop (0 : Nat) v)).length (319 : Nat)) v)) ++ (List.take (31 : Nat) (List.take (32 : Nat) (List.drop (320 : Nat) (List.take (1 : Nat) v ++ (List.take (319 : Nat) (List.take (320 : Nat) (List.drop (0 : Nat) v)) ++ List.drop ((1 : Nat) + min (List.take (320 : Nat) (List.drop (0 : Nat) v)).length (319 : Nat)) v)))) ++ List.drop ((321 : Nat) + min (List.take (32 : Nat) (List.drop (320 : Nat) (List.take (1 : Nat) v ++ (List.take (319 : Nat) (List.take (320 : Nat) (List.drop (0 : Nat) v)) ++ List.drop ((1 : Nat) + min (List.take (320 : Nat) (List.drop (0 : Nat) v)).length (319 : Nat)) v)))).length (31 : Nat)) (List.take (1 : Nat) v ++ (List.take (319 : Nat) (List.take (320 : Nat) (List.drop (0 : Nat) v)) ++ List.drop ((1 : Nat) + min (List.take (320 : Nat) (List.drop (0 : Nat) v)).length (319 : Nat)) v)))).length)
  (chk (((0 : Int) ≤ (0 : Int) ∧ (0 : Int) < ↑(32 : Nat)) ∧ (352 : Nat) ≤ ((List.take (321 : Nat) (List.take (1 : Nat) v ++ (List.take (319 : Nat) (List.take (320 : Nat) (List.drop (0 : Nat) v)) ++ List.drop ((1 : Nat) + min (List.take (320 : Nat) (List.drop (0 : Nat) v)).length (319 : Nat)) v)) ++ (List.take (31 : Nat) (List.take (32 : Nat) (List.drop (320 : Nat) (List.take (1 : Nat) v ++ (List.take (319 : Nat) (List.take (320 : Nat) (List.drop (0 : Nat) v)) ++ List.drop ((1 : Nat) + min (List.take (320 : Nat) (List.drop (0 : Nat) v)).length (319 : Nat)) v)))) ++ List.drop ((321 : Nat) + min (List.take (32 : Nat) (List.drop (320 : Nat) (List.take (1 : Nat) v ++ (List.take (319 : Nat) (List.take (320 : Nat) (List.drop (0 : Nat) v)) ++ List.drop ((1 : Nat) + min (List.take (320 : Nat) (List.drop (0 : Nat) v)).length (319 : Nat)) v)))).length (31 : Nat)) (List.take (1 : Nat) v ++ (List.take (319 : Nat) (List.take (320 : Nat) (List.drop (0 : Nat) v)) ++ List.drop ((1 : Nat) + min (List.take (320 : Nat) (List.drop (0 : Nat) v)).length (319 : Nat)) v)))).set (0 : Nat) r1).length)
  (chk (l2.length + [r3].length ≤ (17592186043904 : Nat))
  (chkL s23 s23
  (chkI s24 s24
  (chkL c1_0 c1_0
  (chkI c1_1 c1_1
  (chkI c1_2 c1_2
  (chkI c1_3 c1_3
  (chkI c1_4 c1_4
  (chkI c1_5 c1_5
  (chkI c1_6 c1_6
  (chkI c1_7 c1_7
  (chkL c1_8 c1_8
  (syrun.loop5 N nn s24 c1_1 c1_2 c1_3 c1_4 c1_5 c1_6 c1_7 s23 c1_0 c1_8 (IntKind.i64.wrap (s25 + (1 : Int))) (((List.take (321 : Nat) (List.take (1 : Nat) v ++ (List.take (319 : Nat) (List.take (320 : Nat) (List.drop (0 : Nat) v)) ++ List.drop ((1 : Nat) + min (List.take (320 : Nat) (List.drop (0 : Nat) v)).length (319 : Nat)) v)) ++ (List.take (31 : Nat) (List.take (32 : Nat) (List.drop (320 : Nat) (List.take (1 : Nat) v ++ (List.take (319 : Nat) (List.take (320 : Nat) (List.drop (0 : Nat) v)) ++ List.drop ((1 : Nat) + min (List.take (320 : Nat) (List.drop (0 : Nat) v)).length (319 : Nat)) v)))) ++ List.drop ((321 : Nat) + min (List.take (32 : Nat) (List.drop (320 : Nat) (List.take (1 : Nat) v ++ (List.take (319 : Nat) (List.take (320 : Nat) (List.drop (0 : Nat) v)) ++ List.drop ((1 : Nat) + min (List.take (320 : Nat) (List.drop (0 : Nat) v)).length (319 : Nat)) v)))).length (31 : Nat)) (List.take (1 : Nat) v ++ (List.take (319 : Nat) (List.take (320 : Nat) (List.drop (0 : Nat) v)) ++ List.drop ((1 : Nat) + min (List.take (320 : Nat) (List.drop (0 : Nat) v)).length (319 : Nat)) v)))).set (0 : Nat) r1).set (320 : Nat) r3) (l2 ++ [r3]))))))))))))))))))))))))))
  (obind (Rc.sykept.F N (IntKind.i64.wrap (s23.getD s25.toNat (0 : Int) * c1_1))) fun r4 =>
  (obind (syrun.loop17 N N (↑c1_8.length) c1_8 v r4 ((0 : Int))) fun r5 =>
  (obind (Rc.sykept.F N r5) fun r6 =>
  (chk ((320 : Nat) ≤ v.length)
  (chk ((320 : Nat) ≤ v.length)
  (chk ((320 : Nat) ≤ v.length)
  (chk ((352 : Nat) ≤ (List.take (1 : Nat) v ++ (List.take (319 : Nat) (List.take (320 : Nat) (List.drop (0 : Nat) v)) ++ List.drop ((1 : Nat) + min (List.take (320 : Nat) (List.drop (0 : Nat) v)).length (319 : Nat)) v)).length)
  (chk ((352 : Nat) ≤ (List.take (1 : Nat) v ++ (List.take (319 : Nat) (List.take (320 : Nat) (List.drop (0 : Nat) v)) ++ List.drop ((1 : Nat) + min (List.take (320 : Nat) (List.drop (0 : Nat) v)).length (319 : Nat)) v)).length)
  (chk ((352 : Nat) ≤ (List.take (1 : Nat) v ++ (List.take (319 : Nat) (List.take (320 : Nat) (List.drop (0 : Nat) v)) ++ List.drop ((1 : Nat) + min (List.take (320 : Nat) (List.drop (0 : Nat) v)).length (319 : Nat)) v)).length)
  (chk (((0 : Int) ≤ (0 : Int) ∧ (0 : Int) < ↑(320 : Nat)) ∧ (320 : Nat) ≤ (List.take (321 : Nat) (List.take (1 : Nat) v ++ (List.take (319 : Nat) (List.take (320 : Nat) (List.drop (0 : Nat) v)) ++ List.drop ((1 : Nat) + min (List.take (320 : Nat) (List.drop (0 : Nat) v)).length (319 : Nat)) v)) ++ (List.take (31 : Nat) (List.take (32 : Nat) (List.drop (320 : Nat) (List.take (1 : Nat) v ++ (List.take (319 : Nat) (List.take (320 : Nat) (List.drop (0 : Nat) v)) ++ List.drop ((1 : Nat) + min (List.take (320 : Nat) (List.drop (0 : Nat) v)).length (319 : Nat)) v)))) ++ List.drop ((321 : Nat) + min (List.take (32 : Nat) (List.drop (320 : Nat) (List.take (1 : Nat) v ++ (List.take (319 : Nat) (List.take (320 : Nat) (List.drop (0 : Nat) v)) ++ List.drop ((1 : Nat) + min (List.take (320 : Nat) (List.drop (0 : Nat) v)).length (319 : Nat)) v)))).length (31 : Nat)) (List.take (1 : Nat) v ++ (List.take (319 : Nat) (List.take (320 : Nat) (List.drop (0 : Nat) v)) ++ List.drop ((1 : Nat) + min (List.take (320 : Nat) (List.drop (0 : Nat) v)).length (319 : Nat)) v)))).length)
  (chk (((0 : Int) ≤ (0 : Int) ∧ (0 : Int) < ↑(32 : Nat)) ∧ (352 : Nat) ≤ ((List.take (321 : Nat) (List.take (1 : Nat) v ++ (List.take (319 : Nat) (List.take (320 : Nat) (List.drop (0 : Nat) v)) ++ List.drop ((1 : Nat) + min (List.take (320 : Nat) (List.drop (0 : Nat) v)).length (319 : Nat)) v)) ++ (List.take (31 : Nat) (List.take (32 : Nat) (List.drop (320 : Nat) (List.take (1 : Nat) v ++ (List.take (319 : Nat) (List.take (320 : Nat) (List.drop (0 : Nat) v)) ++ List.drop ((1 : Nat) + min (List.take (320 : Nat) (List.drop (0 : Nat) v)).length (319 : Nat)) v)))) ++ List.drop ((321 : Nat) + min (List.take (32 : Nat) (List.drop (320 : Nat) (List.take (1 : Nat) v ++ (List.take (319 : Nat) (List.take (320 : Nat) (List.drop (0 : Nat) v)) ++ List.drop ((1 : Nat) + min (List.take (320 : Nat) (List.drop (0 : Nat) v)).length (319 : Nat)) v)))).length (31 : Nat)) (List.take (1 : Nat) v ++ (List.take (319 : Nat) (List.take (320 : Nat) (List.drop (0 : Nat) v)) ++ List.drop ((1 : Nat) + min (List.take (320 : Nat) (List.drop (0 : Nat) v)).length (319 : Nat)) v)))).set (0 : Nat) r4).length)
  (chk (l2.length + [r6].length ≤ (17592186043904 : Nat))
  (chkL s23 s23
  (chkI s24 s24
  (chkL c1_0 c1_0
  (chkI c1_1 c1_1
  (chkI c1_2 c1_2
  (chkI c1_3 c1_3
  (chkI c1_4 c1_4
  (chkI c1_5 c1_5
  (chkI c1_6 c1_6
  (chkI c1_7 c1_7
  (chkL c1_8 c1_8
  (syrun.loop5 N nn s24 c1_1 c1_2 c1_3 c1_4 c1_5 c1_6 c1_7 s23 c1_0 c1_8 (IntKind.i64.wrap (s25 + (1 : Int))) (((List.take (321 : Nat) (List.take (1 : Nat) v ++ (List.take (319 : Nat) (List.take (320 : Nat) (List.drop (0 : Nat) v)) ++ List.drop ((1 : Nat) + min (List.take (320 : Nat) (List.drop (0 : Nat) v)).length (319 : Nat)) v)) ++ (List.take (31 : Nat) (List.take (32 : Nat) (List.drop (320 : Nat) (List.take (1 : Nat) v ++ (List.take (319 : Nat) (List.take (320 : Nat) (List.drop (0 : Nat) v)) ++ List.drop ((1 : Nat) + min (List.take (320 : Nat) (List.drop (0 : Nat) v)).length (319 : Nat)) v)))) ++ List.drop ((321 : Nat) + min (List.take (32 : Nat) (List.drop (320 : Nat) (List.take (1 : Nat) v ++ (List.take (319 : Nat) (List.take (320 : Nat) (List.drop (0 : Nat) v)) ++ List.drop ((1 : Nat) + min (List.take (320 : Nat) (List.drop (0 : Nat) v)).length (319 : Nat)) v)))).length (31 : Nat)) (List.take (1 : Nat) v ++ (List.take (319 : Nat) (List.take (320 : Nat) (List.drop (0 : Nat) v)) ++ List.drop ((1 : Nat) + min (List.take (320 : Nat) (List.drop (0 : Nat) v)).length (319 : Nat)) v)))).set (0 : Nat) r4).set (320 : Nat) r6) (l2 ++ [r6])))))))))))))))))))))))))))
  (chkL c1_0 c1_0
  (chkI c1_1 c1_1
  (chkI c1_2 c1_2
  (chkI c1_3 c1_3
  (chkI c1_4 c1_4
  (chkI c1_5 c1_5
  (chkI c1_6 c1_6
  (chkI c1_7 c1_7
  (chkL c1_8 c1_8
  (some ((v, l2)))))))))))))
def syrun.loop5R (N nn : Nat) (s24 c1_1 c1_2 c1_3 c1_4 c1_5 c1_6 c1_7 : Int) (s23 c1_0 c1_8 : List Int) (s25 : Int) (v l2 : List Int) : Option syrun.loop5.R := loopF syrun.loop5.ann (mkL [s24, c1_1, c1_2, c1_3, c1_4, c1_5, c1_6, c1_7] [] [s23, c1_0, c1_8] []) (evCode ((syrun.C N).inLoop syrun.loop5.ann) (syrun.K N) (inlTab (syrun.C N) 0) (bodyAt 5 Tryz.f66)) nn (mkL [s25] [] [v, l2] [])
theorem syrun.loop5_eq (N : Nat) : ∀ nn, syrun.loop5R N nn = syrun.loop5 N nn
  | 0 => by funext; kernel_rfl
  | nn + 1 => by
    funext; rw [syrun.loop5, ← syrun.loop5_eq N nn, ← funext (syrun.loop10_eq N), ← funext (syrun.loop17_eq N)]; kernel_rfl
def syrun.F (N : Nat) (Loud Lag Taps0 Taps1 Taps2 Taps3 Taps4 : Int) (Pulses Filter v : List Int) : Option syrun.R :=
  (obind (Rc.sygood.F N Loud Lag Taps0 Taps1 Taps2 Taps3 Taps4 Pulses Filter) fun r0 =>
  (br (!r0)
  (some (((1 : Int), v, ([] : List Int))))
  (chk ((0 : Int) ≤ (0 : Int) ∧ (0 : Int) ≤ ↑Pulses.length ∧ (Pulses.length : Int) ≤ ↑(17592186043904 : Nat))
  (obind (syrun.loop5 N N (↑Pulses.length) Loud Lag Taps0 Taps1 Taps2 Taps3 Taps4 Pulses Pulses Filter ((0 : Int)) v (List.replicate (0 : Nat) (0 : Int))) fun r1 =>
  (some (((0 : Int), r1.1, r1.2)))))))
theorem syrun.F_eq (N : Nat) (L : Eng.Leaves) : evSig (syrun.C N) (syrun.K N) 0 Tryz.f66 syrun.sig L syrun.dec = syrun.F N (L.i 0) (L.i 1) (L.i 2) (L.i 3) (L.i 4) (L.i 5) (L.i 6) (L.l 0) (L.l 1) (L.l 2) := by
  rw [syrun.F, ← funext (syrun.loop5_eq N)]; kernel_rfl
def syrun.spec : Eng.Spec := syrun.sig.spec (fun N L => syrun.F N (L.i 0) (L.i 1) (L.i 2) (L.i 3) (L.i 4) (L.i 5) (L.i 6) (L.l 0) (L.l 1) (L.l 2)) syrun.enc
theorem syrun.cok (N : Nat) : CfgOK (syrun.C N) := cok0 wide ⟨sygood.ok, fmul.ok, sykept.ok, trivial⟩ (by kernel_rfl) rfl rfl rfl rfl
theorem syrun.aok (N : Nat) : AnnsOK (syrun.K N) := aok1 ⟨fun _ _ => ⟨rfl, rfl⟩, fun _ _ => ⟨rfl, rfl⟩, fun _ _ => ⟨rfl, rfl⟩, trivial⟩
theorem syrun.ok : CallOK Tryz.prog 66 syrun.spec := ok0 syrun.cok (fun _ => iok0 rfl) syrun.aok syrun.F_eq (by kernel_rfl) (by kernel_rfl) (fun _ => rfl) (fun _ => ⟨rfl, rfl⟩) fun _ _ => ⟨rfl, rfl⟩
def syreset.sig : Eng.Sig := { args := [.at (.ptr 0 0)], n := 1, pre := [(0, .ints false .i64 0)], post := [(0, .ints false .i64 0)], m := 0, ret := .at (.unk) }
def syreset.C (N : Nat) : Cfg := { P := Tryz.prog, N := N, RT := noRT, specs := [], inl := [], hi := 1, mv := [] }
abbrev syreset.R : Type := List Int
def syreset.dec (L : Eng.Leaves) : syreset.R := (L.l 0)
def syreset.enc (r : syreset.R) : Eng.Leaves := mkL [] [] [r] []
def syreset.K (N : Nat) : FCfg := { anns := [], unr := [], lits := [], lets := [] }
def syreset.F (N : Nat) (v : List Int) : Option syreset.R :=
  (chk ((352 : Nat) ≤ v.length)
  (some (List.take (0 : Nat) v ++ (List.replicate (352 : Nat) (0 : Int) ++ List.drop (352 : Nat) v))))
theorem syreset.F_eq (N : Nat) (L : Eng.Leaves) : evSig (syreset.C N) (syreset.K N) 0 Tryz.f98 syreset.sig L syreset.dec = syreset.F N (L.l 0) := by
  kernel_rfl
def syreset.spec : Eng.Spec := syreset.sig.spec (fun N L => syreset.F N (L.l 0)) syreset.enc
theorem syreset.cok (N : Nat) : CfgOK (syreset.C N) := cok0 wide trivial (by kernel_rfl) rfl rfl rfl rfl
theorem syreset.aok (N : Nat) : AnnsOK (syreset.K N) := aok1 trivial
theorem syreset.ok : CallOK Tryz.prog 98 syreset.spec := ok0 syreset.cok (fun _ => iok0 rfl) syreset.aok syreset.F_eq (by kernel_rfl) (by kernel_rfl) (fun _ => rfl) (fun _ => ⟨rfl, rfl⟩) fun _ _ => ⟨rfl, rfl⟩
def sycopy.sig : Eng.Sig := { args := [.at (.ptr 0 0)], n := 1, pre := [(0, .ints false .i64 0)], post := [(0, .fints false .i64 0), (1, .ints false .i64 0)], m := 1, ret := .at (.ptr 1 0) }
def sycopy.C (N : Nat) : Cfg := { P := Tryz.prog, N := N, RT := noRT, specs := [], inl := [], hi := 1, mv := [] }
abbrev sycopy.R : Type := List Int
def sycopy.dec (L : Eng.Leaves) : sycopy.R := (L.l 0)
def sycopy.enc (r : sycopy.R) : Eng.Leaves := mkL [] [] [r] []
def sycopy.K (N : Nat) : FCfg := { anns := [], unr := [], lits := [], lets := [] }
def sycopy.F (N : Nat) (v : List Int) : Option sycopy.R :=
  (chk ((0 : Nat) + (352 : Nat) ≤ v.length)
  (chk ((List.take (352 : Nat) (List.drop (0 : Nat) v)).length = (352 : Nat) ∧ (0 : Nat) + (List.take (352 : Nat) (List.drop (0 : Nat) v)).length ≤ (352 : Nat))
  (chkL v v
  (some (List.take (0 : Nat) (List.replicate (352 : Nat) (0 : Int)) ++ (List.take (352 : Nat) (List.drop (0 : Nat) v) ++ List.drop ((0 : Nat) + (List.take (352 : Nat) (List.drop (0 : Nat) v)).length) (List.replicate (352 : Nat) (0 : Int))))))))
theorem sycopy.F_eq (N : Nat) (L : Eng.Leaves) : evSig (sycopy.C N) (sycopy.K N) 0 Tryz.f97 sycopy.sig L sycopy.dec = sycopy.F N (L.l 0) := by
  kernel_rfl
def sycopy.spec : Eng.Spec := sycopy.sig.spec (fun N L => sycopy.F N (L.l 0)) sycopy.enc
theorem sycopy.cok (N : Nat) : CfgOK (sycopy.C N) := cok0 wide trivial (by kernel_rfl) rfl rfl rfl rfl
theorem sycopy.aok (N : Nat) : AnnsOK (sycopy.K N) := aok1 trivial
theorem sycopy.ok : CallOK Tryz.prog 97 sycopy.spec := ok0 sycopy.cok (fun _ => iok0 rfl) sycopy.aok sycopy.F_eq (by kernel_rfl) (by kernel_rfl) (fun _ => rfl) (fun _ => ⟨rfl, rfl⟩) fun _ _ => ⟨rfl, rfl⟩
def sysame.sig : Eng.Sig := { args := [.at (.ptr 0 0), .at (.ptr 1 0)], n := 2, pre := [(0, .ints false .i64 0), (1, .ints false .i64 1)], post := [(0, .fints false .i64 0), (1, .fints false .i64 1)], m := 0, ret := .at (.bool 0) }
def sysame.C (N : Nat) : Cfg := { P := Tryz.prog, N := N, RT := noRT, specs := [], inl := [], hi := 2, mv := [] }
abbrev sysame.R : Type := Bool
def sysame.dec (L : Eng.Leaves) : sysame.R := (L.b 0)
def sysame.enc (r : sysame.R) : Eng.Leaves := mkL [] [r] [] []
def sysame.K (N : Nat) : FCfg := { anns := [], unr := [], lits := [], lets := [] }
def sysame.F (N : Nat) (v w : List Int) : Option sysame.R :=
  (chk ((0 : Nat) + (352 : Nat) ≤ v.length)
  (chk ((0 : Nat) + (352 : Nat) ≤ w.length)
  (chk ((List.take (352 : Nat) (List.drop (0 : Nat) v)).length = (352 : Nat) ∧ (List.take (352 : Nat) (List.drop (0 : Nat) w)).length = (352 : Nat))
  (chkL v v
  (chkL w w
  (some (decide (List.take (320 : Nat) (List.drop (0 : Nat) (List.take (352 : Nat) (List.drop (0 : Nat) v))) = List.take (320 : Nat) (List.drop (0 : Nat) (List.take (352 : Nat) (List.drop (0 : Nat) w)))) && (decide (List.take (32 : Nat) (List.drop (320 : Nat) (List.take (352 : Nat) (List.drop (0 : Nat) v))) = List.take (32 : Nat) (List.drop (320 : Nat) (List.take (352 : Nat) (List.drop (0 : Nat) w)))) && true))))))))
theorem sysame.F_eq (N : Nat) (L : Eng.Leaves) : evSig (sysame.C N) (sysame.K N) 0 Tryz.f96 sysame.sig L sysame.dec = sysame.F N (L.l 0) (L.l 1) := by
  kernel_rfl
def sysame.spec : Eng.Spec := sysame.sig.spec (fun N L => sysame.F N (L.l 0) (L.l 1)) sysame.enc
theorem sysame.cok (N : Nat) : CfgOK (sysame.C N) := cok0 wide trivial (by kernel_rfl) rfl rfl rfl rfl
theorem sysame.aok (N : Nat) : AnnsOK (sysame.K N) := aok1 trivial
theorem sysame.ok : CallOK Tryz.prog 96 sysame.spec := ok0 sysame.cok (fun _ => iok0 rfl) sysame.aok sysame.F_eq (by kernel_rfl) (by kernel_rfl) (fun _ => rfl) (fun _ => ⟨rfl, rfl⟩) fun _ _ => ⟨rfl, rfl⟩
def synew.sig : Eng.Sig := { args := [], n := 0, pre := [], post := [(0, .ints false .i64 0)], m := 1, ret := .at (.ptr 0 0) }
def synew.C (N : Nat) : Cfg := { P := Tryz.prog, N := N, RT := noRT, specs := [], inl := [], hi := 0, mv := [] }
abbrev synew.R : Type := List Int
def synew.dec (L : Eng.Leaves) : synew.R := (L.l 0)
def synew.enc (r : synew.R) : Eng.Leaves := mkL [] [] [r] []
def synew.K (N : Nat) : FCfg := { anns := [], unr := [], lits := [], lets := [] }
def synew.F (N : Nat)  : Option synew.R :=
  (some (List.replicate (352 : Nat) (0 : Int)))
theorem synew.F_eq (N : Nat) (L : Eng.Leaves) : evSig (synew.C N) (synew.K N) 0 Tryz.f40 synew.sig L synew.dec = synew.F N  := by
  kernel_rfl
def synew.spec : Eng.Spec := synew.sig.spec (fun N L => synew.F N ) synew.enc
theorem synew.cok (N : Nat) : CfgOK (synew.C N) := cok0 wide trivial (by kernel_rfl) rfl rfl rfl rfl
theorem synew.aok (N : Nat) : AnnsOK (synew.K N) := aok1 trivial
theorem synew.ok : CallOK Tryz.prog 40 synew.spec := ok0 synew.cok (fun _ => iok0 rfl) synew.aok synew.F_eq (by kernel_rfl) (by kernel_rfl) (fun _ => rfl) (fun _ => ⟨rfl, rfl⟩) fun _ _ => ⟨rfl, rfl⟩
def sypcm.sig : Eng.Sig := { args := [.at (.roi .i64 0)], n := 0, pre := [], post := [(0, .ints true .i64 0)], m := 1, ret := .at (.full 0 false) }
def sypcm.C (N : Nat) : Cfg := { P := Tryz.prog, N := N, RT := noRT, specs := [(123, fmul.spec), (128, fsat.spec)], inl := [], hi := 0, mv := [] }
abbrev sypcm.R : Type := List Int
def sypcm.dec (L : Eng.Leaves) : sypcm.R := (L.l 0)
def sypcm.enc (r : sypcm.R) : Eng.Leaves := mkL [] [] [r] []
abbrev sypcm.loop3.R : Type := List Int
def sypcm.loop3.ann : Ann := { nx := 20, slots := [(3, .at (.full 0 true)), (9, .at (.froi .i64 0)), (10, .at (.fint .i64 0)), (11, .at (.int .i64 0))], blks := [(0, .ints true .i64 0)], mov := [], exId := 0, xslots := [(3, .at (.full 0 true))], xblks := [(0, .ints true .i64 0)], T := sypcm.loop3.R, dec := fun L => (L.l 0), enc := fun r => mkL [] [] [r] [], ret := false }
def sypcm.K (N : Nat) : FCfg := { anns := [(3, sypcm.loop3.ann)], unr := [], lits := [], lets := [] }
def sypcm.loop3 (N : Nat) : Nat → Int → List Int → Int → List Int → Option sypcm.loop3.R
  | 0, _, _, _, _ => none
  | nn + 1, s10, s9, s11, l0 =>
  (br (decide (s11 < s10))
  (chk ((0 : Int) ≤ s11 ∧ s11 < ↑s9.length)
  (obind (Rc.fmul.F N (s9.getD s11.toNat (0 : Int)) ((1 : Int)) ((4 : Int))) fun r0 =>
  (obind (Rc.fsat.F N r0) fun r1 =>
  (chk ((0 : Int) ≤ s11 ∧ s11 < ↑l0.length)
  (chkL s9 s9
  (chkI s10 s10
  (sypcm.loop3 N nn s10 s9 (IntKind.i64.wrap (s11 + (1 : Int))) (l0.set s11.toNat r1))))))))
  (some l0))
def sypcm.loop3R (N nn : Nat) (s10 : Int) (s9 : List Int) (s11 : Int) (l0 : List Int) : Option sypcm.loop3.R := loopF sypcm.loop3.ann (mkL [s10] [] [s9] []) (evCode ((sypcm.C N).inLoop sypcm.loop3.ann) (sypcm.K N) (inlTab (sypcm.C N) 0) (bodyAt 3 Tryz.f67)) nn (mkL [s11] [] [l0] [])
theorem sypcm.loop3_eq (N : Nat) : ∀ nn, sypcm.loop3R N nn = sypcm.loop3 N nn
  | 0 => by funext; kernel_rfl
  | nn + 1 => by
    funext; rw [sypcm.loop3, ← sypcm.loop3_eq N nn]; kernel_rfl
def sypcm.F (N : Nat) (l : List Int) : Option sypcm.R :=
  (chk ((0 : Int) ≤ ↑l.length ∧ (l.length : Int) ≤ ↑l.length ∧ (l.length : Int) ≤ ↑(17592186043904 : Nat))
  (obind (sypcm.loop3 N N (↑l.length) l ((0 : Int)) (List.replicate (↑l.length : Int).toNat (0 : Int))) fun r0 =>
  (some r0)))
theorem sypcm.F_eq (N : Nat) (L : Eng.Leaves) : evSig (sypcm.C N) (sypcm.K N) 0 Tryz.f67 sypcm.sig L sypcm.dec = sypcm.F N (L.l 0) := by
  rw [sypcm.F, ← funext (sypcm.loop3_eq N)]; kernel_rfl
def sypcm.spec : Eng.Spec := sypcm.sig.spec (fun N L => sypcm.F N (L.l 0)) sypcm.enc
theorem sypcm.cok (N : Nat) : CfgOK (sypcm.C N) := cok0 wide ⟨fmul.ok, fsat.ok, trivial⟩ (by kernel_rfl) rfl rfl rfl rfl
theorem sypcm.aok (N : Nat) : AnnsOK (sypcm.K N) := aok1 ⟨fun _ _ => ⟨rfl, rfl⟩, trivial⟩
theorem sypcm.ok : CallOK Tryz.prog 67 sypcm.spec := ok0 sypcm.cok (fun _ => iok0 rfl) sypcm.aok sypcm.F_eq (by kernel_rfl) (by kernel_rfl) (fun _ => rfl) (fun _ => ⟨rfl, rfl⟩) fun _ _ => ⟨rfl, rfl⟩
end
end Go.Proofs.Rc
