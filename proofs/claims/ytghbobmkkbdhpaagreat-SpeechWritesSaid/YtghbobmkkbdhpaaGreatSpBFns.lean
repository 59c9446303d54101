/-
 Functions of the program: what each comes to, and its contract (written by a program).
 Conditions: none: each contract is proved for every input of its shape.
-/
import Derived.Test.YtghbobmkkbdhpaaGreatEngLoopToEngRow3
import Derived.Laws.Externs
import Derived.Test.YtghbobmkkbdhpaaGreatProg
import Derived.Test.YtghbobmkkbdhpaaGreatSpAFns
set_option linter.unusedVariables false
set_option linter.unusedSimpArgs false
namespace Go.Proofs.Rc
noncomputable section
open Go.Eng Go.IntKind
set_option maxRecDepth 100000
def torder.sig : Eng.Sig := { args := [.at (.int .i64 0)],ret := .at (.int .i64 0) }
def torder.C (N : Nat) : Cfg := { P := Tryz.prog,N := N,RT := noRT,specs := [] }
abbrev torder.R : Type := Int
def torder.dec (L : Eng.Leaves) : torder.R := (L.i 0)
def torder.enc (r : torder.R) : Eng.Leaves := mkL [r] [] [] []
def torder.K (N : Nat) : FCfg := {}
def torder.F (N : Nat) (a : Int) : Option torder.R :=
 (br (a == 8000)
 (some ((10 : Int)))
 (br (a == 16000)
 (some ((16 : Int)))
 (some ((0 : Int)))))
noncomputable def torder.spec : Eng.Spec := torder.sig.spec (fun N L => torder.F N (L.i 0)) torder.enc
theorem torder.ok : CallOK Tryz.prog 34 torder.spec := ok2 torder.C torder.K Tryz.f34 torder.dec (fun _ => trivial) (fun _ => trivial)
def tlsf.sig : Eng.Sig := { args := [.at (.int .i64 0),.at (.int .i64 1)],post := [(0,.ints true .i64 0)],m := 1,ret := .at (.full 0 false) }
def tlsf.C (N : Nat) : Cfg := { P := Tryz.prog,N := N,RT := noRT,specs := [] }
abbrev tlsf.R : Type := List Int
def tlsf.dec (L : Eng.Leaves) : tlsf.R := (L.l 0)
def tlsf.enc (r : tlsf.R) : Eng.Leaves := mkL [] [] [r] []
abbrev tlsf.loop8.R : Type := List Int
def tlsf.loop8.ann : Ann := { nx := 20,slots := [(0,.at (.fint .i64 0)),(1,.at (.fint .i64 1)),(5,.at (.fint .i64 2)),(6,.at (.full 0 true)),(27,.at (.fint .i64 3)),(28,.at (.int .i64 0))],blks := [(0,.ints true .i64 0)],xslots := [(6,.at (.full 0 true))],xblks := [(0,.ints true .i64 0)],T := tlsf.loop8.R,dec := fun L => (L.l 0),enc := fun r => mkL [] [] [r] [] }
def tlsf.K (N : Nat) : FCfg := { anns := [(8,tlsf.loop8.ann)] }
def tlsf.loop8 (N : Nat) : Nat -> Int -> Int -> Int -> Int -> Int -> List Int -> Option tlsf.loop8.R
 | 0,_,_,_,_,_,_ => none
 | nn + 1,a,i,d,c,b,e =>
 (br (decide (b < c))
 (chk (i64.wrap (a + 1) ≠ 0)
 (chk ((0 : Int) <= b /\ b < ↑e.length)
 (chkI a a
 (chkI i i
 (chkI d d
 (chkI c c
 (tlsf.loop8 N nn a i d c (i64.wrap (b + 1)) (e.set b.toNat (i64.wrap (i64.wrap ((i64.wrap (32768 * i64.wrap (b + (1 : Int)))).tdiv (i64.wrap (a + 1))) + i64.wrap (d * i64.wrap ((i64.wrap (i64.wrap (37 * i) + i64.wrap (53 * b))).tmod (64 : Int) - (32 : Int)))))))))))))
 (some e))
def tlsf.loop8R (N nn : Nat) (a i d b : Int) (c : Int) (e : List Int) : Option tlsf.loop8.R := loopF tlsf.loop8.ann (mkL [a,i,d,b] [] [] []) (evCode ((tlsf.C N).inLoop tlsf.loop8.ann) (tlsf.K N) (inlTab (tlsf.C N) 0) (bodyAt 8 Tryz.f116)) nn (mkL [c] [] [e] [])
theorem tlsf.loop8_eq (N : Nat) : ∀ nn,tlsf.loop8R N nn = tlsf.loop8 N nn := lq fun _ h => by funext; rw [tlsf.loop8,<- h]; kernel_rfl
def tlsf.F (N : Nat) (a i : Int) : Option tlsf.R :=
 (br (a != 10)
 (br (a != 16)
 (some (([] : List Int)))
 (br (decide (i < 0))
 (some (([] : List Int)))
 (br (decide (i >= 16))
 (some (([] : List Int)))
 (br (a == 16)
 (chk ((0 : Int) <= a /\ a <= a /\ a <= ↑(17592186043904 : Nat))
 (obind (tlsf.loop8 N N a i ((14 : Int)) (↑(List.replicate a.toNat (0 : Int)).length) ((0 : Int)) (List.replicate a.toNat (0 : Int))) fun r0 =>
 (some r0)))
 (chk ((0 : Int) <= a /\ a <= a /\ a <= ↑(17592186043904 : Nat))
 (obind (tlsf.loop8 N N a i ((24 : Int)) (↑(List.replicate a.toNat (0 : Int)).length) ((0 : Int)) (List.replicate a.toNat (0 : Int))) fun r1 =>
 (some r1)))))))
 (br (decide (i < 0))
 (some (([] : List Int)))
 (br (decide (i >= 16))
 (some (([] : List Int)))
 (br (a == 16)
 (chk ((0 : Int) <= a /\ a <= a /\ a <= ↑(17592186043904 : Nat))
 (obind (tlsf.loop8 N N a i ((14 : Int)) (↑(List.replicate a.toNat (0 : Int)).length) ((0 : Int)) (List.replicate a.toNat (0 : Int))) fun r2 =>
 (some r2)))
 (chk ((0 : Int) <= a /\ a <= a /\ a <= ↑(17592186043904 : Nat))
 (obind (tlsf.loop8 N N a i ((24 : Int)) (↑(List.replicate a.toNat (0 : Int)).length) ((0 : Int)) (List.replicate a.toNat (0 : Int))) fun r3 =>
 (some r3)))))))
noncomputable def tlsf.spec : Eng.Spec := tlsf.sig.spec (fun N L => tlsf.F N (L.i 0) (L.i 1)) tlsf.enc
theorem tlsf.ok : CallOK Tryz.prog 116 tlsf.spec := ok2 tlsf.C tlsf.K Tryz.f116 tlsf.dec (fun _ => trivial) (fun _ => ⟨fun _ _ => ⟨rfl,rfl⟩,trivial⟩) (by intro N L; show _ = tlsf.F N (L.i 0) (L.i 1); rw [tlsf.F,<- funext (tlsf.loop8_eq N)]; kernel_rfl)
def ttaps.sig : Eng.Sig := { args := [.at (.int .i64 0)],ret := .agg [.int .i64 0,.int .i64 1,.int .i64 2,.int .i64 3,.int .i64 4] }
def ttaps.C (N : Nat) : Cfg := { P := Tryz.prog,N := N,RT := noRT,specs := [] }
abbrev ttaps.R : Type := Int × Int × Int × Int × Int
def ttaps.dec (L : Eng.Leaves) : ttaps.R := (L.i 0,L.i 1,L.i 2,L.i 3,L.i 4)
def ttaps.enc (r : ttaps.R) : Eng.Leaves := mkL [r.1,r.2.1,r.2.2.1,r.2.2.2.1,r.2.2.2.2] [] [] []
def ttaps.K (N : Nat) : FCfg := {}
def ttaps.F (N : Nat) (i : Int) : Option ttaps.R :=
 (br (i == 0)
 (some (((13 : Int),22,39,23,12)))
 (br (i == 1)
 (some (((-1 : Int),36,64,27,(-6))))
 (br (i == 2)
 (some (((4 : Int),6,24,7,5)))
 (br (i == 3)
 (some (((-2 : Int),6,118,7,(-3))))
 (br (i == 4)
 (some (((2 : Int),10,70,15,0)))
 (br (i == 5)
 (some (((-9 : Int),30,80,34,(-10))))
 (br (i == 6)
 (some (((0 : Int),0,96,0,0)))
 (br (i == 7)
 (some (((5 : Int),29,50,29,5)))
 (some (((0 : Int),0,0,0,0)))))))))))
noncomputable def ttaps.spec : Eng.Spec := ttaps.sig.spec (fun N L => ttaps.F N (L.i 0)) ttaps.enc
theorem ttaps.ok : CallOK Tryz.prog 65 ttaps.spec := ok2 ttaps.C ttaps.K Tryz.f65 ttaps.dec (fun _ => trivial) (fun _ => trivial)
def fseries.sig : Eng.Sig := { args := [.at (.int .i64 0),.at (.roi .i64 0)],ret := .at (.int .i64 0) }
def fseries.C (N : Nat) : Cfg := { P := Tryz.prog,N := N,RT := noRT,specs := [(123,fmul.spec)] }
abbrev fseries.R : Type := Int
def fseries.dec (L : Eng.Leaves) : fseries.R := (L.i 0)
def fseries.enc (r : fseries.R) : Eng.Leaves := mkL [r] [] [] []
abbrev fseries.loop3.R : Type := Int
def fseries.loop3.ann : Ann := { nx := 20,slots := [(0,.at (.fint .i64 0)),(5,.at (.int .i64 0)),(12,.at (.froi .i64 0)),(13,.at (.fint .i64 1)),(14,.at (.int .i64 1))],xslots := [(5,.at (.int .i64 0))],T := fseries.loop3.R,dec := fun L => (L.i 0),enc := fun r => mkL [r] [] [] [] }
def fseries.K (N : Nat) : FCfg := { anns := [(3,fseries.loop3.ann)] }
def fseries.loop3 (N : Nat) : Nat -> Int -> Int -> List Int -> Int -> Int -> Option fseries.loop3.R
 | 0,_,_,_,_,_ => none
 | nn + 1,x,c,a,d,b =>
 (br (decide (b < c))
 (chk ((0 : Int) <= b /\ b < ↑a.length)
 (obind (Rc.fmul.F N x d (30)) fun r0 =>
 (chkI x x
 (chkL a a
 (chkI c c
 (fseries.loop3 N nn x c a (i64.wrap (a.getD b.toNat 0 + r0)) (i64.wrap (b + 1))))))))
 (some d))
def fseries.loop3R (N nn : Nat) (x a : Int) (b : List Int) (d c : Int) : Option fseries.loop3.R := loopF fseries.loop3.ann (mkL [x,a] [] [b] []) (evCode ((fseries.C N).inLoop fseries.loop3.ann) (fseries.K N) (inlTab (fseries.C N) 0) (bodyAt 3 Tryz.f153)) nn (mkL [d,c] [] [] [])
theorem fseries.loop3_eq (N : Nat) : ∀ nn,fseries.loop3R N nn = fseries.loop3 N nn := lq fun _ h => by funext; rw [fseries.loop3,<- h]; kernel_rfl
def fseries.F (N : Nat) (x : Int) (a : List Int) : Option fseries.R :=
 (chk ((0 : Int) <= (0 : Int) /\ (0 : Int) < ↑a.length)
 (chk ((0 : Int) <= (1 : Int) /\ (1 : Int) <= ↑a.length)
 (obind (fseries.loop3 N N x (↑(List.take (a.length - (1 : Nat)) (List.drop (1 : Nat) a)).length) (List.take (a.length - (1 : Nat)) (List.drop (1 : Nat) a)) (a.getD (0 : Nat) (0 : Int)) ((0 : Int))) fun r0 =>
 (some r0))))
noncomputable def fseries.spec : Eng.Spec := fseries.sig.spec (fun N L => fseries.F N (L.i 0) (L.l 0)) fseries.enc
theorem fseries.ok : CallOK Tryz.prog 153 fseries.spec := ok2 fseries.C fseries.K Tryz.f153 fseries.dec (fun _ => ⟨fmul.ok,trivial⟩) (fun _ => ⟨fun _ _ => ⟨rfl,rfl⟩,trivial⟩) (by intro N L; show _ = fseries.F N (L.i 0) (L.l 0); rw [fseries.F,<- funext (fseries.loop3_eq N)]; kernel_rfl)
def fcos.sig : Eng.Sig := { args := [.at (.int .i64 0)],ret := .at (.int .i64 0) }
def fcos.C (N : Nat) : Cfg := { P := Tryz.prog,N := N,RT := noRT,specs := [(123,fmul.spec),(153,fseries.spec)] }
abbrev fcos.R : Type := Int
def fcos.dec (L : Eng.Leaves) : fcos.R := (L.i 0)
def fcos.enc (r : fcos.R) : Eng.Leaves := mkL [r] [] [] []
def fcos.K (N : Nat) : FCfg := {}
def fcos.F (N : Nat) (a : Int) : Option fcos.R :=
 (br (decide (i64.wrap ↑(BitVec.ofInt (64 : Nat) a &&& BitVec.ofInt (64 : Nat) (65535 : Int)).toNat > (32768 : Int)))
 (br (decide (i64.wrap ((65536 : Int) - i64.wrap ↑(BitVec.ofInt (64 : Nat) a &&& BitVec.ofInt (64 : Nat) (65535 : Int)).toNat) > (16384 : Int)))
 (br (decide (i64.wrap ((32768 : Int) - i64.wrap ((65536 : Int) - i64.wrap ↑(BitVec.ofInt (64 : Nat) a &&& BitVec.ofInt (64 : Nat) (65535 : Int)).toNat)) <= (8192 : Int)))
 (obind (Rc.fmul.F N (i64.wrap ((32768 : Int) - i64.wrap ((65536 : Int) - i64.wrap ↑(BitVec.ofInt (64 : Nat) a &&& BitVec.ofInt (64 : Nat) (65535 : Int)).toNat))) ((1686629713 : Int)) ((14 : Int))) fun r0 =>
 (obind (Rc.fmul.F N r0 r0 (30)) fun r1 =>
 (obind (Rc.fseries.F N r1 ([(-296 : Int),26631,(-1491308),44739243,(-536870912),1073741824])) fun r2 =>
 (obind (Rc.fmul.F N r2 (1) (15)) fun r3 =>
 (br (decide (i64.wrap ((65536 : Int) - i64.wrap ↑(BitVec.ofInt (64 : Nat) a &&& BitVec.ofInt (64 : Nat) (65535 : Int)).toNat) > (16384 : Int)))
 (some (i64.wrap (0 - r3)))
 (some r3))))))
 (obind (Rc.fmul.F N (i64.wrap ((16384 : Int) - i64.wrap ((32768 : Int) - i64.wrap ((65536 : Int) - i64.wrap ↑(BitVec.ofInt (64 : Nat) a &&& BitVec.ofInt (64 : Nat) (65535 : Int)).toNat)))) ((1686629713 : Int)) ((14 : Int))) fun r4 =>
 (obind (Rc.fmul.F N r4 r4 (30)) fun r5 =>
 (obind (Rc.fseries.F N r5 ([(2959 : Int),(-213044),8947849,(-178956971),1073741824])) fun r6 =>
 (obind (Rc.fmul.F N r4 r6 (30)) fun r7 =>
 (obind (Rc.fmul.F N r7 (1) (15)) fun r8 =>
 (br (decide (i64.wrap ((65536 : Int) - i64.wrap ↑(BitVec.ofInt (64 : Nat) a &&& BitVec.ofInt (64 : Nat) (65535 : Int)).toNat) > (16384 : Int)))
 (some (i64.wrap (0 - r8)))
 (some r8))))))))
 (br (decide (i64.wrap ((65536 : Int) - i64.wrap ↑(BitVec.ofInt (64 : Nat) a &&& BitVec.ofInt (64 : Nat) (65535 : Int)).toNat) <= (8192 : Int)))
 (obind (Rc.fmul.F N (i64.wrap ((65536 : Int) - i64.wrap ↑(BitVec.ofInt (64 : Nat) a &&& BitVec.ofInt (64 : Nat) (65535 : Int)).toNat)) ((1686629713 : Int)) ((14 : Int))) fun r9 =>
 (obind (Rc.fmul.F N r9 r9 (30)) fun r10 =>
 (obind (Rc.fseries.F N r10 ([(-296 : Int),26631,(-1491308),44739243,(-536870912),1073741824])) fun r11 =>
 (obind (Rc.fmul.F N r11 (1) (15)) fun r12 =>
 (br (decide (i64.wrap ((65536 : Int) - i64.wrap ↑(BitVec.ofInt (64 : Nat) a &&& BitVec.ofInt (64 : Nat) (65535 : Int)).toNat) > (16384 : Int)))
 (some (i64.wrap (0 - r12)))
 (some r12))))))
 (obind (Rc.fmul.F N (i64.wrap ((16384 : Int) - i64.wrap ((65536 : Int) - i64.wrap ↑(BitVec.ofInt (64 : Nat) a &&& BitVec.ofInt (64 : Nat) (65535 : Int)).toNat))) ((1686629713 : Int)) ((14 : Int))) fun r13 =>
 (obind (Rc.fmul.F N r13 r13 (30)) fun r14 =>
 (obind (Rc.fseries.F N r14 ([(2959 : Int),(-213044),8947849,(-178956971),1073741824])) fun r15 =>
 (obind (Rc.fmul.F N r13 r15 (30)) fun r16 =>
 (obind (Rc.fmul.F N r16 (1) (15)) fun r17 =>
 (br (decide (i64.wrap ((65536 : Int) - i64.wrap ↑(BitVec.ofInt (64 : Nat) a &&& BitVec.ofInt (64 : Nat) (65535 : Int)).toNat) > (16384 : Int)))
 (some (i64.wrap (0 - r17)))
 (some r17)))))))))
 (br (decide (i64.wrap ↑(BitVec.ofInt (64 : Nat) a &&& BitVec.ofInt (64 : Nat) (65535 : Int)).toNat > (16384 : Int)))
 (br (decide (i64.wrap ((32768 : Int) - i64.wrap ↑(BitVec.ofInt (64 : Nat) a &&& BitVec.ofInt (64 : Nat) (65535 : Int)).toNat) <= (8192 : Int)))
 (obind (Rc.fmul.F N (i64.wrap ((32768 : Int) - i64.wrap ↑(BitVec.ofInt (64 : Nat) a &&& BitVec.ofInt (64 : Nat) (65535 : Int)).toNat)) ((1686629713 : Int)) ((14 : Int))) fun r18 =>
 (obind (Rc.fmul.F N r18 r18 (30)) fun r19 =>
 (obind (Rc.fseries.F N r19 ([(-296 : Int),26631,(-1491308),44739243,(-536870912),1073741824])) fun r20 =>
 (obind (Rc.fmul.F N r20 (1) (15)) fun r21 =>
 (br (decide (i64.wrap ↑(BitVec.ofInt (64 : Nat) a &&& BitVec.ofInt (64 : Nat) (65535 : Int)).toNat > (16384 : Int)))
 (some (i64.wrap (0 - r21)))
 (some r21))))))
 (obind (Rc.fmul.F N (i64.wrap ((16384 : Int) - i64.wrap ((32768 : Int) - i64.wrap ↑(BitVec.ofInt (64 : Nat) a &&& BitVec.ofInt (64 : Nat) (65535 : Int)).toNat))) ((1686629713 : Int)) ((14 : Int))) fun r22 =>
 (obind (Rc.fmul.F N r22 r22 (30)) fun r23 =>
 (obind (Rc.fseries.F N r23 ([(2959 : Int),(-213044),8947849,(-178956971),1073741824])) fun r24 =>
 (obind (Rc.fmul.F N r22 r24 (30)) fun r25 =>
 (obind (Rc.fmul.F N r25 (1) (15)) fun r26 =>
 (br (decide (i64.wrap ↑(BitVec.ofInt (64 : Nat) a &&& BitVec.ofInt (64 : Nat) (65535 : Int)).toNat > (16384 : Int)))
 (some (i64.wrap (0 - r26)))
 (some r26))))))))
 (br (decide (i64.wrap ↑(BitVec.ofInt (64 : Nat) a &&& BitVec.ofInt (64 : Nat) (65535 : Int)).toNat <= (8192 : Int)))
 (obind (Rc.fmul.F N (i64.wrap ↑(BitVec.ofInt (64 : Nat) a &&& BitVec.ofInt (64 : Nat) (65535 : Int)).toNat) ((1686629713 : Int)) ((14 : Int))) fun r27 =>
 (obind (Rc.fmul.F N r27 r27 (30)) fun r28 =>
 (obind (Rc.fseries.F N r28 ([(-296 : Int),26631,(-1491308),44739243,(-536870912),1073741824])) fun r29 =>
 (obind (Rc.fmul.F N r29 (1) (15)) fun r30 =>
 (br (decide (i64.wrap ↑(BitVec.ofInt (64 : Nat) a &&& BitVec.ofInt (64 : Nat) (65535 : Int)).toNat > (16384 : Int)))
 (some (i64.wrap (0 - r30)))
 (some r30))))))
 (obind (Rc.fmul.F N (i64.wrap ((16384 : Int) - i64.wrap ↑(BitVec.ofInt (64 : Nat) a &&& BitVec.ofInt (64 : Nat) (65535 : Int)).toNat)) ((1686629713 : Int)) ((14 : Int))) fun r31 =>
 (obind (Rc.fmul.F N r31 r31 (30)) fun r32 =>
 (obind (Rc.fseries.F N r32 ([(2959 : Int),(-213044),8947849,(-178956971),1073741824])) fun r33 =>
 (obind (Rc.fmul.F N r31 r33 (30)) fun r34 =>
 (obind (Rc.fmul.F N r34 (1) (15)) fun r35 =>
 (br (decide (i64.wrap ↑(BitVec.ofInt (64 : Nat) a &&& BitVec.ofInt (64 : Nat) (65535 : Int)).toNat > (16384 : Int)))
 (some (i64.wrap (0 - r35)))
 (some r35))))))))))
noncomputable def fcos.spec : Eng.Spec := fcos.sig.spec (fun N L => fcos.F N (L.i 0)) fcos.enc
theorem fcos.ok : CallOK Tryz.prog 120 fcos.spec := ok2 fcos.C fcos.K Tryz.f120 fcos.dec (fun _ => ⟨fmul.ok,fseries.ok,trivial⟩) (fun _ => trivial)
def fdiv.sig : Eng.Sig := { args := [.at (.int .i64 0),.at (.int .i64 1),.at (.int .i64 2)],ret := .at (.int .i64 0) }
def fdiv.C (N : Nat) : Cfg := { P := Tryz.prog,N := N,RT := noRT,specs := [(154,factor.spec)] }
abbrev fdiv.R : Type := Int
def fdiv.dec (L : Eng.Leaves) : fdiv.R := (L.i 0)
def fdiv.enc (r : fdiv.R) : Eng.Leaves := mkL [r] [] [] []
def fdiv.K (N : Nat) : FCfg := {}
def fdiv.F (N : Nat) (a b s : Int) : Option fdiv.R :=
 (obind (Rc.factor.F N a) fun r0 =>
 (obind (Rc.factor.F N b) fun r1 =>
 (br (r1 == 0)
 (some ((0 : Int)))
 (br (decide (s < 0))
 (some ((0 : Int)))
 (br (decide (s > 30))
 (some ((0 : Int)))
 (chk (0 <= s)
 (chk (r1 ≠ 0)
 (chk (r1 ≠ 0)
 (br ((i64.wrap (r0 * (2 : Int) ^ min s.toNat (64 : Nat))).tmod r1 != 0)
 (br (!decide (i64.wrap (r0 * (2 : Int) ^ min s.toNat 64) < 0) == decide (r1 < 0))
 (some (i64.wrap (i64.wrap ((i64.wrap (r0 * (2 : Int) ^ min s.toNat (64 : Nat))).tdiv r1) - 1)))
 (some (i64.wrap ((i64.wrap (r0 * (2 : Int) ^ min s.toNat (64 : Nat))).tdiv r1))))
 (some (i64.wrap ((i64.wrap (r0 * (2 : Int) ^ min s.toNat (64 : Nat))).tdiv r1))))))))))))
noncomputable def fdiv.spec : Eng.Spec := fdiv.sig.spec (fun N L => fdiv.F N (L.i 0) (L.i 1) (L.i 2)) fdiv.enc
theorem fdiv.ok : CallOK Tryz.prog 163 fdiv.spec := ok2 fdiv.C fdiv.K Tryz.f163 fdiv.dec (fun _ => ⟨factor.ok,trivial⟩) (fun _ => trivial)
def fsat.sig : Eng.Sig := { args := [.at (.int .i64 0)],ret := .at (.int .i64 0) }
def fsat.C (N : Nat) : Cfg := { P := Tryz.prog,N := N,RT := noRT,specs := [(121,clamp.spec)] }
abbrev fsat.R : Type := Int
def fsat.dec (L : Eng.Leaves) : fsat.R := (L.i 0)
def fsat.enc (r : fsat.R) : Eng.Leaves := mkL [r] [] [] []
def fsat.K (N : Nat) : FCfg := {}
def fsat.F (N : Nat) (v : Int) : Option fsat.R :=
 (obind (Rc.clamp.F N v ((-32768)) (32767)) fun r0 =>
 (some r0))
noncomputable def fsat.spec : Eng.Spec := fsat.sig.spec (fun N L => fsat.F N (L.i 0)) fsat.enc
theorem fsat.ok : CallOK Tryz.prog 128 fsat.spec := ok2 fsat.C fsat.K Tryz.f128 fsat.dec (fun _ => ⟨clamp.ok,trivial⟩) (fun _ => trivial)
def lunit.sig : Eng.Sig := { args := [.at (.int .i64 0)],ret := .at (.int .i64 0) }
def lunit.C (N : Nat) : Cfg := { P := Tryz.prog,N := N,RT := noRT,specs := [] }
abbrev lunit.R : Type := Int
def lunit.dec (L : Eng.Leaves) : lunit.R := (L.i 0)
def lunit.enc (r : lunit.R) : Eng.Leaves := mkL [r] [] [] []
def lunit.K (N : Nat) : FCfg := {}
def lunit.F (N : Nat) (a : Int) : Option lunit.R :=
 (br (a == 10)
 (some ((400 : Int)))
 (br (a == 16)
 (some ((250 : Int)))
 (some ((0 : Int)))))
noncomputable def lunit.spec : Eng.Spec := lunit.sig.spec (fun N L => lunit.F N (L.i 0)) lunit.enc
theorem lunit.ok : CallOK Tryz.prog 117 lunit.spec := ok2 lunit.C lunit.K Tryz.f117 lunit.dec (fun _ => trivial) (fun _ => trivial)
def lgood.sig : Eng.Sig := { args := [.at (.int .i64 0),.agg [.int .i64 1,.roi .i64 0]],ret := .at (.bool 0) }
def lgood.C (N : Nat) : Cfg := { P := Tryz.prog,N := N,RT := noRT,specs := [(117,lunit.spec)] }
abbrev lgood.R : Type := Bool
def lgood.dec (L : Eng.Leaves) : lgood.R := (L.b 0)
def lgood.enc (r : lgood.R) : Eng.Leaves := mkL [] [r] [] []
abbrev lgood.loop4.R : Type := Bool
def lgood.loop4.ann : Ann := { nx := 20,slots := [(4,.at (.bool 0)),(28,.at (.froi .i64 0)),(29,.at (.fint .i64 0)),(30,.at (.int .i64 0))],xslots := [(4,.at (.bool 0))],T := lgood.loop4.R,dec := fun L => (L.b 0),enc := fun r => mkL [] [r] [] [],ret := true }
def lgood.K (N : Nat) : FCfg := { anns := [(4,lgood.loop4.ann)] }
def lgood.loop4 (N : Nat) : Nat -> Int -> Int -> List Int -> Int -> List Int -> Int -> Bool -> Option (lgood.loop4.R ⊕ lgood.R)
 | 0,_,_,_,_,_,_,_ => none
 | nn + 1,c,d,e,f,a,b,g =>
 (br (decide (b < f))
 (chk ((0 : Int) <= b /\ b < ↑a.length)
 (br (decide (a.getD b.toNat (0 : Int) < (-4 : Int)))
 (omap
 (some false) .inr)
 (br (decide (a.getD b.toNat (0 : Int) > (4 : Int)))
 (omap
 (some false) .inr)
 (chkL a a
 (chkI f f
 (lgood.loop4 N nn c d e f a (i64.wrap (b + 1)) g))))))
 (some (Sum.inl g)))
def lgood.loop4R (N nn : Nat) (a c : Int) (d : List Int) (e : Int) (f : List Int) (g : Int) (h : Bool) : Option (lgood.loop4.R ⊕ lgood.R) := loopR lgood.loop4.ann (mkL [e] [] [f] []) (evCode ((lgood.C N).inLoop lgood.loop4.ann) (lgood.K N) (inlTab (lgood.C N) 0) (bodyAt 4 Tryz.f72)) (sigKr Tryz.prog Tryz.f72 lgood.sig (mkL [a,c] [] [d] []) fun L => (L.b 0)) nn (mkL [g] [h] [] [])
theorem lgood.loop4_eq (N : Nat) : ∀ nn,lgood.loop4R N nn = lgood.loop4 N nn := lq fun _ h => by funext; rw [lgood.loop4,<- h]; kernel_rfl
def lgood.F (N : Nat) (b c : Int) (a : List Int) : Option lgood.R :=
 (obind (Rc.lunit.F N b) fun r0 =>
 (br (r0 == 0)
 (some false)
 (br (decide (c < 0))
 (some false)
 (br (decide (c >= 16))
 (some false)
 (br (↑a.length != b)
 (some false)
 (osum (lgood.loop4 N N b c a (↑a.length) a ((0 : Int)) false) fun r1 =>
 (some true)))))))
noncomputable def lgood.spec : Eng.Spec := lgood.sig.spec (fun N L => lgood.F N (L.i 0) (L.i 1) (L.l 0)) lgood.enc
theorem lgood.ok : CallOK Tryz.prog 72 lgood.spec := ok2 lgood.C lgood.K Tryz.f72 lgood.dec (fun _ => ⟨lunit.ok,trivial⟩) (fun _ => ⟨fun _ _ => ⟨rfl,rfl⟩,trivial⟩) (by intro N L; show _ = lgood.F N (L.i 0) (L.i 1) (L.l 0); rw [lgood.F,<- funext (lgood.loop4_eq N)]; kernel_rfl)
def lclamped.sig : Eng.Sig := { args := [.at (.roi .i64 0)],post := [(0,.ints true .i64 0)],m := 1,ret := .at (.full 0 false) }
def lclamped.C (N : Nat) : Cfg := { P := Tryz.prog,N := N,RT := noRT,specs := [(121,clamp.spec)] }
abbrev lclamped.R : Type := List Int
def lclamped.dec (L : Eng.Leaves) : lclamped.R := (L.l 0)
def lclamped.enc (r : lclamped.R) : Eng.Leaves := mkL [] [] [r] []
abbrev lclamped.loop3.R : Type := List Int
def lclamped.loop3.ann : Ann := { nx := 20,slots := [(3,.at (.full 0 true)),(9,.at (.froi .i64 0)),(10,.at (.fint .i64 0)),(11,.at (.int .i64 0))],blks := [(0,.ints true .i64 0)],xslots := [(3,.at (.full 0 true))],xblks := [(0,.ints true .i64 0)],T := lclamped.loop3.R,dec := fun L => (L.l 0),enc := fun r => mkL [] [] [r] [] }
def lclamped.K (N : Nat) : FCfg := { anns := [(3,lclamped.loop3.ann)] }
def lclamped.loop3 (N : Nat) : Nat -> Int -> List Int -> Int -> List Int -> Option lclamped.loop3.R
 | 0,_,_,_,_ => none
 | nn + 1,b,c,a,d =>
 (br (decide (a < b))
 (chk ((0 : Int) <= a /\ a < ↑c.length)
 (obind (Rc.clamp.F N (c.getD a.toNat 0) (0) (32768)) fun r0 =>
 (chk ((0 : Int) <= a /\ a < ↑d.length)
 (chkL c c
 (chkI b b
 (lclamped.loop3 N nn b c (i64.wrap (a + 1)) (d.set a.toNat r0)))))))
 (some d))
def lclamped.loop3R (N nn : Nat) (a : Int) (c : List Int) (b : Int) (d : List Int) : Option lclamped.loop3.R := loopF lclamped.loop3.ann (mkL [a] [] [c] []) (evCode ((lclamped.C N).inLoop lclamped.loop3.ann) (lclamped.K N) (inlTab (lclamped.C N) 0) (bodyAt 3 Tryz.f119)) nn (mkL [b] [] [d] [])
theorem lclamped.loop3_eq (N : Nat) : ∀ nn,lclamped.loop3R N nn = lclamped.loop3 N nn := lq fun _ h => by funext; rw [lclamped.loop3,<- h]; kernel_rfl
def lclamped.F (N : Nat) (l : List Int) : Option lclamped.R :=
 (chk ((0 : Int) <= ↑l.length /\ (l.length : Int) <= ↑l.length /\ (l.length : Int) <= ↑(17592186043904 : Nat))
 (obind (lclamped.loop3 N N (↑l.length) l ((0 : Int)) (List.replicate (↑l.length : Int).toNat (0 : Int))) fun r0 =>
 (some r0)))
noncomputable def lclamped.spec : Eng.Spec := lclamped.sig.spec (fun N L => lclamped.F N (L.l 0)) lclamped.enc
theorem lclamped.ok : CallOK Tryz.prog 119 lclamped.spec := ok2 lclamped.C lclamped.K Tryz.f119 lclamped.dec (fun _ => ⟨clamp.ok,trivial⟩) (fun _ => ⟨fun _ _ => ⟨rfl,rfl⟩,trivial⟩) (by intro N L; show _ = lclamped.F N (L.l 0); rw [lclamped.F,<- funext (lclamped.loop3_eq N)]; kernel_rfl)
def lsteady.sig : Eng.Sig := { args := [.at (.roi .i64 0)],post := [(0,.ints true .i64 0)],m := 1,ret := .at (.full 0 false) }
def lsteady.C (N : Nat) : Cfg := { P := Tryz.prog,N := N,RT := noRT,specs := [(119,lclamped.spec)] }
abbrev lsteady.R : Type := List Int
def lsteady.dec (L : Eng.Leaves) : lsteady.R := (L.l 0)
def lsteady.enc (r : lsteady.R) : Eng.Leaves := mkL [] [] [r] []
abbrev lsteady.loop6.R : Type := Int × List Int
def lsteady.loop6.ann : Ann := { nx := 20,slots := [(3,.at (.full 0 false)),(4,.at (.int .i64 0)),(13,.at (.full 0 false)),(14,.at (.fint .i64 0)),(15,.at (.int .i64 1))],blks := [(0,.ints true .i64 0)],xslots := [(3,.at (.full 0 false)),(13,.at (.full 0 false)),(4,.at (.int .i64 0))],xblks := [(0,.ints true .i64 0)],T := lsteady.loop6.R,dec := fun L => (L.i 0,L.l 0),enc := fun r => mkL [r.1] [] [r.2] [] }
abbrev lsteady.loop13.R : Type := Int × List Int
def lsteady.loop13.ann : Ann := { nx := 20,slots := [(3,.at (.full 0 false)),(4,.at (.int .i64 0)),(7,.at (.int .i64 1))],blks := [(0,.ints true .i64 0)],exId := 2,xslots := [(3,.at (.full 0 false)),(4,.at (.int .i64 0))],xblks := [(0,.ints true .i64 0)],T := lsteady.loop13.R,dec := fun L => (L.i 0,L.l 0),enc := fun r => mkL [r.1] [] [r.2] [] }
def lsteady.K (N : Nat) : FCfg := { anns := [(6,lsteady.loop6.ann),(13,lsteady.loop13.ann)] }
def lsteady.loop13 (N : Nat) : Nat -> Int -> Int -> List Int -> Option lsteady.loop13.R
 | 0,_,_,_ => none
 | nn + 1,c,a,b =>
 (br (decide (a >= 0))
 (chk ((0 : Int) <= a /\ a < ↑b.length)
 (chk ((0 : Int) <= a /\ a < ↑b.length)
 (chk ((0 : Int) <= a /\ a < ↑(b.set a.toNat (if i64.wrap (c - (250 : Int)) < b.getD a.toNat (0 : Int) then i64.wrap (c - (250 : Int)) else b.getD a.toNat (0 : Int))).length)
 (lsteady.loop13 N nn ((b.set a.toNat (if i64.wrap (c - (250 : Int)) < b.getD a.toNat (0 : Int) then i64.wrap (c - (250 : Int)) else b.getD a.toNat (0 : Int))).getD a.toNat (0 : Int)) (i64.wrap (a - (1 : Int))) (b.set a.toNat (if i64.wrap (c - (250 : Int)) < b.getD a.toNat (0 : Int) then i64.wrap (c - (250 : Int)) else b.getD a.toNat (0 : Int)))))))
 (some ((c,b))))
def lsteady.loop13R (N nn : Nat) (a b : Int) (c : List Int) : Option lsteady.loop13.R := loopF lsteady.loop13.ann (mkL [] [] [] []) (evCode ((lsteady.C N).inLoop lsteady.loop13.ann) (lsteady.K N) (inlTab (lsteady.C N) 0) (bodyAt 13 Tryz.f118)) nn (mkL [a,b] [] [c] [])
theorem lsteady.loop13_eq (N : Nat) : ∀ nn,lsteady.loop13R N nn = lsteady.loop13 N nn := lq fun _ h => by funext; rw [lsteady.loop13,<- h]; kernel_rfl
def lsteady.loop6 (N : Nat) : Nat -> Int -> Int -> Int -> List Int -> Option lsteady.loop6.R
 | 0,_,_,_,_ => none
 | nn + 1,c,d,a,b =>
 (br (decide (a < c))
 (chk ((0 : Int) <= a /\ a < ↑b.length)
 (chk ((0 : Int) <= a /\ a < ↑b.length)
 (chk ((0 : Int) <= a /\ a < ↑(b.set a.toNat (if i64.wrap (d + (250 : Int)) > b.getD a.toNat (0 : Int) then i64.wrap (d + (250 : Int)) else b.getD a.toNat (0 : Int))).length)
 (chkI c c
 (lsteady.loop6 N nn c ((b.set a.toNat (if i64.wrap (d + (250 : Int)) > b.getD a.toNat (0 : Int) then i64.wrap (d + (250 : Int)) else b.getD a.toNat (0 : Int))).getD a.toNat (0 : Int)) (i64.wrap (a + (1 : Int))) (b.set a.toNat (if i64.wrap (d + (250 : Int)) > b.getD a.toNat (0 : Int) then i64.wrap (d + (250 : Int)) else b.getD a.toNat (0 : Int))))))))
 (some ((d,b))))
def lsteady.loop6R (N nn : Nat) (a : Int) (c b : Int) (d : List Int) : Option lsteady.loop6.R := loopF lsteady.loop6.ann (mkL [a] [] [] []) (evCode ((lsteady.C N).inLoop lsteady.loop6.ann) (lsteady.K N) (inlTab (lsteady.C N) 0) (bodyAt 6 Tryz.f118)) nn (mkL [c,b] [] [d] [])
theorem lsteady.loop6_eq (N : Nat) : ∀ nn,lsteady.loop6R N nn = lsteady.loop6 N nn := lq fun _ h => by funext; rw [lsteady.loop6,<- h]; kernel_rfl
def lsteady.F (N : Nat) (l : List Int) : Option lsteady.R :=
 (br (decide (↑l.length > (64 : Int)))
 (some (([] : List Int)))
 (obind (Rc.lclamped.F N l) fun r0 =>
 (obind (lsteady.loop6 N N (↑r0.length) ((0 : Int)) ((0 : Int)) r0) fun r1 =>
 (obind (lsteady.loop13 N N ((32768 : Int)) (i64.wrap (↑r1.2.length - (1 : Int))) r1.2) fun r2 =>
 (some r2.2)))))
noncomputable def lsteady.spec : Eng.Spec := lsteady.sig.spec (fun N L => lsteady.F N (L.l 0)) lsteady.enc
theorem lsteady.ok : CallOK Tryz.prog 118 lsteady.spec := ok2 lsteady.C lsteady.K Tryz.f118 lsteady.dec (fun _ => ⟨lclamped.ok,trivial⟩) (fun _ => ⟨fun _ _ => ⟨rfl,rfl⟩,fun _ _ => ⟨rfl,rfl⟩,trivial⟩) (by intro N L; show _ = lsteady.F N (L.l 0); rw [lsteady.F,<- funext (lsteady.loop6_eq N),<- funext (lsteady.loop13_eq N)]; kernel_rfl)
def ldecode.sig : Eng.Sig := { args := [.at (.int .i64 0),.agg [.int .i64 1,.roi .i64 0]],post := [(0,.ints true .i64 0)],m := 1,ret := .tup [(false,[.full 0 false]),(false,[.int .i64 0])] }
def ldecode.C (N : Nat) : Cfg := { P := Tryz.prog,N := N,RT := noRT,specs := [(72,lgood.spec),(116,tlsf.spec),(117,lunit.spec),(118,lsteady.spec)] }
abbrev ldecode.R : Type := Int × List Int
def ldecode.dec (L : Eng.Leaves) : ldecode.R := (L.i 0,L.l 0)
def ldecode.enc (r : ldecode.R) : Eng.Leaves := mkL [r.1] [] [r.2] []
abbrev ldecode.loop5.R : Type := List Int
def ldecode.loop5.ann : Ann := { nx := 20,slots := [(0,.at (.fint .i64 0)),(3,.at (.ptr 0 0)),(6,.at (.full 1 false)),(17,.at (.fint .i64 1)),(18,.at (.int .i64 0))],blks := [(0,.cells 2 [.fint .i64 2,.froi .i64 0]),(1,.ints true .i64 0)],xslots := [(3,.at (.ptr 0 0)),(6,.at (.full 1 false))],xblks := [(0,.cells 2 [.fint .i64 2,.froi .i64 0]),(1,.ints true .i64 0)],T := ldecode.loop5.R,dec := fun L => (L.l 0),enc := fun r => mkL [] [] [r] [] }
def ldecode.K (N : Nat) : FCfg := { anns := [(5,ldecode.loop5.ann)] }
def ldecode.loop5 (N : Nat) : Nat -> Int -> Int -> Int -> List Int -> Int -> List Int -> Option ldecode.loop5.R
 | 0,_,_,_,_,_,_ => none
 | nn + 1,c,e,d,b,a,f =>
 (br (decide (a < e))
 (chk ((0 : Int) <= a /\ a < ↑f.length)
 (obind (Rc.lunit.F N c) fun r0 =>
 (chk ((0 : Int) <= a /\ a < ↑b.length)
 (chk ((0 : Int) <= a /\ a < ↑f.length)
 (chkL b b
 (chkI (f.getD a.toNat 0) (f.getD a.toNat 0)
 (chk ((0 : Int) <= a /\ a < ↑f.length)
 (chkN a.toNat a.toNat
 (chkI c c
 (chkI e e
 (chkI d d
 (chkL b b
 (ldecode.loop5 N nn c e d b (i64.wrap (a + 1)) (f.set a.toNat (i64.wrap (f.getD a.toNat 0 + i64.wrap (r0 * b.getD a.toNat 0)))))))))))))))))
 (chkI d d
 (chkL b b
 (some f))))
def ldecode.loop5R (N nn : Nat) (a d b : Int) (c : List Int) (e : Int) (f : List Int) : Option ldecode.loop5.R := loopF ldecode.loop5.ann (mkL [a,d,b] [] [c] []) (evCode ((ldecode.C N).inLoop ldecode.loop5.ann) (ldecode.K N) (inlTab (ldecode.C N) 0) (bodyAt 5 Tryz.f61)) nn (mkL [e] [] [f] [])
theorem ldecode.loop5_eq (N : Nat) : ∀ nn,ldecode.loop5R N nn = ldecode.loop5 N nn := lq fun _ h => by funext; rw [ldecode.loop5,<- h]; kernel_rfl
def ldecode.F (N : Nat) (a b : Int) (c : List Int) : Option ldecode.R :=
 (obind (Rc.lgood.F N a b c) fun r0 =>
 (br (!r0)
 (some (((1 : Int),([] : List Int))))
 (obind (Rc.tlsf.F N a b) fun r1 =>
 (obind (ldecode.loop5 N N a (↑r1.length) b c ((0 : Int)) r1) fun r2 =>
 (obind (Rc.lsteady.F N r2) fun r3 =>
 (some (((0 : Int),r3))))))))
noncomputable def ldecode.spec : Eng.Spec := ldecode.sig.spec (fun N L => ldecode.F N (L.i 0) (L.i 1) (L.l 0)) ldecode.enc
theorem ldecode.ok : CallOK Tryz.prog 61 ldecode.spec := ok2 ldecode.C ldecode.K Tryz.f61 ldecode.dec (fun _ => ⟨lgood.ok,tlsf.ok,lunit.ok,lsteady.ok,trivial⟩) (fun _ => ⟨fun _ _ => ⟨rfl,rfl⟩,trivial⟩) (by intro N L; show _ = ldecode.F N (L.i 0) (L.i 1) (L.l 0); rw [ldecode.F,<- funext (ldecode.loop5_eq N)]; kernel_rfl)
def lbetween.sig : Eng.Sig := { args := [.at (.roi .i64 0),.at (.roi .i64 1),.at (.int .i64 0)],post := [(0,.ints true .i64 0)],m := 1,ret := .tup [(false,[.full 0 false]),(false,[.int .i64 0])] }
def lbetween.C (N : Nat) : Cfg := { P := Tryz.prog,N := N,RT := noRT,specs := [(119,lclamped.spec)] }
abbrev lbetween.R : Type := Int × List Int
def lbetween.dec (L : Eng.Leaves) : lbetween.R := (L.i 0,L.l 0)
def lbetween.enc (r : lbetween.R) : Eng.Leaves := mkL [r.1] [] [r.2] []
abbrev lbetween.loop5.R : Type := List Int
def lbetween.loop5.ann : Ann := { nx := 20,slots := [(0,.at (.full 0 false)),(1,.at (.full 1 false)),(2,.at (.fint .i64 0)),(32,.at (.fint .i64 1)),(33,.at (.int .i64 0))],blks := [(0,.ints true .i64 0),(1,.fints true .i64 0)],xslots := [(0,.at (.full 0 false)),(1,.at (.full 1 false))],xblks := [(0,.ints true .i64 0),(1,.fints true .i64 0)],T := lbetween.loop5.R,dec := fun L => (L.l 0),enc := fun r => mkL [] [] [r] [] }
def lbetween.K (N : Nat) : FCfg := { anns := [(5,lbetween.loop5.ann)] }
def lbetween.loop5 (N : Nat) : Nat -> Int -> Int -> List Int -> Int -> List Int -> Option lbetween.loop5.R
 | 0,_,_,_,_,_ => none
 | nn + 1,w,b,c,a,d =>
 (br (decide (a < b))
 (chk ((0 : Int) <= a /\ a < ↑d.length)
 (chk ((0 : Int) <= a /\ a < ↑c.length)
 (chk ((0 : Int) <= a /\ a < ↑d.length)
 (chk ((0 : Int) <= a /\ a < ↑d.length)
 (chkI w w
 (chkI b b
 (chkL c c
 (lbetween.loop5 N nn w b c (i64.wrap (a + 1)) (d.set a.toNat (i64.wrap (d.getD a.toNat 0 + (i64.wrap (i64.wrap (c.getD a.toNat 0 - d.getD a.toNat 0) * w)).fdiv ((2 : Int) ^ (2 : Nat)))))))))))))
 (chkL c c
 (some d)))
def lbetween.loop5R (N nn : Nat) (w a : Int) (c : List Int) (b : Int) (d : List Int) : Option lbetween.loop5.R := loopF lbetween.loop5.ann (mkL [w,a] [] [c] []) (evCode ((lbetween.C N).inLoop lbetween.loop5.ann) (lbetween.K N) (inlTab (lbetween.C N) 0) (bodyAt 5 Tryz.f62)) nn (mkL [b] [] [d] [])
theorem lbetween.loop5_eq (N : Nat) : ∀ nn,lbetween.loop5R N nn = lbetween.loop5 N nn := lq fun _ h => by funext; rw [lbetween.loop5,<- h]; kernel_rfl
def lbetween.F (N : Nat) (w : Int) (a b : List Int) : Option lbetween.R :=
 (br ((a.length : Int) != ↑b.length)
 (some (((1 : Int),([] : List Int))))
 (br (decide (↑a.length > (64 : Int)))
 (some (((1 : Int),([] : List Int))))
 (br (decide (w < 0))
 (some (((1 : Int),([] : List Int))))
 (br (decide (w > 4))
 (some (((1 : Int),([] : List Int))))
 (obind (Rc.lclamped.F N a) fun r0 =>
 (obind (Rc.lclamped.F N b) fun r1 =>
 (obind (lbetween.loop5 N N w (↑r0.length) r1 ((0 : Int)) r0) fun r2 =>
 (some (((0 : Int),r2))))))))))
noncomputable def lbetween.spec : Eng.Spec := lbetween.sig.spec (fun N L => lbetween.F N (L.i 0) (L.l 0) (L.l 1)) lbetween.enc
theorem lbetween.ok : CallOK Tryz.prog 62 lbetween.spec := ok2 lbetween.C lbetween.K Tryz.f62 lbetween.dec (fun _ => ⟨lclamped.ok,trivial⟩) (fun _ => ⟨fun _ _ => ⟨rfl,rfl⟩,trivial⟩) (by intro N L; show _ = lbetween.F N (L.i 0) (L.l 0) (L.l 1); rw [lbetween.F,<- funext (lbetween.loop5_eq N)]; kernel_rfl)
def lpoly.sig : Eng.Sig := { args := [.at (.roi .i64 0)],post := [(0,.ints true .i64 0)],m := 1,ret := .at (.full 0 false) }
def lpoly.C (N : Nat) : Cfg := { P := Tryz.prog,N := N,RT := noRT,specs := [(123,fmul.spec)] }
abbrev lpoly.R : Type := List Int
def lpoly.dec (L : Eng.Leaves) : lpoly.R := (L.l 0)
def lpoly.enc (r : lpoly.R) : Eng.Leaves := mkL [] [] [r] []
abbrev lpoly.loop4.R : Type := List Int
def lpoly.loop4.ann : Ann := { nx := 20,slots := [(0,.at (.froi .i64 0)),(3,.at (.full 0 true)),(4,.at (.int .i64 0))],blks := [(0,.ints true .i64 0)],xslots := [(3,.at (.full 0 true))],xblks := [(0,.ints true .i64 0)],T := lpoly.loop4.R,dec := fun L => (L.l 0),enc := fun r => mkL [] [] [r] [] }
abbrev lpoly.loop8.R : Type := List Int
def lpoly.loop8.ann : Ann := { nx := 20,slots := [(0,.at (.froi .i64 0)),(3,.at (.full 0 true)),(4,.at (.fint .i64 0)),(5,.at (.int .i64 0))],blks := [(0,.ints true .i64 0)],exId := 2,xslots := [(3,.at (.full 0 true))],xblks := [(0,.ints true .i64 0)],T := lpoly.loop8.R,dec := fun L => (L.l 0),enc := fun r => mkL [] [] [r] [] }
def lpoly.K (N : Nat) : FCfg := { anns := [(4,lpoly.loop4.ann),(8,lpoly.loop8.ann)] }
def lpoly.loop8 (N : Nat) : Nat -> Int -> List Int -> Int -> List Int -> Option lpoly.loop8.R
 | 0,_,_,_,_ => none
 | nn + 1,c,y,a,b =>
 (br (decide (a >= 2))
 (chk ((0 : Int) <= a /\ a < ↑b.length)
 (chk ((0 : Int) <= i64.wrap (a - (2 : Int)) /\ i64.wrap (a - (2 : Int)) < ↑b.length)
 (chk ((0 : Int) <= c /\ c < ↑y.length)
 (chk ((0 : Int) <= i64.wrap (a - (1 : Int)) /\ i64.wrap (a - (1 : Int)) < ↑b.length)
 (obind (Rc.fmul.F N (y.getD c.toNat 0) (b.getD (i64.wrap (a - (1 : Int))).toNat 0) (16)) fun r0 =>
 (chk ((0 : Int) <= a /\ a < ↑b.length)
 (chkI (b.getD (i64.wrap (a - (2 : Int))).toNat 0) (b.getD (i64.wrap (a - (2 : Int))).toNat 0)
 (chk ((0 : Int) <= i64.wrap (a - (2 : Int)) /\ i64.wrap (a - (2 : Int)) < ↑b.length)
 (chkN ((i64.wrap (a - (2 : Int))).toNat) ((i64.wrap (a - (2 : Int))).toNat)
 (chkI (b.getD a.toNat 0) (b.getD a.toNat 0)
 (chk ((0 : Int) <= a /\ a < ↑b.length)
 (chkN a.toNat a.toNat
 (chkL y y
 (chkI c c
 (lpoly.loop8 N nn c y (i64.wrap (a - 1)) (b.set a.toNat (i64.wrap (b.getD a.toNat 0 + i64.wrap (b.getD (i64.wrap (a - (2 : Int))).toNat 0 - r0)))))))))))))))))))
 (some b))
def lpoly.loop8R (N nn : Nat) (a : Int) (y : List Int) (b : Int) (c : List Int) : Option lpoly.loop8.R := loopF lpoly.loop8.ann (mkL [a] [] [y] []) (evCode ((lpoly.C N).inLoop lpoly.loop8.ann) (lpoly.K N) (inlTab (lpoly.C N) 0) (bodyAt 8 Tryz.f122)) nn (mkL [b] [] [c] [])
theorem lpoly.loop8_eq (N : Nat) : ∀ nn,lpoly.loop8R N nn = lpoly.loop8 N nn := lq fun _ h => by funext; rw [lpoly.loop8,<- h]; kernel_rfl
def lpoly.loop4 (N : Nat) : Nat -> List Int -> Int -> List Int -> Option lpoly.loop4.R
 | 0,_,_,_ => none
 | nn + 1,y,a,b =>
 (br (decide (a < ↑y.length))
 (chk ((0 : Int) <= i64.wrap (a - (1 : Int)) /\ i64.wrap (a - (1 : Int)) < ↑b.length)
 (chk ((0 : Int) <= a /\ a < ↑y.length)
 (chk ((0 : Int) <= a /\ a < ↑b.length)
 (obind (Rc.fmul.F N (y.getD a.toNat 0) (b.getD a.toNat 0) (16)) fun r0 =>
 (chk ((0 : Int) <= i64.wrap (a + (1 : Int)) /\ i64.wrap (a + (1 : Int)) < ↑b.length)
 (chkI (b.getD (i64.wrap (a - (1 : Int))).toNat 0) (b.getD (i64.wrap (a - (1 : Int))).toNat 0)
 (chk ((0 : Int) <= i64.wrap (a - (1 : Int)) /\ i64.wrap (a - (1 : Int)) < ↑b.length)
 (chkN ((i64.wrap (a - (1 : Int))).toNat) ((i64.wrap (a - (1 : Int))).toNat)
 (obind (lpoly.loop8 N N a y a (b.set (i64.wrap (a + (1 : Int))).toNat (i64.wrap (i64.wrap (2 * b.getD (i64.wrap (a - (1 : Int))).toNat 0) - r0)))) fun r1 =>
 (chk ((0 : Int) <= (1 : Int) /\ (1 : Int) < ↑r1.length)
 (chk ((0 : Int) <= a /\ a < ↑y.length)
 (chk ((0 : Int) <= (1 : Int) /\ (1 : Int) < ↑r1.length)
 (chkL y y
 (lpoly.loop4 N nn y (i64.wrap (a + 1)) (r1.set 1 (i64.wrap (r1.getD 1 0 - y.getD a.toNat 0)))))))))))))))))
 (some b))
def lpoly.loop4R (N nn : Nat) (y : List Int) (a : Int) (b : List Int) : Option lpoly.loop4.R := loopF lpoly.loop4.ann (mkL [] [] [y] []) (evCode ((lpoly.C N).inLoop lpoly.loop4.ann) (lpoly.K N) (inlTab (lpoly.C N) 0) (bodyAt 4 Tryz.f122)) nn (mkL [a] [] [b] [])
theorem lpoly.loop4_eq (N : Nat) : ∀ nn,lpoly.loop4R N nn = lpoly.loop4 N nn
 | 0 => by funext; kernel_rfl
 | nn + 1 => by
  funext; rw [lpoly.loop4,<- lpoly.loop4_eq N nn,<- funext (lpoly.loop8_eq N)]; kernel_rfl
def lpoly.F (N : Nat) (y : List Int) : Option lpoly.R :=
 (chk ((0 : Int) <= i64.wrap (↑y.length + (1 : Int)) /\ i64.wrap (↑y.length + (1 : Int)) <= i64.wrap (↑y.length + (1 : Int)) /\ i64.wrap (↑y.length + (1 : Int)) <= ↑(17592186043904 : Nat))
 (chk ((0 : Int) <= (0 : Int) /\ (0 : Int) < ↑y.length)
 (chk ((0 : Int) <= (0 : Int) /\ (0 : Int) < ↑(List.replicate (i64.wrap (↑y.length + (1 : Int))).toNat (0 : Int)).length)
 (chk ((0 : Int) <= (1 : Int) /\ (1 : Int) < ↑((List.replicate (i64.wrap (↑y.length + (1 : Int))).toNat (0 : Int)).set (0 : Nat) (65536 : Int)).length)
 (obind (lpoly.loop4 N N y ((1 : Int)) (((List.replicate (i64.wrap (↑y.length + (1 : Int))).toNat (0 : Int)).set (0 : Nat) (65536 : Int)).set (1 : Nat) (i64.wrap ((0 : Int) - y.getD (0 : Nat) (0 : Int))))) fun r0 =>
 (some r0))))))
noncomputable def lpoly.spec : Eng.Spec := lpoly.sig.spec (fun N L => lpoly.F N (L.l 0)) lpoly.enc
theorem lpoly.ok : CallOK Tryz.prog 122 lpoly.spec := ok2 lpoly.C lpoly.K Tryz.f122 lpoly.dec (fun _ => ⟨fmul.ok,trivial⟩) (fun _ => ⟨fun _ _ => ⟨rfl,rfl⟩,fun _ _ => ⟨rfl,rfl⟩,trivial⟩) (by intro N L; show _ = lpoly.F N (L.l 0); rw [lpoly.F,<- funext (lpoly.loop4_eq N)]; kernel_rfl)
def lstable.sig : Eng.Sig := { args := [.at (.roi .i64 0)],ret := .at (.bool 0) }
def lstable.C (N : Nat) : Cfg := { P := Tryz.prog,N := N,RT := noRT,specs := [(121,clamp.spec),(123,fmul.spec),(163,fdiv.spec)] }
abbrev lstable.R : Type := Bool
def lstable.dec (L : Eng.Leaves) : lstable.R := (L.b 0)
def lstable.enc (r : lstable.R) : Eng.Leaves := mkL [] [r] [] []
abbrev lstable.loop5.R : Type := List Int
def lstable.loop5.ann : Ann := { nx := 20,slots := [(3,.at (.full 0 true)),(18,.at (.froi .i64 0)),(19,.at (.fint .i64 0)),(20,.at (.int .i64 0))],blks := [(0,.ints true .i64 0)],xslots := [(3,.at (.full 0 true))],xblks := [(0,.ints true .i64 0)],T := lstable.loop5.R,dec := fun L => (L.l 0),enc := fun r => mkL [] [] [r] [] }
abbrev lstable.loop10.R : Type := Bool × List Int
def lstable.loop10.ann : Ann := { nx := 20,slots := [(2,.at (.bool 0)),(3,.at (.full 0 true)),(6,.at (.int .i64 0))],blks := [(0,.ints true .i64 0)],exId := 2,xslots := [(3,.at (.full 0 true)),(2,.at (.bool 0))],xblks := [(0,.ints true .i64 0)],T := lstable.loop10.R,dec := fun L => (L.b 0,L.l 0),enc := fun r => mkL [] [r.1] [r.2] [],ret := true }
abbrev lstable.loop18.R : Type := List Int
def lstable.loop18.ann : Ann := { nx := 22,slots := [(3,.at (.full 0 true)),(6,.at (.fint .i64 0)),(7,.at (.fint .i64 1)),(8,.at (.fint .i64 2)),(9,.at (.full 21 true)),(58,.at (.fint .i64 3)),(59,.at (.int .i64 0))],blks := [(0,.ints true .i64 0),(21,.fints true .i64 0)],exId := 4,xslots := [(3,.at (.full 0 true)),(9,.at (.full 21 true))],xblks := [(0,.ints true .i64 0),(21,.fints true .i64 0)],T := lstable.loop18.R,dec := fun L => (L.l 0),enc := fun r => mkL [] [] [r] [] }
def lstable.K (N : Nat) : FCfg := { anns := [(5,lstable.loop5.ann),(10,lstable.loop10.ann),(18,lstable.loop18.ann)] }
def lstable.loop18 (N : Nat) : Nat -> Int -> Int -> Int -> Int -> List Int -> Int -> List Int -> Option lstable.loop18.R
 | 0,_,_,_,_,_,_,_ => none
 | nn + 1,d,e,f,c,b,a,g =>
 (br (decide (a < c))
 (chk ((0 : Int) <= a /\ a < ↑b.length)
 (chk ((0 : Int) <= i64.wrap (i64.wrap (d - (1 : Int)) - a) /\ i64.wrap (i64.wrap (d - (1 : Int)) - a) < ↑b.length)
 (obind (Rc.fmul.F N e (b.getD (i64.wrap (i64.wrap (d - 1) - a)).toNat 0) (24)) fun r0 =>
 (chkI (b.getD a.toNat 0) (b.getD a.toNat 0)
 (chk ((0 : Int) <= a /\ a < ↑b.length)
 (chkN a.toNat a.toNat
 (obind (Rc.fdiv.F N (i64.wrap (b.getD a.toNat 0 + r0)) f (24)) fun r1 =>
 (obind (Rc.clamp.F N r1 ((-2147483648)) (2147483648)) fun r2 =>
 (chk ((0 : Int) <= a /\ a < ↑g.length)
 (chkI d d
 (chkI e e
 (chkI f f
 (chkI c c
 (chkL b b
 (lstable.loop18 N nn d e f c b (i64.wrap (a + 1)) (g.set a.toNat r2))))))))))))))))
 (chkL b b
 (some g)))
def lstable.loop18R (N nn : Nat) (d e f a : Int) (b : List Int) (c : Int) (g : List Int) : Option lstable.loop18.R := loopF lstable.loop18.ann (mkL [d,e,f,a] [] [b] []) (evCode ((lstable.C N).inLoop lstable.loop18.ann) (lstable.K N) (inlTab (lstable.C N) 0) (bodyAt 18 Tryz.f155)) nn (mkL [c] [] [g] [])
theorem lstable.loop18_eq (N : Nat) : ∀ nn,lstable.loop18R N nn = lstable.loop18 N nn := lq fun _ h => by funext; rw [lstable.loop18,<- h]; kernel_rfl
def lstable.loop10 (N : Nat) : Nat -> List Int -> Int -> Bool -> List Int -> Option (lstable.loop10.R ⊕ lstable.R)
 | 0,_,_,_,_ => none
 | nn + 1,c,a,d,b =>
 (br (decide (a >= 0))
 (chk ((0 : Int) <= a /\ a < ↑b.length)
 (br (decide (b.getD a.toNat (0 : Int) > (16760438 : Int)))
 (omap
 (some false) .inr)
 (br (decide (b.getD a.toNat (0 : Int) < (-16760438 : Int)))
 (omap
 (some false) .inr)
 (obind (Rc.fmul.F N (b.getD a.toNat 0) (b.getD a.toNat 0) (24)) fun r0 =>
 (chk ((0 : Int) <= a /\ a <= ↑b.length)
 (chk ((0 : Nat) + (List.take (a.toNat - (0 : Nat)) (List.drop 0 b)).length <= (17592186043904 : Nat))
 (obind (lstable.loop18 N N a (b.getD a.toNat 0) (i64.wrap (16777216 - r0)) a (([] : List Int) ++ List.take (a.toNat - (0 : Nat)) (List.drop 0 b)) (0) b) fun r1 =>
 (lstable.loop10 N nn c (i64.wrap (a - 1)) d r1))))))))
 (some (Sum.inl (d,b))))
def lstable.loop10R (N nn : Nat) (a : List Int) (c : Int) (d : Bool) (e : List Int) : Option (lstable.loop10.R ⊕ lstable.R) := loopR lstable.loop10.ann (mkL [] [] [] []) (evCode ((lstable.C N).inLoop lstable.loop10.ann) (lstable.K N) (inlTab (lstable.C N) 0) (bodyAt 10 Tryz.f155)) (sigKr Tryz.prog Tryz.f155 lstable.sig (mkL [] [] [a] []) fun L => (L.b 0)) nn (mkL [c] [d] [e] [])
theorem lstable.loop10_eq (N : Nat) : ∀ nn,lstable.loop10R N nn = lstable.loop10 N nn
 | 0 => by funext; kernel_rfl
 | nn + 1 => by
  funext; rw [lstable.loop10,<- lstable.loop10_eq N nn,<- funext (lstable.loop18_eq N)]; kernel_rfl
def lstable.loop5 (N : Nat) : Nat -> Int -> List Int -> Int -> List Int -> Option lstable.loop5.R
 | 0,_,_,_,_ => none
 | nn + 1,c,b,a,d =>
 (br (decide (a < c))
 (chk ((0 : Int) <= a /\ a < ↑b.length)
 (obind (Rc.clamp.F N (b.getD a.toNat 0) ((-131072)) (131072)) fun r0 =>
 (chk ((0 : Int) <= a /\ a < ↑d.length)
 (chkL b b
 (chkI c c
 (lstable.loop5 N nn c b (i64.wrap (a + 1)) (d.set a.toNat (i64.wrap (4096 * r0)))))))))
 (some d))
def lstable.loop5R (N nn : Nat) (a : Int) (b : List Int) (c : Int) (d : List Int) : Option lstable.loop5.R := loopF lstable.loop5.ann (mkL [a] [] [b] []) (evCode ((lstable.C N).inLoop lstable.loop5.ann) (lstable.K N) (inlTab (lstable.C N) 0) (bodyAt 5 Tryz.f155)) nn (mkL [c] [] [d] [])
theorem lstable.loop5_eq (N : Nat) : ∀ nn,lstable.loop5R N nn = lstable.loop5 N nn := lq fun _ h => by funext; rw [lstable.loop5,<- h]; kernel_rfl
def lstable.F (N : Nat) (a : List Int) : Option lstable.R :=
 (br (decide (↑a.length > (32 : Int)))
 (some false)
 (chk ((0 : Int) <= ↑a.length /\ (a.length : Int) <= ↑a.length /\ (a.length : Int) <= ↑(17592186043904 : Nat))
 (obind (lstable.loop5 N N (↑a.length) a ((0 : Int)) (List.replicate (↑a.length : Int).toNat (0 : Int))) fun r0 =>
 (osum (lstable.loop10 N N a (i64.wrap (↑r0.length - (1 : Int))) false r0) fun r1 =>
 (some true)))))
noncomputable def lstable.spec : Eng.Spec := lstable.sig.spec (fun N L => lstable.F N (L.l 0)) lstable.enc
theorem lstable.ok : CallOK Tryz.prog 155 lstable.spec := ok2 lstable.C lstable.K Tryz.f155 lstable.dec (fun _ => ⟨clamp.ok,fmul.ok,fdiv.ok,trivial⟩) (fun _ => ⟨fun _ _ => ⟨rfl,rfl⟩,fun _ _ => ⟨rfl,rfl⟩,fun _ _ => ⟨rfl,rfl⟩,trivial⟩) (by intro N L; show _ = lstable.F N (L.l 0); rw [lstable.F,<- funext (lstable.loop5_eq N),<- funext (lstable.loop10_eq N)]; kernel_rfl)
def lchirp.sig : Eng.Sig := { args := [.at (.roi .i64 0),.at (.int .i64 0)],post := [(0,.ints true .i64 0)],m := 1,ret := .at (.full 0 false) }
def lchirp.C (N : Nat) : Cfg := { P := Tryz.prog,N := N,RT := noRT,specs := [(121,clamp.spec),(123,fmul.spec)] }
abbrev lchirp.R : Type := List Int
def lchirp.dec (L : Eng.Leaves) : lchirp.R := (L.l 0)
def lchirp.enc (r : lchirp.R) : Eng.Leaves := mkL [] [] [r] []
abbrev lchirp.loop6.R : Type := List Int
def lchirp.loop6.ann : Ann := { nx := 20,slots := [(1,.at (.fint .i64 0)),(5,.at (.full 0 true)),(16,.at (.froi .i64 0)),(17,.at (.fint .i64 1)),(18,.at (.int .i64 0))],blks := [(0,.ints true .i64 0)],xslots := [(5,.at (.full 0 true))],xblks := [(0,.ints true .i64 0)],T := lchirp.loop6.R,dec := fun L => (L.l 0),enc := fun r => mkL [] [] [r] [] }
abbrev lchirp.loop9.R : Type := Int
def lchirp.loop9.ann : Ann := { nx := 20,slots := [(1,.at (.fint .i64 0)),(7,.at (.int .i64 0)),(24,.at (.fint .i64 1)),(25,.at (.int .i64 1))],exId := 2,xslots := [(7,.at (.int .i64 0))],T := lchirp.loop9.R,dec := fun L => (L.i 0),enc := fun r => mkL [r] [] [] [] }
def lchirp.K (N : Nat) : FCfg := { anns := [(6,lchirp.loop6.ann),(9,lchirp.loop9.ann)] }
def lchirp.loop9 (N : Nat) : Nat -> Int -> Int -> Int -> Int -> Option lchirp.loop9.R
 | 0,_,_,_,_ => none
 | nn + 1,c,a,d,b =>
 (br (decide (b < a))
 (obind (Rc.fmul.F N d c (16)) fun r0 =>
 (chkI c c
 (chkI a a
 (lchirp.loop9 N nn c a r0 (i64.wrap (b + 1))))))
 (some d))
def lchirp.loop9R (N nn : Nat) (c a : Int) (d b : Int) : Option lchirp.loop9.R := loopF lchirp.loop9.ann (mkL [c,a] [] [] []) (evCode ((lchirp.C N).inLoop lchirp.loop9.ann) (lchirp.K N) (inlTab (lchirp.C N) 0) (bodyAt 9 Tryz.f156)) nn (mkL [d,b] [] [] [])
theorem lchirp.loop9_eq (N : Nat) : ∀ nn,lchirp.loop9R N nn = lchirp.loop9 N nn := lq fun _ h => by funext; rw [lchirp.loop9,<- h]; kernel_rfl
def lchirp.loop6 (N : Nat) : Nat -> Int -> Int -> List Int -> Int -> List Int -> Option lchirp.loop6.R
 | 0,_,_,_,_,_ => none
 | nn + 1,c,d,b,a,e =>
 (br (decide (a < d))
 (chk ((0 : Int) <= a /\ a < ↑b.length)
 (obind (lchirp.loop9 N N c (i64.wrap (a + 1)) (b.getD a.toNat 0) (0)) fun r0 =>
 (chk ((0 : Int) <= a /\ a < ↑e.length)
 (chkI c c
 (chkL b b
 (chkI d d
 (lchirp.loop6 N nn c d b (i64.wrap (a + 1)) (e.set a.toNat r0))))))))
 (some e))
def lchirp.loop6R (N nn : Nat) (c a : Int) (b : List Int) (d : Int) (e : List Int) : Option lchirp.loop6.R := loopF lchirp.loop6.ann (mkL [c,a] [] [b] []) (evCode ((lchirp.C N).inLoop lchirp.loop6.ann) (lchirp.K N) (inlTab (lchirp.C N) 0) (bodyAt 6 Tryz.f156)) nn (mkL [d] [] [e] [])
theorem lchirp.loop6_eq (N : Nat) : ∀ nn,lchirp.loop6R N nn = lchirp.loop6 N nn
 | 0 => by funext; kernel_rfl
 | nn + 1 => by
  funext; rw [lchirp.loop6,<- lchirp.loop6_eq N nn,<- funext (lchirp.loop9_eq N)]; kernel_rfl
def lchirp.F (N : Nat) (c : Int) (a : List Int) : Option lchirp.R :=
 (br (decide (↑a.length > (32 : Int)))
 (some (([] : List Int)))
 (obind (Rc.clamp.F N c (0) (65536)) fun r0 =>
 (chk ((0 : Int) <= ↑a.length /\ (a.length : Int) <= ↑a.length /\ (a.length : Int) <= ↑(17592186043904 : Nat))
 (obind (lchirp.loop6 N N r0 (↑a.length) a ((0 : Int)) (List.replicate (↑a.length : Int).toNat (0 : Int))) fun r1 =>
 (some r1)))))
noncomputable def lchirp.spec : Eng.Spec := lchirp.sig.spec (fun N L => lchirp.F N (L.i 0) (L.l 0)) lchirp.enc
theorem lchirp.ok : CallOK Tryz.prog 156 lchirp.spec := ok2 lchirp.C lchirp.K Tryz.f156 lchirp.dec (fun _ => ⟨clamp.ok,fmul.ok,trivial⟩) (fun _ => ⟨fun _ _ => ⟨rfl,rfl⟩,fun _ _ => ⟨rfl,rfl⟩,trivial⟩) (by intro N L; show _ = lchirp.F N (L.i 0) (L.l 0); rw [lchirp.F,<- funext (lchirp.loop6_eq N)]; kernel_rfl)
def lfit.sig : Eng.Sig := { args := [.at (.roi .i64 0)],post := [(0,.ints true .i64 0)],m := 1,ret := .at (.full 0 false) }
def lfit.C (N : Nat) : Cfg := { P := Tryz.prog,N := N,RT := noRT,specs := [(121,clamp.spec),(155,lstable.spec),(156,lchirp.spec)] }
abbrev lfit.R : Type := List Int
def lfit.dec (L : Eng.Leaves) : lfit.R := (L.l 0)
def lfit.enc (r : lfit.R) : Eng.Leaves := mkL [] [] [r] []
abbrev lfit.loop5.R : Type := List Int
def lfit.loop5.ann : Ann := { nx := 20,slots := [(3,.at (.full 0 true)),(13,.at (.froi .i64 0)),(14,.at (.fint .i64 0)),(15,.at (.int .i64 0))],blks := [(0,.ints true .i64 0)],xslots := [(3,.at (.full 0 true))],xblks := [(0,.ints true .i64 0)],T := lfit.loop5.R,dec := fun L => (L.l 0),enc := fun r => mkL [] [] [r] [] }
abbrev lfit.loop10.R : Type := List Int
def lfit.loop10.ann : Ann := { nx := 20,slots := [(3,.at (.full 0 false)),(6,.at (.int .i64 0))],blks := [(0,.ints true .i64 0)],mov := [0],exId := 2,xslots := [(3,.at (.full 0 false))],xblks := [(0,.ints true .i64 0)],T := lfit.loop10.R,dec := fun L => (L.l 0),enc := fun r => mkL [] [] [r] [] }
def lfit.K (N : Nat) : FCfg := { anns := [(5,lfit.loop5.ann),(10,lfit.loop10.ann)] }
def lfit.loop10 (N : Nat) : Nat -> Int -> List Int -> Option lfit.loop10.R
 | 0,_,_ => none
 | nn + 1,b,a =>
 (br (decide (b <= 16))
 (obind (Rc.lstable.F N a) fun r0 =>
 (br (!r0)
 (obind (Rc.lchirp.F N (i64.wrap (65536 - i64.wrap (2048 * b))) a) fun r1 =>
 (lfit.loop10 N nn (i64.wrap (b + 1)) r1))
 (some a)))
 (some a))
def lfit.loop10R (N nn : Nat) (a : Int) (b : List Int) : Option lfit.loop10.R := loopF lfit.loop10.ann (mkL [] [] [] []) (evCode ((lfit.C N).inLoop lfit.loop10.ann) (lfit.K N) (inlTab (lfit.C N) 0) (bodyAt 10 Tryz.f124)) nn (mkL [a] [] [b] [])
theorem lfit.loop10_eq (N : Nat) : ∀ nn,lfit.loop10R N nn = lfit.loop10 N nn := lq fun _ h => by funext; rw [lfit.loop10,<- h]; kernel_rfl
def lfit.loop5 (N : Nat) : Nat -> Int -> List Int -> Int -> List Int -> Option lfit.loop5.R
 | 0,_,_,_,_ => none
 | nn + 1,c,b,a,d =>
 (br (decide (a < c))
 (chk ((0 : Int) <= a /\ a < ↑b.length)
 (obind (Rc.clamp.F N (b.getD a.toNat 0) ((-131072)) (131072)) fun r0 =>
 (chk ((0 : Int) <= a /\ a < ↑d.length)
 (chkL b b
 (chkI c c
 (lfit.loop5 N nn c b (i64.wrap (a + 1)) (d.set a.toNat r0)))))))
 (some d))
def lfit.loop5R (N nn : Nat) (a : Int) (b : List Int) (c : Int) (d : List Int) : Option lfit.loop5.R := loopF lfit.loop5.ann (mkL [a] [] [b] []) (evCode ((lfit.C N).inLoop lfit.loop5.ann) (lfit.K N) (inlTab (lfit.C N) 0) (bodyAt 5 Tryz.f124)) nn (mkL [c] [] [d] [])
theorem lfit.loop5_eq (N : Nat) : ∀ nn,lfit.loop5R N nn = lfit.loop5 N nn := lq fun _ h => by funext; rw [lfit.loop5,<- h]; kernel_rfl
def lfit.F (N : Nat) (a : List Int) : Option lfit.R :=
 (br (decide (↑a.length > (32 : Int)))
 (some (([] : List Int)))
 (chk ((0 : Int) <= ↑a.length /\ (a.length : Int) <= ↑a.length /\ (a.length : Int) <= ↑(17592186043904 : Nat))
 (obind (lfit.loop5 N N (↑a.length) a ((0 : Int)) (List.replicate (↑a.length : Int).toNat (0 : Int))) fun r0 =>
 (obind (lfit.loop10 N N (1) r0) fun r1 =>
 (obind (Rc.lstable.F N r1) fun r2 =>
 (br (!r2)
 (some (List.replicate r1.length 0))
 (some r1)))))))
noncomputable def lfit.spec : Eng.Spec := lfit.sig.spec (fun N L => lfit.F N (L.l 0)) lfit.enc
theorem lfit.ok : CallOK Tryz.prog 124 lfit.spec := ok2 lfit.C lfit.K Tryz.f124 lfit.dec (fun _ => ⟨clamp.ok,lstable.ok,lchirp.ok,trivial⟩) (fun _ => ⟨fun _ _ => ⟨rfl,rfl⟩,fun _ _ => ⟨rfl,rfl⟩,trivial⟩) (by intro N L; show _ = lfit.F N (L.l 0); rw [lfit.F,<- funext (lfit.loop5_eq N),<- funext (lfit.loop10_eq N)]; kernel_rfl)
def lfrom.sig : Eng.Sig := { args := [.at (.roi .i64 0)],post := [(0,.ints true .i64 0)],m := 1,ret := .tup [(false,[.full 0 false]),(false,[.int .i64 0])] }
def lfrom.C (N : Nat) : Cfg := { P := Tryz.prog,N := N,RT := noRT,specs := [(121,clamp.spec),(120,fcos.spec),(122,lpoly.spec),(123,fmul.spec),(124,lfit.spec)] }
abbrev lfrom.R : Type := Int × List Int
def lfrom.dec (L : Eng.Leaves) : lfrom.R := (L.i 0,L.l 0)
def lfrom.enc (r : lfrom.R) : Eng.Leaves := mkL [r.1] [] [r.2] []
abbrev lfrom.loop5.R : Type := List Int × List Int
def lfrom.loop5.ann : Ann := { nx := 22,slots := [(4,.at (.full 20 false)),(5,.at (.full 21 false)),(23,.at (.froi .i64 0)),(24,.at (.fint .i64 0)),(25,.at (.int .i64 0))],blks := [(20,.ints true .i64 0),(21,.ints true .i64 1)],mov := [20,21],xslots := [(4,.at (.full 20 false)),(5,.at (.full 21 false))],xblks := [(20,.ints true .i64 0),(21,.ints true .i64 1)],T := lfrom.loop5.R,dec := fun L => (L.l 0,L.l 1),enc := fun r => mkL [] [] [r.1,r.2] [] }
abbrev lfrom.loop15.R : Type := List Int
def lfrom.loop15.ann : Ann := { nx := 25,slots := [(9,.at (.full 22 false)),(10,.at (.full 23 false)),(11,.at (.full 24 true)),(54,.at (.fint .i64 0)),(55,.at (.int .i64 0))],blks := [(22,.fints true .i64 0),(23,.fints true .i64 1),(24,.ints true .i64 0)],exId := 2,xslots := [(9,.at (.full 22 false)),(10,.at (.full 23 false)),(11,.at (.full 24 true))],xblks := [(22,.fints true .i64 0),(23,.fints true .i64 1),(24,.ints true .i64 0)],T := lfrom.loop15.R,dec := fun L => (L.l 0),enc := fun r => mkL [] [] [r] [] }
def lfrom.K (N : Nat) : FCfg := { anns := [(5,lfrom.loop5.ann),(15,lfrom.loop15.ann)] }
def lfrom.loop15 (N : Nat) : Nat -> Int -> List Int -> List Int -> Int -> List Int -> Option lfrom.loop15.R
 | 0,_,_,_,_,_ => none
 | nn + 1,e,b,c,a,d =>
 (br (decide (a < e))
 (chk ((0 : Int) <= i64.wrap (a + (1 : Int)) /\ i64.wrap (a + (1 : Int)) < ↑b.length)
 (chk ((0 : Int) <= a /\ a < ↑b.length)
 (chk ((0 : Int) <= i64.wrap (a + (1 : Int)) /\ i64.wrap (a + (1 : Int)) < ↑c.length)
 (chk ((0 : Int) <= a /\ a < ↑c.length)
 (obind (Rc.fmul.F N (i64.wrap (i64.wrap (0 - i64.wrap (c.getD (i64.wrap (a + (1 : Int))).toNat 0 - c.getD a.toNat 0)) - i64.wrap (b.getD (i64.wrap (a + (1 : Int))).toNat 0 + b.getD a.toNat 0))) (1) (5)) fun r0 =>
 (chk ((0 : Int) <= a /\ a < ↑d.length)
 (obind (Rc.fmul.F N (i64.wrap (i64.wrap (c.getD (i64.wrap (a + (1 : Int))).toNat 0 - c.getD a.toNat 0) - i64.wrap (b.getD (i64.wrap (a + (1 : Int))).toNat 0 + b.getD a.toNat 0))) (1) (5)) fun r1 =>
 (chk ((0 : Int) <= i64.wrap (i64.wrap (↑(d.set a.toNat r0).length - (1 : Int)) - a) /\ i64.wrap (i64.wrap (↑(d.set a.toNat r0).length - (1 : Int)) - a) < ↑(d.set a.toNat r0).length)
 (chkI e e
 (chkL b b
 (chkL c c
 (lfrom.loop15 N nn e b c (i64.wrap (a + (1 : Int))) ((d.set a.toNat r0).set (i64.wrap (i64.wrap (↑(d.set a.toNat r0).length - (1 : Int)) - a)).toNat r1)))))))))))))
 (chkL b b
 (chkL c c
 (some d))))
def lfrom.loop15R (N nn : Nat) (a : Int) (b c : List Int) (d : Int) (e : List Int) : Option lfrom.loop15.R := loopF lfrom.loop15.ann (mkL [a] [] [b,c] []) (evCode ((lfrom.C N).inLoop lfrom.loop15.ann) (lfrom.K N) (inlTab (lfrom.C N) 0) (bodyAt 15 Tryz.f63)) nn (mkL [d] [] [e] [])
theorem lfrom.loop15_eq (N : Nat) : ∀ nn,lfrom.loop15R N nn = lfrom.loop15 N nn := lq fun _ h => by funext; rw [lfrom.loop15,<- h]; kernel_rfl
def lfrom.loop5 (N : Nat) : Nat -> Int -> List Int -> Int -> List Int -> List Int -> Option lfrom.loop5.R
 | 0,_,_,_,_,_ => none
 | nn + 1,b,a,c,d,e =>
 (br (decide (c < b))
 (chk ((0 : Int) <= c /\ c < ↑a.length)
 (obind (Rc.clamp.F N (a.getD c.toNat 0) (0) (32768)) fun r0 =>
 (obind (Rc.fcos.F N r0) fun r1 =>
 (br (c.tmod (2 : Int) == (0 : Int))
 (chk (d.length + [i64.wrap (4 * r1)].length <= (17592186043904 : Nat))
 (chkL a a
 (chkI b b
 (lfrom.loop5 N nn b a (i64.wrap (c + 1)) (d ++ [i64.wrap (4 * r1)]) e))))
 (chk (e.length + [i64.wrap (4 * r1)].length <= (17592186043904 : Nat))
 (chkL a a
 (chkI b b
 (lfrom.loop5 N nn b a (i64.wrap (c + 1)) d (e ++ [i64.wrap (4 * r1)])))))))))
 (some ((d,e))))
def lfrom.loop5R (N nn : Nat) (a : Int) (b : List Int) (c : Int) (d e : List Int) : Option lfrom.loop5.R := loopF lfrom.loop5.ann (mkL [a] [] [b] []) (evCode ((lfrom.C N).inLoop lfrom.loop5.ann) (lfrom.K N) (inlTab (lfrom.C N) 0) (bodyAt 5 Tryz.f63)) nn (mkL [c] [] [d,e] [])
theorem lfrom.loop5_eq (N : Nat) : ∀ nn,lfrom.loop5R N nn = lfrom.loop5 N nn := lq fun _ h => by funext; rw [lfrom.loop5,<- h]; kernel_rfl
def lfrom.F (N : Nat) (l : List Int) : Option lfrom.R :=
 (br (↑l.length != (10 : Int))
 (br (↑l.length != (16 : Int))
 (some (((1 : Int),([] : List Int))))
 (obind (lfrom.loop5 N N (↑l.length) l ((0 : Int)) (([] : List Int)) (([] : List Int))) fun r0 =>
 (obind (Rc.lpoly.F N r0.1) fun r1 =>
 (obind (Rc.lpoly.F N r0.2) fun r2 =>
 (chk ((0 : Int) <= ↑l.length /\ (l.length : Int) <= ↑l.length /\ (l.length : Int) <= ↑(17592186043904 : Nat))
 (obind (lfrom.loop15 N N (↑r0.1.length) r1 r2 ((0 : Int)) (List.replicate (↑l.length : Int).toNat (0 : Int))) fun r3 =>
 (obind (Rc.lfit.F N r3) fun r4 =>
 (some (((0 : Int),r4))))))))))
 (obind (lfrom.loop5 N N (↑l.length) l ((0 : Int)) (([] : List Int)) (([] : List Int))) fun r5 =>
 (obind (Rc.lpoly.F N r5.1) fun r6 =>
 (obind (Rc.lpoly.F N r5.2) fun r7 =>
 (chk ((0 : Int) <= ↑l.length /\ (l.length : Int) <= ↑l.length /\ (l.length : Int) <= ↑(17592186043904 : Nat))
 (obind (lfrom.loop15 N N (↑r5.1.length) r6 r7 ((0 : Int)) (List.replicate (↑l.length : Int).toNat (0 : Int))) fun r8 =>
 (obind (Rc.lfit.F N r8) fun r9 =>
 (some (((0 : Int),r9))))))))))
noncomputable def lfrom.spec : Eng.Spec := lfrom.sig.spec (fun N L => lfrom.F N (L.l 0)) lfrom.enc
theorem lfrom.ok : CallOK Tryz.prog 63 lfrom.spec := ok2 lfrom.C lfrom.K Tryz.f63 lfrom.dec (fun _ => ⟨clamp.ok,fcos.ok,lpoly.ok,fmul.ok,lfit.ok,trivial⟩) (fun _ => ⟨fun _ _ => ⟨rfl,rfl⟩,fun _ _ => ⟨rfl,rfl⟩,trivial⟩) (by intro N L; show _ = lfrom.F N (L.l 0); rw [lfrom.F,<- funext (lfrom.loop5_eq N),<- funext (lfrom.loop15_eq N)]; kernel_rfl)
def rorder.sig : Eng.Sig := { args := [.at (.int .i64 0)],ret := .at (.int .i64 0) }
def rorder.C (N : Nat) : Cfg := { P := Tryz.prog,N := N,RT := noRT,specs := [] }
abbrev rorder.R : Type := Int
def rorder.dec (L : Eng.Leaves) : rorder.R := (L.i 0)
def rorder.enc (r : rorder.R) : Eng.Leaves := mkL [r] [] [] []
def rorder.K (N : Nat) : FCfg := {}
def rorder.F (N : Nat) (a : Int) : Option rorder.R :=
 (br (a == 8000)
 (some ((10 : Int)))
 (br (a == 16000)
 (some ((16 : Int)))
 (some ((0 : Int)))))
noncomputable def rorder.spec : Eng.Spec := rorder.sig.spec (fun N L => rorder.F N (L.i 0)) rorder.enc
theorem rorder.ok : CallOK Tryz.prog 84 rorder.spec := ok2 rorder.C rorder.K Tryz.f84 rorder.dec (fun _ => trivial) (fun _ => trivial)
def r6good.sig : Eng.Sig := { args := [.at (.int .i64 0),.at (.int .i64 1),.at (.roi .i64 0)],ret := .at (.bool 0) }
def r6good.C (N : Nat) : Cfg := { P := Tryz.prog,N := N,RT := noRT,specs := [] }
abbrev r6good.R : Type := Bool
def r6good.dec (L : Eng.Leaves) : r6good.R := (L.b 0)
def r6good.enc (r : r6good.R) : Eng.Leaves := mkL [] [r] [] []
abbrev r6good.loop4.R : Type := Bool
def r6good.loop4.ann : Ann := { nx := 20,slots := [(2,.at (.froi .i64 0)),(6,.at (.bool 0)),(7,.at (.int .i64 0))],xslots := [(6,.at (.bool 0))],T := r6good.loop4.R,dec := fun L => (L.b 0),enc := fun r => mkL [] [r] [] [],ret := true }
def r6good.K (N : Nat) : FCfg := { anns := [(4,r6good.loop4.ann)] }
def r6good.loop4 (N : Nat) : Nat -> Int -> Int -> List Int -> List Int -> Int -> Bool -> Option (r6good.loop4.R ⊕ r6good.R)
 | 0,_,_,_,_,_,_ => none
 | nn + 1,b,d,e,a,c,f =>
 (br (decide (c < ↑a.length))
 (chk ((0 : Int) <= c /\ c < ↑a.length)
 (br (decide (a.getD c.toNat (0 : Int) < (-4 : Int)))
 (omap
 (some false) .inr)
 (chk ((0 : Int) <= c /\ c < ↑a.length)
 (br (decide (a.getD c.toNat (0 : Int) > (4 : Int)))
 (omap
 (some false) .inr)
 (chkL a a
 (r6good.loop4 N nn b d e a (i64.wrap (c + 1)) f))))))
 (some (Sum.inl f)))
def r6good.loop4R (N nn : Nat) (a c : Int) (d : List Int) (e : List Int) (f : Int) (g : Bool) : Option (r6good.loop4.R ⊕ r6good.R) := loopR r6good.loop4.ann (mkL [] [] [e] []) (evCode ((r6good.C N).inLoop r6good.loop4.ann) (r6good.K N) (inlTab (r6good.C N) 0) (bodyAt 4 Tryz.f69)) (sigKr Tryz.prog Tryz.f69 r6good.sig (mkL [a,c] [] [d] []) fun L => (L.b 0)) nn (mkL [f] [g] [] [])
theorem r6good.loop4_eq (N : Nat) : ∀ nn,r6good.loop4R N nn = r6good.loop4 N nn := lq fun _ h => by funext; rw [r6good.loop4,<- h]; kernel_rfl
def r6good.F (N : Nat) (a b : Int) (c : List Int) : Option r6good.R :=
 (br (a != 10)
 (br (a != 16)
 (some false)
 (br (decide (b < 0))
 (some false)
 (br (decide (b > 15))
 (some false)
 (br (↑c.length != a)
 (some false)
 (osum (r6good.loop4 N N a b c c (0) false) fun r0 =>
 (some true))))))
 (br (decide (b < 0))
 (some false)
 (br (decide (b > 15))
 (some false)
 (br (↑c.length != a)
 (some false)
 (osum (r6good.loop4 N N a b c c (0) false) fun r1 =>
 (some true))))))
noncomputable def r6good.spec : Eng.Spec := r6good.sig.spec (fun N L => r6good.F N (L.i 0) (L.i 1) (L.l 0)) r6good.enc
theorem r6good.ok : CallOK Tryz.prog 69 r6good.spec := ok2 r6good.C r6good.K Tryz.f69 r6good.dec (fun _ => trivial) (fun _ => ⟨fun _ _ => ⟨rfl,rfl⟩,trivial⟩) (by intro N L; show _ = r6good.F N (L.i 0) (L.i 1) (L.l 0); rw [r6good.F,<- funext (r6good.loop4_eq N)]; kernel_rfl)
def within1.sig : Eng.Sig := { args := [.at (.int .i64 0),.at (.ptr 0 0)],n := 1,pre := [(0,.cells 1 [.int .i64 1])],post := [(0,.cells 1 [.fint .i64 1])],ret := .at (.bool 0) }
def within1.C (N : Nat) : Cfg := { P := Tryz.prog,N := N,RT := noRT,specs := [],hi := 1 }
abbrev within1.R : Type := Bool
def within1.dec (L : Eng.Leaves) : within1.R := (L.b 0)
def within1.enc (r : within1.R) : Eng.Leaves := mkL [] [r] [] []
def within1.K (N : Nat) : FCfg := {}
def within1.F (N : Nat) (v a : Int) : Option within1.R :=
 (br (decide (v < i64.wrap (0 - a)))
 (chkI a a
 (some true))
 (chkI a a
 (some (decide (v > a)))))
noncomputable def within1.spec : Eng.Spec := within1.sig.spec (fun N L => within1.F N (L.i 0) (L.i 1)) within1.enc
theorem within1.ok : CallOK Tryz.prog 165 within1.spec := ok2 within1.C within1.K Tryz.f165 within1.dec (fun _ => trivial) (fun _ => trivial)
def indexf64.sig : Eng.Sig := { args := [.at (.roi .i64 0),.at (.clo 165 [(0,0)])],n := 1,pre := [(0,.cells 1 [.int .i64 0])],post := [(0,.cells 1 [.int .i64 1])],ret := .at (.int .i64 0) }
def indexf64.C (N : Nat) : Cfg := { P := Tryz.prog,N := N,RT := noRT,specs := [(165,within1.spec)],hi := 1 }
abbrev indexf64.R : Type := Int × Int
def indexf64.dec (L : Eng.Leaves) : indexf64.R := (L.i 0,L.i 1)
def indexf64.enc (r : indexf64.R) : Eng.Leaves := mkL [r.1,r.2] [] [] []
abbrev indexf64.loop2.R : Type := Int
def indexf64.loop2.ann : Ann := { nx := 20,slots := [(0,.at (.froi .i64 0)),(1,.at (.clo 165 [(0,0)])),(4,.at (.int .i64 0)),(7,.at (.fint .i64 0)),(8,.at (.int .i64 1))],blks := [(0,.cells 1 [.fint .i64 1])],xslots := [(1,.at (.clo 165 [(0,0)])),(4,.at (.int .i64 0))],xblks := [(0,.cells 1 [.fint .i64 1])],T := indexf64.loop2.R,dec := fun L => (L.i 0),enc := fun r => mkL [r] [] [] [],ret := true }
def indexf64.K (N : Nat) : FCfg := { anns := [(2,indexf64.loop2.ann)] }
def indexf64.loop2 (N : Nat) : Nat -> Int -> List Int -> Int -> Int -> List Int -> Int -> Int -> Option (indexf64.loop2.R ⊕ indexf64.R)
 | 0,_,_,_,_,_,_,_ => none
 | nn + 1,b,e,d,a,l,f,c =>
 (br (decide (c < d))
 (chk ((0 : Int) <= c /\ c < ↑l.length)
 (obind (Rc.within1.F N (l.getD c.toNat 0) a) fun r0 =>
 (br r0
 (omap
 (some ((c,a))) .inr)
 (chkL l l
 (chkI d d
 (chkI a a
 (indexf64.loop2 N nn b e d a l f (i64.wrap (c + 1)))))))))
 (chkI a a
 (some (Sum.inl f))))
def indexf64.loop2R (N nn : Nat) (a : Int) (c : List Int) (d b : Int) (l : List Int) (e f : Int) : Option (indexf64.loop2.R ⊕ indexf64.R) := loopR indexf64.loop2.ann (mkL [d,b] [] [l] []) (evCode ((indexf64.C N).inLoop indexf64.loop2.ann) (indexf64.K N) (inlTab (indexf64.C N) 0) (bodyAt 2 Tryz.f168)) (sigKr Tryz.prog Tryz.f168 indexf64.sig (mkL [a] [] [c] []) fun L => (L.i 0,L.i 1)) nn (mkL [e,f] [] [] [])
theorem indexf64.loop2_eq (N : Nat) : ∀ nn,indexf64.loop2R N nn = indexf64.loop2 N nn := lq fun _ h => by funext; rw [indexf64.loop2,<- h]; kernel_rfl
def indexf64.F (N : Nat) (a : Int) (l : List Int) : Option indexf64.R :=
 (osum (indexf64.loop2 N N a l (↑l.length) a l ((0 : Int)) ((0 : Int))) fun r0 =>
 (some (((-1 : Int),a))))
noncomputable def indexf64.spec : Eng.Spec := indexf64.sig.spec (fun N L => indexf64.F N (L.i 0) (L.l 0)) indexf64.enc
theorem indexf64.ok : CallOK Tryz.prog 168 indexf64.spec := ok2 indexf64.C indexf64.K Tryz.f168 indexf64.dec (fun _ => ⟨within1.ok,trivial⟩) (fun _ => ⟨fun _ _ => ⟨rfl,rfl⟩,trivial⟩) (by intro N L; show _ = indexf64.F N (L.i 0) (L.l 0); rw [indexf64.F,<- funext (indexf64.loop2_eq N)]; kernel_rfl)
def contains64.sig : Eng.Sig := { args := [.at (.roi .i64 0),.at (.clo 165 [(0,0)])],n := 1,pre := [(0,.cells 1 [.int .i64 0])],post := [(0,.cells 1 [.int .i64 0])],ret := .at (.bool 0) }
def contains64.C (N : Nat) : Cfg := { P := Tryz.prog,N := N,RT := noRT,specs := [(168,indexf64.spec)],hi := 1 }
abbrev contains64.R : Type := Int × Bool
def contains64.dec (L : Eng.Leaves) : contains64.R := (L.i 0,L.b 0)
def contains64.enc (r : contains64.R) : Eng.Leaves := mkL [r.1] [r.2] [] []
def contains64.K (N : Nat) : FCfg := {}
def contains64.F (N : Nat) (a : Int) (l : List Int) : Option contains64.R :=
 (obind (Rc.indexf64.F N a l) fun r0 =>
 (some ((r0.2,decide (r0.1 >= 0)))))
noncomputable def contains64.spec : Eng.Spec := contains64.sig.spec (fun N L => contains64.F N (L.i 0) (L.l 0)) contains64.enc
theorem contains64.ok : CallOK Tryz.prog 164 contains64.spec := ok2 contains64.C contains64.K Tryz.f164 contains64.dec (fun _ => ⟨indexf64.ok,trivial⟩) (fun _ => trivial)
def within.sig : Eng.Sig := { args := [.at (.roi .i64 0),.at (.int .i64 0)],ret := .at (.bool 0) }
def within.C (N : Nat) : Cfg := { P := Tryz.prog,N := N,RT := noRT,specs := [(164,contains64.spec)] }
abbrev within.R : Type := Bool
def within.dec (L : Eng.Leaves) : within.R := (L.b 0)
def within.enc (r : within.R) : Eng.Leaves := mkL [] [r] [] []
def within.K (N : Nat) : FCfg := {}
def within.F (N : Nat) (a : Int) (l : List Int) : Option within.R :=
 (obind (Rc.contains64.F N a l) fun r0 =>
 (some (!r0.2)))
noncomputable def within.spec : Eng.Spec := within.sig.spec (fun N L => within.F N (L.i 0) (L.l 0)) within.enc
theorem within.ok : CallOK Tryz.prog 157 within.spec := ok2 within.C within.K Tryz.f157 within.dec (fun _ => ⟨contains64.ok,trivial⟩) (fun _ => trivial)
def sygood.sig : Eng.Sig := { args := [.agg [.roi .i64 0,.int .i64 0,.int .i64 1,.int .i64 2,.int .i64 3,.int .i64 4,.int .i64 5,.int .i64 6,.roi .i64 1]],ret := .at (.bool 0) }
def sygood.C (N : Nat) : Cfg := { P := Tryz.prog,N := N,RT := noRT,specs := [(157,within.spec),(165,within1.spec)],inl := [(157,FCfg.none),(164,FCfg.none),(168,{ unr := [(2,7)] })] }
abbrev sygood.R : Type := Bool
def sygood.dec (L : Eng.Leaves) : sygood.R := (L.b 0)
def sygood.enc (r : sygood.R) : Eng.Leaves := mkL [] [r] [] []
def sygood.K (N : Nat) : FCfg := {}
def sygood.F (N : Nat) (h i c d e f g : Int) (b a : List Int) : Option sygood.R :=
 (br (decide (↑b.length < (1 : Int)))
 (some false)
 (br (decide (↑b.length > (480 : Int)))
 (some false)
 (obind (Rc.within.F N (16) b) fun r0 =>
 (br (!r0)
 (some false)
 (br (decide (h < 0))
 (some false)
 (br (decide (h > 262144))
 (some false)
 (br (i == 0)
 (obind (Rc.within1.F N c (128)) fun r1 =>
 (br r1
 (some false)
 (obind (Rc.within1.F N d (128)) fun r2 =>
 (br r2
 (some false)
 (obind (Rc.within1.F N e (128)) fun r3 =>
 (br r3
 (some false)
 (obind (Rc.within1.F N f (128)) fun r4 =>
 (br r4
 (some false)
 (obind (Rc.within1.F N g (128)) fun r5 =>
 (br r5
 (some false)
 (br (decide (↑a.length <= (32 : Int)))
 (obind (Rc.within.F N (131072) a) fun r6 =>
 (some r6))
 (some false))))))))))))
 (br (decide (i >= 3))
 (br (decide (i <= 318))
 (obind (Rc.within1.F N c (128)) fun r7 =>
 (br r7
 (some false)
 (obind (Rc.within1.F N d (128)) fun r8 =>
 (br r8
 (some false)
 (obind (Rc.within1.F N e (128)) fun r9 =>
 (br r9
 (some false)
 (obind (Rc.within1.F N f (128)) fun r10 =>
 (br r10
 (some false)
 (obind (Rc.within1.F N g (128)) fun r11 =>
 (br r11
 (some false)
 (br (decide (↑a.length <= (32 : Int)))
 (obind (Rc.within.F N (131072) a) fun r12 =>
 (some r12))
 (some false))))))))))))
 (some false))
 (some false)))))))))
theorem sygood.F_eq (N : Nat) (L : Eng.Leaves) : evSig (sygood.C N) (sygood.K N) 3 Tryz.f126 sygood.sig L sygood.dec = sygood.F N (L.i 0) (L.i 1) (L.i 2) (L.i 3) (L.i 4) (L.i 5) (L.i 6) (L.l 0) (L.l 1) := by
 kernel_rfl
def sygood.spec : Eng.Spec := sygood.sig.spec (fun N L => sygood.F N (L.i 0) (L.i 1) (L.i 2) (L.i 3) (L.i 4) (L.i 5) (L.i 6) (L.l 0) (L.l 1)) sygood.enc
theorem sygood.cok (N : Nat) : CfgOK (sygood.C N) := cok0 wide ⟨within.ok,within1.ok,trivial⟩ (by kernel_rfl) rfl rfl rfl rfl
theorem sygood.aok (N : Nat) : AnnsOK (sygood.K N) := aok1 trivial
theorem sygood.ok : CallOK Tryz.prog 126 sygood.spec := ok0 sygood.cok (fun _ q hq => by
   simp only [sygood.C,List.mem_cons,List.not_mem_nil,or_false] at hq
   rcases hq with rfl | rfl | rfl
   ·exact ⟨fun q hq => by simp [FCfg.none] at hq,by kernel_rfl⟩
   ·exact ⟨fun q hq => by simp [FCfg.none] at hq,by kernel_rfl⟩
   ·exact ⟨fun q hq => by simp at hq,by kernel_rfl⟩) sygood.aok sygood.F_eq (by kernel_rfl) (by kernel_rfl) (fun _ => rfl) (fun _ => ⟨rfl,rfl⟩) fun _ _ => ⟨rfl,rfl⟩
def sykept.sig : Eng.Sig := { args := [.at (.int .i64 0)],ret := .at (.int .i64 0) }
def sykept.C (N : Nat) : Cfg := { P := Tryz.prog,N := N,RT := noRT,specs := [(121,clamp.spec)] }
abbrev sykept.R : Type := Int
def sykept.dec (L : Eng.Leaves) : sykept.R := (L.i 0)
def sykept.enc (r : sykept.R) : Eng.Leaves := mkL [r] [] [] []
def sykept.K (N : Nat) : FCfg := {}
def sykept.F (N : Nat) (v : Int) : Option sykept.R :=
 (obind (Rc.clamp.F N v ((-16777216)) (16777216)) fun r0 =>
 (some r0))
noncomputable def sykept.spec : Eng.Spec := sykept.sig.spec (fun N L => sykept.F N (L.i 0)) sykept.enc
theorem sykept.ok : CallOK Tryz.prog 127 sykept.spec := ok2 sykept.C sykept.K Tryz.f127 sykept.dec (fun _ => ⟨clamp.ok,trivial⟩) (fun _ => trivial)
def syrun.sig : Eng.Sig := { args := [.at (.ptr 0 0),.agg [.roi .i64 0,.int .i64 0,.int .i64 1,.int .i64 2,.int .i64 3,.int .i64 4,.int .i64 5,.int .i64 6,.roi .i64 1]],n := 1,pre := [(0,.ints false .i64 2)],post := [(0,.ints false .i64 0),(1,.ints true .i64 1)],m := 1,ret := .tup [(false,[.full 1 false]),(false,[.int .i64 0])] }
def syrun.C (N : Nat) : Cfg := { P := Tryz.prog,N := N,RT := noRT,specs := [(126,sygood.spec),(123,fmul.spec),(127,sykept.spec)],hi := 1 }
abbrev syrun.R : Type := Int × List Int × List Int
def syrun.dec (L : Eng.Leaves) : syrun.R := (L.i 0,L.l 0,L.l 1)
def syrun.enc (r : syrun.R) : Eng.Leaves := mkL [r.1] [] [r.2.1,r.2.2] []
abbrev syrun.loop5.R : Type := List Int × List Int
def syrun.loop5.ann : Ann := { nx := 20,slots := [(0,.at (.ptr 0 0)),(3,.at (.ptr 1 0)),(6,.at (.full 2 false)),(23,.at (.froi .i64 0)),(24,.at (.fint .i64 0)),(25,.at (.int .i64 0))],blks := [(0,.ints false .i64 0),(1,.cells 9 [.froi .i64 1,.fint .i64 1,.fint .i64 2,.fint .i64 3,.fint .i64 4,.fint .i64 5,.fint .i64 6,.fint .i64 7,.froi .i64 2]),(2,.ints true .i64 1)],mov := [2],xslots := [(0,.at (.ptr 0 0)),(3,.at (.ptr 1 0)),(6,.at (.full 2 false))],xblks := [(0,.ints false .i64 0),(1,.cells 9 [.froi .i64 1,.fint .i64 1,.fint .i64 2,.fint .i64 3,.fint .i64 4,.fint .i64 5,.fint .i64 6,.fint .i64 7,.froi .i64 2]),(2,.ints true .i64 1)],T := syrun.loop5.R,dec := fun L => (L.l 0,L.l 1),enc := fun r => mkL [] [] [r.1,r.2] [] }
abbrev syrun.loop10.R : Type := Int
def syrun.loop10.ann : Ann := { nx := 20,slots := [(0,.at (.ptr 0 0)),(3,.at (.ptr 1 0)),(9,.at (.int .i64 0)),(37,.agg [.fint .i64 0,.fint .i64 1,.fint .i64 2,.fint .i64 3,.fint .i64 4]),(38,.at (.int .i64 1))],blks := [(0,.fints false .i64 0),(1,.cells 9 [.froi .i64 1,.fint .i64 5,.fint .i64 6,.fint .i64 7,.fint .i64 8,.fint .i64 9,.fint .i64 10,.fint .i64 11,.froi .i64 2])],exId := 2,xslots := [(0,.at (.ptr 0 0)),(3,.at (.ptr 1 0)),(9,.at (.int .i64 0))],xblks := [(0,.fints false .i64 0),(1,.cells 9 [.froi .i64 1,.fint .i64 5,.fint .i64 6,.fint .i64 7,.fint .i64 8,.fint .i64 9,.fint .i64 10,.fint .i64 11,.froi .i64 2])],T := syrun.loop10.R,dec := fun L => (L.i 0),enc := fun r => mkL [r] [] [] [] }
abbrev syrun.loop17.R : Type := Int
def syrun.loop17.ann : Ann := { nx := 20,slots := [(0,.at (.ptr 0 0)),(12,.at (.int .i64 0)),(61,.at (.froi .i64 0)),(62,.at (.fint .i64 0)),(63,.at (.int .i64 1))],blks := [(0,.fints false .i64 1)],exId := 4,xslots := [(0,.at (.ptr 0 0)),(12,.at (.int .i64 0))],xblks := [(0,.fints false .i64 1)],T := syrun.loop17.R,dec := fun L => (L.i 0),enc := fun r => mkL [r] [] [] [] }
def syrun.K (N : Nat) : FCfg := { anns := [(5,syrun.loop5.ann),(10,syrun.loop10.ann),(17,syrun.loop17.ann)] }
def syrun.loop17 (N : Nat) : Nat -> Int -> List Int -> List Int -> Int -> Int -> Option syrun.loop17.R
 | 0,_,_,_,_,_ => none
 | nn + 1,c,b,v,d,a =>
 (br (decide (a < c))
 (chk ((0 : Int) <= a /\ a < ↑b.length)
 (chk (((0 : Int) <= a /\ a < ↑(32 : Nat)) /\ (352 : Nat) <= v.length)
 (obind (Rc.fmul.F N (b.getD a.toNat 0) (v.getD ((320 : Nat) + a.toNat) 0) (12)) fun r0 =>
 (chkL b b
 (chkI c c
 (chkL v v
 (syrun.loop17 N nn c b v (i64.wrap (d + r0)) (i64.wrap (a + 1)))))))))
 (chkL v v
 (some d)))
def syrun.loop17R (N nn : Nat) (a : Int) (b v : List Int) (c d : Int) : Option syrun.loop17.R := loopF syrun.loop17.ann (mkL [a] [] [b,v] []) (evCode ((syrun.C N).inLoop syrun.loop17.ann) (syrun.K N) (inlTab (syrun.C N) 0) (bodyAt 17 Tryz.f66)) nn (mkL [c,d] [] [] [])
theorem syrun.loop17_eq (N : Nat) : ∀ nn,syrun.loop17R N nn = syrun.loop17 N nn := lq fun _ h => by funext; rw [syrun.loop17,<- h]; kernel_rfl
def syrun.loop10 (N : Nat) : Nat -> Int -> Int -> Int -> Int -> Int -> Int -> Int -> Int -> Int -> Int -> Int -> Int -> List Int -> List Int -> List Int -> Int -> Int -> Option syrun.loop10.R
 | 0,_,_,_,_,_,_,_,_,_,_,_,_,_,_,_,_,_ => none
 | nn + 1,b,c,d,e,f,g,a,h,i,j,k,l,v,m,n,p,o =>
 (br (decide (o < 5))
 (chk ((0 : Int) <= o /\ o < ↑(5 : Nat))
 (chk (((0 : Int) <= i64.wrap (i64.wrap (a - (3 : Int)) + o) /\ i64.wrap (i64.wrap (a - (3 : Int)) + o) < ↑(320 : Nat)) /\ (320 : Nat) <= v.length)
 (obind (Rc.fmul.F N ([b,c,d,e,f].getD o.toNat 0) (v.getD ((0 : Nat) + (i64.wrap (i64.wrap (a - 3) + o)).toNat) 0) (7)) fun r0 =>
 (chkI b b
 (chkI c c
 (chkI d d
 (chkI e e
 (chkI f f
 (chkL v v
 (chkL m m
 (chkI g g
 (chkI a a
 (chkI h h
 (chkI i i
 (chkI j j
 (chkI k k
 (chkI l l
 (chkL n n
 (syrun.loop10 N nn b c d e f g a h i j k l v m n (i64.wrap (p + r0)) (i64.wrap (o + 1)))))))))))))))))))))
 (chkL v v
 (chkL m m
 (chkI g g
 (chkI a a
 (chkI h h
 (chkI i i
 (chkI j j
 (chkI k k
 (chkI l l
 (chkL n n
 (some p))))))))))))
def syrun.loop10R (N nn : Nat) (a b c d e f g h i j k l : Int) (v m n : List Int) (p o : Int) : Option syrun.loop10.R := loopF syrun.loop10.ann (mkL [a,b,c,d,e,f,g,h,i,j,k,l] [] [v,m,n] []) (evCode ((syrun.C N).inLoop syrun.loop10.ann) (syrun.K N) (inlTab (syrun.C N) 0) (bodyAt 10 Tryz.f66)) nn (mkL [p,o] [] [] [])
theorem syrun.loop10_eq (N : Nat) : ∀ nn,syrun.loop10R N nn = syrun.loop10 N nn := lq fun _ h => by funext; rw [syrun.loop10,<- h]; kernel_rfl
def syrun.loop5 (N : Nat) : Nat -> Int -> Int -> Int -> Int -> Int -> Int -> Int -> Int -> List Int -> List Int -> List Int -> Int -> List Int -> List Int -> Option syrun.loop5.R
 | 0,_,_,_,_,_,_,_,_,_,_,_,_,_,_ => none
 | nn + 1,k,b,c,d,e,f,g,h,j,i,a,l,v,m =>
 (br (decide (l < k))
 (chk ((0 : Int) <= l /\ l < ↑j.length)
 (br (decide (c > 0))
 (obind (syrun.loop10 N N d e f g h b c d e f g h v i a (i64.wrap (j.getD l.toNat 0 * b)) (0)) fun r0 =>
 (obind (Rc.sykept.F N r0) fun r1 =>
 (obind (syrun.loop17 N N (↑a.length) a v r1 ((0 : Int))) fun r2 =>
 (obind (Rc.sykept.F N r2) fun r3 =>
 (chk ((320 : Nat) <= v.length)
 (chk ((320 : Nat) <= v.length)
 (chk ((320 : Nat) <= v.length)
 (chk ((352 : Nat) <= (List.take 1 v ++ (List.take 319 (List.take 320 (List.drop 0 v)) ++ List.drop ((1 : Nat) + min (List.take 320 (List.drop 0 v)).length 319) v)).length)
 (chk ((352 : Nat) <= (List.take 1 v ++ (List.take 319 (List.take 320 (List.drop 0 v)) ++ List.drop ((1 : Nat) + min (List.take 320 (List.drop 0 v)).length 319) v)).length)
 (chk ((352 : Nat) <= (List.take 1 v ++ (List.take 319 (List.take 320 (List.drop 0 v)) ++ List.drop ((1 : Nat) + min (List.take 320 (List.drop 0 v)).length 319) v)).length)
 (chk (((0 : Int) <= (0 : Int) /\ (0 : Int) < ↑(320 : Nat)) /\ (320 : Nat) <= (List.take (321 : Nat) (List.take (1 : Nat) v ++ (List.take (319 : Nat) (List.take (320 : Nat) (List.drop (0 : Nat) v)) ++ List.drop ((1 : Nat) + min (List.take (320 : Nat) (List.drop (0 : Nat) v)).length (319 : Nat)) v)) ++ (List.take (31 : Nat) (List.take (32 : Nat) (List.drop (320 : Nat) (List.take (1 : Nat) v ++ (List.take (319 : Nat) (List.take (320 : Nat) (List.drop (0 : Nat) v)) ++ List.drop ((1 : Nat) + min (List.take (320 : Nat) (List.drop (0 : Nat) v)).length (319 : Nat)) v)))) ++ List.drop ((321 : Nat) + min (List.take (32 : Nat) (List.drop (320 : Nat) (List.take (1 : Nat) v ++ (List.take (319 : Nat) (List.take (320 : Nat) (List.drop (0 : Nat) v)) ++ List.drop ((1 : Nat) + min (List.take (320 : Nat) (List.drop (0 : Nat) v)).length (319 : Nat)) v)))).length (31 : Nat)) (List.take (1 : Nat) v ++ (List.take (319 : Nat) (List.take (320 : Nat) (List.drop (0 : Nat) v)) ++ List.drop ((1 : Nat) + min (List.take (320 : Nat) (List.drop (0 : Nat) v)).length (319 : Nat)) v)))).length)
 (chk (((0 : Int) <= (0 : Int) /\ (0 : Int) < ↑(32 : Nat)) /\ (352 : Nat) <= ((List.take (321 : Nat) (List.take (1 : Nat) v ++ (List.take (319 : Nat) (List.take (320 : Nat) (List.drop (0 : Nat) v)) ++ List.drop ((1 : Nat) + min (List.take (320 : Nat) (List.drop (0 : Nat) v)).length (319 : Nat)) v)) ++ (List.take (31 : Nat) (List.take (32 : Nat) (List.drop (320 : Nat) (List.take (1 : Nat) v ++ (List.take (319 : Nat) (List.take (320 : Nat) (List.drop (0 : Nat) v)) ++ List.drop ((1 : Nat) + min (List.take (320 : Nat) (List.drop (0 : Nat) v)).length (319 : Nat)) v)))) ++ List.drop ((321 : Nat) + min (List.take (32 : Nat) (List.drop (320 : Nat) (List.take (1 : Nat) v ++ (List.take (319 : Nat) (List.take (320 : Nat) (List.drop (0 : Nat) v)) ++ List.drop ((1 : Nat) + min (List.take (320 : Nat) (List.drop (0 : Nat) v)).length (319 : Nat)) v)))).length (31 : Nat)) (List.take (1 : Nat) v ++ (List.take (319 : Nat) (List.take (320 : Nat) (List.drop (0 : Nat) v)) ++ List.drop ((1 : Nat) + min (List.take (320 : Nat) (List.drop (0 : Nat) v)).length (319 : Nat)) v)))).set (0 : Nat) r1).length)
 (chk (m.length + [r3].length <= (17592186043904 : Nat))
 (chkL j j
 (chkI k k
 (chkL i i
 (chkI b b
 (chkI c c
 (chkI d d
 (chkI e e
 (chkI f f
 (chkI g g
 (chkI h h
 (chkL a a
 (syrun.loop5 N nn k b c d e f g h j i a (i64.wrap (l + 1)) (((List.take 321 (List.take 1 v ++ (List.take 319 (List.take 320 (List.drop 0 v)) ++ List.drop ((1 : Nat) + min (List.take 320 (List.drop 0 v)).length 319) v)) ++ (List.take 31 (List.take 32 (List.drop 320 (List.take 1 v ++ (List.take 319 (List.take 320 (List.drop 0 v)) ++ List.drop ((1 : Nat) + min (List.take 320 (List.drop 0 v)).length 319) v)))) ++ List.drop ((321 : Nat) + min (List.take 32 (List.drop 320 (List.take 1 v ++ (List.take 319 (List.take 320 (List.drop 0 v)) ++ List.drop ((1 : Nat) + min (List.take 320 (List.drop 0 v)).length 319) v)))).length 31) (List.take 1 v ++ (List.take 319 (List.take 320 (List.drop 0 v)) ++ List.drop ((1 : Nat) + min (List.take 320 (List.drop 0 v)).length 319) v)))).set 0 r1).set 320 r3) (m ++ [r3]))))))))))))))))))))))))))
 (obind (Rc.sykept.F N (i64.wrap (j.getD l.toNat 0 * b))) fun r4 =>
 (obind (syrun.loop17 N N (↑a.length) a v r4 ((0 : Int))) fun r5 =>
 (obind (Rc.sykept.F N r5) fun r6 =>
 (chk ((320 : Nat) <= v.length)
 (chk ((320 : Nat) <= v.length)
 (chk ((320 : Nat) <= v.length)
 (chk ((352 : Nat) <= (List.take 1 v ++ (List.take 319 (List.take 320 (List.drop 0 v)) ++ List.drop ((1 : Nat) + min (List.take 320 (List.drop 0 v)).length 319) v)).length)
 (chk ((352 : Nat) <= (List.take 1 v ++ (List.take 319 (List.take 320 (List.drop 0 v)) ++ List.drop ((1 : Nat) + min (List.take 320 (List.drop 0 v)).length 319) v)).length)
 (chk ((352 : Nat) <= (List.take 1 v ++ (List.take 319 (List.take 320 (List.drop 0 v)) ++ List.drop ((1 : Nat) + min (List.take 320 (List.drop 0 v)).length 319) v)).length)
 (chk (((0 : Int) <= (0 : Int) /\ (0 : Int) < ↑(320 : Nat)) /\ (320 : Nat) <= (List.take (321 : Nat) (List.take (1 : Nat) v ++ (List.take (319 : Nat) (List.take (320 : Nat) (List.drop (0 : Nat) v)) ++ List.drop ((1 : Nat) + min (List.take (320 : Nat) (List.drop (0 : Nat) v)).length (319 : Nat)) v)) ++ (List.take (31 : Nat) (List.take (32 : Nat) (List.drop (320 : Nat) (List.take (1 : Nat) v ++ (List.take (319 : Nat) (List.take (320 : Nat) (List.drop (0 : Nat) v)) ++ List.drop ((1 : Nat) + min (List.take (320 : Nat) (List.drop (0 : Nat) v)).length (319 : Nat)) v)))) ++ List.drop ((321 : Nat) + min (List.take (32 : Nat) (List.drop (320 : Nat) (List.take (1 : Nat) v ++ (List.take (319 : Nat) (List.take (320 : Nat) (List.drop (0 : Nat) v)) ++ List.drop ((1 : Nat) + min (List.take (320 : Nat) (List.drop (0 : Nat) v)).length (319 : Nat)) v)))).length (31 : Nat)) (List.take (1 : Nat) v ++ (List.take (319 : Nat) (List.take (320 : Nat) (List.drop (0 : Nat) v)) ++ List.drop ((1 : Nat) + min (List.take (320 : Nat) (List.drop (0 : Nat) v)).length (319 : Nat)) v)))).length)
 (chk (((0 : Int) <= (0 : Int) /\ (0 : Int) < ↑(32 : Nat)) /\ (352 : Nat) <= ((List.take (321 : Nat) (List.take (1 : Nat) v ++ (List.take (319 : Nat) (List.take (320 : Nat) (List.drop (0 : Nat) v)) ++ List.drop ((1 : Nat) + min (List.take (320 : Nat) (List.drop (0 : Nat) v)).length (319 : Nat)) v)) ++ (List.take (31 : Nat) (List.take (32 : Nat) (List.drop (320 : Nat) (List.take (1 : Nat) v ++ (List.take (319 : Nat) (List.take (320 : Nat) (List.drop (0 : Nat) v)) ++ List.drop ((1 : Nat) + min (List.take (320 : Nat) (List.drop (0 : Nat) v)).length (319 : Nat)) v)))) ++ List.drop ((321 : Nat) + min (List.take (32 : Nat) (List.drop (320 : Nat) (List.take (1 : Nat) v ++ (List.take (319 : Nat) (List.take (320 : Nat) (List.drop (0 : Nat) v)) ++ List.drop ((1 : Nat) + min (List.take (320 : Nat) (List.drop (0 : Nat) v)).length (319 : Nat)) v)))).length (31 : Nat)) (List.take (1 : Nat) v ++ (List.take (319 : Nat) (List.take (320 : Nat) (List.drop (0 : Nat) v)) ++ List.drop ((1 : Nat) + min (List.take (320 : Nat) (List.drop (0 : Nat) v)).length (319 : Nat)) v)))).set (0 : Nat) r4).length)
 (chk (m.length + [r6].length <= (17592186043904 : Nat))
 (chkL j j
 (chkI k k
 (chkL i i
 (chkI b b
 (chkI c c
 (chkI d d
 (chkI e e
 (chkI f f
 (chkI g g
 (chkI h h
 (chkL a a
 (syrun.loop5 N nn k b c d e f g h j i a (i64.wrap (l + 1)) (((List.take 321 (List.take 1 v ++ (List.take 319 (List.take 320 (List.drop 0 v)) ++ List.drop ((1 : Nat) + min (List.take 320 (List.drop 0 v)).length 319) v)) ++ (List.take 31 (List.take 32 (List.drop 320 (List.take 1 v ++ (List.take 319 (List.take 320 (List.drop 0 v)) ++ List.drop ((1 : Nat) + min (List.take 320 (List.drop 0 v)).length 319) v)))) ++ List.drop ((321 : Nat) + min (List.take 32 (List.drop 320 (List.take 1 v ++ (List.take 319 (List.take 320 (List.drop 0 v)) ++ List.drop ((1 : Nat) + min (List.take 320 (List.drop 0 v)).length 319) v)))).length 31) (List.take 1 v ++ (List.take 319 (List.take 320 (List.drop 0 v)) ++ List.drop ((1 : Nat) + min (List.take 320 (List.drop 0 v)).length 319) v)))).set 0 r4).set 320 r6) (m ++ [r6])))))))))))))))))))))))))))
 (chkL i i
 (chkI b b
 (chkI c c
 (chkI d d
 (chkI e e
 (chkI f f
 (chkI g g
 (chkI h h
 (chkL a a
 (some ((v,m)))))))))))))
def syrun.loop5R (N nn : Nat) (j a b c d e f g : Int) (k h i : List Int) (l : Int) (v m : List Int) : Option syrun.loop5.R := loopF syrun.loop5.ann (mkL [j,a,b,c,d,e,f,g] [] [k,h,i] []) (evCode ((syrun.C N).inLoop syrun.loop5.ann) (syrun.K N) (inlTab (syrun.C N) 0) (bodyAt 5 Tryz.f66)) nn (mkL [l] [] [v,m] [])
theorem syrun.loop5_eq (N : Nat) : ∀ nn,syrun.loop5R N nn = syrun.loop5 N nn
 | 0 => by funext; kernel_rfl
 | nn + 1 => by
  funext; rw [syrun.loop5,<- syrun.loop5_eq N nn,<- funext (syrun.loop10_eq N),<- funext (syrun.loop17_eq N)]; kernel_rfl
def syrun.F (N : Nat) (h i c d e f g : Int) (a b v : List Int) : Option syrun.R :=
 (obind (Rc.sygood.F N h i c d e f g a b) fun r0 =>
 (br (!r0)
 (some (((1 : Int),v,([] : List Int))))
 (chk ((0 : Int) <= (0 : Int) /\ (0 : Int) <= ↑a.length /\ (a.length : Int) <= ↑(17592186043904 : Nat))
 (obind (syrun.loop5 N N (↑a.length) h i c d e f g a a b ((0 : Int)) v (List.replicate (0 : Nat) (0 : Int))) fun r1 =>
 (some (((0 : Int),r1.1,r1.2)))))))
noncomputable def syrun.spec : Eng.Spec := syrun.sig.spec (fun N L => syrun.F N (L.i 0) (L.i 1) (L.i 2) (L.i 3) (L.i 4) (L.i 5) (L.i 6) (L.l 0) (L.l 1) (L.l 2)) syrun.enc
theorem syrun.ok : CallOK Tryz.prog 66 syrun.spec := ok2 syrun.C syrun.K Tryz.f66 syrun.dec (fun _ => ⟨sygood.ok,fmul.ok,sykept.ok,trivial⟩) (fun _ => ⟨fun _ _ => ⟨rfl,rfl⟩,fun _ _ => ⟨rfl,rfl⟩,fun _ _ => ⟨rfl,rfl⟩,trivial⟩) (by intro N L; show _ = syrun.F N (L.i 0) (L.i 1) (L.i 2) (L.i 3) (L.i 4) (L.i 5) (L.i 6) (L.l 0) (L.l 1) (L.l 2); rw [syrun.F,<- funext (syrun.loop5_eq N)]; kernel_rfl)
def syreset.sig : Eng.Sig := { args := [.at (.ptr 0 0)],n := 1,pre := [(0,.ints false .i64 0)],post := [(0,.ints false .i64 0)],ret := .at (.unk) }
def syreset.C (N : Nat) : Cfg := { P := Tryz.prog,N := N,RT := noRT,specs := [],hi := 1 }
abbrev syreset.R : Type := List Int
def syreset.dec (L : Eng.Leaves) : syreset.R := (L.l 0)
def syreset.enc (r : syreset.R) : Eng.Leaves := mkL [] [] [r] []
def syreset.K (N : Nat) : FCfg := {}
def syreset.F (N : Nat) (v : List Int) : Option syreset.R :=
 (chk ((352 : Nat) <= v.length)
 (some (List.take 0 v ++ (List.replicate 352 0 ++ List.drop 352 v))))
noncomputable def syreset.spec : Eng.Spec := syreset.sig.spec (fun N L => syreset.F N (L.l 0)) syreset.enc
theorem syreset.ok : CallOK Tryz.prog 98 syreset.spec := ok2 syreset.C syreset.K Tryz.f98 syreset.dec (fun _ => trivial) (fun _ => trivial)
def sycopy.sig : Eng.Sig := { args := [.at (.ptr 0 0)],n := 1,pre := [(0,.ints false .i64 0)],post := [(0,.fints false .i64 0),(1,.ints false .i64 0)],m := 1,ret := .at (.ptr 1 0) }
def sycopy.C (N : Nat) : Cfg := { P := Tryz.prog,N := N,RT := noRT,specs := [],hi := 1 }
abbrev sycopy.R : Type := List Int
def sycopy.dec (L : Eng.Leaves) : sycopy.R := (L.l 0)
def sycopy.enc (r : sycopy.R) : Eng.Leaves := mkL [] [] [r] []
def sycopy.K (N : Nat) : FCfg := {}
def sycopy.F (N : Nat) (v : List Int) : Option sycopy.R :=
 (chk ((0 : Nat) + (352 : Nat) <= v.length)
 (chk ((List.take 352 (List.drop 0 v)).length = 352 /\ (0 : Nat) + (List.take 352 (List.drop 0 v)).length <= (352 : Nat))
 (chkL v v
 (some (List.take 0 (List.replicate 352 0) ++ (List.take 352 (List.drop 0 v) ++ List.drop ((0 : Nat) + (List.take 352 (List.drop 0 v)).length) (List.replicate 352 0)))))))
noncomputable def sycopy.spec : Eng.Spec := sycopy.sig.spec (fun N L => sycopy.F N (L.l 0)) sycopy.enc
theorem sycopy.ok : CallOK Tryz.prog 97 sycopy.spec := ok2 sycopy.C sycopy.K Tryz.f97 sycopy.dec (fun _ => trivial) (fun _ => trivial)
def sysame.sig : Eng.Sig := { args := [.at (.ptr 0 0),.at (.ptr 1 0)],n := 2,pre := [(0,.ints false .i64 0),(1,.ints false .i64 1)],post := [(0,.fints false .i64 0),(1,.fints false .i64 1)],ret := .at (.bool 0) }
def sysame.C (N : Nat) : Cfg := { P := Tryz.prog,N := N,RT := noRT,specs := [],hi := 2 }
abbrev sysame.R : Type := Bool
def sysame.dec (L : Eng.Leaves) : sysame.R := (L.b 0)
def sysame.enc (r : sysame.R) : Eng.Leaves := mkL [] [r] [] []
def sysame.K (N : Nat) : FCfg := {}
def sysame.F (N : Nat) (v w : List Int) : Option sysame.R :=
 (chk ((0 : Nat) + (352 : Nat) <= v.length)
 (chk ((0 : Nat) + (352 : Nat) <= w.length)
 (chk ((List.take 352 (List.drop 0 v)).length = 352 /\ (List.take 352 (List.drop 0 w)).length = 352)
 (chkL v v
 (chkL w w
 (some (decide (List.take 320 (List.drop 0 (List.take 352 (List.drop 0 v))) = List.take 320 (List.drop 0 (List.take 352 (List.drop 0 w)))) && (decide (List.take 32 (List.drop 320 (List.take 352 (List.drop 0 v))) = List.take 32 (List.drop 320 (List.take 352 (List.drop 0 w)))) && true))))))))
noncomputable def sysame.spec : Eng.Spec := sysame.sig.spec (fun N L => sysame.F N (L.l 0) (L.l 1)) sysame.enc
theorem sysame.ok : CallOK Tryz.prog 96 sysame.spec := ok2 sysame.C sysame.K Tryz.f96 sysame.dec (fun _ => trivial) (fun _ => trivial)
def synew.sig : Eng.Sig := { args := [],post := [(0,.ints false .i64 0)],m := 1,ret := .at (.ptr 0 0) }
def synew.C (N : Nat) : Cfg := { P := Tryz.prog,N := N,RT := noRT,specs := [] }
abbrev synew.R : Type := List Int
def synew.dec (L : Eng.Leaves) : synew.R := (L.l 0)
def synew.enc (r : synew.R) : Eng.Leaves := mkL [] [] [r] []
def synew.K (N : Nat) : FCfg := {}
def synew.F (N : Nat)  : Option synew.R :=
 (some (List.replicate 352 0))
noncomputable def synew.spec : Eng.Spec := synew.sig.spec (fun N L => synew.F N ) synew.enc
theorem synew.ok : CallOK Tryz.prog 40 synew.spec := ok2 synew.C synew.K Tryz.f40 synew.dec (fun _ => trivial) (fun _ => trivial)
def sypcm.sig : Eng.Sig := { args := [.at (.roi .i64 0)],post := [(0,.ints true .i64 0)],m := 1,ret := .at (.full 0 false) }
def sypcm.C (N : Nat) : Cfg := { P := Tryz.prog,N := N,RT := noRT,specs := [(123,fmul.spec),(128,fsat.spec)] }
abbrev sypcm.R : Type := List Int
def sypcm.dec (L : Eng.Leaves) : sypcm.R := (L.l 0)
def sypcm.enc (r : sypcm.R) : Eng.Leaves := mkL [] [] [r] []
abbrev sypcm.loop3.R : Type := List Int
def sypcm.loop3.ann : Ann := { nx := 20,slots := [(3,.at (.full 0 true)),(9,.at (.froi .i64 0)),(10,.at (.fint .i64 0)),(11,.at (.int .i64 0))],blks := [(0,.ints true .i64 0)],xslots := [(3,.at (.full 0 true))],xblks := [(0,.ints true .i64 0)],T := sypcm.loop3.R,dec := fun L => (L.l 0),enc := fun r => mkL [] [] [r] [] }
def sypcm.K (N : Nat) : FCfg := { anns := [(3,sypcm.loop3.ann)] }
def sypcm.loop3 (N : Nat) : Nat -> Int -> List Int -> Int -> List Int -> Option sypcm.loop3.R
 | 0,_,_,_,_ => none
 | nn + 1,b,c,a,d =>
 (br (decide (a < b))
 (chk ((0 : Int) <= a /\ a < ↑c.length)
 (obind (Rc.fmul.F N (c.getD a.toNat 0) (1) (4)) fun r0 =>
 (obind (Rc.fsat.F N r0) fun r1 =>
 (chk ((0 : Int) <= a /\ a < ↑d.length)
 (chkL c c
 (chkI b b
 (sypcm.loop3 N nn b c (i64.wrap (a + 1)) (d.set a.toNat r1))))))))
 (some d))
def sypcm.loop3R (N nn : Nat) (a : Int) (c : List Int) (b : Int) (d : List Int) : Option sypcm.loop3.R := loopF sypcm.loop3.ann (mkL [a] [] [c] []) (evCode ((sypcm.C N).inLoop sypcm.loop3.ann) (sypcm.K N) (inlTab (sypcm.C N) 0) (bodyAt 3 Tryz.f67)) nn (mkL [b] [] [d] [])
theorem sypcm.loop3_eq (N : Nat) : ∀ nn,sypcm.loop3R N nn = sypcm.loop3 N nn := lq fun _ h => by funext; rw [sypcm.loop3,<- h]; kernel_rfl
def sypcm.F (N : Nat) (l : List Int) : Option sypcm.R :=
 (chk ((0 : Int) <= ↑l.length /\ (l.length : Int) <= ↑l.length /\ (l.length : Int) <= ↑(17592186043904 : Nat))
 (obind (sypcm.loop3 N N (↑l.length) l ((0 : Int)) (List.replicate (↑l.length : Int).toNat (0 : Int))) fun r0 =>
 (some r0)))
noncomputable def sypcm.spec : Eng.Spec := sypcm.sig.spec (fun N L => sypcm.F N (L.l 0)) sypcm.enc
theorem sypcm.ok : CallOK Tryz.prog 67 sypcm.spec := ok2 sypcm.C sypcm.K Tryz.f67 sypcm.dec (fun _ => ⟨fmul.ok,fsat.ok,trivial⟩) (fun _ => ⟨fun _ _ => ⟨rfl,rfl⟩,trivial⟩) (by intro N L; show _ = sypcm.F N (L.l 0); rw [sypcm.F,<- funext (sypcm.loop3_eq N)]; kernel_rfl)
end
end Go.Proofs.Rc
