/-
 Functions of the program: what each comes to, and its contract (written by a program).
 Conditions: none: each contract is proved for every input of its shape.
-/
import Derived.Test.YtghbobmkkbdhpaaGreatEngLoopToEngRow3
import Derived.Laws.Externs
import Derived.Test.YtghbobmkkbdhpaaGreatProg
import Derived.Test.YtghbobmkkbdhpaaGreatRcFns
set_option linter.unusedVariables false
set_option linter.unusedSimpArgs false
namespace Go.Proofs.Rc
noncomputable section
open Go.Eng Go.IntKind
set_option maxRecDepth 100000
def ecarry.sig : Eng.Sig := { args := [.at (.ptr 0 0)],n := 3,pre := [(0,.cells 6 [.full 1 false,.int .u64 0,.int .u64 1,.full 2 false,.int .i64 2,.int .i64 3]),(1,.ints true .u8 0),(2,.ints true .u8 1)],post := [(0,.cells 6 [.full 1 false,.int .u64 0,.int .u64 1,.full 2 false,.int .i64 2,.int .i64 3]),(1,.ints true .u8 0),(2,.ints true .u8 1)],ret := .at (.unk) }
def ecarry.C (N : Nat) : Cfg := { P := Tryz.prog,N := N,RT := noRT,specs := [],hi := 3 }
abbrev ecarry.R : Type := Int × Int × Int × Int × List Int × List Int
def ecarry.dec (L : Eng.Leaves) : ecarry.R := (L.i 0,L.i 1,L.i 2,L.i 3,L.l 0,L.l 1)
def ecarry.enc (r : ecarry.R) : Eng.Leaves := mkL [r.1,r.2.1,r.2.2.1,r.2.2.2.1] [] [r.2.2.2.2.1,r.2.2.2.2.2] []
abbrev ecarry.loop1.R : Type := List Int
def ecarry.loop1.ann : Ann := { nx := 20,slots := [(0,.at (.ptr 0 0)),(2,.at (.int .i64 0))],blks := [(0,.cells 6 [.full 1 false,.fint .u64 0,.fint .u64 1,.full 2 false,.fint .i64 2,.fint .i64 3]),(1,.ints true .u8 0),(2,.fints true .u8 0)],xslots := [(0,.at (.ptr 0 0))],xblks := [(0,.cells 6 [.full 1 false,.fint .u64 0,.fint .u64 1,.full 2 false,.fint .i64 2,.fint .i64 3]),(1,.ints true .u8 0),(2,.fints true .u8 0)],T := ecarry.loop1.R,dec := fun L => (L.l 0),enc := fun r => mkL [] [] [r] [],ret := true }
def ecarry.K (N : Nat) : FCfg := { anns := [(1,ecarry.loop1.ann)] }
def ecarry.loop1 (N : Nat) : Nat -> Int -> Int -> Int -> Int -> List Int -> List Int -> Int -> Int -> Int -> Int -> List Int -> Int -> List Int -> Option (ecarry.loop1.R ⊕ ecarry.R)
 | 0,_,_,_,_,_,_,_,_,_,_,_,_,_ => none
 | nn + 1,k,l,e,i,j,m,f,g,a,c,h,d,b =>
 (br (decide (d >= 0))
 (chk ((0 : Int) <= d /\ d < ↑b.length)
 (chk ((0 : Int) <= d /\ d < ↑b.length)
 (chk ((0 : Int) <= d /\ d < ↑(b.set d.toNat (u8.wrap (b.getD d.toNat (0 : Int) + (1 : Int)))).length)
 (br ((b.set d.toNat (u8.wrap (b.getD d.toNat (0 : Int) + (1 : Int)))).getD d.toNat (0 : Int) != (0 : Int))
 (omap
 (some ((f,g,a,c,b.set d.toNat (u8.wrap (b.getD d.toNat (0 : Int) + (1 : Int))),h))) .inr)
 (chkI f f
 (chkI g g
 (chkI a a
 (chkI c c
 (chkL h h
 (ecarry.loop1 N nn k l e i j m f g a c h (i64.wrap (d - 1)) (b.set d.toNat (u8.wrap (b.getD d.toNat (0 : Int) + (1 : Int))))))))))))))
 (chkI f f
 (chkI g g
 (chkI a a
 (chkI c c
 (chkL h h
 (some (Sum.inl b))))))))
def ecarry.loop1R (N nn : Nat) (e f a b : Int) (d g : List Int) (k m c h : Int) (n : List Int) (o : Int) (j : List Int) : Option (ecarry.loop1.R ⊕ ecarry.R) := loopR ecarry.loop1.ann (mkL [k,m,c,h] [] [n] []) (evCode ((ecarry.C N).inLoop ecarry.loop1.ann) (ecarry.K N) (inlTab (ecarry.C N) 0) (bodyAt 1 Tryz.f162)) (sigKr Tryz.prog Tryz.f162 ecarry.sig (mkL [e,f,a,b] [] [d,g] []) fun L => (L.i 0,L.i 1,L.i 2,L.i 3,L.l 0,L.l 1)) nn (mkL [o] [] [j] [])
theorem ecarry.loop1_eq (N : Nat) : ∀ nn,ecarry.loop1R N nn = ecarry.loop1 N nn := lq fun _ h => by funext; rw [ecarry.loop1,<- h]; kernel_rfl
def ecarry.F (N : Nat) (d e a b : Int) (c f : List Int) : Option ecarry.R :=
 (osum (ecarry.loop1 N N d e a b c f d e a b f (i64.wrap (↑c.length - (1 : Int))) c) fun r0 =>
 (some ((d,e,a,b,r0,f))))
noncomputable def ecarry.spec : Eng.Spec := ecarry.sig.spec (fun N L => ecarry.F N (L.i 0) (L.i 1) (L.i 2) (L.i 3) (L.l 0) (L.l 1)) ecarry.enc
theorem ecarry.ok : CallOK Tryz.prog 162 ecarry.spec := ok2 ecarry.C ecarry.K Tryz.f162 ecarry.dec (fun _ => trivial) (fun _ => ⟨fun _ _ => ⟨rfl,rfl⟩,trivial⟩) (by intro N L; show _ = ecarry.F N (L.i 0) (L.i 1) (L.i 2) (L.i 3) (L.l 0) (L.l 1); rw [ecarry.F,<- funext (ecarry.loop1_eq N)]; kernel_rfl)
def enorm.sig : Eng.Sig := { args := [.at (.ptr 0 0)],n := 3,pre := [(0,.cells 6 [.full 1 false,.int .u64 0,.int .u64 1,.full 2 false,.int .i64 2,.int .i64 3]),(1,.ints true .u8 0),(2,.ints true .u8 1)],post := [(0,.cells 6 [.full 3 false,.int .u64 0,.int .u64 1,.full 2 false,.int .i64 2,.int .i64 3]),(1,.dead),(2,.ints true .u8 0),(3,.ints true .u8 1)],m := 1,ret := .at (.unk) }
def enorm.C (N : Nat) : Cfg := { P := Tryz.prog,N := N,RT := noRT,specs := [(162,ecarry.spec)],hi := 3 }
abbrev enorm.R : Type := Int × Int × Int × Int × List Int × List Int
def enorm.dec (L : Eng.Leaves) : enorm.R := (L.i 0,L.i 1,L.i 2,L.i 3,L.l 0,L.l 1)
def enorm.enc (r : enorm.R) : Eng.Leaves := mkL [r.1,r.2.1,r.2.2.1,r.2.2.2.1] [] [r.2.2.2.2.1,r.2.2.2.2.2] []
abbrev enorm.loop3.R : Type := Int × Int × Int × List Int
def enorm.loop3.ann : Ann := { nx := 21,slots := [(0,.at (.ptr 0 0))],blks := [(0,.cells 6 [.full 20 false,.int .u64 0,.int .u64 1,.full 2 false,.fint .i64 0,.int .i64 2]),(2,.fints true .u8 0),(20,.ints true .u8 0)],mov := [20],xslots := [(0,.at (.ptr 0 0))],xblks := [(0,.cells 6 [.full 20 false,.int .u64 0,.int .u64 1,.full 2 false,.fint .i64 0,.int .i64 2]),(2,.fints true .u8 0),(20,.ints true .u8 0)],T := enorm.loop3.R,dec := fun L => (L.i 0,L.i 1,L.i 2,L.l 0),enc := fun r => mkL [r.1,r.2.1,r.2.2.1] [] [r.2.2.2] [] }
def enorm.K (N : Nat) : FCfg := { anns := [(3,enorm.loop3.ann)] }
def enorm.loop3 (N : Nat) : Nat -> Int -> List Int -> Int -> Int -> Int -> List Int -> Option enorm.loop3.R
 | 0,_,_,_,_,_,_ => none
 | nn + 1,a,b,e,f,c,d =>
 (br (decide (f <= 8388608))
 (chk (d.length + [u8.wrap (e.fdiv ((2 : Int) ^ min (Int.toNat 23) u64.bits))].length <= (140737488351232 : Nat))
 (chkI a a
 (chkL b b
 (enorm.loop3 N nn a b (u64.wrap ↑(BitVec.ofInt u64.bits (u64.wrap (e * (2 : Int) ^ min (Int.toNat (8 : Int)) u64.bits)) &&& BitVec.ofInt u64.bits (2147483647 : Int)).toNat) (u64.wrap (f * (2 : Int) ^ min (Int.toNat (8 : Int)) u64.bits)) (i64.wrap (c + (8 : Int))) (d ++ [u8.wrap (e.fdiv ((2 : Int) ^ min (Int.toNat (23 : Int)) u64.bits))])))))
 (chkI a a
 (chkL b b
 (some ((e,f,c,d))))))
def enorm.loop3R (N nn : Nat) (a : Int) (d : List Int) (e f b : Int) (c : List Int) : Option enorm.loop3.R := loopF enorm.loop3.ann (mkL [a] [] [d] []) (evCode ((enorm.C N).inLoop enorm.loop3.ann) (enorm.K N) (inlTab (enorm.C N) 0) (bodyAt 3 Tryz.f151)) nn (mkL [e,f,b] [] [c] [])
theorem enorm.loop3_eq (N : Nat) : ∀ nn,enorm.loop3R N nn = enorm.loop3 N nn := lq fun _ h => by funext; rw [enorm.loop3,<- h]; kernel_rfl
def enorm.F (N : Nat) (d f a b : Int) (c e : List Int) : Option enorm.R :=
 (br (decide (d > 2147483647))
 (obind (Rc.ecarry.F N d f a b c e) fun r0 =>
 (obind (enorm.loop3 N N r0.2.2.1 r0.2.2.2.2.2 (u64.wrap ↑(BitVec.ofInt u64.bits r0.1 &&& BitVec.ofInt u64.bits (2147483647 : Int)).toNat) r0.2.1 r0.2.2.2.1 r0.2.2.2.2.1) fun r1 =>
 (some ((r1.1,r1.2.1,r0.2.2.1,r1.2.2.1,r0.2.2.2.2.2,r1.2.2.2)))))
 (obind (enorm.loop3 N N a e d f b c) fun r2 =>
 (some ((r2.1,r2.2.1,a,r2.2.2.1,e,r2.2.2.2)))))
noncomputable def enorm.spec : Eng.Spec := enorm.sig.spec (fun N L => enorm.F N (L.i 0) (L.i 1) (L.i 2) (L.i 3) (L.l 0) (L.l 1)) enorm.enc
theorem enorm.ok : CallOK Tryz.prog 151 enorm.spec := ok2 enorm.C enorm.K Tryz.f151 enorm.dec (fun _ => ⟨ecarry.ok,trivial⟩) (fun _ => ⟨fun _ _ => ⟨rfl,rfl⟩,trivial⟩) (by intro N L; show _ = enorm.F N (L.i 0) (L.i 1) (L.i 2) (L.i 3) (L.l 0) (L.l 1); rw [enorm.F,<- funext (enorm.loop3_eq N)]; kernel_rfl)
def etake.sig : Eng.Sig := { args := [.at (.ptr 0 0),.at (.int .u64 0),.at (.int .u64 1),.at (.int .u64 2)],n := 3,pre := [(0,.cells 6 [.full 1 false,.int .u64 3,.int .u64 4,.full 2 false,.int .i64 5,.int .i64 6]),(1,.ints true .u8 0),(2,.ints true .u8 1)],post := [(0,.cells 6 [.full 3 false,.int .u64 0,.int .u64 1,.full 2 false,.int .i64 2,.int .i64 3]),(1,.dead),(2,.ints true .u8 0),(3,.ints true .u8 1)],m := 1,ret := .at (.unk) }
def etake.C (N : Nat) : Cfg := { P := Tryz.prog,N := N,RT := noRT,specs := [(151,enorm.spec)],hi := 3 }
abbrev etake.R : Type := Int × Int × Int × Int × List Int × List Int
def etake.dec (L : Eng.Leaves) : etake.R := (L.i 0,L.i 1,L.i 2,L.i 3,L.l 0,L.l 1)
def etake.enc (r : etake.R) : Eng.Leaves := mkL [r.1,r.2.1,r.2.2.1,r.2.2.2.1] [] [r.2.2.2.2.1,r.2.2.2.2.2] []
def etake.K (N : Nat) : FCfg := {}
def etake.F (N : Nat) (h i e f b a c : Int) (d g : List Int) : Option etake.R :=
 (chk (e ≠ 0)
 (br (decide (h > 0))
 (obind (Rc.enorm.F N (u64.wrap (f + u64.wrap (b - u64.wrap (u64.wrap (b.tdiv e) * u64.wrap (e - h))))) (u64.wrap (u64.wrap (b.tdiv e) * u64.wrap (i - h))) a c d g) fun r0 =>
 (some ((r0.1,r0.2.1,r0.2.2.1,r0.2.2.2.1,r0.2.2.2.2.1,r0.2.2.2.2.2))))
 (obind (Rc.enorm.F N f (u64.wrap (b - u64.wrap (u64.wrap (b.tdiv e) * u64.wrap (e - i)))) a c d g) fun r1 =>
 (some ((r1.1,r1.2.1,r1.2.2.1,r1.2.2.2.1,r1.2.2.2.2.1,r1.2.2.2.2.2))))))
noncomputable def etake.spec : Eng.Spec := etake.sig.spec (fun N L => etake.F N (L.i 0) (L.i 1) (L.i 2) (L.i 3) (L.i 4) (L.i 5) (L.i 6) (L.l 0) (L.l 1)) etake.enc
theorem etake.ok : CallOK Tryz.prog 110 etake.spec := ok2 etake.C etake.K Tryz.f110 etake.dec (fun _ => ⟨enorm.ok,trivial⟩) (fun _ => trivial)
def esymbol.sig : Eng.Sig := { args := [.at (.ptr 0 0),.at (.int .i64 0),.at (.roi .i64 0)],n := 3,pre := [(0,.cells 6 [.full 1 false,.int .u64 1,.int .u64 2,.full 2 false,.int .i64 3,.int .i64 4]),(1,.ints true .u8 1),(2,.ints true .u8 2)],post := [(0,.cells 6 [.full 3 false,.int .u64 1,.int .u64 2,.full 2 false,.int .i64 3,.int .i64 4]),(1,.dead),(2,.ints true .u8 0),(3,.ints true .u8 1)],m := 1,ret := .at (.int .i64 0) }
def esymbol.C (N : Nat) : Cfg := { P := Tryz.prog,N := N,RT := noRT,specs := [(100,good.spec),(110,etake.spec)],hi := 3 }
abbrev esymbol.R : Type := Int × Int × Int × Int × Int × List Int × List Int
def esymbol.dec (L : Eng.Leaves) : esymbol.R := (L.i 0,L.i 1,L.i 2,L.i 3,L.i 4,L.l 0,L.l 1)
def esymbol.enc (r : esymbol.R) : Eng.Leaves := mkL [r.1,r.2.1,r.2.2.1,r.2.2.2.1,r.2.2.2.2.1] [] [r.2.2.2.2.2.1,r.2.2.2.2.2.2] []
def esymbol.K (N : Nat) : FCfg := {}
def esymbol.F (N : Nat) (s d e a b : Int) (t c f : List Int) : Option esymbol.R :=
 (obind (Rc.good.F N t) fun r0 =>
 (br (!r0)
 (some (((1 : Int),d,e,a,b,f,c)))
 (br (decide (s < 0))
 (some (((1 : Int),d,e,a,b,f,c)))
 (br (decide (s >= ↑t.length))
 (some (((1 : Int),d,e,a,b,f,c)))
 (br (decide (s > 0))
 (chk ((0 : Int) <= i64.wrap (s - (1 : Int)) /\ i64.wrap (s - (1 : Int)) < ↑t.length)
 (chk ((0 : Int) <= s /\ s < ↑t.length)
 (obind (Rc.etake.F N (u64.wrap (i64.wrap (256 - t.getD (i64.wrap (s - (1 : Int))).toNat 0))) (u64.wrap (i64.wrap (256 - t.getD s.toNat 0))) (256) d e a b c f) fun r1 =>
 (some (((0 : Int),r1.1,r1.2.1,r1.2.2.1,r1.2.2.2.1,r1.2.2.2.2.1,r1.2.2.2.2.2))))))
 (chk ((0 : Int) <= s /\ s < ↑t.length)
 (obind (Rc.etake.F N (u64.wrap 0) (u64.wrap (i64.wrap (256 - t.getD s.toNat 0))) (256) d e a b c f) fun r2 =>
 (some (((0 : Int),r2.1,r2.2.1,r2.2.2.1,r2.2.2.2.1,r2.2.2.2.2.1,r2.2.2.2.2.2))))))))))
noncomputable def esymbol.spec : Eng.Spec := esymbol.sig.spec (fun N L => esymbol.F N (L.i 0) (L.i 1) (L.i 2) (L.i 3) (L.i 4) (L.l 0) (L.l 1) (L.l 2)) esymbol.enc
theorem esymbol.ok : CallOK Tryz.prog 55 esymbol.spec := ok2 esymbol.C esymbol.K Tryz.f55 esymbol.dec (fun _ => ⟨good.ok,etake.ok,trivial⟩) (fun _ => trivial)
def ebits.sig : Eng.Sig := { args := [.at (.ptr 0 0),.at (.int .i64 0),.at (.int .i64 1)],n := 3,pre := [(0,.cells 6 [.full 1 false,.int .u64 2,.int .u64 3,.full 2 false,.int .i64 4,.int .i64 5]),(1,.ints true .u8 0),(2,.ints true .u8 1)],post := [(0,.cells 6 [.full 1 false,.fint .u64 2,.fint .u64 3,.full 3 false,.int .i64 1,.int .i64 2]),(1,.fints true .u8 0),(2,.dead),(3,.ints true .u8 0)],m := 1,ret := .at (.int .i64 0) }
def ebits.C (N : Nat) : Cfg := { P := Tryz.prog,N := N,RT := noRT,specs := [],hi := 3 }
abbrev ebits.R : Type := Int × Int × Int × List Int
def ebits.dec (L : Eng.Leaves) : ebits.R := (L.i 0,L.i 1,L.i 2,L.l 0)
def ebits.enc (r : ebits.R) : Eng.Leaves := mkL [r.1,r.2.1,r.2.2.1] [] [r.2.2.2] []
abbrev ebits.loop4.R : Type := Int × List Int
def ebits.loop4.ann : Ann := { nx := 21,slots := [(0,.at (.ptr 0 0)),(1,.at (.fint .i64 0)),(24,.at (.fint .i64 1)),(25,.at (.int .i64 0))],blks := [(0,.cells 6 [.full 1 false,.fint .u64 2,.fint .u64 3,.full 20 false,.int .i64 1,.fint .i64 4]),(1,.fints true .u8 0),(20,.ints true .u8 0)],mov := [20],xslots := [(0,.at (.ptr 0 0))],xblks := [(0,.cells 6 [.full 1 false,.fint .u64 2,.fint .u64 3,.full 20 false,.int .i64 0,.fint .i64 4]),(1,.fints true .u8 0),(20,.ints true .u8 0)],T := ebits.loop4.R,dec := fun L => (L.i 0,L.l 0),enc := fun r => mkL [r.1] [] [r.2] [] }
def ebits.K (N : Nat) : FCfg := { anns := [(4,ebits.loop4.ann)] }
def ebits.loop4 (N : Nat) : Nat -> Int -> Int -> Int -> Int -> Int -> List Int -> Int -> Int -> List Int -> Option ebits.loop4.R
 | 0,_,_,_,_,_,_,_,_,_ => none
 | nn + 1,v,g,e,f,b,c,h,a,d =>
 (br (decide (h < g))
 (br (a.tmod (8 : Int) == (0 : Int))
 (chk (d.length + [(0 : Int)].length <= (140737488351232 : Nat))
 (chk ((0 : Int) <= i64.wrap (a.tdiv (8 : Int)) /\ i64.wrap (a.tdiv (8 : Int)) < ↑(d ++ [(0 : Int)]).length)
 (chk (0 <= h)
 (chk (0 <= a.tmod 8)
 (chk ((0 : Int) <= i64.wrap (a.tdiv (8 : Int)) /\ i64.wrap (a.tdiv (8 : Int)) < ↑(d ++ [(0 : Int)]).length)
 (chkI v v
 (chkI g g
 (chkI e e
 (chkI f f
 (chkI b b
 (chkL c c
 (ebits.loop4 N nn v g e f b c (i64.wrap (h + (1 : Int))) (i64.wrap (a + (1 : Int))) ((d ++ [(0 : Int)]).set (i64.wrap (a.tdiv (8 : Int))).toNat (u8.wrap ↑(BitVec.ofInt u8.bits ((d ++ [(0 : Int)]).getD (i64.wrap (a.tdiv (8 : Int))).toNat (0 : Int)) ||| BitVec.ofInt u8.bits (u8.wrap (u8.wrap (i64.wrap ↑(BitVec.ofInt i64.bits (v.fdiv ((2 : Int) ^ min h.toNat i64.bits)) &&& BitVec.ofInt i64.bits (1 : Int)).toNat) * (2 : Int) ^ min (a.tmod (8 : Int)).toNat u8.bits))).toNat))))))))))))))
 (chk ((0 : Int) <= i64.wrap (a.tdiv (8 : Int)) /\ i64.wrap (a.tdiv (8 : Int)) < ↑d.length)
 (chk (0 <= h)
 (chk (0 <= a.tmod 8)
 (chk ((0 : Int) <= i64.wrap (a.tdiv (8 : Int)) /\ i64.wrap (a.tdiv (8 : Int)) < ↑d.length)
 (chkI v v
 (chkI g g
 (chkI e e
 (chkI f f
 (chkI b b
 (chkL c c
 (ebits.loop4 N nn v g e f b c (i64.wrap (h + (1 : Int))) (i64.wrap (a + (1 : Int))) (d.set (i64.wrap (a.tdiv (8 : Int))).toNat (u8.wrap ↑(BitVec.ofInt u8.bits (d.getD (i64.wrap (a.tdiv (8 : Int))).toNat (0 : Int)) ||| BitVec.ofInt u8.bits (u8.wrap (u8.wrap (i64.wrap ↑(BitVec.ofInt i64.bits (v.fdiv ((2 : Int) ^ min h.toNat i64.bits)) &&& BitVec.ofInt i64.bits (1 : Int)).toNat) * (2 : Int) ^ min (a.tmod (8 : Int)).toNat u8.bits))).toNat))))))))))))))
 (chkI e e
 (chkI f f
 (chkI b b
 (chkL c c
 (some ((a,d))))))))
def ebits.loop4R (N nn : Nat) (v d e f b : Int) (c : List Int) (g a : Int) (h : List Int) : Option ebits.loop4.R := loopF ebits.loop4.ann (mkL [v,d,e,f,b] [] [c] []) (evCode ((ebits.C N).inLoop ebits.loop4.ann) (ebits.K N) (inlTab (ebits.C N) 0) (bodyAt 4 Tryz.f53)) nn (mkL [g,a] [] [h] [])
theorem ebits.loop4_eq (N : Nat) : ∀ nn,ebits.loop4R N nn = ebits.loop4 N nn := lq fun _ h => by funext; rw [ebits.loop4,<- h]; kernel_rfl
def ebits.F (N : Nat) (v n d e a c : Int) (b f : List Int) : Option ebits.R :=
 (br (decide (n < 0))
 (chkI d d
 (chkI e e
 (chkL b b
 (some (((1 : Int),a,c,f))))))
 (br (decide (n > 24))
 (chkI d d
 (chkI e e
 (chkL b b
 (some (((1 : Int),a,c,f))))))
 (br (decide (v < 0))
 (chkI d d
 (chkI e e
 (chkL b b
 (some (((1 : Int),a,c,f))))))
 (chk (0 <= n)
 (br (decide (v >= i64.wrap ((1 : Int) * (2 : Int) ^ min n.toNat i64.bits)))
 (chkI d d
 (chkI e e
 (chkL b b
 (some (((1 : Int),a,c,f))))))
 (obind (ebits.loop4 N N v n d e c b (0) a f) fun r0 =>
 (chkI d d
 (chkI e e
 (chkL b b
 (some (((0 : Int),r0.1,i64.wrap (c + n),r0.2))))))))))))
noncomputable def ebits.spec : Eng.Spec := ebits.sig.spec (fun N L => ebits.F N (L.i 0) (L.i 1) (L.i 2) (L.i 3) (L.i 4) (L.i 5) (L.l 0) (L.l 1)) ebits.enc
theorem ebits.ok : CallOK Tryz.prog 53 ebits.spec := ok2 ebits.C ebits.K Tryz.f53 ebits.dec (fun _ => trivial) (fun _ => ⟨fun _ _ => ⟨rfl,rfl⟩,trivial⟩) (by intro N L; show _ = ebits.F N (L.i 0) (L.i 1) (L.i 2) (L.i 3) (L.i 4) (L.i 5) (L.l 0) (L.l 1); rw [ebits.F,<- funext (ebits.loop4_eq N)]; kernel_rfl)
def euint.sig : Eng.Sig := { args := [.at (.ptr 0 0),.at (.int .i64 0),.at (.int .i64 1)],n := 3,pre := [(0,.cells 6 [.full 1 false,.int .u64 2,.int .u64 3,.full 2 false,.int .i64 4,.int .i64 5]),(1,.ints true .u8 0),(2,.ints true .u8 1)],post := [(0,.cells 6 [.full 3 false,.int .u64 1,.int .u64 2,.full 4 false,.int .i64 3,.int .i64 4]),(1,.dead),(2,.dead),(3,.ints true .u8 0),(4,.ints true .u8 1)],m := 2,ret := .at (.int .i64 0) }
def euint.C (N : Nat) : Cfg := { P := Tryz.prog,N := N,RT := noRT,specs := [(110,etake.spec),(103,blen.spec),(53,ebits.spec)],hi := 3 }
abbrev euint.R : Type := Int × Int × Int × Int × Int × List Int × List Int
def euint.dec (L : Eng.Leaves) : euint.R := (L.i 0,L.i 1,L.i 2,L.i 3,L.i 4,L.l 0,L.l 1)
def euint.enc (r : euint.R) : Eng.Leaves := mkL [r.1,r.2.1,r.2.2.1,r.2.2.2.1,r.2.2.2.2.1] [] [r.2.2.2.2.2.1,r.2.2.2.2.2.2] []
def euint.K (N : Nat) : FCfg := {}
def euint.F (N : Nat) (v g d e a b : Int) (c f : List Int) : Option euint.R :=
 (br (decide (g < 1))
 (some (((1 : Int),d,e,a,b,c,f)))
 (br (decide (g > 4294967295))
 (some (((1 : Int),d,e,a,b,c,f)))
 (br (decide (v < 0))
 (some (((1 : Int),d,e,a,b,c,f)))
 (br (decide (v >= g))
 (some (((1 : Int),d,e,a,b,c,f)))
 (br (g == 1)
 (some (((0 : Int),d,e,a,b,c,f)))
 (br (decide (g <= 256))
 (obind (Rc.etake.F N (u64.wrap v) (u64.wrap (i64.wrap (v + 1))) (u64.wrap g) d e a b c f) fun r0 =>
 (some (((0 : Int),r0.1,r0.2.1,r0.2.2.1,r0.2.2.2.1,r0.2.2.2.2.2,r0.2.2.2.2.1))))
 (obind (Rc.blen.F N (u64.wrap (i64.wrap (g - 1)))) fun r1 =>
 (chk (0 <= i64.wrap (r1 - 8))
 (chk (0 <= i64.wrap (r1 - 8))
 (obind (Rc.etake.F N (u64.wrap (v.fdiv ((2 : Int) ^ min (i64.wrap (r1 - (8 : Int))).toNat i64.bits))) (u64.wrap (u64.wrap (v.fdiv ((2 : Int) ^ min (i64.wrap (r1 - (8 : Int))).toNat i64.bits)) + 1)) (u64.wrap (i64.wrap ((i64.wrap (g - (1 : Int))).fdiv ((2 : Int) ^ min (i64.wrap (r1 - (8 : Int))).toNat i64.bits) + 1))) d e a b c f) fun r2 =>
 (chk (0 <= i64.wrap (r1 - 8))
 (obind (Rc.ebits.F N (i64.wrap ↑(BitVec.ofInt i64.bits v &&& BitVec.ofInt i64.bits (i64.wrap (i64.wrap ((1 : Int) * (2 : Int) ^ min (i64.wrap (r1 - (8 : Int))).toNat i64.bits) - (1 : Int)))).toNat) (i64.wrap (r1 - (8 : Int))) r2.1 r2.2.1 r2.2.2.1 r2.2.2.2.1 r2.2.2.2.2.2 r2.2.2.2.2.1) fun r3 =>
 (some ((r3.1,r2.1,r2.2.1,r3.2.1,r3.2.2.1,r2.2.2.2.2.2,r3.2.2.2)))))))))))))))
noncomputable def euint.spec : Eng.Spec := euint.sig.spec (fun N L => euint.F N (L.i 0) (L.i 1) (L.i 2) (L.i 3) (L.i 4) (L.i 5) (L.l 0) (L.l 1)) euint.enc
theorem euint.ok : CallOK Tryz.prog 56 euint.spec := ok2 euint.C euint.K Tryz.f56 euint.dec (fun _ => ⟨etake.ok,blen.ok,ebits.ok,trivial⟩) (fun _ => trivial)
def etell.sig : Eng.Sig := { args := [.at (.ptr 0 0)],n := 3,pre := [(0,.cells 6 [.full 1 false,.int .u64 0,.int .u64 1,.full 2 false,.int .i64 2,.int .i64 3]),(1,.ints true .u8 0),(2,.ints true .u8 1)],post := [(0,.cells 6 [.full 1 false,.fint .u64 0,.fint .u64 1,.full 2 false,.fint .i64 2,.fint .i64 3]),(1,.fints true .u8 0),(2,.fints true .u8 1)],ret := .at (.int .i64 0) }
def etell.C (N : Nat) : Cfg := { P := Tryz.prog,N := N,RT := noRT,specs := [(68,len64.spec)],hi := 3 }
abbrev etell.R : Type := Int
def etell.dec (L : Eng.Leaves) : etell.R := (L.i 0)
def etell.enc (r : etell.R) : Eng.Leaves := mkL [r] [] [] []
def etell.K (N : Nat) : FCfg := {}
def etell.F (N : Nat) (e d b a : Int) (c f : List Int) : Option etell.R :=
 (obind (Rc.len64.F N d) fun r0 =>
 (chkI a a
 (chkI e e
 (chkI d d
 (chkI b b
 (chkI a a
 (chkL c c
 (chkL f f
 (some (i64.wrap (a - r0)))))))))))
noncomputable def etell.spec : Eng.Spec := etell.sig.spec (fun N L => etell.F N (L.i 0) (L.i 1) (L.i 2) (L.i 3) (L.l 0) (L.l 1)) etell.enc
theorem etell.ok : CallOK Tryz.prog 18 etell.spec := ok2 etell.C etell.K Tryz.f18 etell.dec (fun _ => ⟨len64.ok,trivial⟩) (fun _ => trivial)
def indexf8.sig : Eng.Sig := { args := [.at (.roi .u8 0),.at (.fn 76)],ret := .at (.int .i64 0) }
def indexf8.C (N : Nat) : Cfg := { P := Tryz.prog,N := N,RT := noRT,specs := [],inl := [(76,FCfg.none)] }
abbrev indexf8.R : Type := Int
def indexf8.dec (L : Eng.Leaves) : indexf8.R := (L.i 0)
def indexf8.enc (r : indexf8.R) : Eng.Leaves := mkL [r] [] [] []
abbrev indexf8.loop2.R : Type := Int
def indexf8.loop2.ann : Ann := { nx := 20,slots := [(0,.at (.froi .u8 0)),(1,.at (.fn 76)),(4,.at (.int .i64 0)),(7,.at (.fint .i64 0)),(8,.at (.int .i64 1))],xslots := [(4,.at (.int .i64 0))],T := indexf8.loop2.R,dec := fun L => (L.i 0),enc := fun r => mkL [r] [] [] [],ret := true }
def indexf8.K (N : Nat) : FCfg := { anns := [(2,indexf8.loop2.ann)] }
def indexf8.loop2 (N : Nat) : Nat -> List Int -> Int -> List Int -> Int -> Int -> Option (indexf8.loop2.R ⊕ indexf8.R)
 | 0,_,_,_,_,_ => none
 | nn + 1,d,c,b,e,a =>
 (br (decide (a < c))
 (chk ((0 : Int) <= a /\ a < ↑b.length)
 (br (b.getD a.toNat (0 : Int) != (0 : Int))
 (omap
 (some a) .inr)
 (chkL b b
 (chkI c c
 (indexf8.loop2 N nn d c b e (i64.wrap (a + 1)))))))
 (some (Sum.inl e)))
def indexf8.loop2R (N nn : Nat) (a : List Int) (c : Int) (b : List Int) (d e : Int) : Option (indexf8.loop2.R ⊕ indexf8.R) := loopR indexf8.loop2.ann (mkL [c] [] [b] []) (evCode ((indexf8.C N).inLoop indexf8.loop2.ann) (indexf8.K N) (inlTab (indexf8.C N) 1) (bodyAt 2 Tryz.f130)) (sigKr Tryz.prog Tryz.f130 indexf8.sig (mkL [] [] [a] []) fun L => (L.i 0)) nn (mkL [d,e] [] [] [])
theorem indexf8.loop2_eq (N : Nat) : ∀ nn,indexf8.loop2R N nn = indexf8.loop2 N nn := lq fun _ h => by funext; rw [indexf8.loop2,<- h]; kernel_rfl
def indexf8.F (N : Nat) (b : List Int) : Option indexf8.R :=
 (osum (indexf8.loop2 N N b (↑b.length) b ((0 : Int)) ((0 : Int))) fun r0 =>
 (some ((-1 : Int))))
theorem indexf8.F_eq (N : Nat) (L : Eng.Leaves) : evSig (indexf8.C N) (indexf8.K N) 1 Tryz.f130 indexf8.sig L indexf8.dec = indexf8.F N (L.l 0) := by
 rw [indexf8.F,<- funext (indexf8.loop2_eq N)]; kernel_rfl
def indexf8.spec : Eng.Spec := indexf8.sig.spec (fun N L => indexf8.F N (L.l 0)) indexf8.enc
theorem indexf8.cok (N : Nat) : CfgOK (indexf8.C N) := cok0 wide trivial (by kernel_rfl) rfl rfl rfl rfl
theorem indexf8.aok (N : Nat) : AnnsOK (indexf8.K N) := aok1 ⟨fun _ _ => ⟨rfl,rfl⟩,trivial⟩
theorem indexf8.ok : CallOK Tryz.prog 130 indexf8.spec := ok0 indexf8.cok (fun _ q hq => by
   simp only [indexf8.C,List.mem_cons,List.not_mem_nil,or_false] at hq
   subst hq
   exact ⟨fun q hq => by simp [FCfg.none] at hq,by kernel_rfl⟩) indexf8.aok indexf8.F_eq (by kernel_rfl) (by kernel_rfl) (fun _ => rfl) (fun _ => ⟨rfl,rfl⟩) fun _ _ => ⟨rfl,rfl⟩
def contains8.sig : Eng.Sig := { args := [.at (.roi .u8 0),.at (.fn 76)],ret := .at (.bool 0) }
def contains8.C (N : Nat) : Cfg := { P := Tryz.prog,N := N,RT := noRT,specs := [(130,indexf8.spec)] }
abbrev contains8.R : Type := Bool
def contains8.dec (L : Eng.Leaves) : contains8.R := (L.b 0)
def contains8.enc (r : contains8.R) : Eng.Leaves := mkL [] [r] [] []
def contains8.K (N : Nat) : FCfg := {}
def contains8.F (N : Nat) (b : List Int) : Option contains8.R :=
 (obind (Rc.indexf8.F N b) fun r0 =>
 (some (decide (r0 >= 0))))
noncomputable def contains8.spec : Eng.Spec := contains8.sig.spec (fun N L => contains8.F N (L.l 0)) contains8.enc
theorem contains8.ok : CallOK Tryz.prog 75 contains8.spec := ok2 contains8.C contains8.K Tryz.f75 contains8.dec (fun _ => ⟨indexf8.ok,trivial⟩) (fun _ => trivial)
def isnan8.sig : Eng.Sig := { args := [.at (.int .u8 0)],ret := .at (.bool 0) }
def isnan8.C (N : Nat) : Cfg := { P := Tryz.prog,N := N,RT := noRT,specs := [] }
abbrev isnan8.R : Type := Bool
def isnan8.dec (L : Eng.Leaves) : isnan8.R := (L.b 0)
def isnan8.enc (r : isnan8.R) : Eng.Leaves := mkL [] [r] [] []
def isnan8.K (N : Nat) : FCfg := {}
def isnan8.F (N : Nat) (x : Int) : Option isnan8.R :=
 (some (x != x))
noncomputable def isnan8.spec : Eng.Spec := isnan8.sig.spec (fun N L => isnan8.F N (L.i 0)) isnan8.enc
theorem isnan8.ok : CallOK Tryz.prog 158 isnan8.spec := ok2 isnan8.C isnan8.K Tryz.f158 isnan8.dec (fun _ => trivial) (fun _ => trivial)
def cmp8.sig : Eng.Sig := { args := [.at (.int .u8 0),.at (.int .u8 1)],ret := .at (.int .i64 0) }
def cmp8.C (N : Nat) : Cfg := { P := Tryz.prog,N := N,RT := noRT,specs := [(158,isnan8.spec)] }
abbrev cmp8.R : Type := Int
def cmp8.dec (L : Eng.Leaves) : cmp8.R := (L.i 0)
def cmp8.enc (r : cmp8.R) : Eng.Leaves := mkL [r] [] [] []
def cmp8.K (N : Nat) : FCfg := {}
def cmp8.F (N : Nat) (x y : Int) : Option cmp8.R :=
 (obind (Rc.isnan8.F N x) fun r0 =>
 (obind (Rc.isnan8.F N y) fun r1 =>
 (br r0
 (br r1
 (some ((0 : Int)))
 (some ((-1 : Int))))
 (br r1
 (some ((1 : Int)))
 (br (decide (x < y))
 (some ((-1 : Int)))
 (br (decide (x > y))
 (some ((1 : Int)))
 (some ((0 : Int)))))))))
noncomputable def cmp8.spec : Eng.Spec := cmp8.sig.spec (fun N L => cmp8.F N (L.i 0) (L.i 1)) cmp8.enc
theorem cmp8.ok : CallOK Tryz.prog 131 cmp8.spec := ok2 cmp8.C cmp8.K Tryz.f131 cmp8.dec (fun _ => ⟨isnan8.ok,trivial⟩) (fun _ => trivial)
def compare8.sig : Eng.Sig := { args := [.at (.roi .u8 0),.at (.roi .u8 1)],ret := .at (.int .i64 0) }
def compare8.C (N : Nat) : Cfg := { P := Tryz.prog,N := N,RT := noRT,specs := [(131,cmp8.spec)] }
abbrev compare8.R : Type := Int
def compare8.dec (L : Eng.Leaves) : compare8.R := (L.i 0)
def compare8.enc (r : compare8.R) : Eng.Leaves := mkL [r] [] [] []
abbrev compare8.loop2.R : Type := Int
def compare8.loop2.ann : Ann := { nx := 20,slots := [(1,.at (.froi .u8 0)),(4,.at (.int .i64 0)),(9,.at (.froi .u8 1)),(10,.at (.fint .i64 0)),(11,.at (.int .i64 1))],xslots := [(4,.at (.int .i64 0))],T := compare8.loop2.R,dec := fun L => (L.i 0),enc := fun r => mkL [r] [] [] [],ret := true }
def compare8.K (N : Nat) : FCfg := { anns := [(2,compare8.loop2.ann)] }
def compare8.loop2 (N : Nat) : Nat -> List Int -> List Int -> Int -> List Int -> List Int -> Int -> Int -> Option (compare8.loop2.R ⊕ compare8.R)
 | 0,_,_,_,_,_,_,_ => none
 | nn + 1,d,e,b,y,c,f,a =>
 (br (decide (a < b))
 (chk ((0 : Int) <= a /\ a < ↑c.length)
 (br (decide (a >= ↑y.length))
 (omap
 (some ((1 : Int))) .inr)
 (chk ((0 : Int) <= a /\ a < ↑y.length)
 (obind (Rc.cmp8.F N (c.getD a.toNat 0) (y.getD a.toNat 0)) fun r0 =>
 (br (r0 != 0)
 (omap
 (some r0) .inr)
 (chkL y y
 (chkL c c
 (chkI b b
 (compare8.loop2 N nn d e b y c f (i64.wrap (a + 1)))))))))))
 (some (Sum.inl f)))
def compare8.loop2R (N nn : Nat) (a b : List Int) (c : Int) (y e : List Int) (f d : Int) : Option (compare8.loop2.R ⊕ compare8.R) := loopR compare8.loop2.ann (mkL [c] [] [y,e] []) (evCode ((compare8.C N).inLoop compare8.loop2.ann) (compare8.K N) (inlTab (compare8.C N) 0) (bodyAt 2 Tryz.f78)) (sigKr Tryz.prog Tryz.f78 compare8.sig (mkL [] [] [a,b] []) fun L => (L.i 0)) nn (mkL [f,d] [] [] [])
theorem compare8.loop2_eq (N : Nat) : ∀ nn,compare8.loop2R N nn = compare8.loop2 N nn := lq fun _ h => by funext; rw [compare8.loop2,<- h]; kernel_rfl
def compare8.F (N : Nat) (x y : List Int) : Option compare8.R :=
 (osum (compare8.loop2 N N x y (↑x.length) y x ((0 : Int)) ((0 : Int))) fun r0 =>
 (br (decide ((x.length : Int) < ↑y.length))
 (some ((-1 : Int)))
 (some ((0 : Int)))))
noncomputable def compare8.spec : Eng.Spec := compare8.sig.spec (fun N L => compare8.F N (L.l 0) (L.l 1)) compare8.enc
theorem compare8.ok : CallOK Tryz.prog 78 compare8.spec := ok2 compare8.C compare8.K Tryz.f78 compare8.dec (fun _ => ⟨cmp8.ok,trivial⟩) (fun _ => ⟨fun _ _ => ⟨rfl,rfl⟩,trivial⟩) (by intro N L; show _ = compare8.F N (L.l 0) (L.l 1); rw [compare8.F,<- funext (compare8.loop2_eq N)]; kernel_rfl)
def increase.sig : Eng.Sig := { args := [.at (.full 0 false),.at (.int .i64 0)],n := 1,pre := [(0,.ints false .u8 0)],post := [(0,.ints false .u8 0)],ret := .at (.unk) }
def increase.C (N : Nat) : Cfg := { P := Tryz.prog,N := N,RT := noRT,specs := [],hi := 1 }
abbrev increase.R : Type := List Int
def increase.dec (L : Eng.Leaves) : increase.R := (L.l 0)
def increase.enc (r : increase.R) : Eng.Leaves := mkL [] [] [r] []
abbrev increase.loop2.R : Type := List Int
def increase.loop2.ann : Ann := { nx := 20,slots := [(0,.at (.full 0 false)),(4,.at (.int .i64 0)),(5,.at (.int .i64 1))],blks := [(0,.ints false .u8 0)],xslots := [(0,.at (.full 0 false))],xblks := [(0,.ints false .u8 0)],T := increase.loop2.R,dec := fun L => (L.l 0),enc := fun r => mkL [] [] [r] [] }
def increase.K (N : Nat) : FCfg := { anns := [(2,increase.loop2.ann)] }
def increase.loop2 (N : Nat) : Nat -> Int -> Int -> List Int -> Option increase.loop2.R
 | 0,_,_,_ => none
 | nn + 1,a,i,b =>
 (br (decide (i >= 0))
 (br (decide (a > 0))
 (chk ((0 : Int) <= i /\ i < ↑b.length)
 (chk ((0 : Int) <= i /\ i < ↑b.length)
 (increase.loop2 N nn ((i64.wrap (a + i64.wrap (b.getD i.toNat (0 : Int)))).fdiv ((2 : Int) ^ min (Int.toNat 8) i64.bits)) (i64.wrap (i - 1)) (b.set i.toNat (u8.wrap (i64.wrap (a + i64.wrap (b.getD i.toNat 0))))))))
 (some b))
 (some b))
def increase.loop2R (N nn : Nat) (a i : Int) (b : List Int) : Option increase.loop2.R := loopF increase.loop2.ann (mkL [] [] [] []) (evCode ((increase.C N).inLoop increase.loop2.ann) (increase.K N) (inlTab (increase.C N) 0) (bodyAt 2 Tryz.f77)) nn (mkL [a,i] [] [b] [])
theorem increase.loop2_eq (N : Nat) : ∀ nn,increase.loop2R N nn = increase.loop2 N nn := lq fun _ h => by funext; rw [increase.loop2,<- h]; kernel_rfl
def increase.F (N : Nat) (a : Int) (b : List Int) : Option increase.R :=
 (chk (0 <= a.tmod 8)
 (obind (increase.loop2 N N (i64.wrap ((1 : Int) * (2 : Int) ^ min (a.tmod (8 : Int)).toNat i64.bits)) (i64.wrap (i64.wrap (↑b.length - (1 : Int)) - i64.wrap (a.tdiv (8 : Int)))) b) fun r0 =>
 (some r0)))
noncomputable def increase.spec : Eng.Spec := increase.sig.spec (fun N L => increase.F N (L.i 0) (L.l 0)) increase.enc
theorem increase.ok : CallOK Tryz.prog 77 increase.spec := ok2 increase.C increase.K Tryz.f77 increase.dec (fun _ => trivial) (fun _ => ⟨fun _ _ => ⟨rfl,rfl⟩,trivial⟩) (by intro N L; show _ = increase.F N (L.i 0) (L.l 0); rw [increase.F,<- funext (increase.loop2_eq N)]; kernel_rfl)
def enew.sig : Eng.Sig := { args := [],post := [(0,.cells 6 [.full 1 false,.int .u64 0,.int .u64 1,.full 2 false,.int .i64 2,.int .i64 3]),(1,.ints true .u8 0),(2,.ints true .u8 1)],m := 3,ret := .at (.ptr 0 0) }
def enew.C (N : Nat) : Cfg := { P := Tryz.prog,N := N,RT := noRT,specs := [] }
abbrev enew.R : Type := Int × Int × Int × Int × List Int × List Int
def enew.dec (L : Eng.Leaves) : enew.R := (L.i 0,L.i 1,L.i 2,L.i 3,L.l 0,L.l 1)
def enew.enc (r : enew.R) : Eng.Leaves := mkL [r.1,r.2.1,r.2.2.1,r.2.2.2.1] [] [r.2.2.2.2.1,r.2.2.2.2.2] []
def enew.K (N : Nat) : FCfg := {}
def enew.F (N : Nat)  : Option enew.R :=
 (some (((0 : Int),2147483648,0,33,([] : List Int),([] : List Int))))
noncomputable def enew.spec : Eng.Spec := enew.sig.spec (fun N L => enew.F N ) enew.enc
theorem enew.ok : CallOK Tryz.prog 14 enew.spec := ok2 enew.C enew.K Tryz.f14 enew.dec (fun _ => trivial) (fun _ => trivial)
def edone.sig : Eng.Sig := { args := [.at (.ptr 0 0),.at (.int .i64 0)],n := 3,pre := [(0,.cells 6 [.full 1 false,.int .u64 1,.int .u64 2,.full 2 false,.int .i64 3,.int .i64 4]),(1,.ints true .u8 0),(2,.ints true .u8 1)],post := [(0,.cells 6 [.full 1 false,.fint .u64 1,.fint .u64 2,.full 2 false,.fint .i64 3,.fint .i64 4]),(1,.fints true .u8 0),(2,.fints true .u8 1),(3,.ints false .u8 0)],m := 1,ret := .tup [(false,[.full 3 false]),(false,[.int .i64 0])] }
def edone.C (N : Nat) : Cfg := { P := Tryz.prog,N := N,RT := noRT,specs := [(18,etell.spec),(50,clone8.spec),(75,contains8.spec),(77,increase.spec),(78,compare8.spec)],hi := 3 }
abbrev edone.R : Type := Int × List Int
def edone.dec (L : Eng.Leaves) : edone.R := (L.i 0,L.l 0)
def edone.enc (r : edone.R) : Eng.Leaves := mkL [r.1] [] [r.2] []
abbrev edone.loop12.R : Type := List Int
def edone.loop12.ann : Ann := { nx := 20,slots := [(0,.at (.ptr 0 0)),(1,.at (.fint .i64 0)),(7,.at (.full 8 true)),(78,.at (.fint .i64 1)),(79,.at (.int .i64 0))],blks := [(0,.cells 6 [.full 1 false,.fint .u64 2,.fint .u64 3,.full 2 false,.fint .i64 4,.fint .i64 5]),(1,.fints true .u8 0),(2,.fints true .u8 1),(8,.ints false .u8 0)],exId := 1,xslots := [(0,.at (.ptr 0 0)),(7,.at (.full 8 true))],xblks := [(0,.cells 6 [.full 1 false,.fint .u64 2,.fint .u64 3,.full 2 false,.fint .i64 4,.fint .i64 5]),(1,.fints true .u8 0),(2,.fints true .u8 1),(8,.ints false .u8 0)],T := edone.loop12.R,dec := fun L => (L.l 0),enc := fun r => mkL [] [] [r] [] }
def edone.K (N : Nat) : FCfg := { anns := [(12,edone.loop12.ann)],lits := [54] }
def edone.loop12 (N : Nat) : Nat -> Int -> Int -> Int -> Int -> Int -> Int -> List Int -> List Int -> Int -> List Int -> Option edone.loop12.R
 | 0,_,_,_,_,_,_,_,_,_,_ => none
 | nn + 1,n,h,f,g,a,c,d,e,b,i =>
 (br (decide (b < h))
 (chk (0 <= b.tmod 8)
 (chk ((0 : Int) <= i64.wrap (i64.wrap (n - (1 : Int)) - i64.wrap (b.tdiv (8 : Int))) /\ i64.wrap (i64.wrap (n - (1 : Int)) - i64.wrap (b.tdiv (8 : Int))) < ↑i.length)
 (chk ((0 : Int) <= i64.wrap (b.tdiv (8 : Int)) /\ i64.wrap (b.tdiv (8 : Int)) < ↑e.length)
 (chk ((0 : Int) <= i64.wrap (i64.wrap (n - (1 : Int)) - i64.wrap (b.tdiv (8 : Int))) /\ i64.wrap (i64.wrap (n - (1 : Int)) - i64.wrap (b.tdiv (8 : Int))) < ↑i.length)
 (chkI n n
 (chkI h h
 (chkI f f
 (chkI g g
 (chkI a a
 (chkI c c
 (chkL d d
 (chkL e e
 (edone.loop12 N nn n h f g a c d e (i64.wrap (b + (1 : Int))) (i.set (i64.wrap (i64.wrap (n - (1 : Int)) - i64.wrap (b.tdiv (8 : Int)))).toNat (u8.wrap ↑(BitVec.ofInt u8.bits (u8.wrap ↑(BitVec.ofInt u8.bits (i.getD (i64.wrap (i64.wrap (n - (1 : Int)) - i64.wrap (b.tdiv (8 : Int)))).toNat (0 : Int)) &&& ~~~BitVec.ofInt u8.bits (u8.wrap ((1 : Int) * (2 : Int) ^ min (b.tmod (8 : Int)).toNat u8.bits))).toNat) ||| BitVec.ofInt u8.bits (u8.wrap ↑(BitVec.ofInt u8.bits (e.getD (i64.wrap (b.tdiv (8 : Int))).toNat (0 : Int)) &&& BitVec.ofInt u8.bits (u8.wrap ((1 : Int) * (2 : Int) ^ min (b.tmod (8 : Int)).toNat u8.bits))).toNat)).toNat)))))))))))))))
 (chkI f f
 (chkI g g
 (chkI a a
 (chkI c c
 (chkL d d
 (chkL e e
 (some i))))))))
def edone.loop12R (N nn : Nat) (n d e f a b : Int) (c g : List Int) (h : Int) (i : List Int) : Option edone.loop12.R := loopF edone.loop12.ann (mkL [n,d,e,f,a,b] [] [c,g] []) (evCode ((edone.C N).inLoop edone.loop12.ann) (edone.K N) (inlTab (edone.C N) 0) (bodyAt 12 Tryz.f24)) nn (mkL [h] [] [i] [])
theorem edone.loop12_eq (N : Nat) : ∀ nn,edone.loop12R N nn = edone.loop12 N nn := lq fun _ h => by funext; rw [edone.loop12,<- h]; kernel_rfl
def edone.F (N : Nat) (n a e b c : Int) (d f : List Int) : Option edone.R :=
 (br (decide (n < 0))
 (chkI a a
 (chkI e e
 (chkI b b
 (chkI c c
 (chkL d d
 (chkL f f
 (some (((1 : Int),([] : List Int))))))))))
 (br (decide (n > 1275))
 (chkI a a
 (chkI e e
 (chkI b b
 (chkI c c
 (chkL d d
 (chkL f f
 (some (((1 : Int),([] : List Int))))))))))
 (obind (Rc.etell.F N a e b c d f) fun r0 =>
 (br (decide (r0 > i64.wrap (8 * n)))
 (chkI a a
 (chkI e e
 (chkI b b
 (chkI c c
 (chkL d d
 (chkL f f
 (some (((2 : Int),([] : List Int))))))))))
 (obind (Rc.clone8.F2 N d) fun r1 =>
 (chk (r1.length + [u8.wrap (a.fdiv ((2 : Int) ^ min (Int.toNat 23) u64.bits)),u8.wrap (a.fdiv ((2 : Int) ^ min (Int.toNat 15) u64.bits)),u8.wrap (a.fdiv ((2 : Int) ^ min (Int.toNat 7) u64.bits)),u8.wrap (u64.wrap (a * (2 : Int) ^ min (Int.toNat 1) u64.bits))].length <= (140737488351232 : Nat))
 (chkI a a
 (chkI a a
 (chkI a a
 (chkI a a
 (chk ((0 : Int) <= n /\ n <= n /\ n <= ↑(17592186043904 : Nat))
 (br (decide (↑(r1 ++ [u8.wrap (a.fdiv ((2 : Int) ^ min (Int.toNat (23 : Int)) u64.bits)),u8.wrap (a.fdiv ((2 : Int) ^ min (Int.toNat (15 : Int)) u64.bits)),u8.wrap (a.fdiv ((2 : Int) ^ min (Int.toNat (7 : Int)) u64.bits)),u8.wrap (u64.wrap (a * (2 : Int) ^ min (Int.toNat (1 : Int)) u64.bits))]).length > n))
 (chk ((0 : Int) <= n /\ n <= ↑(r1 ++ [u8.wrap (a.fdiv ((2 : Int) ^ min (Int.toNat (23 : Int)) u64.bits)),u8.wrap (a.fdiv ((2 : Int) ^ min (Int.toNat (15 : Int)) u64.bits)),u8.wrap (a.fdiv ((2 : Int) ^ min (Int.toNat (7 : Int)) u64.bits)),u8.wrap (u64.wrap (a * (2 : Int) ^ min (Int.toNat (1 : Int)) u64.bits))]).length)
 (obind (Rc.contains8.F N (List.take ((r1 ++ [u8.wrap (a.fdiv ((2 : Int) ^ min (Int.toNat 23) u64.bits)),u8.wrap (a.fdiv ((2 : Int) ^ min (Int.toNat 15) u64.bits)),u8.wrap (a.fdiv ((2 : Int) ^ min (Int.toNat 7) u64.bits)),u8.wrap (u64.wrap (a * (2 : Int) ^ min (Int.toNat 1) u64.bits))]).length - n.toNat) (List.drop n.toNat (r1 ++ [u8.wrap (a.fdiv ((2 : Int) ^ min (Int.toNat 23) u64.bits)),u8.wrap (a.fdiv ((2 : Int) ^ min (Int.toNat 15) u64.bits)),u8.wrap (a.fdiv ((2 : Int) ^ min (Int.toNat 7) u64.bits)),u8.wrap (u64.wrap (a * (2 : Int) ^ min (Int.toNat 1) u64.bits))])))) fun r2 =>
 (br r2
 (obind (Rc.increase.F N (0) (List.take (List.replicate n.toNat (0 : Int)).length (r1 ++ [u8.wrap (a.fdiv ((2 : Int) ^ min (Int.toNat 23) u64.bits)),u8.wrap (a.fdiv ((2 : Int) ^ min (Int.toNat 15) u64.bits)),u8.wrap (a.fdiv ((2 : Int) ^ min (Int.toNat 7) u64.bits)),u8.wrap (u64.wrap (a * (2 : Int) ^ min (Int.toNat 1) u64.bits))]) ++ List.drop (min (r1 ++ [u8.wrap (a.fdiv ((2 : Int) ^ min (Int.toNat 23) u64.bits)),u8.wrap (a.fdiv ((2 : Int) ^ min (Int.toNat 15) u64.bits)),u8.wrap (a.fdiv ((2 : Int) ^ min (Int.toNat 7) u64.bits)),u8.wrap (u64.wrap (a * (2 : Int) ^ min (Int.toNat 1) u64.bits))]).length (List.replicate n.toNat (0 : Int)).length) (List.replicate n.toNat 0))) fun r3 =>
 (obind (Rc.clone8.F2 N r3) fun r4 =>
 (obind (edone.loop12 N N n b a e b c d f (0) r3) fun r5 =>
 (obind (Rc.compare8.F N r5 r4) fun r6 =>
 (br (decide (r6 < 0))
 (obind (Rc.increase.F N b r5) fun r7 =>
 (chkI a a
 (chkI e e
 (chkI b b
 (chkI c c
 (chkL d d
 (chkL f f
 (some (((0 : Int),r7))))))))))
 (chkI a a
 (chkI e e
 (chkI b b
 (chkI c c
 (chkL d d
 (chkL f f
 (some (((0 : Int),r5))))))))))))))
 (obind (Rc.clone8.F2 N (List.take (List.replicate n.toNat (0 : Int)).length (r1 ++ [u8.wrap (a.fdiv ((2 : Int) ^ min (Int.toNat 23) u64.bits)),u8.wrap (a.fdiv ((2 : Int) ^ min (Int.toNat 15) u64.bits)),u8.wrap (a.fdiv ((2 : Int) ^ min (Int.toNat 7) u64.bits)),u8.wrap (u64.wrap (a * (2 : Int) ^ min (Int.toNat 1) u64.bits))]) ++ List.drop (min (r1 ++ [u8.wrap (a.fdiv ((2 : Int) ^ min (Int.toNat 23) u64.bits)),u8.wrap (a.fdiv ((2 : Int) ^ min (Int.toNat 15) u64.bits)),u8.wrap (a.fdiv ((2 : Int) ^ min (Int.toNat 7) u64.bits)),u8.wrap (u64.wrap (a * (2 : Int) ^ min (Int.toNat 1) u64.bits))]).length (List.replicate n.toNat (0 : Int)).length) (List.replicate n.toNat 0))) fun r8 =>
 (obind (edone.loop12 N N n b a e b c d f (0) (List.take (List.replicate n.toNat (0 : Int)).length (r1 ++ [u8.wrap (a.fdiv ((2 : Int) ^ min (Int.toNat 23) u64.bits)),u8.wrap (a.fdiv ((2 : Int) ^ min (Int.toNat 15) u64.bits)),u8.wrap (a.fdiv ((2 : Int) ^ min (Int.toNat 7) u64.bits)),u8.wrap (u64.wrap (a * (2 : Int) ^ min (Int.toNat 1) u64.bits))]) ++ List.drop (min (r1 ++ [u8.wrap (a.fdiv ((2 : Int) ^ min (Int.toNat 23) u64.bits)),u8.wrap (a.fdiv ((2 : Int) ^ min (Int.toNat 15) u64.bits)),u8.wrap (a.fdiv ((2 : Int) ^ min (Int.toNat 7) u64.bits)),u8.wrap (u64.wrap (a * (2 : Int) ^ min (Int.toNat 1) u64.bits))]).length (List.replicate n.toNat (0 : Int)).length) (List.replicate n.toNat 0))) fun r9 =>
 (obind (Rc.compare8.F N r9 r8) fun r10 =>
 (br (decide (r10 < 0))
 (obind (Rc.increase.F N b r9) fun r11 =>
 (chkI a a
 (chkI e e
 (chkI b b
 (chkI c c
 (chkL d d
 (chkL f f
 (some (((0 : Int),r11))))))))))
 (chkI a a
 (chkI e e
 (chkI b b
 (chkI c c
 (chkL d d
 (chkL f f
 (some (((0 : Int),r9))))))))))))))))
 (obind (Rc.clone8.F2 N (List.take (List.replicate n.toNat (0 : Int)).length (r1 ++ [u8.wrap (a.fdiv ((2 : Int) ^ min (Int.toNat 23) u64.bits)),u8.wrap (a.fdiv ((2 : Int) ^ min (Int.toNat 15) u64.bits)),u8.wrap (a.fdiv ((2 : Int) ^ min (Int.toNat 7) u64.bits)),u8.wrap (u64.wrap (a * (2 : Int) ^ min (Int.toNat 1) u64.bits))]) ++ List.drop (min (r1 ++ [u8.wrap (a.fdiv ((2 : Int) ^ min (Int.toNat 23) u64.bits)),u8.wrap (a.fdiv ((2 : Int) ^ min (Int.toNat 15) u64.bits)),u8.wrap (a.fdiv ((2 : Int) ^ min (Int.toNat 7) u64.bits)),u8.wrap (u64.wrap (a * (2 : Int) ^ min (Int.toNat 1) u64.bits))]).length (List.replicate n.toNat (0 : Int)).length) (List.replicate n.toNat 0))) fun r12 =>
 (obind (edone.loop12 N N n b a e b c d f (0) (List.take (List.replicate n.toNat (0 : Int)).length (r1 ++ [u8.wrap (a.fdiv ((2 : Int) ^ min (Int.toNat 23) u64.bits)),u8.wrap (a.fdiv ((2 : Int) ^ min (Int.toNat 15) u64.bits)),u8.wrap (a.fdiv ((2 : Int) ^ min (Int.toNat 7) u64.bits)),u8.wrap (u64.wrap (a * (2 : Int) ^ min (Int.toNat 1) u64.bits))]) ++ List.drop (min (r1 ++ [u8.wrap (a.fdiv ((2 : Int) ^ min (Int.toNat 23) u64.bits)),u8.wrap (a.fdiv ((2 : Int) ^ min (Int.toNat 15) u64.bits)),u8.wrap (a.fdiv ((2 : Int) ^ min (Int.toNat 7) u64.bits)),u8.wrap (u64.wrap (a * (2 : Int) ^ min (Int.toNat 1) u64.bits))]).length (List.replicate n.toNat (0 : Int)).length) (List.replicate n.toNat 0))) fun r13 =>
 (obind (Rc.compare8.F N r13 r12) fun r14 =>
 (br (decide (r14 < 0))
 (obind (Rc.increase.F N b r13) fun r15 =>
 (chkI a a
 (chkI e e
 (chkI b b
 (chkI c c
 (chkL d d
 (chkL f f
 (some (((0 : Int),r15))))))))))
 (chkI a a
 (chkI e e
 (chkI b b
 (chkI c c
 (chkL d d
 (chkL f f
 (some (((0 : Int),r13)))))))))))))))))))))))))
noncomputable def edone.spec : Eng.Spec := edone.sig.spec (fun N L => edone.F N (L.i 0) (L.i 1) (L.i 2) (L.i 3) (L.i 4) (L.l 0) (L.l 1)) edone.enc
theorem edone.ok : CallOK Tryz.prog 24 edone.spec := ok2 edone.C edone.K Tryz.f24 edone.dec (fun _ => ⟨etell.ok,clone8.ok,contains8.ok,increase.ok,compare8.ok,trivial⟩) (fun _ => ⟨fun _ _ => ⟨rfl,rfl⟩,trivial⟩) (by intro N L; show _ = edone.F N (L.i 0) (L.i 1) (L.i 2) (L.i 3) (L.i 4) (L.l 0) (L.l 1); rw [edone.F,<- funext (edone.loop12_eq N)]; kernel_rfl)
end
end Go.Proofs.Rc
