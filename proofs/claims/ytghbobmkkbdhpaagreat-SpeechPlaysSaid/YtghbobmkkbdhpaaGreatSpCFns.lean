/-
 Functions of the program: what each comes to, and its contract (written by a program).
 Conditions: none: each contract is proved for every input of its shape.
-/
import Derived.Test.YtghbobmkkbdhpaaGreatEngLoopToEngRow3
import Derived.Laws.Externs
import Derived.Test.YtghbobmkkbdhpaaGreatProg
import Derived.Test.YtghbobmkkbdhpaaGreatSpBFns
set_option linter.unusedVariables false
set_option linter.unusedSimpArgs false
namespace Go.Proofs.Rc
noncomputable section
open Go.Eng Go.IntKind
set_option maxRecDepth 100000
def spmay.sig : Eng.Sig := { args := [.at (.int .i64 0),.at (.int .i64 1)],ret := .at (.bool 0) }
def spmay.C (N : Nat) : Cfg := { P := Tryz.prog,N := N,RT := noRT,specs := [(34,torder.spec)] }
abbrev spmay.R : Type := Bool
def spmay.dec (L : Eng.Leaves) : spmay.R := (L.b 0)
def spmay.enc (r : spmay.R) : Eng.Leaves := mkL [] [r] [] []
def spmay.K (N : Nat) : FCfg := {}
def spmay.F (N : Nat) (a b : Int) : Option spmay.R :=
 (obind (Rc.torder.F N a) fun r0 =>
 (br (decide (r0 > 0))
 (br (b == 10)
 (some true)
 (some (b == 20)))
 (some false)))
noncomputable def spmay.spec : Eng.Spec := spmay.sig.spec (fun N L => spmay.F N (L.i 0) (L.i 1)) spmay.enc
theorem spmay.ok : CallOK Tryz.prog 41 spmay.spec := ok2 spmay.C spmay.K Tryz.f41 spmay.dec (fun _ => ⟨torder.ok,trivial⟩) (fun _ => trivial)
def spbit.sig : Eng.Sig := { args := [.at (.bool 0)],ret := .at (.int .i64 0) }
def spbit.C (N : Nat) : Cfg := { P := Tryz.prog,N := N,RT := noRT,specs := [] }
abbrev spbit.R : Type := Int
def spbit.dec (L : Eng.Leaves) : spbit.R := (L.i 0)
def spbit.enc (r : spbit.R) : Eng.Leaves := mkL [r] [] [] []
def spbit.K (N : Nat) : FCfg := {}
def spbit.F (N : Nat) (b : Bool) : Option spbit.R :=
 (br b
 (some ((1 : Int)))
 (some ((0 : Int))))
noncomputable def spbit.spec : Eng.Spec := spbit.sig.spec (fun N L => spbit.F N (L.b 0)) spbit.enc
theorem spbit.ok : CallOK Tryz.prog 54 spbit.spec := ok2 spbit.C spbit.K Tryz.f54 spbit.dec (fun _ => trivial) (fun _ => trivial)
def spltps.sig : Eng.Sig := { args := [.at (.int .i64 0),.agg [.bool 0,.int .i64 1,.int .i64 2,.roi .i64 0,.int .i64 3,.roi .i64 1,.rro ⟨[.i64,.i64],none,false⟩ 0,.roi .i64 2]],ret := .at (.bool 0) }
def spltps.C (N : Nat) : Cfg := { P := Tryz.prog,N := N,RT := noRT,specs := [(107,glags.spec),(111,tfilters.spec)] }
abbrev spltps.R : Type := Bool
def spltps.dec (L : Eng.Leaves) : spltps.R := (L.b 0)
def spltps.enc (r : spltps.R) : Eng.Leaves := mkL [] [r] [] []
abbrev spltps.loop5.R : Type := Bool
def spltps.loop5.ann : Ann := { nx := 20,slots := [(4,.at (.bool 0)),(5,.at (.fint .i64 0)),(6,.at (.fint .i64 1)),(22,.at (.frro ⟨[.i64,.i64],none,false⟩ 0)),(23,.at (.fint .i64 2)),(24,.at (.int .i64 0))],xslots := [(4,.at (.bool 0))],T := spltps.loop5.R,dec := fun L => (L.b 0),enc := fun r => mkL [] [r] [] [],ret := true }
def spltps.K (N : Nat) : FCfg := { anns := [(5,spltps.loop5.ann)] }
def spltps.loop5 (N : Nat) : Nat -> Int -> Int -> Int -> Int -> Bool -> List Int -> List Int -> List Int -> List (List Int) -> Int -> Int -> Int -> List (List Int) -> Int -> Bool -> Option (spltps.loop5.R ⊕ spltps.R)
 | 0,_,_,_,_,_,_,_,_,_,_,_,_,_,_,_ => none
 | nn + 1,k,i,c,d,g,e,h,f,j,m,n,l,a,b,o =>
 (br (decide (b < l))
 (chk ((0 : Int) <= b /\ b < ↑a.length)
 (br (decide ((a.getD b.toNat ([] : List Int)).headD 0 < m))
 (omap
 (some false) .inr)
 (br (decide ((a.getD b.toNat ([] : List Int)).headD 0 > n))
 (omap
 (some false) .inr)
 (br (decide ((a.getD b.toNat ([] : List Int)).tail.headD (0 : Int) < (0 : Int)))
 (omap
 (some false) .inr)
 (obind (Rc.tfilters.F N) fun r0 =>
 (chkI ((a.getD b.toNat ([] : List Int)).tail.headD 0) ((a.getD b.toNat ([] : List Int)).tail.headD 0)
 (br (decide ((a.getD b.toNat ([] : List Int)).tail.headD 0 >= r0))
 (omap
 (some false) .inr)
 (chkI m m
 (chkI n n
 (chkR a a
 (chkI l l
 (spltps.loop5 N nn k i c d g e h f j m n l a (i64.wrap (b + 1)) o))))))))))))
 (some (Sum.inl o)))
def spltps.loop5R (N nn : Nat) (j h a c : Int) (f : Bool) (d g e : List Int) (i : List (List Int)) (n o k : Int) (l : List (List Int)) (m : Int) (p : Bool) : Option (spltps.loop5.R ⊕ spltps.R) := loopR spltps.loop5.ann (mkL [n,o,k] [] [] [l]) (evCode ((spltps.C N).inLoop spltps.loop5.ann) (spltps.K N) (inlTab (spltps.C N) 0) (bodyAt 5 Tryz.f73)) (sigKr Tryz.prog Tryz.f73 spltps.sig (mkL [j,h,a,c] [f] [d,g,e] [i]) fun L => (L.b 0)) nn (mkL [m] [p] [] [])
theorem spltps.loop5_eq (N : Nat) : ∀ nn,spltps.loop5R N nn = spltps.loop5 N nn := lq fun _ h => by funext; rw [spltps.loop5,<- h]; kernel_rfl
def spltps.F (N : Nat) (i f c d : Int) (h : Bool) (e b g : List Int) (a : List (List Int)) : Option spltps.R :=
 (br (f != 2)
 (some (↑a.length == (0 : Int)))
 (obind (Rc.glags.F N i) fun r0 =>
 (osum (spltps.loop5 N N i f c d h e b g a r0.1 r0.2 (↑a.length) a ((0 : Int)) false) fun r1 =>
 (some ((a.length : Int) == ↑b.length)))))
noncomputable def spltps.spec : Eng.Spec := spltps.sig.spec (fun N L => spltps.F N (L.i 0) (L.i 1) (L.i 2) (L.i 3) (L.b 0) (L.l 0) (L.l 1) (L.l 2) (L.r 0)) spltps.enc
theorem spltps.ok : CallOK Tryz.prog 73 spltps.spec := ok2 spltps.C spltps.K Tryz.f73 spltps.dec (fun _ => ⟨glags.ok,tfilters.ok,trivial⟩) (fun _ => ⟨fun _ _ => ⟨rfl,rfl⟩,trivial⟩) (by intro N L; show _ = spltps.F N (L.i 0) (L.i 1) (L.i 2) (L.i 3) (L.b 0) (L.l 0) (L.l 1) (L.l 2) (L.r 0); rw [spltps.F,<- funext (spltps.loop5_eq N)]; kernel_rfl)
def sppulses.sig : Eng.Sig := { args := [.at (.int .i64 0),.at (.int .i64 1),.agg [.bool 0,.int .i64 2,.int .i64 3,.roi .i64 0,.int .i64 4,.roi .i64 1,.rro ⟨[.i64,.i64],none,false⟩ 0,.roi .i64 2]],ret := .at (.bool 0) }
def sppulses.C (N : Nat) : Cfg := { P := Tryz.prog,N := N,RT := noRT,specs := [(112,good9.spec)] }
abbrev sppulses.R : Type := Bool
def sppulses.dec (L : Eng.Leaves) : sppulses.R := (L.b 0)
def sppulses.enc (r : sppulses.R) : Eng.Leaves := mkL [] [r] [] []
def sppulses.K (N : Nat) : FCfg := {}
def sppulses.F (N : Nat) (f j b c d : Int) (g : Bool) (e h a : List Int) (i : List (List Int)) : Option sppulses.R :=
 (br (b == 0)
 (some (↑a.length == (0 : Int)))
 (br (↑a.length == i64.wrap ((i64.wrap (f * j)).tdiv (1000 : Int)))
 (obind (Rc.good9.F N a) fun r0 =>
 (some r0))
 (some false)))
noncomputable def sppulses.spec : Eng.Spec := sppulses.sig.spec (fun N L => sppulses.F N (L.i 0) (L.i 1) (L.i 2) (L.i 3) (L.i 4) (L.b 0) (L.l 0) (L.l 1) (L.l 2) (L.r 0)) sppulses.enc
theorem sppulses.ok : CallOK Tryz.prog 74 sppulses.spec := ok2 sppulses.C sppulses.K Tryz.f74 sppulses.dec (fun _ => ⟨good9.ok,trivial⟩) (fun _ => trivial)
def spgood.sig : Eng.Sig := { args := [.at (.int .i64 0),.at (.int .i64 1),.agg [.bool 0,.int .i64 2,.int .i64 3,.roi .i64 0,.int .i64 4,.roi .i64 1,.rro ⟨[.i64,.i64],none,false⟩ 0,.roi .i64 2]],ret := .at (.bool 0) }
def spgood.C (N : Nat) : Cfg := { P := Tryz.prog,N := N,RT := noRT,specs := [(41,spmay.spec),(34,torder.spec),(72,lgood.spec),(73,spltps.spec),(74,sppulses.spec)] }
abbrev spgood.R : Type := Bool
def spgood.dec (L : Eng.Leaves) : spgood.R := (L.b 0)
def spgood.enc (r : spgood.R) : Eng.Leaves := mkL [] [r] [] []
abbrev spgood.loop4.R : Type := Bool
def spgood.loop4.ann : Ann := { nx := 20,slots := [(6,.at (.bool 0)),(50,.at (.froi .i64 0)),(51,.at (.fint .i64 0)),(52,.at (.int .i64 0))],xslots := [(6,.at (.bool 0))],T := spgood.loop4.R,dec := fun L => (L.b 0),enc := fun r => mkL [] [r] [] [],ret := true }
def spgood.K (N : Nat) : FCfg := { anns := [(4,spgood.loop4.ann)] }
def spgood.loop4 (N : Nat) : Nat -> Int -> Int -> Int -> Int -> Int -> Bool -> List Int -> List Int -> List Int -> List (List Int) -> Int -> List Int -> Int -> Bool -> Option (spgood.loop4.R ⊕ spgood.R)
 | 0,_,_,_,_,_,_,_,_,_,_,_,_,_,_ => none
 | nn + 1,k,m,g,a,b,e,c,f,d,h,l,i,j,n =>
 (br (decide (j < l))
 (chk ((0 : Int) <= j /\ j < ↑i.length)
 (br (decide (i.getD j.toNat (0 : Int) < (0 : Int)))
 (omap
 (some false) .inr)
 (br (decide (i.getD j.toNat (0 : Int) > (63 : Int)))
 (omap
 (some false) .inr)
 (chkL i i
 (chkI l l
 (spgood.loop4 N nn k m g a b e c f d h l i (i64.wrap (j + 1)) n))))))
 (some (Sum.inl n)))
def spgood.loop4R (N nn : Nat) (j k h a c : Int) (f : Bool) (d g e : List Int) (i : List (List Int)) (l : Int) (m : List Int) (n : Int) (o : Bool) : Option (spgood.loop4.R ⊕ spgood.R) := loopR spgood.loop4.ann (mkL [l] [] [m] []) (evCode ((spgood.C N).inLoop spgood.loop4.ann) (spgood.K N) (inlTab (spgood.C N) 0) (bodyAt 4 Tryz.f21)) (sigKr Tryz.prog Tryz.f21 spgood.sig (mkL [j,k,h,a,c] [f] [d,g,e] [i]) fun L => (L.b 0)) nn (mkL [n] [o] [] [])
theorem spgood.loop4_eq (N : Nat) : ∀ nn,spgood.loop4R N nn = spgood.loop4 N nn := lq fun _ h => by funext; rw [spgood.loop4,<- h]; kernel_rfl
def spgood.F (N : Nat) (i j e a c : Int) (g : Bool) (b d f : List Int) (h : List (List Int)) : Option spgood.R :=
 (obind (Rc.spmay.F N i j) fun r0 =>
 (br (!r0)
 (some false)
 (br (decide (e < 0))
 (some false)
 (br (decide (e > 2))
 (some false)
 (obind (Rc.torder.F N i) fun r1 =>
 (obind (Rc.lgood.F N r1 a b) fun r2 =>
 (br (!r2)
 (chkI a a
 (chkL b b
 (some false)))
 (br (decide (c < 0))
 (chkI a a
 (chkL b b
 (some false)))
 (br (decide (c >= 5))
 (chkI a a
 (chkL b b
 (some false)))
 (chkI a a
 (chkL b b
 (br (↑d.length != i64.wrap (j.tdiv (5 : Int)))
 (some false)
 (osum (spgood.loop4 N N i j e a c g b d f h (↑d.length) d ((0 : Int)) false) fun r3 =>
 (obind (Rc.spltps.F N i e a c g b d f h) fun r4 =>
 (br r4
 (obind (Rc.sppulses.F N i j e a c g b d f h) fun r5 =>
 (some r5))
 (some false))))))))))))))))
noncomputable def spgood.spec : Eng.Spec := spgood.sig.spec (fun N L => spgood.F N (L.i 0) (L.i 1) (L.i 2) (L.i 3) (L.i 4) (L.b 0) (L.l 0) (L.l 1) (L.l 2) (L.r 0)) spgood.enc
theorem spgood.ok : CallOK Tryz.prog 21 spgood.spec := ok2 spgood.C spgood.K Tryz.f21 spgood.dec (fun _ => ⟨spmay.ok,torder.ok,lgood.ok,spltps.ok,sppulses.ok,trivial⟩) (fun _ => ⟨fun _ _ => ⟨rfl,rfl⟩,trivial⟩) (by intro N L; show _ = spgood.F N (L.i 0) (L.i 1) (L.i 2) (L.i 3) (L.i 4) (L.b 0) (L.l 0) (L.l 1) (L.l 2) (L.r 0); rw [spgood.F,<- funext (spgood.loop4_eq N)]; kernel_rfl)
def spreadf.sig : Eng.Sig := { args := [.at (.ptr 0 0),.at (.int .i64 0),.at (.int .i64 1),.at (.int .i64 2)],n := 2,pre := [(0,.cells 10 [.full 1 false,.int .u64 3,.int .u64 4,.int .u64 5,.int .i64 6,.int .i64 7,.int .u64 8,.int .i64 9,.int .i64 10,.bool 0]),(1,.ints false .u8 0)],post := [(0,.cells 10 [.full 1 false,.int .u64 4,.int .u64 5,.int .u64 6,.int .i64 7,.int .i64 8,.int .u64 9,.int .i64 10,.int .i64 11,.bool 1]),(1,.fints false .u8 0)],ret := .tup [(true,[.bool 0,.int .i64 0,.int .i64 1,.roi .i64 0,.int .i64 2,.roi .i64 1,.rro ⟨[.i64,.i64],none,false⟩ 0,.roi .i64 2]),(false,[.int .i64 3])] }
def spreadf.C (N : Nat) : Cfg := { P := Tryz.prog,N := N,RT := noRT,specs := [(41,spmay.spec),(42,bits.spec),(44,ticdf.spec),(43,symbol.spec),(34,torder.spec),(45,uint.spec),(46,greadfirst.spec),(47,greadnext.spec),(48,greadltp.spec),(49,read9.spec)],hi := 2 }
abbrev spreadf.R : Type := Int × Int × Int × Int × Int × Int × Int × Int × Int × Int × Int × Int × Bool × Bool × List Int × List Int × List Int × List (List Int)
def spreadf.dec (L : Eng.Leaves) : spreadf.R := (L.i 0,L.i 1,L.i 2,L.i 3,L.i 4,L.i 5,L.i 6,L.i 7,L.i 8,L.i 9,L.i 10,L.i 11,L.b 0,L.b 1,L.l 0,L.l 1,L.l 2,L.r 0)
def spreadf.enc (r : spreadf.R) : Eng.Leaves := mkL [r.1,r.2.1,r.2.2.1,r.2.2.2.1,r.2.2.2.2.1,r.2.2.2.2.2.1,r.2.2.2.2.2.2.1,r.2.2.2.2.2.2.2.1,r.2.2.2.2.2.2.2.2.1,r.2.2.2.2.2.2.2.2.2.1,r.2.2.2.2.2.2.2.2.2.2.1,r.2.2.2.2.2.2.2.2.2.2.2.1] [r.2.2.2.2.2.2.2.2.2.2.2.2.1,r.2.2.2.2.2.2.2.2.2.2.2.2.2.1] [r.2.2.2.2.2.2.2.2.2.2.2.2.2.2.1,r.2.2.2.2.2.2.2.2.2.2.2.2.2.2.2.1,r.2.2.2.2.2.2.2.2.2.2.2.2.2.2.2.2.1] [r.2.2.2.2.2.2.2.2.2.2.2.2.2.2.2.2.2]
abbrev spreadf.loop6.R : Type := Int × Int × Int × Int × Int × List Int × List Int × List (List Int)
def spreadf.loop6.ann : Ann := { nx := 23,slots := [(0,.at (.ptr 0 0)),(10,.at (.ptr 8 0)),(30,.at (.fint .i64 0)),(31,.at (.int .i64 0))],blks := [(0,.cells 10 [.full 1 false,.int .u64 1,.int .u64 2,.int .u64 3,.int .i64 4,.fint .i64 1,.fint .u64 2,.fint .i64 3,.int .i64 5,.fbool 0]),(1,.fints false .u8 0),(8,.cells 8 [.fbool 1,.fint .i64 4,.fint .i64 5,.full 20 false,.fint .i64 6,.full 21 false,.full 22 false,.nils]),(20,.ints true .i64 0),(21,.ints true .i64 1),(22,.recs true ⟨[.i64,.i64],none,false⟩ 0)],mov := [20,21,22],xslots := [(0,.at (.ptr 0 0)),(10,.at (.ptr 8 0))],xblks := [(0,.cells 10 [.full 1 false,.int .u64 0,.int .u64 1,.int .u64 2,.int .i64 3,.fint .i64 1,.fint .u64 2,.fint .i64 3,.int .i64 4,.fbool 0]),(1,.fints false .u8 0),(8,.cells 8 [.fbool 1,.fint .i64 4,.fint .i64 5,.full 20 false,.fint .i64 6,.full 21 false,.full 22 false,.nils]),(20,.ints true .i64 0),(21,.ints true .i64 1),(22,.recs true ⟨[.i64,.i64],none,false⟩ 0)],T := spreadf.loop6.R,dec := fun L => (L.i 0,L.i 1,L.i 2,L.i 3,L.i 4,L.l 0,L.l 1,L.r 0),enc := fun r => mkL [r.1,r.2.1,r.2.2.1,r.2.2.2.1,r.2.2.2.2.1] [] [r.2.2.2.2.2.1,r.2.2.2.2.2.2.1] [r.2.2.2.2.2.2.2] }
abbrev spreadf.loop11.R : Type := Int × Int × Int × Int × Int × Int × Int × Int × Bool × List Int × List Int × List (List Int)
def spreadf.loop11.ann : Ann := { nx := 28,slots := [(0,.at (.ptr 0 0)),(3,.at (.int .i64 0)),(10,.at (.ptr 8 0)),(49,.at (.fint .i64 0)),(50,.at (.int .i64 1))],blks := [(0,.cells 10 [.full 1 false,.int .u64 2,.int .u64 3,.int .u64 4,.int .i64 5,.int .i64 6,.int .u64 7,.int .i64 8,.int .i64 9,.bool 0]),(1,.fints false .u8 0),(8,.cells 8 [.fbool 0,.fint .i64 1,.fint .i64 2,.full 25 false,.fint .i64 3,.full 26 false,.full 27 false,.nils]),(25,.ints true .i64 0),(26,.ints true .i64 1),(27,.recs true ⟨[.i64,.i64],none,false⟩ 0)],mov := [25,26,27],exId := 2,xslots := [(0,.at (.ptr 0 0)),(10,.at (.ptr 8 0))],xblks := [(0,.cells 10 [.full 1 false,.int .u64 0,.int .u64 1,.int .u64 2,.int .i64 3,.int .i64 4,.int .u64 5,.int .i64 6,.int .i64 7,.bool 0]),(1,.fints false .u8 0),(8,.cells 8 [.fbool 0,.fint .i64 1,.fint .i64 2,.full 25 false,.fint .i64 3,.full 26 false,.full 27 false,.nils]),(25,.ints true .i64 0),(26,.ints true .i64 1),(27,.recs true ⟨[.i64,.i64],none,false⟩ 0)],T := spreadf.loop11.R,dec := fun L => (L.i 0,L.i 1,L.i 2,L.i 3,L.i 4,L.i 5,L.i 6,L.i 7,L.b 0,L.l 0,L.l 1,L.r 0),enc := fun r => mkL [r.1,r.2.1,r.2.2.1,r.2.2.2.1,r.2.2.2.2.1,r.2.2.2.2.2.1,r.2.2.2.2.2.2.1,r.2.2.2.2.2.2.2.1] [r.2.2.2.2.2.2.2.2.1] [r.2.2.2.2.2.2.2.2.2.1,r.2.2.2.2.2.2.2.2.2.2.1] [r.2.2.2.2.2.2.2.2.2.2.2] }
abbrev spreadf.loop20.R : Type := Int × Int × Int × Int × Int × Int × Int × Int × Bool × List Int × List Int × List (List Int)
def spreadf.loop20.ann : Ann := { nx := 31,slots := [(0,.at (.ptr 0 0)),(1,.at (.fint .i64 0)),(10,.at (.ptr 8 0)),(76,.at (.fint .i64 1)),(77,.at (.int .i64 0))],blks := [(0,.cells 10 [.full 1 false,.int .u64 1,.int .u64 2,.int .u64 3,.int .i64 4,.int .i64 5,.int .u64 6,.int .i64 7,.int .i64 8,.bool 0]),(1,.fints false .u8 0),(8,.cells 8 [.fbool 0,.fint .i64 2,.fint .i64 3,.full 28 false,.fint .i64 4,.full 29 false,.full 30 false,.nils]),(28,.ints true .i64 0),(29,.ints true .i64 1),(30,.recs true ⟨[.i64,.i64],none,false⟩ 0)],mov := [28,29,30],exId := 4,xslots := [(0,.at (.ptr 0 0)),(10,.at (.ptr 8 0))],xblks := [(0,.cells 10 [.full 1 false,.int .u64 0,.int .u64 1,.int .u64 2,.int .i64 3,.int .i64 4,.int .u64 5,.int .i64 6,.int .i64 7,.bool 0]),(1,.fints false .u8 0),(8,.cells 8 [.fbool 0,.fint .i64 2,.fint .i64 3,.full 28 false,.fint .i64 4,.full 29 false,.full 30 false,.nils]),(28,.ints true .i64 0),(29,.ints true .i64 1),(30,.recs true ⟨[.i64,.i64],none,false⟩ 0)],T := spreadf.loop20.R,dec := fun L => (L.i 0,L.i 1,L.i 2,L.i 3,L.i 4,L.i 5,L.i 6,L.i 7,L.b 0,L.l 0,L.l 1,L.r 0),enc := fun r => mkL [r.1,r.2.1,r.2.2.1,r.2.2.2.1,r.2.2.2.2.1,r.2.2.2.2.2.1,r.2.2.2.2.2.2.1,r.2.2.2.2.2.2.2.1] [r.2.2.2.2.2.2.2.2.1] [r.2.2.2.2.2.2.2.2.2.1,r.2.2.2.2.2.2.2.2.2.2.1] [r.2.2.2.2.2.2.2.2.2.2.2] }
def spreadf.K (N : Nat) : FCfg := { anns := [(6,spreadf.loop6.ann),(11,spreadf.loop11.ann),(20,spreadf.loop20.ann)],frz := [101],emps := [(23,⟨[.i64,.i64],none,false⟩)],empi := [(23,6)] }
def spreadf.loop20 (N : Nat) : Nat -> Int -> Int -> Int -> Int -> Int -> Bool -> List Int -> Int -> Int -> Int -> Int -> Int -> Int -> Int -> Int -> Int -> Bool -> List Int -> List Int -> List (List Int) -> Option spreadf.loop20.R
 | 0,_,_,_,_,_,_,_,_,_,_,_,_,_,_,_,_,_,_,_,_ => none
 | nn + 1,f,m,d,h,a,c,b,p,q,s,n,i,o,g,e,j,t,u,k,l =>
 (br (decide (p < m))
 (obind (Rc.greadltp.F N f q s n i o g e j t b) fun r0 =>
 (chk (l.length + (1 : Nat) <= (1000000 : Nat))
 (chkI f f
 (chkI m m
 (chkL b b
 (chkB c c
 (chkI d d
 (chkI h h
 (chkI a a
 (spreadf.loop20 N nn f m d h a c b (i64.wrap (p + 1)) r0.2.2.1 r0.2.2.2.1 r0.2.2.2.2.1 r0.2.2.2.2.2.1 r0.2.2.2.2.2.2.1 r0.2.2.2.2.2.2.2.1 r0.2.2.2.2.2.2.2.2.1 r0.2.2.2.2.2.2.2.2.2.1 r0.2.2.2.2.2.2.2.2.2.2 u k (l ++ [[r0.1,r0.2.1]])))))))))))
 (chkL b b
 (chkB c c
 (chkI d d
 (chkI h h
 (chkI a a
 (some ((q,s,n,i,o,g,e,j,t,u,k,l)))))))))
def spreadf.loop20R (N nn : Nat) (i n j o a : Int) (e : Bool) (b : List Int) (p q s k f l d c g : Int) (t : Bool) (u h : List Int) (m : List (List Int)) : Option spreadf.loop20.R := loopF spreadf.loop20.ann (mkL [i,n,j,o,a] [e] [b] []) (evCode ((spreadf.C N).inLoop spreadf.loop20.ann) (spreadf.K N) (inlTab (spreadf.C N) 0) (bodyAt 20 Tryz.f12)) nn (mkL [p,q,s,k,f,l,d,c,g] [t] [u,h] [m])
theorem spreadf.loop20_eq (N : Nat) : ∀ nn,spreadf.loop20R N nn = spreadf.loop20 N nn := lq fun _ h => by funext; rw [spreadf.loop20,<- h]; kernel_rfl
def spreadf.loop11 (N : Nat) : Nat -> Int -> Int -> Int -> Int -> Bool -> List Int -> Int -> Int -> Int -> Int -> Int -> Int -> Int -> Int -> Int -> Int -> Bool -> List Int -> List Int -> List (List Int) -> Option spreadf.loop11.R
 | 0,_,_,_,_,_,_,_,_,_,_,_,_,_,_,_,_,_,_,_,_ => none
 | nn + 1,i,e,h,a,c,b,u,p,q,s,m,k,j,f,d,l,o,t,g,n =>
 (br (decide (p < i))
 (br (p == 0)
 (br c
 (obind (Rc.greadfirst.F N q s m k j f d l o b) fun r0 =>
 (chk (g.length + [r0.1].length <= (17592186043904 : Nat))
 (chkI i i
 (chkL b b
 (chkB c c
 (chkI e e
 (chkI h h
 (chkI a a
 (spreadf.loop11 N nn i e h a c b r0.1 (i64.wrap (p + 1)) r0.2.1 r0.2.2.1 r0.2.2.2.1 r0.2.2.2.2.1 r0.2.2.2.2.2.1 r0.2.2.2.2.2.2.1 r0.2.2.2.2.2.2.2.1 r0.2.2.2.2.2.2.2.2.1 r0.2.2.2.2.2.2.2.2.2 t (g ++ [r0.1]) n)))))))))
 (obind (Rc.greadnext.F N u q s m k j f d l o b) fun r1 =>
 (chk (g.length + [r1.1].length <= (17592186043904 : Nat))
 (chkI i i
 (chkL b b
 (chkB c c
 (chkI e e
 (chkI h h
 (chkI a a
 (spreadf.loop11 N nn i e h a c b r1.1 (i64.wrap (p + 1)) r1.2.1 r1.2.2.1 r1.2.2.2.1 r1.2.2.2.2.1 j f d r1.2.2.2.2.2 o t (g ++ [r1.1]) n))))))))))
 (obind (Rc.greadnext.F N u q s m k j f d l o b) fun r2 =>
 (chk (g.length + [r2.1].length <= (17592186043904 : Nat))
 (chkI i i
 (chkL b b
 (chkB c c
 (chkI e e
 (chkI h h
 (chkI a a
 (spreadf.loop11 N nn i e h a c b r2.1 (i64.wrap (p + 1)) r2.2.1 r2.2.2.1 r2.2.2.2.1 r2.2.2.2.2.1 j f d r2.2.2.2.2.2 o t (g ++ [r2.1]) n))))))))))
 (chkL b b
 (chkB c c
 (chkI e e
 (chkI h h
 (chkI a a
 (some ((q,s,m,k,j,f,d,l,o,t,g,n)))))))))
def spreadf.loop11R (N nn : Nat) (m i n a : Int) (e : Bool) (b : List Int) (o p q s j f k d c g : Int) (t : Bool) (u h : List Int) (l : List (List Int)) : Option spreadf.loop11.R := loopF spreadf.loop11.ann (mkL [m,i,n,a] [e] [b] []) (evCode ((spreadf.C N).inLoop spreadf.loop11.ann) (spreadf.K N) (inlTab (spreadf.C N) 0) (bodyAt 11 Tryz.f12)) nn (mkL [o,p,q,s,j,f,k,d,c,g] [t] [u,h] [l])
theorem spreadf.loop11_eq (N : Nat) : ∀ nn,spreadf.loop11R N nn = spreadf.loop11 N nn := lq fun _ h => by funext; rw [spreadf.loop11,<- h]; kernel_rfl
def spreadf.loop6 (N : Nat) : Nat -> Int -> Int -> Int -> Int -> Int -> Int -> Int -> Bool -> Bool -> List Int -> Int -> Int -> Int -> Int -> Int -> Int -> List Int -> List Int -> List (List Int) -> Option spreadf.loop6.R
 | 0,_,_,_,_,_,_,_,_,_,_,_,_,_,_,_,_,_,_,_ => none
 | nn + 1,m,f,d,a,g,i,c,h,e,b,q,s,t,n,j,k,p,l,o =>
 (br (decide (q < m))
 (obind (Rc.ticdf.F N (4)) fun r0 =>
 (obind (Rc.symbol.F N s t n j f d a k h r0 b) fun r1 =>
 (chk (p.length + [i64.wrap (r1.1 - 4)].length <= (17592186043904 : Nat))
 (chkI m m
 (chkI f f
 (chkI d d
 (chkI a a
 (chkB h h
 (chkL b b
 (chkB e e
 (chkI g g
 (chkI i i
 (chkI c c
 (spreadf.loop6 N nn m f d a g i c h e b (i64.wrap (q + 1)) r1.2.1 r1.2.2.1 r1.2.2.2.1 r1.2.2.2.2.1 r1.2.2.2.2.2 (p ++ [i64.wrap (r1.1 - 4)]) l o))))))))))))))
 (chkI f f
 (chkI d d
 (chkI a a
 (chkB h h
 (chkL b b
 (chkB e e
 (chkI g g
 (chkI i i
 (chkI c c
 (some ((s,t,n,j,k,p,l,o)))))))))))))
def spreadf.loop6R (N nn : Nat) (m i d a j n c : Int) (o e : Bool) (b : List Int) (p q s k f g : Int) (t h : List Int) (l : List (List Int)) : Option spreadf.loop6.R := loopF spreadf.loop6.ann (mkL [m,i,d,a,j,n,c] [o,e] [b] []) (evCode ((spreadf.C N).inLoop spreadf.loop6.ann) (spreadf.K N) (inlTab (spreadf.C N) 0) (bodyAt 6 Tryz.f12)) nn (mkL [p,q,s,k,f,g] [] [t,h] [l])
theorem spreadf.loop6_eq (N : Nat) : ∀ nn,spreadf.loop6R N nn = spreadf.loop6 N nn := lq fun _ h => by funext; rw [spreadf.loop6,<- h]; kernel_rfl
def spreadf.F (N : Nat) (a l m j k g d i e c h : Int) (f : Bool) (b : List Int) : Option spreadf.R :=
 (obind (Rc.spmay.F N a l) fun r0 =>
 (br (!r0)
 (chkL b b
 (some (((0 : Int),0,0,1,j,k,g,d,i,e,c,h,false,f,([] : List Int),([] : List Int),([] : List Int),([] : List (List Int))))))
 (obind (Rc.bits.F N (1) j k g d i e c h f b) fun r1 =>
 (obind (Rc.ticdf.F N (0)) fun r2 =>
 (obind (Rc.symbol.F N j k g d r1.2.1 r1.2.2.1 r1.2.2.2.1 r1.2.2.2.2 f r2 b) fun r3 =>
 (obind (Rc.ticdf.F N (3)) fun r4 =>
 (obind (Rc.symbol.F N r3.2.1 r3.2.2.1 r3.2.2.2.1 r3.2.2.2.2.1 r1.2.1 r1.2.2.1 r1.2.2.2.1 r3.2.2.2.2.2 f r4 b) fun r5 =>
 (obind (Rc.torder.F N a) fun r6 =>
 (obind (spreadf.loop6 N N r6 r1.2.1 r1.2.2.1 r1.2.2.2.1 r3.1 r5.1 (0) f (r1.1 == 1) b (0) r5.2.1 r5.2.2.1 r5.2.2.2.1 r5.2.2.2.2.1 r5.2.2.2.2.2 (([] : List Int)) (([] : List Int)) (([] : List (List Int)))) fun r7 =>
 (obind (Rc.uint.F N (5) r7.1 r7.2.1 r7.2.2.1 r7.2.2.2.1 r1.2.1 r1.2.2.1 r1.2.2.2.1 r7.2.2.2.2.1 f b) fun r8 =>
 (obind (spreadf.loop11 N N (i64.wrap (l.tdiv 5)) r3.1 r5.1 r8.1 (r1.1 == 1) b m (0) r8.2.1 r8.2.2.1 r8.2.2.2.1 r8.2.2.2.2.1 r8.2.2.2.2.2.1 r8.2.2.2.2.2.2.1 r8.2.2.2.2.2.2.2.1 r8.2.2.2.2.2.2.2.2.1 r8.2.2.2.2.2.2.2.2.2 r7.2.2.2.2.2.1 r7.2.2.2.2.2.2.1 r7.2.2.2.2.2.2.2) fun r9 =>
 (br (r3.1 == 2)
 (obind (spreadf.loop20 N N a (↑r9.2.2.2.2.2.2.2.2.2.2.1.length) r3.1 r5.1 r8.1 (r1.1 == (1 : Int)) b ((0 : Int)) r9.1 r9.2.1 r9.2.2.1 r9.2.2.2.1 r9.2.2.2.2.1 r9.2.2.2.2.2.1 r9.2.2.2.2.2.2.1 r9.2.2.2.2.2.2.2.1 r9.2.2.2.2.2.2.2.2.1 r9.2.2.2.2.2.2.2.2.2.1 r9.2.2.2.2.2.2.2.2.2.2.1 r9.2.2.2.2.2.2.2.2.2.2.2) fun r10 =>
 (br (r3.1 != 0)
 (obind (Rc.read9.F N (i64.wrap ((i64.wrap (a * l)).tdiv 1000)) r10.1 r10.2.1 r10.2.2.1 r10.2.2.2.1 r10.2.2.2.2.1 r10.2.2.2.2.2.1 r10.2.2.2.2.2.2.1 r10.2.2.2.2.2.2.2.1 r10.2.2.2.2.2.2.2.2.1 b) fun r11 =>
 (chkL b b
 (some ((r3.1,r5.1,r8.1,0,r11.2.1,r11.2.2.1,r11.2.2.2.1,r11.2.2.2.2.1,r11.2.2.2.2.2.1,r11.2.2.2.2.2.2.1,r11.2.2.2.2.2.2.2.1,r11.2.2.2.2.2.2.2.2.1,r1.1 == 1,r11.2.2.2.2.2.2.2.2.2.1,r10.2.2.2.2.2.2.2.2.2.1,r10.2.2.2.2.2.2.2.2.2.2.1,r11.2.2.2.2.2.2.2.2.2.2,r10.2.2.2.2.2.2.2.2.2.2.2)))))
 (chkL b b
 (some ((r3.1,r5.1,r8.1,0,r10.1,r10.2.1,r10.2.2.1,r10.2.2.2.1,r10.2.2.2.2.1,r10.2.2.2.2.2.1,r10.2.2.2.2.2.2.1,r10.2.2.2.2.2.2.2.1,r1.1 == 1,r10.2.2.2.2.2.2.2.2.1,r10.2.2.2.2.2.2.2.2.2.1,r10.2.2.2.2.2.2.2.2.2.2.1,([] : List Int),r10.2.2.2.2.2.2.2.2.2.2.2))))))
 (br (r3.1 != 0)
 (obind (Rc.read9.F N (i64.wrap ((i64.wrap (a * l)).tdiv 1000)) r9.1 r9.2.1 r9.2.2.1 r9.2.2.2.1 r9.2.2.2.2.1 r9.2.2.2.2.2.1 r9.2.2.2.2.2.2.1 r9.2.2.2.2.2.2.2.1 r9.2.2.2.2.2.2.2.2.1 b) fun r12 =>
 (chkL b b
 (some ((r3.1,r5.1,r8.1,0,r12.2.1,r12.2.2.1,r12.2.2.2.1,r12.2.2.2.2.1,r12.2.2.2.2.2.1,r12.2.2.2.2.2.2.1,r12.2.2.2.2.2.2.2.1,r12.2.2.2.2.2.2.2.2.1,r1.1 == 1,r12.2.2.2.2.2.2.2.2.2.1,r9.2.2.2.2.2.2.2.2.2.1,r9.2.2.2.2.2.2.2.2.2.2.1,r12.2.2.2.2.2.2.2.2.2.2,r9.2.2.2.2.2.2.2.2.2.2.2)))))
 (chkL b b
 (some ((r3.1,r5.1,r8.1,0,r9.1,r9.2.1,r9.2.2.1,r9.2.2.2.1,r9.2.2.2.2.1,r9.2.2.2.2.2.1,r9.2.2.2.2.2.2.1,r9.2.2.2.2.2.2.2.1,r1.1 == 1,r9.2.2.2.2.2.2.2.2.1,r9.2.2.2.2.2.2.2.2.2.1,r9.2.2.2.2.2.2.2.2.2.2.1,([] : List Int),r9.2.2.2.2.2.2.2.2.2.2.2)))))))))))))))))
noncomputable def spreadf.spec : Eng.Spec := spreadf.sig.spec (fun N L => spreadf.F N (L.i 0) (L.i 1) (L.i 2) (L.i 3) (L.i 4) (L.i 5) (L.i 6) (L.i 7) (L.i 8) (L.i 9) (L.i 10) (L.b 0) (L.l 0)) spreadf.enc
theorem spreadf.ok : CallOK Tryz.prog 12 spreadf.spec := ok2 spreadf.C spreadf.K Tryz.f12 spreadf.dec (fun _ => ⟨spmay.ok,bits.ok,ticdf.ok,symbol.ok,torder.ok,uint.ok,greadfirst.ok,greadnext.ok,greadltp.ok,read9.ok,trivial⟩) (fun _ => ⟨fun _ _ => ⟨rfl,rfl⟩,fun _ _ => ⟨rfl,rfl⟩,fun _ _ => ⟨rfl,rfl⟩,trivial⟩) (by intro N L; show _ = spreadf.F N (L.i 0) (L.i 1) (L.i 2) (L.i 3) (L.i 4) (L.i 5) (L.i 6) (L.i 7) (L.i 8) (L.i 9) (L.i 10) (L.b 0) (L.l 0); rw [spreadf.F,<- funext (spreadf.loop6_eq N),<- funext (spreadf.loop11_eq N),<- funext (spreadf.loop20_eq N)]; kernel_rfl)
def spwritef.sig : Eng.Sig := { args := [.at (.ptr 0 0),.at (.int .i64 0),.at (.int .i64 1),.at (.int .i64 2),.agg [.bool 0,.int .i64 3,.int .i64 4,.roi .i64 0,.int .i64 5,.roi .i64 1,.rro ⟨[.i64,.i64],none,false⟩ 0,.roi .i64 2]],n := 3,pre := [(0,.cells 6 [.full 1 false,.int .u64 6,.int .u64 7,.full 2 false,.int .i64 8,.int .i64 9]),(1,.ints true .u8 3),(2,.ints true .u8 4)],post := [(0,.cells 6 [.full 3 false,.int .u64 4,.int .u64 5,.full 4 false,.int .i64 6,.int .i64 7]),(1,.dead),(2,.dead),(3,.ints true .u8 3),(4,.ints true .u8 4)],m := 2,ret := .tup [(true,[.bool 0,.int .i64 0,.int .i64 1,.roi .i64 0,.int .i64 2,.roi .i64 1,.rro ⟨[.i64,.i64],none,false⟩ 0,.roi .i64 2]),(false,[.int .i64 3])] }
def spwritef.C (N : Nat) : Cfg := { P := Tryz.prog,N := N,RT := noRT,specs := [(21,spgood.spec),(54,spbit.spec),(53,ebits.spec),(44,ticdf.spec),(55,esymbol.spec),(56,euint.spec),(57,gwritefirst.spec),(58,gwritenext.spec),(59,gwriteltp.spec),(60,write9.spec)],hi := 3 }
abbrev spwritef.R : Type := Int × Int × Int × Int × Int × Int × Int × Int × Bool × List Int × List Int × List Int × List Int × List Int × List (List Int)
def spwritef.dec (L : Eng.Leaves) : spwritef.R := (L.i 0,L.i 1,L.i 2,L.i 3,L.i 4,L.i 5,L.i 6,L.i 7,L.b 0,L.l 0,L.l 1,L.l 2,L.l 3,L.l 4,L.r 0)
def spwritef.enc (r : spwritef.R) : Eng.Leaves := mkL [r.1,r.2.1,r.2.2.1,r.2.2.2.1,r.2.2.2.2.1,r.2.2.2.2.2.1,r.2.2.2.2.2.2.1,r.2.2.2.2.2.2.2.1] [r.2.2.2.2.2.2.2.2.1] [r.2.2.2.2.2.2.2.2.2.1,r.2.2.2.2.2.2.2.2.2.2.1,r.2.2.2.2.2.2.2.2.2.2.2.1,r.2.2.2.2.2.2.2.2.2.2.2.2.1,r.2.2.2.2.2.2.2.2.2.2.2.2.2.1] [r.2.2.2.2.2.2.2.2.2.2.2.2.2.2]
abbrev spwritef.loop7.R : Type := Int × Int × Int × Int × List Int × List Int
def spwritef.loop7.ann : Ann := { nx := 22,slots := [(0,.at (.ptr 0 0)),(43,.at (.froi .i64 0)),(44,.at (.fint .i64 0)),(45,.at (.int .i64 0))],blks := [(0,.cells 6 [.full 20 false,.int .u64 1,.int .u64 2,.full 21 false,.int .i64 3,.int .i64 4]),(20,.ints true .u8 0),(21,.ints true .u8 1)],mov := [20,21],xslots := [(0,.at (.ptr 0 0))],xblks := [(0,.cells 6 [.full 20 false,.int .u64 0,.int .u64 1,.full 21 false,.int .i64 2,.int .i64 3]),(20,.ints true .u8 0),(21,.ints true .u8 1)],T := spwritef.loop7.R,dec := fun L => (L.i 0,L.i 1,L.i 2,L.i 3,L.l 0,L.l 1),enc := fun r => mkL [r.1,r.2.1,r.2.2.1,r.2.2.2.1] [] [r.2.2.2.2.1,r.2.2.2.2.2] [] }
abbrev spwritef.loop16.R : Type := Int × Int × Int × Int × List Int × List Int × List Int
def spwritef.loop16.ann : Ann := { nx := 35,slots := [(0,.at (.ptr 0 0)),(3,.at (.int .i64 0)),(9,.at (.ptr 3 0)),(14,.at (.ptr 27 0)),(79,.at (.froi .i64 0)),(80,.at (.fint .i64 0)),(81,.at (.int .i64 1))],blks := [(0,.cells 6 [.full 32 false,.int .u64 2,.int .u64 3,.full 33 false,.int .i64 4,.int .i64 5]),(3,.cells 8 [.fbool 0,.fint .i64 1,.fint .i64 2,.froi .i64 1,.fint .i64 3,.froi .i64 2,.frro ⟨[.i64,.i64],none,false⟩ 0,.froi .i64 3]),(27,.cells 8 [.fbool 1,.fint .i64 4,.fint .i64 5,.full 29 true,.fint .i64 6,.full 34 false,.full 30 false,.full 31 false]),(29,.fints true .i64 4),(30,.frecs true ⟨[.i64,.i64],none,false⟩ 1),(31,.fints true .i64 5),(32,.ints true .u8 0),(33,.ints true .u8 1),(34,.ints true .i64 2)],mov := [32,33,34],exId := 2,xslots := [(0,.at (.ptr 0 0)),(9,.at (.ptr 3 0)),(14,.at (.ptr 27 0))],xblks := [(0,.cells 6 [.full 32 false,.int .u64 0,.int .u64 1,.full 33 false,.int .i64 2,.int .i64 3]),(3,.cells 8 [.fbool 0,.fint .i64 1,.fint .i64 2,.froi .i64 1,.fint .i64 3,.froi .i64 2,.frro ⟨[.i64,.i64],none,false⟩ 0,.froi .i64 3]),(27,.cells 8 [.fbool 1,.fint .i64 4,.fint .i64 5,.full 29 true,.fint .i64 6,.full 34 false,.full 30 false,.full 31 false]),(29,.fints true .i64 4),(30,.frecs true ⟨[.i64,.i64],none,false⟩ 1),(31,.fints true .i64 5),(32,.ints true .u8 0),(33,.ints true .u8 1),(34,.ints true .i64 2)],T := spwritef.loop16.R,dec := fun L => (L.i 0,L.i 1,L.i 2,L.i 3,L.l 0,L.l 1,L.l 2),enc := fun r => mkL [r.1,r.2.1,r.2.2.1,r.2.2.2.1] [] [r.2.2.2.2.1,r.2.2.2.2.2.1,r.2.2.2.2.2.2] [] }
abbrev spwritef.loop25.R : Type := Int × Int × Int × Int × List Int × List Int
def spwritef.loop25.ann : Ann := { nx := 37,slots := [(0,.at (.ptr 0 0)),(1,.at (.fint .i64 0)),(111,.at (.frro ⟨[.i64,.i64],none,false⟩ 0)),(112,.at (.fint .i64 1)),(113,.at (.int .i64 0))],blks := [(0,.cells 6 [.full 35 false,.int .u64 1,.int .u64 2,.full 36 false,.int .i64 3,.int .i64 4]),(35,.ints true .u8 0),(36,.ints true .u8 1)],mov := [35,36],exId := 4,xslots := [(0,.at (.ptr 0 0))],xblks := [(0,.cells 6 [.full 35 false,.int .u64 0,.int .u64 1,.full 36 false,.int .i64 2,.int .i64 3]),(35,.ints true .u8 0),(36,.ints true .u8 1)],T := spwritef.loop25.R,dec := fun L => (L.i 0,L.i 1,L.i 2,L.i 3,L.l 0,L.l 1),enc := fun r => mkL [r.1,r.2.1,r.2.2.1,r.2.2.2.1] [] [r.2.2.2.2.1,r.2.2.2.2.2] [] }
def spwritef.K (N : Nat) : FCfg := { anns := [(7,spwritef.loop7.ann),(16,spwritef.loop16.ann),(25,spwritef.loop25.ann)],lits := [67,71],frz := [129] }
def spwritef.loop25 (N : Nat) : Nat -> Int -> Int -> List (List Int) -> Int -> Int -> Int -> Int -> Int -> List Int -> List Int -> Option spwritef.loop25.R
 | 0,_,_,_,_,_,_,_,_,_,_ => none
 | nn + 1,d,e,a,b,h,i,c,f,g,j =>
 (br (decide (b < e))
 (chk ((0 : Int) <= b /\ b < ↑a.length)
 (obind (Rc.gwriteltp.F N d ((a.getD b.toNat ([] : List Int)).headD 0) ((a.getD b.toNat ([] : List Int)).tail.headD 0) h i c f g j) fun r0 =>
 (chkI d d
 (chkR a a
 (chkI e e
 (spwritef.loop25 N nn d e a (i64.wrap (b + 1)) r0.2.1 r0.2.2.1 r0.2.2.2.1 r0.2.2.2.2.1 r0.2.2.2.2.2.1 r0.2.2.2.2.2.2))))))
 (some ((h,i,c,f,g,j))))
def spwritef.loop25R (N nn : Nat) (c d : Int) (e : List (List Int)) (f h i a b : Int) (g j : List Int) : Option spwritef.loop25.R := loopF spwritef.loop25.ann (mkL [c,d] [] [] [e]) (evCode ((spwritef.C N).inLoop spwritef.loop25.ann) (spwritef.K N) (inlTab (spwritef.C N) 0) (bodyAt 25 Tryz.f15)) nn (mkL [f,h,i,a,b] [] [g,j] [])
theorem spwritef.loop25_eq (N : Nat) : ∀ nn,spwritef.loop25R N nn = spwritef.loop25 N nn := lq fun _ h => by funext; rw [spwritef.loop25,<- h]; kernel_rfl
def spwritef.loop16 (N : Nat) : Nat -> Int -> Int -> Int -> Int -> Int -> Int -> Int -> Bool -> Bool -> List Int -> List Int -> List Int -> List Int -> List Int -> List Int -> List (List Int) -> List (List Int) -> Int -> Int -> Int -> Int -> Int -> Int -> List Int -> List Int -> List Int -> Option spwritef.loop16.R
 | 0,_,_,_,_,_,_,_,_,_,_,_,_,_,_,_,_,_,_,_,_,_,_,_,_,_,_ => none
 | nn + 1,u,i,o,b,f,j,a,e,c,l,p,g,d,q,s,k,t,aa,n,x,y,m,v,w,z,h =>
 (br (decide (n < u))
 (chk ((0 : Int) <= n /\ n < ↑l.length)
 (br (n == 0)
 (br e
 (obind (Rc.gwritefirst.F N (l.getD n.toNat 0) x y m v w z) fun r0 =>
 (chk (h.length + [l.getD n.toNat 0].length <= (17592186043904 : Nat))
 (chkL l l
 (chkI u u
 (chkB e e
 (chkI i i
 (chkI o o
 (chkL p p
 (chkI b b
 (chkL g g
 (chkR k k
 (chkL d d
 (chkB c c
 (chkI f f
 (chkI j j
 (chkI a a
 (chkL q q
 (chkR t t
 (chkL s s
 (spwritef.loop16 N nn u i o b f j a e c l p g d q s k t (l.getD n.toNat 0) (i64.wrap (n + 1)) r0.2.1 r0.2.2.1 r0.2.2.2.1 r0.2.2.2.2.1 r0.2.2.2.2.2.1 r0.2.2.2.2.2.2 (h ++ [l.getD n.toNat 0])))))))))))))))))))))
 (obind (Rc.gwritenext.F N (l.getD n.toNat 0) aa x y m v w z) fun r1 =>
 (chk (h.length + [r1.1].length <= (17592186043904 : Nat))
 (chkL l l
 (chkI u u
 (chkB e e
 (chkI i i
 (chkI o o
 (chkL p p
 (chkI b b
 (chkL g g
 (chkR k k
 (chkL d d
 (chkB c c
 (chkI f f
 (chkI j j
 (chkI a a
 (chkL q q
 (chkR t t
 (chkL s s
 (spwritef.loop16 N nn u i o b f j a e c l p g d q s k t r1.1 (i64.wrap (n + 1)) r1.2.2.1 r1.2.2.2.1 r1.2.2.2.2.1 r1.2.2.2.2.2.1 r1.2.2.2.2.2.2.2 r1.2.2.2.2.2.2.1 (h ++ [r1.1]))))))))))))))))))))))
 (obind (Rc.gwritenext.F N (l.getD n.toNat 0) aa x y m v w z) fun r2 =>
 (chk (h.length + [r2.1].length <= (17592186043904 : Nat))
 (chkL l l
 (chkI u u
 (chkB e e
 (chkI i i
 (chkI o o
 (chkL p p
 (chkI b b
 (chkL g g
 (chkR k k
 (chkL d d
 (chkB c c
 (chkI f f
 (chkI j j
 (chkI a a
 (chkL q q
 (chkR t t
 (chkL s s
 (spwritef.loop16 N nn u i o b f j a e c l p g d q s k t r2.1 (i64.wrap (n + 1)) r2.2.2.1 r2.2.2.2.1 r2.2.2.2.2.1 r2.2.2.2.2.2.1 r2.2.2.2.2.2.2.2 r2.2.2.2.2.2.2.1 (h ++ [r2.1])))))))))))))))))))))))
 (chkB e e
 (chkI i i
 (chkI o o
 (chkL p p
 (chkI b b
 (chkL g g
 (chkR k k
 (chkL d d
 (chkB c c
 (chkI f f
 (chkI j j
 (chkI a a
 (chkL q q
 (chkR t t
 (chkL s s
 (some ((x,y,m,v,w,z,h)))))))))))))))))))
def spwritef.loop16R (N nn : Nat) (o k p b g l a : Int) (h d : Bool) (q s i e t u : List Int) (m v : List (List Int)) (w x y z c j : Int) (n aa f : List Int) : Option spwritef.loop16.R := loopF spwritef.loop16.ann (mkL [o,k,p,b,g,l,a] [h,d] [q,s,i,e,t,u] [m,v]) (evCode ((spwritef.C N).inLoop spwritef.loop16.ann) (spwritef.K N) (inlTab (spwritef.C N) 0) (bodyAt 16 Tryz.f15)) nn (mkL [w,x,y,z,c,j] [] [n,aa,f] [])
theorem spwritef.loop16_eq (N : Nat) : ∀ nn,spwritef.loop16R N nn = spwritef.loop16 N nn := lq fun _ h => by funext; rw [spwritef.loop16,<- h]; kernel_rfl
def spwritef.loop7 (N : Nat) : Nat -> Int -> List Int -> Int -> Int -> Int -> Int -> Int -> List Int -> List Int -> Option spwritef.loop7.R
 | 0,_,_,_,_,_,_,_,_,_ => none
 | nn + 1,e,b,c,g,h,a,d,f,i =>
 (br (decide (c < e))
 (chk ((0 : Int) <= c /\ c < ↑b.length)
 (obind (Rc.ticdf.F N (4)) fun r0 =>
 (obind (Rc.esymbol.F N (i64.wrap (b.getD c.toNat (0 : Int) + (4 : Int))) g h a d r0 f i) fun r1 =>
 (chkL b b
 (chkI e e
 (spwritef.loop7 N nn e b (i64.wrap (c + 1)) r1.2.1 r1.2.2.1 r1.2.2.2.1 r1.2.2.2.2.1 r1.2.2.2.2.2.2 r1.2.2.2.2.2.1))))))
 (some ((g,h,a,d,f,i))))
def spwritef.loop7R (N nn : Nat) (d : Int) (e : List Int) (f g h a b : Int) (c i : List Int) : Option spwritef.loop7.R := loopF spwritef.loop7.ann (mkL [d] [] [e] []) (evCode ((spwritef.C N).inLoop spwritef.loop7.ann) (spwritef.K N) (inlTab (spwritef.C N) 0) (bodyAt 7 Tryz.f15)) nn (mkL [f,g,h,a,b] [] [c,i] [])
theorem spwritef.loop7_eq (N : Nat) : ∀ nn,spwritef.loop7R N nn = spwritef.loop7 N nn := lq fun _ h => by funext; rw [spwritef.loop7,<- h]; kernel_rfl
def spwritef.F (N : Nat) (l q p e a d m n i j : Int) (g : Bool) (b h c k o : List Int) (f : List (List Int)) : Option spwritef.R :=
 (obind (Rc.spgood.F N l q e a d g b h c f) fun r0 =>
 (br (!r0)
 (some (((0 : Int),0,0,1,m,n,i,j,false,([] : List Int),([] : List Int),([] : List Int),k,o,([] : List (List Int)))))
 (obind (Rc.spbit.F N g) fun r1 =>
 (obind (Rc.ebits.F N r1 (1) m n i j k o) fun r2 =>
 (obind (Rc.ticdf.F N (0)) fun r3 =>
 (obind (Rc.esymbol.F N e m n r2.2.1 r2.2.2.1 r3 k r2.2.2.2) fun r4 =>
 (chkI e e
 (obind (Rc.ticdf.F N (3)) fun r5 =>
 (obind (Rc.esymbol.F N a r4.2.1 r4.2.2.1 r4.2.2.2.1 r4.2.2.2.2.1 r5 r4.2.2.2.2.2.2 r4.2.2.2.2.2.1) fun r6 =>
 (chkI a a
 (obind (spwritef.loop7 N N (↑b.length) b ((0 : Int)) r6.2.1 r6.2.2.1 r6.2.2.2.1 r6.2.2.2.2.1 r6.2.2.2.2.2.2 r6.2.2.2.2.2.1) fun r7 =>
 (obind (Rc.euint.F N d (5) r7.1 r7.2.1 r7.2.2.1 r7.2.2.2.1 r7.2.2.2.2.1 r7.2.2.2.2.2) fun r8 =>
 (chk ((0 : Nat) + b.length <= (17592186043904 : Nat))
 (chk (f.length <= (1000000 : Nat))
 (chk (c.length <= (17592186043904 : Nat))
 (chkL c c
 (obind (spwritef.loop16 N N (↑h.length) e a d e a d g g h b h c (([] : List Int) ++ b) c f f p ((0 : Int)) r8.2.1 r8.2.2.1 r8.2.2.2.1 r8.2.2.2.2.1 r8.2.2.2.2.2.1 r8.2.2.2.2.2.2 (([] : List Int))) fun r9 =>
 (obind (spwritef.loop25 N N l (↑f.length) f ((0 : Int)) r9.1 r9.2.1 r9.2.2.1 r9.2.2.2.1 r9.2.2.2.2.1 r9.2.2.2.2.2.1) fun r10 =>
 (br (e != 0)
 (obind (Rc.write9.F N r10.1 r10.2.1 r10.2.2.1 r10.2.2.2.1 c r10.2.2.2.2.1 r10.2.2.2.2.2) fun r11 =>
 (some ((e,a,d,0,r11.2.1,r11.2.2.1,r11.2.2.2.1,r11.2.2.2.2.1,g,([] : List Int) ++ b,r9.2.2.2.2.2.2,c,r11.2.2.2.2.2.1,r11.2.2.2.2.2.2,f))))
 (some ((e,a,d,0,r10.1,r10.2.1,r10.2.2.1,r10.2.2.2.1,g,([] : List Int) ++ b,r9.2.2.2.2.2.2,c,r10.2.2.2.2.1,r10.2.2.2.2.2,f))))))))))))))))))))))
noncomputable def spwritef.spec : Eng.Spec := spwritef.sig.spec (fun N L => spwritef.F N (L.i 0) (L.i 1) (L.i 2) (L.i 3) (L.i 4) (L.i 5) (L.i 6) (L.i 7) (L.i 8) (L.i 9) (L.b 0) (L.l 0) (L.l 1) (L.l 2) (L.l 3) (L.l 4) (L.r 0)) spwritef.enc
theorem spwritef.ok : CallOK Tryz.prog 15 spwritef.spec := ok2 spwritef.C spwritef.K Tryz.f15 spwritef.dec (fun _ => ⟨spgood.ok,spbit.ok,ebits.ok,ticdf.ok,esymbol.ok,euint.ok,gwritefirst.ok,gwritenext.ok,gwriteltp.ok,write9.ok,trivial⟩) (fun _ => ⟨fun _ _ => ⟨rfl,rfl⟩,fun _ _ => ⟨rfl,rfl⟩,fun _ _ => ⟨rfl,rfl⟩,trivial⟩) (by intro N L; show _ = spwritef.F N (L.i 0) (L.i 1) (L.i 2) (L.i 3) (L.i 4) (L.i 5) (L.i 6) (L.i 7) (L.i 8) (L.i 9) (L.b 0) (L.l 0) (L.l 1) (L.l 2) (L.l 3) (L.l 4) (L.r 0); rw [spwritef.F,<- funext (spwritef.loop7_eq N),<- funext (spwritef.loop16_eq N),<- funext (spwritef.loop25_eq N)]; kernel_rfl)
def plreset.sig : Eng.Sig := { args := [.at (.ptr 0 0)],n := 3,pre := [(0,.cells 4 [.int .i64 0,.ptr 1 0,.full 2 false,.int .i64 1]),(1,.ints false .i64 0),(2,.ints true .i64 1)],post := [(0,.cells 4 [.fint .i64 0,.ptr 1 0,.full 3 false,.int .i64 0]),(1,.ints false .i64 0),(2,.dead),(3,.ints true .i64 1)],m := 1,ret := .at (.unk) }
def plreset.C (N : Nat) : Cfg := { P := Tryz.prog,N := N,RT := noRT,specs := [(98,syreset.spec),(34,torder.spec)],hi := 3 }
abbrev plreset.R : Type := Int × List Int × List Int
def plreset.dec (L : Eng.Leaves) : plreset.R := (L.i 0,L.l 0,L.l 1)
def plreset.enc (r : plreset.R) : Eng.Leaves := mkL [r.1] [] [r.2.1,r.2.2] []
abbrev plreset.loop4.R : Type := List Int
def plreset.loop4.ann : Ann := { nx := 20,slots := [(0,.at (.ptr 0 0)),(2,.at (.fint .i64 0)),(23,.at (.fint .i64 1)),(24,.at (.int .i64 0))],blks := [(0,.cells 4 [.fint .i64 2,.ptr 1 0,.full 4 true,.fint .i64 3]),(1,.fints false .i64 0),(4,.ints true .i64 0)],xslots := [(0,.at (.ptr 0 0))],xblks := [(0,.cells 4 [.fint .i64 2,.ptr 1 0,.full 4 true,.fint .i64 3]),(1,.fints false .i64 0),(4,.ints true .i64 0)],T := plreset.loop4.R,dec := fun L => (L.l 0),enc := fun r => mkL [] [] [r] [] }
def plreset.K (N : Nat) : FCfg := { anns := [(4,plreset.loop4.ann)] }
def plreset.loop4 (N : Nat) : Nat -> Int -> Int -> Int -> Int -> List Int -> Int -> List Int -> Option plreset.loop4.R
 | 0,_,_,_,_,_,_,_ => none
 | nn + 1,f,e,b,c,a,d,g =>
 (br (decide (d < e))
 (chk (i64.wrap (f + 1) ≠ 0)
 (chk ((0 : Int) <= d /\ d < ↑g.length)
 (chkI f f
 (chkI e e
 (chkI b b
 (chkI c c
 (chkL a a
 (plreset.loop4 N nn f e b c a (i64.wrap (d + 1)) (g.set d.toNat (i64.wrap ((i64.wrap (32768 * i64.wrap (d + (1 : Int)))).tdiv (i64.wrap (f + 1)))))))))))))
 (chkI b b
 (chkI c c
 (chkL a a
 (some g)))))
def plreset.loop4R (N nn : Nat) (f d b c : Int) (a : List Int) (e : Int) (g : List Int) : Option plreset.loop4.R := loopF plreset.loop4.ann (mkL [f,d,b,c] [] [a] []) (evCode ((plreset.C N).inLoop plreset.loop4.ann) (plreset.K N) (inlTab (plreset.C N) 0) (bodyAt 4 Tryz.f36)) nn (mkL [e] [] [g] [])
theorem plreset.loop4_eq (N : Nat) : ∀ nn,plreset.loop4R N nn = plreset.loop4 N nn := lq fun _ h => by funext; rw [plreset.loop4,<- h]; kernel_rfl
def plreset.F (N : Nat) (a c : Int) (b d : List Int) : Option plreset.R :=
 (obind (Rc.syreset.F N b) fun r0 =>
 (obind (Rc.torder.F N a) fun r1 =>
 (chk ((0 : Int) <= r1 /\ r1 <= r1 /\ r1 <= ↑(17592186043904 : Nat))
 (obind (plreset.loop4 N N r1 (↑(List.replicate r1.toNat (0 : Int)).length) a c r0 ((0 : Int)) (List.replicate r1.toNat (0 : Int))) fun r2 =>
 (chkI a a
 (some (((20 : Int),r0,r2))))))))
noncomputable def plreset.spec : Eng.Spec := plreset.sig.spec (fun N L => plreset.F N (L.i 0) (L.i 1) (L.l 0) (L.l 1)) plreset.enc
theorem plreset.ok : CallOK Tryz.prog 36 plreset.spec := ok2 plreset.C plreset.K Tryz.f36 plreset.dec (fun _ => ⟨syreset.ok,torder.ok,trivial⟩) (fun _ => ⟨fun _ _ => ⟨rfl,rfl⟩,trivial⟩) (by intro N L; show _ = plreset.F N (L.i 0) (L.i 1) (L.l 0) (L.l 1); rw [plreset.F,<- funext (plreset.loop4_eq N)]; kernel_rfl)
def plgain.sig : Eng.Sig := { args := [.at (.ptr 0 0)],n := 3,pre := [(0,.cells 4 [.int .i64 0,.ptr 1 0,.full 2 false,.int .i64 1]),(1,.ints false .i64 0),(2,.ints true .i64 1)],post := [(0,.cells 4 [.fint .i64 0,.ptr 1 0,.full 2 false,.fint .i64 1]),(1,.fints false .i64 0),(2,.fints true .i64 1)],ret := .at (.int .i64 0) }
def plgain.C (N : Nat) : Cfg := { P := Tryz.prog,N := N,RT := noRT,specs := [],hi := 3 }
abbrev plgain.R : Type := Int
def plgain.dec (L : Eng.Leaves) : plgain.R := (L.i 0)
def plgain.enc (r : plgain.R) : Eng.Leaves := mkL [r] [] [] []
def plgain.K (N : Nat) : FCfg := {}
def plgain.F (N : Nat) (d a : Int) (b c : List Int) : Option plgain.R :=
 (chkI d d
 (chkI a a
 (chkL b b
 (chkL c c
 (some a)))))
noncomputable def plgain.spec : Eng.Spec := plgain.sig.spec (fun N L => plgain.F N (L.i 0) (L.i 1) (L.l 0) (L.l 1)) plgain.enc
theorem plgain.ok : CallOK Tryz.prog 30 plgain.spec := ok2 plgain.C plgain.K Tryz.f30 plgain.dec (fun _ => trivial) (fun _ => trivial)
def plsame.sig : Eng.Sig := { args := [.at (.ptr 0 0),.at (.ptr 3 0)],n := 6,pre := [(0,.cells 4 [.int .i64 0,.ptr 1 0,.full 2 false,.int .i64 1]),(1,.ints false .i64 0),(2,.ints true .i64 1),(3,.cells 4 [.int .i64 2,.ptr 4 0,.full 5 false,.int .i64 3]),(4,.ints false .i64 2),(5,.ints true .i64 3)],post := [(0,.cells 4 [.int .i64 0,.ptr 1 0,.full 2 false,.int .i64 1]),(1,.ints false .i64 0),(2,.ints true .i64 1),(3,.cells 4 [.int .i64 2,.ptr 4 0,.full 5 false,.int .i64 3]),(4,.ints false .i64 2),(5,.ints true .i64 3)],ret := .at (.bool 0) }
def plsame.C (N : Nat) : Cfg := { P := Tryz.prog,N := N,RT := noRT,specs := [(96,sysame.spec)],hi := 6 }
abbrev plsame.R : Type := Int × Int × Int × Int × Bool × List Int × List Int × List Int × List Int
def plsame.dec (L : Eng.Leaves) : plsame.R := (L.i 0,L.i 1,L.i 2,L.i 3,L.b 0,L.l 0,L.l 1,L.l 2,L.l 3)
def plsame.enc (r : plsame.R) : Eng.Leaves := mkL [r.1,r.2.1,r.2.2.1,r.2.2.2.1] [r.2.2.2.2.1] [r.2.2.2.2.2.1,r.2.2.2.2.2.2.1,r.2.2.2.2.2.2.2.1,r.2.2.2.2.2.2.2.2] []
abbrev plsame.loop4.R : Type := Bool
def plsame.loop4.ann : Ann := { nx := 20,slots := [(0,.at (.ptr 0 0)),(1,.at (.ptr 3 0)),(4,.at (.bool 0)),(55,.at (.full 2 false)),(56,.at (.fint .i64 0)),(57,.at (.int .i64 0))],blks := [(0,.cells 4 [.fint .i64 1,.ptr 1 0,.full 2 false,.fint .i64 2]),(1,.fints false .i64 0),(2,.fints true .i64 1),(3,.cells 4 [.fint .i64 3,.ptr 4 0,.full 5 false,.fint .i64 4]),(4,.fints false .i64 2),(5,.fints true .i64 3)],xslots := [(0,.at (.ptr 0 0)),(1,.at (.ptr 3 0)),(55,.at (.full 2 false)),(4,.at (.bool 0))],xblks := [(0,.cells 4 [.fint .i64 1,.ptr 1 0,.full 2 false,.fint .i64 2]),(1,.fints false .i64 0),(2,.fints true .i64 1),(3,.cells 4 [.fint .i64 3,.ptr 4 0,.full 5 false,.fint .i64 4]),(4,.fints false .i64 2),(5,.fints true .i64 3)],T := plsame.loop4.R,dec := fun L => (L.b 0),enc := fun r => mkL [] [r] [] [],ret := true }
def plsame.K (N : Nat) : FCfg := { anns := [(4,plsame.loop4.ann)] }
def plsame.loop4 (N : Nat) : Nat -> Int -> Int -> Int -> Int -> List Int -> List Int -> List Int -> List Int -> Int -> Int -> Int -> Int -> Int -> List Int -> List Int -> List Int -> List Int -> Int -> Bool -> Option (plsame.loop4.R ⊕ plsame.R)
 | 0,_,_,_,_,_,_,_,_,_,_,_,_,_,_,_,_,_,_,_ => none
 | nn + 1,p,q,l,m,n,o,j,k,s,g,h,d,e,f,c,b,a,i,t =>
 (br (decide (i < s))
 (chk ((0 : Int) <= i /\ i < ↑c.length)
 (chk ((0 : Int) <= i /\ i < ↑a.length)
 (br (c.getD i.toNat 0 != a.getD i.toNat 0)
 (omap
 (some ((g,h,d,e,false,f,c,b,a))) .inr)
 (chkI s s
 (chkI g g
 (chkI h h
 (chkL f f
 (chkL c c
 (chkI d d
 (chkI e e
 (chkL b b
 (chkL a a
 (plsame.loop4 N nn p q l m n o j k s g h d e f c b a (i64.wrap (i + 1)) t)))))))))))))
 (chkI g g
 (chkI h h
 (chkL f f
 (chkL c c
 (chkI d d
 (chkI e e
 (chkL b b
 (chkL a a
 (some (Sum.inl t)))))))))))
def plsame.loop4R (N nn : Nat) (k m d e : Int) (f g a c : List Int) (u s t n o : Int) (p q h j : List Int) (v : Int) (w : Bool) : Option (plsame.loop4.R ⊕ plsame.R) := loopR plsame.loop4.ann (mkL [u,s,t,n,o] [] [p,q,h,j] []) (evCode ((plsame.C N).inLoop plsame.loop4.ann) (plsame.K N) (inlTab (plsame.C N) 0) (bodyAt 4 Tryz.f33)) (sigKr Tryz.prog Tryz.f33 plsame.sig (mkL [k,m,d,e] [] [f,g,a,c] []) fun L => (L.i 0,L.i 1,L.i 2,L.i 3,L.b 0,L.l 0,L.l 1,L.l 2,L.l 3)) nn (mkL [v] [w] [] [])
theorem plsame.loop4_eq (N : Nat) : ∀ nn,plsame.loop4R N nn = plsame.loop4 N nn := lq fun _ h => by funext; rw [plsame.loop4,<- h]; kernel_rfl
def plsame.F (N : Nat) (g h c d : Int) (f e a b : List Int) : Option plsame.R :=
 (br (g != c)
 (some ((g,h,c,d,false,f,e,a,b)))
 (br (h != d)
 (some ((g,h,c,d,false,f,e,a,b)))
 (obind (Rc.sysame.F N f a) fun r0 =>
 (br (!r0)
 (some ((g,h,c,d,false,f,e,a,b)))
 (br ((e.length : Int) != ↑b.length)
 (some ((g,h,c,d,false,f,e,a,b)))
 (osum (plsame.loop4 N N g h c d f e a b (↑e.length) g h c d f e a b ((0 : Int)) false) fun r1 =>
 (some ((g,h,c,d,true,f,e,a,b)))))))))
noncomputable def plsame.spec : Eng.Spec := plsame.sig.spec (fun N L => plsame.F N (L.i 0) (L.i 1) (L.i 2) (L.i 3) (L.l 0) (L.l 1) (L.l 2) (L.l 3)) plsame.enc
theorem plsame.ok : CallOK Tryz.prog 33 plsame.spec := ok2 plsame.C plsame.K Tryz.f33 plsame.dec (fun _ => ⟨sysame.ok,trivial⟩) (fun _ => ⟨fun _ _ => ⟨rfl,rfl⟩,trivial⟩) (by intro N L; show _ = plsame.F N (L.i 0) (L.i 1) (L.i 2) (L.i 3) (L.l 0) (L.l 1) (L.l 2) (L.l 3); rw [plsame.F,<- funext (plsame.loop4_eq N)]; kernel_rfl)
def plcopy.sig : Eng.Sig := { args := [.at (.ptr 0 0)],n := 3,pre := [(0,.cells 4 [.int .i64 0,.ptr 1 0,.full 2 false,.int .i64 1]),(1,.ints false .i64 0),(2,.ints true .i64 1)],post := [(0,.cells 4 [.fint .i64 0,.ptr 1 0,.full 2 false,.fint .i64 1]),(1,.fints false .i64 0),(2,.fints true .i64 1),(3,.cells 4 [.int .i64 0,.ptr 4 0,.full 5 false,.int .i64 1]),(4,.ints false .i64 0),(5,.ints true .i64 1)],m := 3,ret := .at (.ptr 3 0) }
def plcopy.C (N : Nat) : Cfg := { P := Tryz.prog,N := N,RT := noRT,specs := [(97,sycopy.spec)],hi := 3 }
abbrev plcopy.R : Type := Int × Int × List Int × List Int
def plcopy.dec (L : Eng.Leaves) : plcopy.R := (L.i 0,L.i 1,L.l 0,L.l 1)
def plcopy.enc (r : plcopy.R) : Eng.Leaves := mkL [r.1,r.2.1] [] [r.2.2.1,r.2.2.2] []
def plcopy.K (N : Nat) : FCfg := { lits := [12] }
def plcopy.F (N : Nat) (c d : Int) (b a : List Int) : Option plcopy.R :=
 (obind (Rc.sycopy.F N b) fun r0 =>
 (chk (a.length <= (17592186043904 : Nat))
 (chkI c c
 (chkI d d
 (chkL b b
 (chkL a a
 (some ((c,d,r0,a)))))))))
noncomputable def plcopy.spec : Eng.Spec := plcopy.sig.spec (fun N L => plcopy.F N (L.i 0) (L.i 1) (L.l 0) (L.l 1)) plcopy.enc
theorem plcopy.ok : CallOK Tryz.prog 35 plcopy.spec := ok2 plcopy.C plcopy.K Tryz.f35 plcopy.dec (fun _ => ⟨sycopy.ok,trivial⟩) (fun _ => trivial)
def rkeep.sig : Eng.Sig := { args := [.at (.int .i64 0)],ret := .at (.int .i64 0) }
def rkeep.C (N : Nat) : Cfg := { P := Tryz.prog,N := N,RT := noRT,specs := [(86,rclamp.spec)] }
abbrev rkeep.R : Type := Int
def rkeep.dec (L : Eng.Leaves) : rkeep.R := (L.i 0)
def rkeep.enc (r : rkeep.R) : Eng.Leaves := mkL [r] [] [] []
def rkeep.K (N : Nat) : FCfg := {}
def rkeep.F (N : Nat) (v : Int) : Option rkeep.R :=
 (obind (Rc.rclamp.F N v ((-16777216)) (16777216)) fun r0 =>
 (some r0))
noncomputable def rkeep.spec : Eng.Spec := rkeep.sig.spec (fun N L => rkeep.F N (L.i 0)) rkeep.enc
theorem rkeep.ok : CallOK Tryz.prog 146 rkeep.spec := ok2 rkeep.C rkeep.K Tryz.f146 rkeep.dec (fun _ => ⟨rclamp.ok,trivial⟩) (fun _ => trivial)
def rahead.sig : Eng.Sig := { args := [.at (.roi .i64 0),.at (.int .i64 0)],ret := .at (.int .i64 0) }
def rahead.C (N : Nat) : Cfg := { P := Tryz.prog,N := N,RT := noRT,specs := [] }
abbrev rahead.R : Type := Int
def rahead.dec (L : Eng.Leaves) : rahead.R := (L.i 0)
def rahead.enc (r : rahead.R) : Eng.Leaves := mkL [r] [] [] []
def rahead.K (N : Nat) : FCfg := {}
def rahead.F (N : Nat) (n : Int) (l : List Int) : Option rahead.R :=
 (br (decide (n < 1))
 (some ((0 : Int)))
 (br (decide (n > ↑l.length))
 (some ((0 : Int)))
 (chk ((0 : Int) <= i64.wrap (↑l.length - n) /\ i64.wrap (↑l.length - n) < ↑l.length)
 (some (l.getD (i64.wrap (↑l.length - n)).toNat (0 : Int))))))
noncomputable def rahead.spec : Eng.Spec := rahead.sig.spec (fun N L => rahead.F N (L.i 0) (L.l 0)) rahead.enc
theorem rahead.ok : CallOK Tryz.prog 145 rahead.spec := ok2 rahead.C rahead.K Tryz.f145 rahead.dec (fun _ => trivial) (fun _ => trivial)
def rlast.sig : Eng.Sig := { args := [.at (.roi .i64 0),.at (.int .i64 0)],post := [(0,.ints true .i64 0)],m := 1,ret := .at (.full 0 false) }
def rlast.C (N : Nat) : Cfg := { P := Tryz.prog,N := N,RT := noRT,specs := [] }
abbrev rlast.R : Type := List Int
def rlast.dec (L : Eng.Leaves) : rlast.R := (L.l 0)
def rlast.enc (r : rlast.R) : Eng.Leaves := mkL [] [] [r] []
def rlast.K (N : Nat) : FCfg := {}
def rlast.F (N : Nat) (n : Int) (l : List Int) : Option rlast.R :=
 (br (decide (↑l.length > n))
 (chk ((0 : Int) <= i64.wrap (↑l.length - n) /\ i64.wrap (↑l.length - n) <= ↑l.length)
 (chk ((0 : Nat) + (List.take (l.length - (i64.wrap (↑l.length - n)).toNat) (List.drop (i64.wrap (↑l.length - n)).toNat l)).length <= (17592186043904 : Nat))
 (some (([] : List Int) ++ List.take (l.length - (i64.wrap (↑l.length - n)).toNat) (List.drop (i64.wrap (↑l.length - n)).toNat l)))))
 (chk ((0 : Nat) + l.length <= (17592186043904 : Nat))
 (some (([] : List Int) ++ l))))
noncomputable def rlast.spec : Eng.Spec := rlast.sig.spec (fun N L => rlast.F N (L.i 0) (L.l 0)) rlast.enc
theorem rlast.ok : CallOK Tryz.prog 147 rlast.spec := ok2 rlast.C rlast.K Tryz.f147 rlast.dec (fun _ => trivial) (fun _ => trivial)
def rpcm.sig : Eng.Sig := { args := [.at (.roi .i64 0)],post := [(0,.ints true .i64 0)],m := 1,ret := .at (.full 0 false) }
def rpcm.C (N : Nat) : Cfg := { P := Tryz.prog,N := N,RT := noRT,specs := [(142,rmul.spec),(149,rsat.spec)] }
abbrev rpcm.R : Type := List Int
def rpcm.dec (L : Eng.Leaves) : rpcm.R := (L.l 0)
def rpcm.enc (r : rpcm.R) : Eng.Leaves := mkL [] [] [r] []
abbrev rpcm.loop3.R : Type := List Int
def rpcm.loop3.ann : Ann := { nx := 21,slots := [(0,.at (.froi .i64 0)),(3,.at (.full 20 false)),(4,.at (.int .i64 0))],blks := [(20,.ints true .i64 0)],mov := [20],xslots := [(3,.at (.full 20 false))],xblks := [(20,.ints true .i64 0)],T := rpcm.loop3.R,dec := fun L => (L.l 0),enc := fun r => mkL [] [] [r] [] }
def rpcm.K (N : Nat) : FCfg := { anns := [(3,rpcm.loop3.ann)] }
def rpcm.loop3 (N : Nat) : Nat -> List Int -> Int -> List Int -> Option rpcm.loop3.R
 | 0,_,_,_ => none
 | nn + 1,l,a,b =>
 (br (decide (a < ↑l.length))
 (chk ((0 : Int) <= a /\ a < ↑l.length)
 (obind (Rc.rmul.F N (l.getD a.toNat 0) (1) (4)) fun r0 =>
 (obind (Rc.rsat.F N r0) fun r1 =>
 (chk (b.length + [r1].length <= (17592186043904 : Nat))
 (chkL l l
 (rpcm.loop3 N nn l (i64.wrap (a + 1)) (b ++ [r1])))))))
 (some b))
def rpcm.loop3R (N nn : Nat) (l : List Int) (a : Int) (b : List Int) : Option rpcm.loop3.R := loopF rpcm.loop3.ann (mkL [] [] [l] []) (evCode ((rpcm.C N).inLoop rpcm.loop3.ann) (rpcm.K N) (inlTab (rpcm.C N) 0) (bodyAt 3 Tryz.f95)) nn (mkL [a] [] [b] [])
theorem rpcm.loop3_eq (N : Nat) : ∀ nn,rpcm.loop3R N nn = rpcm.loop3 N nn := lq fun _ h => by funext; rw [rpcm.loop3,<- h]; kernel_rfl
def rpcm.F (N : Nat) (l : List Int) : Option rpcm.R :=
 (obind (rpcm.loop3 N N l (0) (([] : List Int))) fun r0 =>
 (some r0))
noncomputable def rpcm.spec : Eng.Spec := rpcm.sig.spec (fun N L => rpcm.F N (L.l 0)) rpcm.enc
theorem rpcm.ok : CallOK Tryz.prog 95 rpcm.spec := ok2 rpcm.C rpcm.K Tryz.f95 rpcm.dec (fun _ => ⟨rmul.ok,rsat.ok,trivial⟩) (fun _ => ⟨fun _ _ => ⟨rfl,rfl⟩,trivial⟩) (by intro N L; show _ = rpcm.F N (L.l 0); rw [rpcm.F,<- funext (rpcm.loop3_eq N)]; kernel_rfl)
def rrun.sig : Eng.Sig := { args := [.at (.ptr 0 1),.at (.roi .i64 0),.at (.int .i64 0),.at (.int .i64 1),.agg [.int .i64 2,.int .i64 3,.int .i64 4,.int .i64 5,.int .i64 6],.at (.roi .i64 1)],n := 4,pre := [(0,.cells 5 [.int .i64 7,.full 1 false,.full 2 false,.full 3 false,.int .i64 8]),(1,.ints true .i64 2),(2,.ints true .i64 3),(3,.ints true .i64 4)],post := [(0,.cells 5 [.fint .i64 7,.full 5 false,.full 6 false,.full 3 false,.fint .i64 8]),(1,.dead),(2,.dead),(3,.fints true .i64 4),(4,.ints true .i64 0),(5,.ints true .i64 1),(6,.ints true .i64 2)],m := 3,ret := .at (.full 4 false) }
def rrun.C (N : Nat) : Cfg := { P := Tryz.prog,N := N,RT := noRT,specs := [(145,rahead.spec),(142,rmul.spec),(146,rkeep.spec),(147,rlast.spec)],hi := 4 }
abbrev rrun.R : Type := List Int × List Int × List Int
def rrun.dec (L : Eng.Leaves) : rrun.R := (L.l 0,L.l 1,L.l 2)
def rrun.enc (r : rrun.R) : Eng.Leaves := mkL [] [] [r.1,r.2.1,r.2.2] []
abbrev rrun.loop3.R : Type := List Int × List Int × List Int
def rrun.loop3.ann : Ann := { nx := 23,slots := [(0,.at (.ptr 0 1)),(1,.at (.froi .i64 0)),(2,.at (.fint .i64 0)),(3,.at (.fint .i64 1)),(5,.at (.froi .i64 1)),(10,.at (.ptr 4 0)),(13,.at (.full 20 false)),(14,.at (.int .i64 0))],blks := [(0,.cells 5 [.fint .i64 2,.full 21 false,.full 22 false,.full 3 false,.fint .i64 3]),(3,.fints true .i64 2),(4,.cells 5 [.fint .i64 4,.fint .i64 5,.fint .i64 6,.fint .i64 7,.fint .i64 8]),(20,.ints true .i64 0),(21,.ints true .i64 1),(22,.ints true .i64 2)],mov := [20,21,22],xslots := [(0,.at (.ptr 0 1)),(10,.at (.ptr 4 0)),(13,.at (.full 20 false))],xblks := [(0,.cells 5 [.fint .i64 2,.full 21 false,.full 22 false,.full 3 false,.fint .i64 3]),(3,.fints true .i64 2),(4,.cells 5 [.fint .i64 4,.fint .i64 5,.fint .i64 6,.fint .i64 7,.fint .i64 8]),(20,.ints true .i64 0),(21,.ints true .i64 1),(22,.ints true .i64 2)],T := rrun.loop3.R,dec := fun L => (L.l 0,L.l 1,L.l 2),enc := fun r => mkL [] [] [r.1,r.2.1,r.2.2] [] }
abbrev rrun.loop14.R : Type := Int × List Int × List Int
def rrun.loop14.ann : Ann := { nx := 25,slots := [(0,.at (.ptr 0 1)),(5,.at (.froi .i64 0)),(17,.at (.int .i64 0)),(18,.at (.int .i64 1))],blks := [(0,.cells 5 [.fint .i64 0,.full 23 false,.full 24 false,.full 3 false,.fint .i64 1]),(3,.fints true .i64 1),(23,.ints true .i64 0),(24,.ints true .i64 1)],mov := [23,24],exId := 4,xslots := [(0,.at (.ptr 0 1)),(17,.at (.int .i64 0))],xblks := [(0,.cells 5 [.fint .i64 0,.full 23 false,.full 24 false,.full 3 false,.fint .i64 1]),(3,.fints true .i64 1),(23,.ints true .i64 0),(24,.ints true .i64 1)],T := rrun.loop14.R,dec := fun L => (L.i 0,L.l 0,L.l 1),enc := fun r => mkL [r.1] [] [r.2.1,r.2.2] [] }
def rrun.K (N : Nat) : FCfg := { anns := [(3,rrun.loop3.ann),(14,rrun.loop14.ann)],unr := [(8,7)] }
def rrun.loop14 (N : Nat) : Nat -> Int -> Int -> List Int -> List Int -> Int -> Int -> List Int -> List Int -> Option rrun.loop14.R
 | 0,_,_,_,_,_,_,_,_ => none
 | nn + 1,c,d,a,b,f,e,g,O =>
 (br (decide (e < ↑a.length))
 (chk ((0 : Int) <= e /\ e < ↑a.length)
 (obind (Rc.rahead.F N (i64.wrap (e + 1)) O) fun r0 =>
 (obind (Rc.rmul.F N (a.getD e.toNat 0) r0 (12)) fun r1 =>
 (chkL a a
 (chkI c c
 (chkI d d
 (chkL b b
 (rrun.loop14 N nn c d a b (i64.wrap (f + r1)) (i64.wrap (e + 1)) g O))))))))
 (chkI c c
 (chkI d d
 (chkL b b
 (some ((f,g,O)))))))
def rrun.loop14R (N nn : Nat) (c d : Int) (a b : List Int) (e f : Int) (g O : List Int) : Option rrun.loop14.R := loopF rrun.loop14.ann (mkL [c,d] [] [a,b] []) (evCode ((rrun.C N).inLoop rrun.loop14.ann) (rrun.K N) (inlTab (rrun.C N) 0) (bodyAt 14 Tryz.f93)) nn (mkL [e,f] [] [g,O] [])
theorem rrun.loop14_eq (N : Nat) : ∀ nn,rrun.loop14R N nn = rrun.loop14 N nn := lq fun _ h => by funext; rw [rrun.loop14,<- h]; kernel_rfl
def rrun.loop3 (N : Nat) : Nat -> Int -> Int -> Int -> Int -> Int -> Int -> Int -> Int -> Int -> List Int -> List Int -> List Int -> Int -> List Int -> List Int -> List Int -> Option rrun.loop3.R
 | 0,_,_,_,_,_,_,_,_,_,_,_,_,_,_,_,_ => none
 | nn + 1,i,j,g,h,c,k,m,a,d,b,e,f,l,n,o,O =>
 (br (decide (l < ↑b.length))
 (chk ((0 : Int) <= l /\ l < ↑b.length)
 (br (decide (j > 0))
 (obind (Rc.rahead.F N (i64.wrap (i64.wrap (j - 2) + 0)) o) fun r0 =>
 (obind (Rc.rmul.F N c r0 (7)) fun r1 =>
 (chkI c c
 (chkN ((0 : Nat) + (0 : Nat) * (1 : Nat)) ((0 : Nat) + (0 : Nat) * (1 : Nat))
 (obind (Rc.rahead.F N (i64.wrap (i64.wrap (j - 2) + i64.wrap ((0 : Int) + (1 : Int)))) o) fun r2 =>
 (obind (Rc.rmul.F N k r2 (7)) fun r3 =>
 (chkI k k
 (chkN ((0 : Nat) + (1 : Nat) * (1 : Nat)) ((0 : Nat) + (1 : Nat) * (1 : Nat))
 (obind (Rc.rahead.F N (i64.wrap (i64.wrap (j - 2) + i64.wrap (i64.wrap ((0 : Int) + (1 : Int)) + 1))) o) fun r4 =>
 (obind (Rc.rmul.F N m r4 (7)) fun r5 =>
 (chkI m m
 (chkN ((0 : Nat) + (2 : Nat) * (1 : Nat)) ((0 : Nat) + (2 : Nat) * (1 : Nat))
 (obind (Rc.rahead.F N (i64.wrap (i64.wrap (j - 2) + i64.wrap (i64.wrap (i64.wrap ((0 : Int) + (1 : Int)) + 1) + 1))) o) fun r6 =>
 (obind (Rc.rmul.F N a r6 (7)) fun r7 =>
 (chkI a a
 (chkN ((0 : Nat) + (3 : Nat) * (1 : Nat)) ((0 : Nat) + (3 : Nat) * (1 : Nat))
 (obind (Rc.rahead.F N (i64.wrap (i64.wrap (j - 2) + i64.wrap (i64.wrap (i64.wrap (i64.wrap ((0 : Int) + (1 : Int)) + 1) + 1) + 1))) o) fun r8 =>
 (obind (Rc.rmul.F N d r8 (7)) fun r9 =>
 (chkI d d
 (chkN ((0 : Nat) + (4 : Nat) * (1 : Nat)) ((0 : Nat) + (4 : Nat) * (1 : Nat))
 (obind (Rc.rkeep.F N (i64.wrap (i64.wrap (i64.wrap (i64.wrap (i64.wrap (i64.wrap (b.getD l.toNat 0 * i) + r1) + r3) + r5) + r7) + r9))) fun r10 =>
 (obind (rrun.loop14 N N g h e f r10 (0) o O) fun r11 =>
 (obind (Rc.rkeep.F N r11.1) fun r12 =>
 (chk (r11.2.1.length + [r10].length <= (17592186043904 : Nat))
 (chk (r11.2.2.length + [r12].length <= (17592186043904 : Nat))
 (chk (n.length + [r12].length <= (17592186043904 : Nat))
 (chkL b b
 (chkI i i
 (chkI j j
 (chkL e e
 (chkI g g
 (chkI h h
 (chkL f f
 (chkI c c
 (chkI k k
 (chkI m m
 (chkI a a
 (chkI d d
 (rrun.loop3 N nn i j g h c k m a d b e f (i64.wrap (l + 1)) (n ++ [r12]) (r11.2.1 ++ [r10]) (r11.2.2 ++ [r12]))))))))))))))))))))))))))))))))))))))))
 (obind (Rc.rkeep.F N (i64.wrap (b.getD l.toNat 0 * i))) fun r13 =>
 (obind (rrun.loop14 N N g h e f r13 (0) o O) fun r14 =>
 (obind (Rc.rkeep.F N r14.1) fun r15 =>
 (chk (r14.2.1.length + [r13].length <= (17592186043904 : Nat))
 (chk (r14.2.2.length + [r15].length <= (17592186043904 : Nat))
 (chk (n.length + [r15].length <= (17592186043904 : Nat))
 (chkL b b
 (chkI i i
 (chkI j j
 (chkL e e
 (chkI g g
 (chkI h h
 (chkL f f
 (chkI c c
 (chkI k k
 (chkI m m
 (chkI a a
 (chkI d d
 (rrun.loop3 N nn i j g h c k m a d b e f (i64.wrap (l + 1)) (n ++ [r15]) (r14.2.1 ++ [r13]) (r14.2.2 ++ [r15]))))))))))))))))))))))
 (chkI g g
 (chkI h h
 (chkL f f
 (chkI c c
 (chkI k k
 (chkI m m
 (chkI a a
 (chkI d d
 (some ((n,o,O))))))))))))
def rrun.loop3R (N nn : Nat) (g j h i d k n a e : Int) (b c f : List Int) (l : Int) (m o O : List Int) : Option rrun.loop3.R := loopF rrun.loop3.ann (mkL [g,j,h,i,d,k,n,a,e] [] [b,c,f] []) (evCode ((rrun.C N).inLoop rrun.loop3.ann) (rrun.K N) (inlTab (rrun.C N) 0) (bodyAt 3 Tryz.f93)) nn (mkL [l] [] [m,o,O] [])
theorem rrun.loop3_eq (N : Nat) : ∀ nn,rrun.loop3R N nn = rrun.loop3 N nn
 | 0 => by funext; kernel_rfl
 | nn + 1 => by
  funext; rw [rrun.loop3,<- rrun.loop3_eq N nn,<- funext (rrun.loop14_eq N)]; kernel_rfl
def rrun.F (N : Nat) (k l f g h i j b c : Int) (d e R O a : List Int) : Option rrun.R :=
 (obind (rrun.loop3 N N k l b c f g h i j d e a (0) (([] : List Int)) R O) fun r0 =>
 (obind (Rc.rlast.F N (320) r0.2.1) fun r1 =>
 (obind (Rc.rlast.F N (32) r0.2.2) fun r2 =>
 (chkI b b
 (chkI c c
 (chkL a a
 (some ((r0.1,r1,r2)))))))))
noncomputable def rrun.spec : Eng.Spec := rrun.sig.spec (fun N L => rrun.F N (L.i 0) (L.i 1) (L.i 2) (L.i 3) (L.i 4) (L.i 5) (L.i 6) (L.i 7) (L.i 8) (L.l 0) (L.l 1) (L.l 2) (L.l 3) (L.l 4)) rrun.enc
theorem rrun.ok : CallOK Tryz.prog 93 rrun.spec := ok2 rrun.C rrun.K Tryz.f93 rrun.dec (fun _ => ⟨rahead.ok,rmul.ok,rkeep.ok,rlast.ok,trivial⟩) (fun _ => ⟨fun _ _ => ⟨rfl,rfl⟩,fun _ _ => ⟨rfl,rfl⟩,trivial⟩) (by intro N L; show _ = rrun.F N (L.i 0) (L.i 1) (L.i 2) (L.i 3) (L.i 4) (L.i 5) (L.i 6) (L.i 7) (L.i 8) (L.l 0) (L.l 1) (L.l 2) (L.l 3) (L.l 4); rw [rrun.F,<- funext (rrun.loop3_eq N)]; kernel_rfl)
def rtalker.sig : Eng.Sig := { args := [.at (.int .i64 0)],post := [(0,.cells 5 [.int .i64 0,.full 1 false,.full 2 false,.full 3 false,.int .i64 1]),(1,.ints true .i64 0),(2,.ints true .i64 1),(3,.ints true .i64 2)],m := 4,ret := .at (.ptr 0 0) }
def rtalker.C (N : Nat) : Cfg := { P := Tryz.prog,N := N,RT := noRT,specs := [(84,rorder.spec)] }
abbrev rtalker.R : Type := Int × Int × List Int × List Int × List Int
def rtalker.dec (L : Eng.Leaves) : rtalker.R := (L.i 0,L.i 1,L.l 0,L.l 1,L.l 2)
def rtalker.enc (r : rtalker.R) : Eng.Leaves := mkL [r.1,r.2.1] [] [r.2.2.1,r.2.2.2.1,r.2.2.2.2] []
abbrev rtalker.loop4.R : Type := List Int
def rtalker.loop4.ann : Ann := { nx := 21,slots := [(3,.at (.ptr 0 0)),(4,.at (.fint .i64 0)),(5,.at (.int .i64 0))],blks := [(0,.cells 5 [.fint .i64 1,.nils,.nils,.full 20 false,.fint .i64 2]),(20,.ints true .i64 0)],mov := [20],xslots := [(3,.at (.ptr 0 0))],xblks := [(0,.cells 5 [.fint .i64 1,.nils,.nils,.full 20 false,.fint .i64 2]),(20,.ints true .i64 0)],T := rtalker.loop4.R,dec := fun L => (L.l 0),enc := fun r => mkL [] [] [r] [] }
def rtalker.K (N : Nat) : FCfg := { anns := [(4,rtalker.loop4.ann)] }
def rtalker.loop4 (N : Nat) : Nat -> Int -> Int -> Int -> Int -> List Int -> Option rtalker.loop4.R
 | 0,_,_,_,_,_ => none
 | nn + 1,d,a,b,e,c =>
 (br (decide (e < d))
 (chk (i64.wrap (d + 1) ≠ 0)
 (chk (c.length + [i64.wrap ((i64.wrap (32768 * i64.wrap (e + (1 : Int)))).tdiv (i64.wrap (d + 1)))].length <= (17592186043904 : Nat))
 (chkI d d
 (chkI a a
 (chkI b b
 (rtalker.loop4 N nn d a b (i64.wrap (e + 1)) (c ++ [i64.wrap ((i64.wrap (32768 * i64.wrap (e + (1 : Int)))).tdiv (i64.wrap (d + 1)))])))))))
 (chkI a a
 (chkI b b
 (some c))))
def rtalker.loop4R (N nn : Nat) (d b c : Int) (e : Int) (a : List Int) : Option rtalker.loop4.R := loopF rtalker.loop4.ann (mkL [d,b,c] [] [] []) (evCode ((rtalker.C N).inLoop rtalker.loop4.ann) (rtalker.K N) (inlTab (rtalker.C N) 0) (bodyAt 4 Tryz.f29)) nn (mkL [e] [] [a] [])
theorem rtalker.loop4_eq (N : Nat) : ∀ nn,rtalker.loop4R N nn = rtalker.loop4 N nn := lq fun _ h => by funext; rw [rtalker.loop4,<- h]; kernel_rfl
def rtalker.F (N : Nat) (a : Int) : Option rtalker.R :=
 (obind (Rc.rorder.F N a) fun r0 =>
 (obind (rtalker.loop4 N N r0 a (20) (0) (([] : List Int))) fun r1 =>
 (some ((a,20,([] : List Int),([] : List Int),r1)))))
noncomputable def rtalker.spec : Eng.Spec := rtalker.sig.spec (fun N L => rtalker.F N (L.i 0)) rtalker.enc
theorem rtalker.ok : CallOK Tryz.prog 29 rtalker.spec := ok2 rtalker.C rtalker.K Tryz.f29 rtalker.dec (fun _ => ⟨rorder.ok,trivial⟩) (fun _ => ⟨fun _ _ => ⟨rfl,rfl⟩,trivial⟩) (by intro N L; show _ = rtalker.F N (L.i 0); rw [rtalker.F,<- funext (rtalker.loop4_eq N)]; kernel_rfl)
def rplay.sig : Eng.Sig := { args := [.at (.ptr 0 0),.at (.int .i64 0),.agg [.bool 0,.int .i64 1,.int .i64 2,.roi .i64 0,.int .i64 3,.roi .i64 1,.roi .i64 2,.roi .i64 3,.roi .i64 4]],n := 4,pre := [(0,.cells 5 [.int .i64 4,.full 1 false,.full 2 false,.full 3 false,.int .i64 5]),(1,.ints true .i64 5),(2,.ints true .i64 6),(3,.ints true .i64 7)],post := [(0,.cells 5 [.int .i64 0,.full 5 false,.full 6 false,.full 7 false,.int .i64 1]),(1,.dead),(2,.dead),(3,.dead),(4,.ints true .i64 0),(5,.ints true .i64 1),(6,.ints true .i64 2),(7,.ints true .i64 3)],m := 4,ret := .at (.full 4 false) }
def rplay.C (N : Nat) : Cfg := { P := Tryz.prog,N := N,RT := noRT,specs := [(29,rtalker.spec),(84,rorder.spec),(89,r6decode.spec),(91,r6between.spec),(90,r6from.spec),(92,rtaps.spec),(94,rloud.spec),(93,rrun.spec),(95,rpcm.spec)],hi := 4 }
abbrev rplay.R : Type := Int × Int × List Int × List Int × List Int × List Int
def rplay.dec (L : Eng.Leaves) : rplay.R := (L.i 0,L.i 1,L.l 0,L.l 1,L.l 2,L.l 3)
def rplay.enc (r : rplay.R) : Eng.Leaves := mkL [r.1,r.2.1] [] [r.2.2.1,r.2.2.2.1,r.2.2.2.2.1,r.2.2.2.2.2] []
abbrev rplay.loop10.R : Type := List Int × List Int × List Int × List Int × List Int × List Int
def rplay.loop10.ann : Ann := { nx := 60,slots := [(0,.at (.ptr 0 0)),(1,.at (.fint .i64 0)),(5,.at (.ptr 4 0)),(9,.at (.full 41 false)),(10,.at (.full 42 false)),(11,.at (.fint .i64 1)),(12,.at (.full 20 false)),(13,.at (.int .i64 0))],blks := [(0,.cells 5 [.fint .i64 2,.full 21 false,.full 22 false,.full 40 false,.fint .i64 3]),(4,.cells 9 [.fbool 0,.fint .i64 4,.fint .i64 5,.froi .i64 0,.fint .i64 6,.froi .i64 1,.froi .i64 2,.froi .i64 3,.froi .i64 4]),(40,.ints true .i64 0),(41,.ints true .i64 1),(42,.ints true .i64 2),(20,.ints true .i64 3),(21,.ints true .i64 4),(22,.ints true .i64 5)],mov := [20,21,22,40,41,42],xslots := [(0,.at (.ptr 0 0)),(5,.at (.ptr 4 0)),(9,.at (.full 41 false)),(10,.at (.full 42 false)),(12,.at (.full 20 false))],xblks := [(0,.cells 5 [.fint .i64 2,.full 21 false,.full 22 false,.full 40 false,.fint .i64 3]),(4,.cells 9 [.fbool 0,.fint .i64 4,.fint .i64 5,.froi .i64 0,.fint .i64 6,.froi .i64 1,.froi .i64 2,.froi .i64 3,.froi .i64 4]),(40,.ints true .i64 0),(41,.ints true .i64 1),(42,.ints true .i64 2),(20,.ints true .i64 3),(21,.ints true .i64 4),(22,.ints true .i64 5)],T := rplay.loop10.R,dec := fun L => (L.l 0,L.l 1,L.l 2,L.l 3,L.l 4,L.l 5),enc := fun r => mkL [] [] [r.1,r.2.1,r.2.2.1,r.2.2.2.1,r.2.2.2.2.1,r.2.2.2.2.2] [] }
def rplay.K (N : Nat) : FCfg := { anns := [(10,rplay.loop10.ann)] }
def rplay.loop10 (N : Nat) : Nat -> Int -> Int -> Int -> Int -> Int -> Int -> Int -> Bool -> List Int -> List Int -> List Int -> List Int -> List Int -> Int -> List Int -> List Int -> List Int -> List Int -> List Int -> List Int -> Option rplay.loop10.R
 | 0,_,_,_,_,_,_,_,_,_,_,_,_,_,_,_,_,_,_,_,_ => none
 | nn + 1,q,e,g,h,k,l,c,f,m,a,i,j,b,d,s,o,p,n,t,O =>
 (br (decide (d < i64.wrap (q.tdiv 5)))
 (br (decide (d >= i64.wrap (q.tdiv 10)))
 (chk ((0 : Int) <= e /\ e <= e /\ e <= ↑(17592186043904 : Nat))
 (br (decide (k > 0))
 (chk ((0 : Int) <= i64.wrap (i64.wrap (d * e) + e) /\ i64.wrap (i64.wrap (d * e) + e) <= ↑b.length)
 (chk ((0 : Int) <= i64.wrap (d * e) /\ i64.wrap (d * e) <= ↑(i64.wrap (i64.wrap (d * e) + e)).toNat)
 (br (k == 2)
 (chk ((0 : Int) <= d /\ d < ↑i.length)
 (chk ((0 : Int) <= d /\ d < ↑j.length)
 (obind (Rc.rtaps.F N (j.getD d.toNat 0)) fun r0 =>
 (chk ((0 : Int) <= d /\ d < ↑a.length)
 (obind (Rc.rloud.F N (a.getD d.toNat 0)) fun r1 =>
 (obind (Rc.rrun.F N r1 (i.getD d.toNat 0) r0.1 r0.2.1 r0.2.2.1 r0.2.2.2.1 r0.2.2.2.2 g h (List.take ((i64.wrap (i64.wrap (d * e) + e)).toNat - (i64.wrap (d * e)).toNat) (List.drop (i64.wrap (d * e)).toNat b)) p t O s) fun r2 =>
 (chk (n.length + r2.1.length <= (17592186043904 : Nat))
 (chkI r0.1 r0.1
 (chkI r0.2.1 r0.2.1
 (chkI r0.2.2.1 r0.2.2.1
 (chkI r0.2.2.2.1 r0.2.2.2.1
 (chkI r0.2.2.2.2 r0.2.2.2.2
 (chkI q q
 (chkI e e
 (chkI g g
 (chkI h h
 (chkB f f
 (chkI k k
 (chkI l l
 (chkL m m
 (chkI c c
 (chkL a a
 (chkL i i
 (chkL j j
 (chkL b b
 (rplay.loop10 N nn q e g h k l c f m a i j b (i64.wrap (d + 1)) s o p (n ++ r2.1) r2.2.1 r2.2.2))))))))))))))))))))))))))
 (chk ((0 : Int) <= d /\ d < ↑a.length)
 (obind (Rc.rloud.F N (a.getD d.toNat 0)) fun r3 =>
 (obind (Rc.rrun.F N r3 (0) (0) (0) (0) (0) (0) g h (List.take ((i64.wrap (i64.wrap (d * e) + e)).toNat - (i64.wrap (d * e)).toNat) (List.drop (i64.wrap (d * e)).toNat b)) p t O s) fun r4 =>
 (chk (n.length + r4.1.length <= (17592186043904 : Nat))
 (chkI (0) (0)
 (chkI (0) (0)
 (chkI (0) (0)
 (chkI (0) (0)
 (chkI (0) (0)
 (chkI q q
 (chkI e e
 (chkI g g
 (chkI h h
 (chkB f f
 (chkI k k
 (chkI l l
 (chkL m m
 (chkI c c
 (chkL a a
 (chkL i i
 (chkL j j
 (chkL b b
 (rplay.loop10 N nn q e g h k l c f m a i j b (i64.wrap (d + 1)) s o p (n ++ r4.1) r4.2.1 r4.2.2))))))))))))))))))))))))))
 (br (k == 2)
 (chk ((0 : Int) <= d /\ d < ↑i.length)
 (chk ((0 : Int) <= d /\ d < ↑j.length)
 (obind (Rc.rtaps.F N (j.getD d.toNat 0)) fun r5 =>
 (chk ((0 : Int) <= d /\ d < ↑a.length)
 (obind (Rc.rloud.F N (a.getD d.toNat 0)) fun r6 =>
 (obind (Rc.rrun.F N r6 (i.getD d.toNat 0) r5.1 r5.2.1 r5.2.2.1 r5.2.2.2.1 r5.2.2.2.2 g h (List.replicate e.toNat 0) p t O s) fun r7 =>
 (chk (n.length + r7.1.length <= (17592186043904 : Nat))
 (chkI r5.1 r5.1
 (chkI r5.2.1 r5.2.1
 (chkI r5.2.2.1 r5.2.2.1
 (chkI r5.2.2.2.1 r5.2.2.2.1
 (chkI r5.2.2.2.2 r5.2.2.2.2
 (chkI q q
 (chkI e e
 (chkI g g
 (chkI h h
 (chkB f f
 (chkI k k
 (chkI l l
 (chkL m m
 (chkI c c
 (chkL a a
 (chkL i i
 (chkL j j
 (chkL b b
 (rplay.loop10 N nn q e g h k l c f m a i j b (i64.wrap (d + 1)) s o p (n ++ r7.1) r7.2.1 r7.2.2))))))))))))))))))))))))))
 (chk ((0 : Int) <= d /\ d < ↑a.length)
 (obind (Rc.rloud.F N (a.getD d.toNat 0)) fun r8 =>
 (obind (Rc.rrun.F N r8 (0) (0) (0) (0) (0) (0) g h (List.replicate e.toNat 0) p t O s) fun r9 =>
 (chk (n.length + r9.1.length <= (17592186043904 : Nat))
 (chkI (0) (0)
 (chkI (0) (0)
 (chkI (0) (0)
 (chkI (0) (0)
 (chkI (0) (0)
 (chkI q q
 (chkI e e
 (chkI g g
 (chkI h h
 (chkB f f
 (chkI k k
 (chkI l l
 (chkL m m
 (chkI c c
 (chkL a a
 (chkL i i
 (chkL j j
 (chkL b b
 (rplay.loop10 N nn q e g h k l c f m a i j b (i64.wrap (d + 1)) s o p (n ++ r9.1) r9.2.1 r9.2.2))))))))))))))))))))))))))
 (chk ((0 : Int) <= e /\ e <= e /\ e <= ↑(17592186043904 : Nat))
 (br (decide (k > 0))
 (chk ((0 : Int) <= i64.wrap (i64.wrap (d * e) + e) /\ i64.wrap (i64.wrap (d * e) + e) <= ↑b.length)
 (chk ((0 : Int) <= i64.wrap (d * e) /\ i64.wrap (d * e) <= ↑(i64.wrap (i64.wrap (d * e) + e)).toNat)
 (br (k == 2)
 (chk ((0 : Int) <= d /\ d < ↑i.length)
 (chk ((0 : Int) <= d /\ d < ↑j.length)
 (obind (Rc.rtaps.F N (j.getD d.toNat 0)) fun r10 =>
 (chk ((0 : Int) <= d /\ d < ↑a.length)
 (obind (Rc.rloud.F N (a.getD d.toNat 0)) fun r11 =>
 (obind (Rc.rrun.F N r11 (i.getD d.toNat 0) r10.1 r10.2.1 r10.2.2.1 r10.2.2.2.1 r10.2.2.2.2 g h (List.take ((i64.wrap (i64.wrap (d * e) + e)).toNat - (i64.wrap (d * e)).toNat) (List.drop (i64.wrap (d * e)).toNat b)) o t O s) fun r12 =>
 (chk (n.length + r12.1.length <= (17592186043904 : Nat))
 (chkI r10.1 r10.1
 (chkI r10.2.1 r10.2.1
 (chkI r10.2.2.1 r10.2.2.1
 (chkI r10.2.2.2.1 r10.2.2.2.1
 (chkI r10.2.2.2.2 r10.2.2.2.2
 (chkI q q
 (chkI e e
 (chkI g g
 (chkI h h
 (chkB f f
 (chkI k k
 (chkI l l
 (chkL m m
 (chkI c c
 (chkL a a
 (chkL i i
 (chkL j j
 (chkL b b
 (rplay.loop10 N nn q e g h k l c f m a i j b (i64.wrap (d + 1)) s o p (n ++ r12.1) r12.2.1 r12.2.2))))))))))))))))))))))))))
 (chk ((0 : Int) <= d /\ d < ↑a.length)
 (obind (Rc.rloud.F N (a.getD d.toNat 0)) fun r13 =>
 (obind (Rc.rrun.F N r13 (0) (0) (0) (0) (0) (0) g h (List.take ((i64.wrap (i64.wrap (d * e) + e)).toNat - (i64.wrap (d * e)).toNat) (List.drop (i64.wrap (d * e)).toNat b)) o t O s) fun r14 =>
 (chk (n.length + r14.1.length <= (17592186043904 : Nat))
 (chkI (0) (0)
 (chkI (0) (0)
 (chkI (0) (0)
 (chkI (0) (0)
 (chkI (0) (0)
 (chkI q q
 (chkI e e
 (chkI g g
 (chkI h h
 (chkB f f
 (chkI k k
 (chkI l l
 (chkL m m
 (chkI c c
 (chkL a a
 (chkL i i
 (chkL j j
 (chkL b b
 (rplay.loop10 N nn q e g h k l c f m a i j b (i64.wrap (d + 1)) s o p (n ++ r14.1) r14.2.1 r14.2.2))))))))))))))))))))))))))
 (br (k == 2)
 (chk ((0 : Int) <= d /\ d < ↑i.length)
 (chk ((0 : Int) <= d /\ d < ↑j.length)
 (obind (Rc.rtaps.F N (j.getD d.toNat 0)) fun r15 =>
 (chk ((0 : Int) <= d /\ d < ↑a.length)
 (obind (Rc.rloud.F N (a.getD d.toNat 0)) fun r16 =>
 (obind (Rc.rrun.F N r16 (i.getD d.toNat 0) r15.1 r15.2.1 r15.2.2.1 r15.2.2.2.1 r15.2.2.2.2 g h (List.replicate e.toNat 0) o t O s) fun r17 =>
 (chk (n.length + r17.1.length <= (17592186043904 : Nat))
 (chkI r15.1 r15.1
 (chkI r15.2.1 r15.2.1
 (chkI r15.2.2.1 r15.2.2.1
 (chkI r15.2.2.2.1 r15.2.2.2.1
 (chkI r15.2.2.2.2 r15.2.2.2.2
 (chkI q q
 (chkI e e
 (chkI g g
 (chkI h h
 (chkB f f
 (chkI k k
 (chkI l l
 (chkL m m
 (chkI c c
 (chkL a a
 (chkL i i
 (chkL j j
 (chkL b b
 (rplay.loop10 N nn q e g h k l c f m a i j b (i64.wrap (d + 1)) s o p (n ++ r17.1) r17.2.1 r17.2.2))))))))))))))))))))))))))
 (chk ((0 : Int) <= d /\ d < ↑a.length)
 (obind (Rc.rloud.F N (a.getD d.toNat 0)) fun r18 =>
 (obind (Rc.rrun.F N r18 (0) (0) (0) (0) (0) (0) g h (List.replicate e.toNat 0) o t O s) fun r19 =>
 (chk (n.length + r19.1.length <= (17592186043904 : Nat))
 (chkI (0) (0)
 (chkI (0) (0)
 (chkI (0) (0)
 (chkI (0) (0)
 (chkI (0) (0)
 (chkI q q
 (chkI e e
 (chkI g g
 (chkI h h
 (chkB f f
 (chkI k k
 (chkI l l
 (chkL m m
 (chkI c c
 (chkL a a
 (chkL i i
 (chkL j j
 (chkL b b
 (rplay.loop10 N nn q e g h k l c f m a i j b (i64.wrap (d + 1)) s o p (n ++ r19.1) r19.2.1 r19.2.2)))))))))))))))))))))))))))
 (chkI g g
 (chkI h h
 (chkB f f
 (chkI k k
 (chkI l l
 (chkL m m
 (chkI c c
 (chkL a a
 (chkL i i
 (chkL j j
 (chkL b b
 (some ((s,o,p,n,t,O)))))))))))))))
def rplay.loop10R (N nn : Nat) (q j e f g k a : Int) (c : Bool) (l d h i b : List Int) (m : Int) (s n o p t O : List Int) : Option rplay.loop10.R := loopF rplay.loop10.ann (mkL [q,j,e,f,g,k,a] [c] [l,d,h,i,b] []) (evCode ((rplay.C N).inLoop rplay.loop10.ann) (rplay.K N) (inlTab (rplay.C N) 0) (bodyAt 10 Tryz.f31)) nn (mkL [m] [] [s,n,o,p,t,O] [])
theorem rplay.loop10_eq (N : Nat) : ∀ nn,rplay.loop10R N nn = rplay.loop10 N nn := lq fun _ h => by funext; rw [rplay.loop10,<- h]; kernel_rfl
def rplay.F (N : Nat) (m i g b c l : Int) (d : Bool) (h a j k e R O f : List Int) : Option rplay.R :=
 (br d
 (obind (Rc.rtalker.F N c) fun r0 =>
 (obind (Rc.rorder.F N r0.1) fun r1 =>
 (obind (Rc.r6decode.F N r1 g h) fun r2 =>
 (obind (Rc.r6between.F N b r0.2.2.2.2 r2) fun r3 =>
 (obind (Rc.r6from.F N r3) fun r4 =>
 (obind (Rc.r6from.F N r2) fun r5 =>
 (obind (rplay.loop10 N N m (i64.wrap (r0.1.tdiv 200)) r0.1 r0.2.1 i g b d h a j k e (0) r0.2.2.2.2 r4 r5 (([] : List Int)) r0.2.2.1 r0.2.2.2.1) fun r6 =>
 (chk ((0 : Int) <= i64.wrap (↑a.length - (1 : Int)) /\ i64.wrap (↑a.length - (1 : Int)) < ↑a.length)
 (obind (Rc.rpcm.F N r6.2.2.2.1) fun r7 =>
 (some ((r0.1,a.getD (i64.wrap (↑a.length - (1 : Int))).toNat (0 : Int),r7,r6.2.2.2.2.1,r6.2.2.2.2.2,r2))))))))))))
 (obind (Rc.rorder.F N c) fun r8 =>
 (obind (Rc.r6decode.F N r8 g h) fun r9 =>
 (obind (Rc.r6between.F N b f r9) fun r10 =>
 (obind (Rc.r6from.F N r10) fun r11 =>
 (obind (Rc.r6from.F N r9) fun r12 =>
 (obind (rplay.loop10 N N m (i64.wrap (c.tdiv 200)) c l i g b d h a j k e (0) f r11 r12 (([] : List Int)) R O) fun r13 =>
 (chk ((0 : Int) <= i64.wrap (↑a.length - (1 : Int)) /\ i64.wrap (↑a.length - (1 : Int)) < ↑a.length)
 (obind (Rc.rpcm.F N r13.2.2.2.1) fun r14 =>
 (some ((c,a.getD (i64.wrap (↑a.length - (1 : Int))).toNat (0 : Int),r14,r13.2.2.2.2.1,r13.2.2.2.2.2,r9))))))))))))
noncomputable def rplay.spec : Eng.Spec := rplay.sig.spec (fun N L => rplay.F N (L.i 0) (L.i 1) (L.i 2) (L.i 3) (L.i 4) (L.i 5) (L.b 0) (L.l 0) (L.l 1) (L.l 2) (L.l 3) (L.l 4) (L.l 5) (L.l 6) (L.l 7)) rplay.enc
theorem rplay.ok : CallOK Tryz.prog 31 rplay.spec := ok2 rplay.C rplay.K Tryz.f31 rplay.dec (fun _ => ⟨rtalker.ok,rorder.ok,r6decode.ok,r6between.ok,r6from.ok,rtaps.ok,rloud.ok,rrun.ok,rpcm.ok,trivial⟩) (fun _ => ⟨fun _ _ => ⟨rfl,rfl⟩,trivial⟩) (by intro N L; show _ = rplay.F N (L.i 0) (L.i 1) (L.i 2) (L.i 3) (L.i 4) (L.i 5) (L.b 0) (L.l 0) (L.l 1) (L.l 2) (L.l 3) (L.l 4) (L.l 5) (L.l 6) (L.l 7); rw [rplay.F,<- funext (rplay.loop10_eq N)]; kernel_rfl)
def same14.sig : Eng.Sig := { args := [.at (.roi .i64 0),.at (.roi .i64 1)],ret := .at (.bool 0) }
def same14.C (N : Nat) : Cfg := { P := Tryz.prog,N := N,RT := noRT,specs := [] }
abbrev same14.R : Type := Bool
def same14.dec (L : Eng.Leaves) : same14.R := (L.b 0)
def same14.enc (r : same14.R) : Eng.Leaves := mkL [] [r] [] []
abbrev same14.loop4.R : Type := Bool
def same14.loop4.ann : Ann := { nx := 20,slots := [(0,.at (.froi .i64 0)),(1,.at (.froi .i64 1)),(4,.at (.bool 0)),(5,.at (.int .i64 0))],xslots := [(4,.at (.bool 0))],T := same14.loop4.R,dec := fun L => (L.b 0),enc := fun r => mkL [] [r] [] [],ret := true }
def same14.K (N : Nat) : FCfg := { anns := [(4,same14.loop4.ann)] }
def same14.loop4 (N : Nat) : Nat -> List Int -> List Int -> List Int -> List Int -> Int -> Bool -> Option (same14.loop4.R ⊕ same14.R)
 | 0,_,_,_,_,_,_ => none
 | nn + 1,d,e,a,b,c,f =>
 (br (decide (c < ↑a.length))
 (chk ((0 : Int) <= c /\ c < ↑a.length)
 (chk ((0 : Int) <= c /\ c < ↑b.length)
 (br (a.getD c.toNat 0 != b.getD c.toNat 0)
 (omap
 (some false) .inr)
 (chkL a a
 (chkL b b
 (same14.loop4 N nn d e a b (i64.wrap (c + 1)) f))))))
 (some (Sum.inl f)))
def same14.loop4R (N nn : Nat) (c d : List Int) (a b : List Int) (e : Int) (f : Bool) : Option (same14.loop4.R ⊕ same14.R) := loopR same14.loop4.ann (mkL [] [] [a,b] []) (evCode ((same14.C N).inLoop same14.loop4.ann) (same14.K N) (inlTab (same14.C N) 0) (bodyAt 4 Tryz.f19)) (sigKr Tryz.prog Tryz.f19 same14.sig (mkL [] [] [c,d] []) fun L => (L.b 0)) nn (mkL [e] [f] [] [])
theorem same14.loop4_eq (N : Nat) : ∀ nn,same14.loop4R N nn = same14.loop4 N nn := lq fun _ h => by funext; rw [same14.loop4,<- h]; kernel_rfl
def same14.F (N : Nat) (a b : List Int) : Option same14.R :=
 (br ((a.length : Int) != ↑b.length)
 (some false)
 (osum (same14.loop4 N N a b a b (0) false) fun r0 =>
 (some true)))
noncomputable def same14.spec : Eng.Spec := same14.sig.spec (fun N L => same14.F N (L.l 0) (L.l 1)) same14.enc
theorem same14.ok : CallOK Tryz.prog 19 same14.spec := ok2 same14.C same14.K Tryz.f19 same14.dec (fun _ => trivial) (fun _ => ⟨fun _ _ => ⟨rfl,rfl⟩,trivial⟩) (by intro N L; show _ = same14.F N (L.l 0) (L.l 1); rw [same14.F,<- funext (same14.loop4_eq N)]; kernel_rfl)
def ints14.sig : Eng.Sig := { args := [.at (.roi .i64 0),.at (.roi .i64 1)],ret := .at (.bool 0) }
def ints14.C (N : Nat) : Cfg := { P := Tryz.prog,N := N,RT := noRT,specs := [] }
abbrev ints14.R : Type := Bool
def ints14.dec (L : Eng.Leaves) : ints14.R := (L.b 0)
def ints14.enc (r : ints14.R) : Eng.Leaves := mkL [] [r] [] []
abbrev ints14.loop4.R : Type := Bool
def ints14.loop4.ann : Ann := { nx := 20,slots := [(0,.at (.froi .i64 0)),(1,.at (.froi .i64 1)),(4,.at (.bool 0)),(5,.at (.int .i64 0))],xslots := [(4,.at (.bool 0))],T := ints14.loop4.R,dec := fun L => (L.b 0),enc := fun r => mkL [] [r] [] [],ret := true }
def ints14.K (N : Nat) : FCfg := { anns := [(4,ints14.loop4.ann)] }
def ints14.loop4 (N : Nat) : Nat -> List Int -> List Int -> List Int -> List Int -> Int -> Bool -> Option (ints14.loop4.R ⊕ ints14.R)
 | 0,_,_,_,_,_,_ => none
 | nn + 1,d,e,a,b,c,f =>
 (br (decide (c < ↑a.length))
 (chk ((0 : Int) <= c /\ c < ↑a.length)
 (chk ((0 : Int) <= c /\ c < ↑b.length)
 (br (a.getD c.toNat 0 != b.getD c.toNat 0)
 (omap
 (some false) .inr)
 (chkL a a
 (chkL b b
 (ints14.loop4 N nn d e a b (i64.wrap (c + 1)) f))))))
 (some (Sum.inl f)))
def ints14.loop4R (N nn : Nat) (c d : List Int) (a b : List Int) (e : Int) (f : Bool) : Option (ints14.loop4.R ⊕ ints14.R) := loopR ints14.loop4.ann (mkL [] [] [a,b] []) (evCode ((ints14.C N).inLoop ints14.loop4.ann) (ints14.K N) (inlTab (ints14.C N) 0) (bodyAt 4 Tryz.f23)) (sigKr Tryz.prog Tryz.f23 ints14.sig (mkL [] [] [c,d] []) fun L => (L.b 0)) nn (mkL [e] [f] [] [])
theorem ints14.loop4_eq (N : Nat) : ∀ nn,ints14.loop4R N nn = ints14.loop4 N nn := lq fun _ h => by funext; rw [ints14.loop4,<- h]; kernel_rfl
def ints14.F (N : Nat) (a b : List Int) : Option ints14.R :=
 (br ((a.length : Int) != ↑b.length)
 (some false)
 (osum (ints14.loop4 N N a b a b (0) false) fun r0 =>
 (some true)))
noncomputable def ints14.spec : Eng.Spec := ints14.sig.spec (fun N L => ints14.F N (L.l 0) (L.l 1)) ints14.enc
theorem ints14.ok : CallOK Tryz.prog 23 ints14.spec := ok2 ints14.C ints14.K Tryz.f23 ints14.dec (fun _ => trivial) (fun _ => ⟨fun _ _ => ⟨rfl,rfl⟩,trivial⟩) (by intro N L; show _ = ints14.F N (L.l 0) (L.l 1); rw [ints14.F,<- funext (ints14.loop4_eq N)]; kernel_rfl)
def own14.sig : Eng.Sig := { args := [.agg [.bool 0,.int .i64 0,.int .i64 1,.roi .i64 0,.int .i64 2,.roi .i64 1,.rro ⟨[.i64,.i64],none,false⟩ 0,.roi .i64 2]],ret := .agg [.bool 0,.int .i64 0,.int .i64 1,.roi .i64 0,.int .i64 2,.roi .i64 1,.roi .i64 2,.roi .i64 3,.roi .i64 4] }
def own14.C (N : Nat) : Cfg := { P := Tryz.prog,N := N,RT := noRT,specs := [] }
abbrev own14.R : Type := Int × Int × Int × Bool × List Int × List Int × List Int × List Int × List Int
def own14.dec (L : Eng.Leaves) : own14.R := (L.i 0,L.i 1,L.i 2,L.b 0,L.l 0,L.l 1,L.l 2,L.l 3,L.l 4)
def own14.enc (r : own14.R) : Eng.Leaves := mkL [r.1,r.2.1,r.2.2.1] [r.2.2.2.1] [r.2.2.2.2.1,r.2.2.2.2.2.1,r.2.2.2.2.2.2.1,r.2.2.2.2.2.2.2.1,r.2.2.2.2.2.2.2.2] []
abbrev own14.loop3.R : Type := List Int × List Int
def own14.loop3.ann : Ann := { nx := 22,slots := [(1,.at (.ptr 0 0)),(3,.at (.ptr 2 0)),(4,.at (.int .i64 0))],blks := [(0,.cells 8 [.fbool 0,.fint .i64 0,.fint .i64 1,.froi .i64 0,.fint .i64 2,.froi .i64 1,.frro ⟨[.i64,.i64],none,false⟩ 0,.froi .i64 2]),(2,.cells 9 [.fbool 1,.fint .i64 3,.fint .i64 4,.froi .i64 3,.fint .i64 5,.froi .i64 4,.full 20 false,.full 21 false,.froi .i64 5]),(20,.ints true .i64 0),(21,.ints true .i64 1)],mov := [20,21],xslots := [(1,.at (.ptr 0 0)),(3,.at (.ptr 2 0))],xblks := [(0,.cells 8 [.fbool 0,.fint .i64 0,.fint .i64 1,.froi .i64 0,.fint .i64 2,.froi .i64 1,.frro ⟨[.i64,.i64],none,false⟩ 0,.froi .i64 2]),(2,.cells 9 [.fbool 1,.fint .i64 3,.fint .i64 4,.froi .i64 3,.fint .i64 5,.froi .i64 4,.full 20 false,.full 21 false,.froi .i64 5]),(20,.ints true .i64 0),(21,.ints true .i64 1)],T := own14.loop3.R,dec := fun L => (L.l 0,L.l 1),enc := fun r => mkL [] [] [r.1,r.2] [] }
def own14.K (N : Nat) : FCfg := { anns := [(3,own14.loop3.ann)],frz := [51] }
def own14.loop3 (N : Nat) : Nat -> Int -> Int -> Int -> Int -> Int -> Int -> Bool -> Bool -> List Int -> List Int -> List Int -> List Int -> List Int -> List Int -> List (List Int) -> Int -> List Int -> List Int -> Option own14.loop3.R
 | 0,_,_,_,_,_,_,_,_,_,_,_,_,_,_,_,_,_,_ => none
 | nn + 1,k,n,c,h,l,a,i,e,o,j,f,m,g,d,b,s,p,q =>
 (br (decide (s < ↑b.length))
 (chk ((0 : Int) <= s /\ s < ↑b.length)
 (chk (p.length + [(b.getD s.toNat ([] : List Int)).headD 0].length <= (17592186043904 : Nat))
 (chk ((0 : Int) <= s /\ s < ↑b.length)
 (chk (q.length + [(b.getD s.toNat ([] : List Int)).tail.headD 0].length <= (17592186043904 : Nat))
 (chkB i i
 (chkI k k
 (chkI n n
 (chkL o o
 (chkI c c
 (chkL j j
 (chkR b b
 (chkL f f
 (chkB e e
 (chkI h h
 (chkI l l
 (chkL m m
 (chkI a a
 (chkL g g
 (chkL d d
 (own14.loop3 N nn k n c h l a i e o j f m g d b (i64.wrap (s + 1)) (p ++ [(b.getD s.toNat ([] : List Int)).headD 0]) (q ++ [(b.getD s.toNat ([] : List Int)).tail.headD 0])))))))))))))))))))))
 (chkB i i
 (chkI k k
 (chkI n n
 (chkL o o
 (chkI c c
 (chkL j j
 (chkR b b
 (chkL f f
 (chkB e e
 (chkI h h
 (chkI l l
 (chkL m m
 (chkI a a
 (chkL g g
 (chkL d d
 (some ((p,q)))))))))))))))))))
def own14.loop3R (N nn : Nat) (j p b g k a : Int) (h d : Bool) (q i e l f c : List Int) (m : List (List Int)) (s : Int) (n o : List Int) : Option own14.loop3.R := loopF own14.loop3.ann (mkL [j,p,b,g,k,a] [h,d] [q,i,e,l,f,c] [m]) (evCode ((own14.C N).inLoop own14.loop3.ann) (own14.K N) (inlTab (own14.C N) 0) (bodyAt 3 Tryz.f22)) nn (mkL [s] [] [n,o] [])
theorem own14.loop3_eq (N : Nat) : ∀ nn,own14.loop3R N nn = own14.loop3 N nn := lq fun _ h => by funext; rw [own14.loop3,<- h]; kernel_rfl
def own14.F (N : Nat) (g a b : Int) (e : Bool) (c f d : List Int) (h : List (List Int)) : Option own14.R :=
 (obind (own14.loop3 N N g a b g a b e e c f d c f d h (0) (([] : List Int)) (([] : List Int))) fun r0 =>
 (some ((g,a,b,e,c,f,r0.1,r0.2,d))))
noncomputable def own14.spec : Eng.Spec := own14.sig.spec (fun N L => own14.F N (L.i 0) (L.i 1) (L.i 2) (L.b 0) (L.l 0) (L.l 1) (L.l 2) (L.r 0)) own14.enc
theorem own14.ok : CallOK Tryz.prog 22 own14.spec := ok2 own14.C own14.K Tryz.f22 own14.dec (fun _ => trivial) (fun _ => ⟨fun _ _ => ⟨rfl,rfl⟩,trivial⟩) (by intro N L; show _ = own14.F N (L.i 0) (L.i 1) (L.i 2) (L.b 0) (L.l 0) (L.l 1) (L.l 2) (L.r 0); rw [own14.F,<- funext (own14.loop3_eq N)]; kernel_rfl)
def plain14.sig : Eng.Sig := { args := [],ret := .agg [.bool 0,.int .i64 0,.int .i64 1,.roi .i64 0,.int .i64 2,.roi .i64 1,.rro ⟨[.i64,.i64],none,false⟩ 0,.roi .i64 2] }
def plain14.C (N : Nat) : Cfg := { P := Tryz.prog,N := N,RT := noRT,specs := [] }
abbrev plain14.R : Type := Int × Int × Int × Bool × List Int × List Int × List Int × List (List Int)
def plain14.dec (L : Eng.Leaves) : plain14.R := (L.i 0,L.i 1,L.i 2,L.b 0,L.l 0,L.l 1,L.l 2,L.r 0)
def plain14.enc (r : plain14.R) : Eng.Leaves := mkL [r.1,r.2.1,r.2.2.1] [r.2.2.2.1] [r.2.2.2.2.1,r.2.2.2.2.2.1,r.2.2.2.2.2.2.1] [r.2.2.2.2.2.2.2]
def plain14.K (N : Nat) : FCfg := { frz := [9] }
def plain14.F (N : Nat)  : Option plain14.R :=
 (some (((1 : Int),0,0,true,List.replicate 10 0,[(30 : Int),30],(List.replicate 80 (0 : Int)).set 0 1,([] : List (List Int)))))
noncomputable def plain14.spec : Eng.Spec := plain14.sig.spec (fun N L => plain14.F N ) plain14.enc
theorem plain14.ok : CallOK Tryz.prog 17 plain14.spec := ok2 plain14.C plain14.K Tryz.f17 plain14.dec (fun _ => trivial) (fun _ => trivial)
def is14.sig : Eng.Sig := { args := [.agg [.bool 0,.int .i64 0,.int .i64 1,.roi .i64 0,.int .i64 2,.roi .i64 1,.rro ⟨[.i64,.i64],none,false⟩ 0,.roi .i64 2],.agg [.bool 1,.int .i64 3,.int .i64 4,.roi .i64 3,.int .i64 5,.roi .i64 4,.roi .i64 5,.roi .i64 6,.roi .i64 7]],ret := .at (.bool 0) }
def is14.C (N : Nat) : Cfg := { P := Tryz.prog,N := N,RT := noRT,specs := [(22,own14.spec),(23,ints14.spec),(19,same14.spec)] }
abbrev is14.R : Type := Bool
def is14.dec (L : Eng.Leaves) : is14.R := (L.b 0)
def is14.enc (r : is14.R) : Eng.Leaves := mkL [] [r] [] []
def is14.K (N : Nat) : FCfg := {}
def is14.F (N : Nat) (h a b m p e : Int) (f k : Bool) (c g d q l n o i : List Int) (j : List (List Int)) : Option is14.R :=
 (obind (Rc.own14.F N h a b f c g d j) fun r0 =>
 (br (r0.2.2.2.1 == k)
 (br (r0.1 == m)
 (br (r0.2.1 == p)
 (obind (Rc.ints14.F N r0.2.2.2.2.1 q) fun r1 =>
 (br r1
 (br (r0.2.2.1 == e)
 (obind (Rc.ints14.F N r0.2.2.2.2.2.1 l) fun r2 =>
 (br r2
 (obind (Rc.ints14.F N r0.2.2.2.2.2.2.1 n) fun r3 =>
 (br r3
 (obind (Rc.ints14.F N r0.2.2.2.2.2.2.2.1 o) fun r4 =>
 (br r4
 (obind (Rc.same14.F N r0.2.2.2.2.2.2.2.2 i) fun r5 =>
 (some r5))
 (some false)))
 (some false)))
 (some false)))
 (some false))
 (some false)))
 (some false))
 (some false))
 (some false)))
noncomputable def is14.spec : Eng.Spec := is14.sig.spec (fun N L => is14.F N (L.i 0) (L.i 1) (L.i 2) (L.i 3) (L.i 4) (L.i 5) (L.b 0) (L.b 1) (L.l 0) (L.l 1) (L.l 2) (L.l 3) (L.l 4) (L.l 5) (L.l 6) (L.l 7) (L.r 0)) is14.enc
theorem is14.ok : CallOK Tryz.prog 26 is14.spec := ok2 is14.C is14.K Tryz.f26 is14.dec (fun _ => ⟨own14.ok,ints14.ok,same14.ok,trivial⟩) (fun _ => trivial)
def plplay.sig : Eng.Sig := { args := [.at (.ptr 0 0),.at (.int .i64 0),.agg [.bool 0,.int .i64 1,.int .i64 2,.roi .i64 0,.int .i64 3,.roi .i64 1,.rro ⟨[.i64,.i64],none,false⟩ 0,.roi .i64 2]],n := 3,pre := [(0,.cells 4 [.int .i64 4,.ptr 1 0,.full 2 false,.int .i64 5]),(1,.ints false .i64 3),(2,.ints true .i64 4)],post := [(0,.cells 4 [.fint .i64 4,.ptr 1 0,.full 4 false,.int .i64 1]),(1,.ints false .i64 0),(2,.dead),(3,.ints true .i64 1),(4,.ints true .i64 2)],m := 2,ret := .tup [(false,[.full 3 false]),(false,[.int .i64 0])] }
def plplay.C (N : Nat) : Cfg := { P := Tryz.prog,N := N,RT := noRT,specs := [(21,spgood.spec),(36,plreset.spec),(34,torder.spec),(61,ldecode.spec),(62,lbetween.spec),(63,lfrom.spec),(64,gloud.spec),(65,ttaps.spec),(66,syrun.spec),(67,sypcm.spec)],hi := 3 }
abbrev plplay.R : Type := Int × Int × List Int × List Int × List Int
def plplay.dec (L : Eng.Leaves) : plplay.R := (L.i 0,L.i 1,L.l 0,L.l 1,L.l 2)
def plplay.enc (r : plplay.R) : Eng.Leaves := mkL [r.1,r.2.1] [] [r.2.2.1,r.2.2.2.1,r.2.2.2.2] []
abbrev plplay.loop12.R : Type := Int × List Int × List Int × List Int × List Int × List Int
def plplay.loop12.ann : Ann := { nx := 60,slots := [(0,.at (.ptr 0 0)),(5,.at (.ptr 3 0)),(12,.at (.full 40 false)),(14,.at (.full 41 false)),(16,.at (.fint .i64 0)),(17,.at (.full 20 false)),(73,.at (.froi .i64 0)),(74,.at (.fint .i64 1)),(75,.at (.int .i64 0))],blks := [(0,.cells 4 [.fint .i64 2,.ptr 1 0,.full 21 false,.int .i64 1]),(1,.ints false .i64 0),(3,.cells 8 [.fbool 0,.fint .i64 3,.fint .i64 4,.froi .i64 1,.fint .i64 5,.froi .i64 2,.frro ⟨[.i64,.i64],none,false⟩ 0,.froi .i64 3]),(40,.ints true .i64 1),(41,.ints true .i64 2),(20,.ints true .i64 3),(21,.ints true .i64 4)],mov := [20,21,40,41],xslots := [(0,.at (.ptr 0 0)),(5,.at (.ptr 3 0)),(12,.at (.full 40 false)),(14,.at (.full 41 false)),(17,.at (.full 20 false))],xblks := [(0,.cells 4 [.fint .i64 2,.ptr 1 0,.full 21 false,.int .i64 0]),(1,.ints false .i64 0),(3,.cells 8 [.fbool 0,.fint .i64 3,.fint .i64 4,.froi .i64 1,.fint .i64 5,.froi .i64 2,.frro ⟨[.i64,.i64],none,false⟩ 0,.froi .i64 3]),(40,.ints true .i64 1),(41,.ints true .i64 2),(20,.ints true .i64 3),(21,.ints true .i64 4)],T := plplay.loop12.R,dec := fun L => (L.i 0,L.l 0,L.l 1,L.l 2,L.l 3,L.l 4),enc := fun r => mkL [r.1] [] [r.2.1,r.2.2.1,r.2.2.2.1,r.2.2.2.2.1,r.2.2.2.2.2] [] }
def plplay.K (N : Nat) : FCfg := { anns := [(12,plplay.loop12.ann)],mks := [81,20] }
def plplay.loop12 (N : Nat) : Nat -> Int -> Int -> Int -> Int -> Int -> Int -> Bool -> List Int -> List Int -> List Int -> List Int -> List (List Int) -> Int -> Int -> List Int -> List Int -> List Int -> List Int -> List Int -> Option plplay.loop12.R
 | 0,_,_,_,_,_,_,_,_,_,_,_,_,_,_,_,_,_,_,_ => none
 | nn + 1,e,m,i,h,k,b,g,j,l,f,a,c,d,t,n,q,s,p,o =>
 (br (decide (d < m))
 (chk ((0 : Int) <= d /\ d < ↑j.length)
 (chk ((0 : Int) <= e /\ e <= e /\ e <= ↑(17592186043904 : Nat))
 (obind (Rc.gloud.F N (j.getD d.toNat 0)) fun r0 =>
 (br (decide (i64.wrap ((2 : Int) * d) < ↑f.length))
 (br (h != 0)
 (chk ((0 : Int) <= i64.wrap (d * e) /\ i64.wrap (d * e) <= ↑a.length)
 (br (h == 2)
 (chk ((0 : Int) <= d /\ d < ↑c.length)
 (chk ((0 : Int) <= d /\ d < ↑c.length)
 (obind (Rc.ttaps.F N ((c.getD d.toNat ([] : List Int)).tail.headD 0)) fun r1 =>
 (chkR c c
 (obind (Rc.syrun.F N r0 ((c.getD d.toNat ([] : List Int)).headD 0) r1.1 r1.2.1 r1.2.2.1 r1.2.2.2.1 r1.2.2.2.2 (List.take (List.replicate e.toNat (0 : Int)).length (List.take (a.length - (i64.wrap (d * e)).toNat) (List.drop (i64.wrap (d * e)).toNat a)) ++ List.drop (min (List.take (a.length - (i64.wrap (d * e)).toNat) (List.drop (i64.wrap (d * e)).toNat a)).length (List.replicate e.toNat (0 : Int)).length) (List.replicate e.toNat 0)) q n) fun r2 =>
 (chk (p.length + r2.2.2.length <= (17592186043904 : Nat))
 (chkI e e
 (chkL j j
 (chkI m m
 (chkI i i
 (chkB g g
 (chkI h h
 (chkI k k
 (chkL l l
 (chkI b b
 (chkL f f
 (chkR c c
 (chkL a a
 (plplay.loop12 N nn e m i h k b g j l f a c (i64.wrap (d + 1)) (j.getD d.toNat 0) r2.2.1 q s (p ++ r2.2.2) o)))))))))))))))))))
 (obind (Rc.syrun.F N r0 (0) (0) (0) (0) (0) (0) (List.take (List.replicate e.toNat (0 : Int)).length (List.take (a.length - (i64.wrap (d * e)).toNat) (List.drop (i64.wrap (d * e)).toNat a)) ++ List.drop (min (List.take (a.length - (i64.wrap (d * e)).toNat) (List.drop (i64.wrap (d * e)).toNat a)).length (List.replicate e.toNat (0 : Int)).length) (List.replicate e.toNat 0)) q n) fun r3 =>
 (chk (p.length + r3.2.2.length <= (17592186043904 : Nat))
 (chkI e e
 (chkL j j
 (chkI m m
 (chkI i i
 (chkB g g
 (chkI h h
 (chkI k k
 (chkL l l
 (chkI b b
 (chkL f f
 (chkR c c
 (chkL a a
 (plplay.loop12 N nn e m i h k b g j l f a c (i64.wrap (d + 1)) (j.getD d.toNat 0) r3.2.1 q s (p ++ r3.2.2) o)))))))))))))))))
 (br (h == 2)
 (chk ((0 : Int) <= d /\ d < ↑c.length)
 (chk ((0 : Int) <= d /\ d < ↑c.length)
 (obind (Rc.ttaps.F N ((c.getD d.toNat ([] : List Int)).tail.headD 0)) fun r4 =>
 (chkR c c
 (obind (Rc.syrun.F N r0 ((c.getD d.toNat ([] : List Int)).headD 0) r4.1 r4.2.1 r4.2.2.1 r4.2.2.2.1 r4.2.2.2.2 (List.replicate e.toNat 0) q n) fun r5 =>
 (chk (p.length + r5.2.2.length <= (17592186043904 : Nat))
 (chkI e e
 (chkL j j
 (chkI m m
 (chkI i i
 (chkB g g
 (chkI h h
 (chkI k k
 (chkL l l
 (chkI b b
 (chkL f f
 (chkR c c
 (chkL a a
 (plplay.loop12 N nn e m i h k b g j l f a c (i64.wrap (d + 1)) (j.getD d.toNat 0) r5.2.1 q s (p ++ r5.2.2) o)))))))))))))))))))
 (obind (Rc.syrun.F N r0 (0) (0) (0) (0) (0) (0) (List.replicate e.toNat 0) q n) fun r6 =>
 (chk (p.length + r6.2.2.length <= (17592186043904 : Nat))
 (chkI e e
 (chkL j j
 (chkI m m
 (chkI i i
 (chkB g g
 (chkI h h
 (chkI k k
 (chkL l l
 (chkI b b
 (chkL f f
 (chkR c c
 (chkL a a
 (plplay.loop12 N nn e m i h k b g j l f a c (i64.wrap (d + 1)) (j.getD d.toNat 0) r6.2.1 q s (p ++ r6.2.2) o)))))))))))))))))
 (br (h != 0)
 (chk ((0 : Int) <= i64.wrap (d * e) /\ i64.wrap (d * e) <= ↑a.length)
 (br (h == 2)
 (chk ((0 : Int) <= d /\ d < ↑c.length)
 (chk ((0 : Int) <= d /\ d < ↑c.length)
 (obind (Rc.ttaps.F N ((c.getD d.toNat ([] : List Int)).tail.headD 0)) fun r7 =>
 (chkR c c
 (obind (Rc.syrun.F N r0 ((c.getD d.toNat ([] : List Int)).headD 0) r7.1 r7.2.1 r7.2.2.1 r7.2.2.2.1 r7.2.2.2.2 (List.take (List.replicate e.toNat (0 : Int)).length (List.take (a.length - (i64.wrap (d * e)).toNat) (List.drop (i64.wrap (d * e)).toNat a)) ++ List.drop (min (List.take (a.length - (i64.wrap (d * e)).toNat) (List.drop (i64.wrap (d * e)).toNat a)).length (List.replicate e.toNat (0 : Int)).length) (List.replicate e.toNat 0)) s n) fun r8 =>
 (chk (p.length + r8.2.2.length <= (17592186043904 : Nat))
 (chkI e e
 (chkL j j
 (chkI m m
 (chkI i i
 (chkB g g
 (chkI h h
 (chkI k k
 (chkL l l
 (chkI b b
 (chkL f f
 (chkR c c
 (chkL a a
 (plplay.loop12 N nn e m i h k b g j l f a c (i64.wrap (d + 1)) (j.getD d.toNat 0) r8.2.1 q s (p ++ r8.2.2) o)))))))))))))))))))
 (obind (Rc.syrun.F N r0 (0) (0) (0) (0) (0) (0) (List.take (List.replicate e.toNat (0 : Int)).length (List.take (a.length - (i64.wrap (d * e)).toNat) (List.drop (i64.wrap (d * e)).toNat a)) ++ List.drop (min (List.take (a.length - (i64.wrap (d * e)).toNat) (List.drop (i64.wrap (d * e)).toNat a)).length (List.replicate e.toNat (0 : Int)).length) (List.replicate e.toNat 0)) s n) fun r9 =>
 (chk (p.length + r9.2.2.length <= (17592186043904 : Nat))
 (chkI e e
 (chkL j j
 (chkI m m
 (chkI i i
 (chkB g g
 (chkI h h
 (chkI k k
 (chkL l l
 (chkI b b
 (chkL f f
 (chkR c c
 (chkL a a
 (plplay.loop12 N nn e m i h k b g j l f a c (i64.wrap (d + 1)) (j.getD d.toNat 0) r9.2.1 q s (p ++ r9.2.2) o)))))))))))))))))
 (br (h == 2)
 (chk ((0 : Int) <= d /\ d < ↑c.length)
 (chk ((0 : Int) <= d /\ d < ↑c.length)
 (obind (Rc.ttaps.F N ((c.getD d.toNat ([] : List Int)).tail.headD 0)) fun r10 =>
 (chkR c c
 (obind (Rc.syrun.F N r0 ((c.getD d.toNat ([] : List Int)).headD 0) r10.1 r10.2.1 r10.2.2.1 r10.2.2.2.1 r10.2.2.2.2 (List.replicate e.toNat 0) s n) fun r11 =>
 (chk (p.length + r11.2.2.length <= (17592186043904 : Nat))
 (chkI e e
 (chkL j j
 (chkI m m
 (chkI i i
 (chkB g g
 (chkI h h
 (chkI k k
 (chkL l l
 (chkI b b
 (chkL f f
 (chkR c c
 (chkL a a
 (plplay.loop12 N nn e m i h k b g j l f a c (i64.wrap (d + 1)) (j.getD d.toNat 0) r11.2.1 q s (p ++ r11.2.2) o)))))))))))))))))))
 (obind (Rc.syrun.F N r0 (0) (0) (0) (0) (0) (0) (List.replicate e.toNat 0) s n) fun r12 =>
 (chk (p.length + r12.2.2.length <= (17592186043904 : Nat))
 (chkI e e
 (chkL j j
 (chkI m m
 (chkI i i
 (chkB g g
 (chkI h h
 (chkI k k
 (chkL l l
 (chkI b b
 (chkL f f
 (chkR c c
 (chkL a a
 (plplay.loop12 N nn e m i h k b g j l f a c (i64.wrap (d + 1)) (j.getD d.toNat 0) r12.2.1 q s (p ++ r12.2.2) o)))))))))))))))))))))
 (chkI i i
 (chkB g g
 (chkI h h
 (chkI k k
 (chkL l l
 (chkI b b
 (chkL f f
 (chkR c c
 (chkL a a
 (some ((t,n,q,s,p,o)))))))))))))
def plplay.loop12R (N nn : Nat) (k l g h m a : Int) (c : Bool) (n o d b : List Int) (i : List (List Int)) (p j : Int) (e q s t f : List Int) : Option plplay.loop12.R := loopF plplay.loop12.ann (mkL [k,l,g,h,m,a] [c] [n,o,d,b] [i]) (evCode ((plplay.C N).inLoop plplay.loop12.ann) (plplay.K N) (inlTab (plplay.C N) 0) (bodyAt 12 Tryz.f16)) nn (mkL [p,j] [] [e,q,s,t,f] [])
theorem plplay.loop12_eq (N : Nat) : ∀ nn,plplay.loop12R N nn = plplay.loop12 N nn := lq fun _ h => by funext; rw [plplay.loop12,<- h]; kernel_rfl
def plplay.F (N : Nat) (m h a c e l : Int) (f : Bool) (b d g k i : List Int) (j : List (List Int)) : Option plplay.R :=
 (obind (Rc.spgood.F N e m h a c f b d g j) fun r0 =>
 (br (!r0)
 (chkI e e
 (some (((1 : Int),l,k,([] : List Int),i))))
 (br f
 (obind (Rc.plreset.F N e l k i) fun r1 =>
 (obind (Rc.torder.F N e) fun r2 =>
 (obind (Rc.ldecode.F N r2 a b) fun r3 =>
 (chkI a a
 (chkL b b
 (obind (Rc.lbetween.F N c r1.2.2 r3.2) fun r4 =>
 (obind (Rc.lfrom.F N r4.2) fun r5 =>
 (obind (Rc.lfrom.F N r3.2) fun r6 =>
 (obind (plplay.loop12 N N (i64.wrap (e.tdiv (200 : Int))) (↑d.length) e h a c f d b d g j ((0 : Int)) r1.1 r1.2.1 r5.2 r6.2 (([] : List Int)) r1.2.2) fun r7 =>
 (obind (Rc.sypcm.F N r7.2.2.2.2.1) fun r8 =>
 (chkI e e
 (some (((0 : Int),r7.1,r7.2.1,r8,r3.2))))))))))))))
 (obind (Rc.torder.F N e) fun r9 =>
 (obind (Rc.ldecode.F N r9 a b) fun r10 =>
 (chkI a a
 (chkL b b
 (obind (Rc.lbetween.F N c i r10.2) fun r11 =>
 (obind (Rc.lfrom.F N r11.2) fun r12 =>
 (obind (Rc.lfrom.F N r10.2) fun r13 =>
 (obind (plplay.loop12 N N (i64.wrap (e.tdiv (200 : Int))) (↑d.length) e h a c f d b d g j ((0 : Int)) l k r12.2 r13.2 (([] : List Int)) i) fun r14 =>
 (obind (Rc.sypcm.F N r14.2.2.2.2.1) fun r15 =>
 (chkI e e
 (some (((0 : Int),r14.1,r14.2.1,r15,r10.2))))))))))))))))
noncomputable def plplay.spec : Eng.Spec := plplay.sig.spec (fun N L => plplay.F N (L.i 0) (L.i 1) (L.i 2) (L.i 3) (L.i 4) (L.i 5) (L.b 0) (L.l 0) (L.l 1) (L.l 2) (L.l 3) (L.l 4) (L.r 0)) plplay.enc
theorem plplay.ok : CallOK Tryz.prog 16 plplay.spec := ok2 plplay.C plplay.K Tryz.f16 plplay.dec (fun _ => ⟨spgood.ok,plreset.ok,torder.ok,ldecode.ok,lbetween.ok,lfrom.ok,gloud.ok,ttaps.ok,syrun.ok,sypcm.ok,trivial⟩) (fun _ => ⟨fun _ _ => ⟨rfl,rfl⟩,trivial⟩) (by intro N L; show _ = plplay.F N (L.i 0) (L.i 1) (L.i 2) (L.i 3) (L.i 4) (L.i 5) (L.b 0) (L.l 0) (L.l 1) (L.l 2) (L.l 3) (L.l 4) (L.r 0); rw [plplay.F,<- funext (plplay.loop12_eq N)]; kernel_rfl)
end
end Go.Proofs.Rc
