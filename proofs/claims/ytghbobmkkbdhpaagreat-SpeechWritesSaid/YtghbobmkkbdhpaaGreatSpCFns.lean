/-
 Functions of the program: what each comes to, and its contract (written by a program).
 Conditions: none: each contract is proved for every input of its shape.
-/
import Derived.Test.YtghbobmkkbdhpaaGreatEngLoopToEngRow3
import Derived.Laws.Externs
import Derived.Test.YtghbobmkkbdhpaaGreatProg
import Derived.Test.YtghbobmkkbdhpaaGreatSpBFns
set_option linter.unusedVariables false
set_option linter.unusedSimpArgs false
namespace Go.Proofs.Rc
noncomputable section
open Go.Eng Go.IntKind
set_option maxRecDepth 100000
def spmay.sig : Eng.Sig := { args := [.at (.int .i64 0),.at (.int .i64 1)],ret := .at (.bool 0) }
def spmay.C (N : Nat) : Cfg := { P := Tryz.prog,N := N,RT := noRT,specs := [(34,torder.spec)] }
abbrev spmay.R : Type := Bool
def spmay.dec (L : Eng.Leaves) : spmay.R := (L.b 0)
def spmay.enc (r : spmay.R) : Eng.Leaves := mkL [] [r] [] []
def spmay.K (N : Nat) : FCfg := {}
def spmay.F (N : Nat) (a b : Int) : Option spmay.R :=
 (obind (Rc.torder.F N a) fun r0 =>
 (br (decide (r0 > 0))
 (br (b == 10)
 (some true)
 (some (b == 20)))
 (some false)))
noncomputable def spmay.spec : Eng.Spec := spmay.sig.spec (fun N L => spmay.F N (L.i 0) (L.i 1)) spmay.enc
theorem spmay.ok : CallOK Tryz.prog 41 spmay.spec := ok2 spmay.C spmay.K Tryz.f41 spmay.dec (fun _ => ⟨torder.ok,trivial⟩) (fun _ => trivial)
def spbit.sig : Eng.Sig := { args := [.at (.bool 0)],ret := .at (.int .i64 0) }
def spbit.C (N : Nat) : Cfg := { P := Tryz.prog,N := N,RT := noRT,specs := [] }
abbrev spbit.R : Type := Int
def spbit.dec (L : Eng.Leaves) : spbit.R := (L.i 0)
def spbit.enc (r : spbit.R) : Eng.Leaves := mkL [r] [] [] []
def spbit.K (N : Nat) : FCfg := {}
def spbit.F (N : Nat) (b : Bool) : Option spbit.R :=
 (br b
 (some ((1 : Int)))
 (some ((0 : Int))))
noncomputable def spbit.spec : Eng.Spec := spbit.sig.spec (fun N L => spbit.F N (L.b 0)) spbit.enc
theorem spbit.ok : CallOK Tryz.prog 54 spbit.spec := ok2 spbit.C spbit.K Tryz.f54 spbit.dec (fun _ => trivial) (fun _ => trivial)
def spltps.sig : Eng.Sig := { args := [.at (.int .i64 0),.agg [.bool 0,.int .i64 1,.int .i64 2,.roi .i64 0,.int .i64 3,.roi .i64 1,.rro ⟨[.i64,.i64],none,false⟩ 0,.roi .i64 2]],ret := .at (.bool 0) }
def spltps.C (N : Nat) : Cfg := { P := Tryz.prog,N := N,RT := noRT,specs := [(107,glags.spec),(111,tfilters.spec)] }
abbrev spltps.R : Type := Bool
def spltps.dec (L : Eng.Leaves) : spltps.R := (L.b 0)
def spltps.enc (r : spltps.R) : Eng.Leaves := mkL [] [r] [] []
abbrev spltps.loop5.R : Type := Bool
def spltps.loop5.ann : Ann := { nx := 20,slots := [(4,.at (.bool 0)),(5,.at (.fint .i64 0)),(6,.at (.fint .i64 1)),(22,.at (.frro ⟨[.i64,.i64],none,false⟩ 0)),(23,.at (.fint .i64 2)),(24,.at (.int .i64 0))],xslots := [(4,.at (.bool 0))],T := spltps.loop5.R,dec := fun L => (L.b 0),enc := fun r => mkL [] [r] [] [],ret := true }
def spltps.K (N : Nat) : FCfg := { anns := [(5,spltps.loop5.ann)] }
def spltps.loop5 (N : Nat) : Nat -> Int -> Int -> Int -> Int -> Bool -> List Int -> List Int -> List Int -> List (List Int) -> Int -> Int -> Int -> List (List Int) -> Int -> Bool -> Option (spltps.loop5.R ⊕ spltps.R)
 | 0,_,_,_,_,_,_,_,_,_,_,_,_,_,_,_ => none
 | nn + 1,k,i,c,d,g,e,h,f,j,m,n,l,a,b,o =>
 (br (decide (b < l))
 (chk ((0 : Int) <= b /\ b < ↑a.length)
 (br (decide ((a.getD b.toNat ([] : List Int)).headD 0 < m))
 (omap
 (some false) .inr)
 (br (decide ((a.getD b.toNat ([] : List Int)).headD 0 > n))
 (omap
 (some false) .inr)
 (br (decide ((a.getD b.toNat ([] : List Int)).tail.headD (0 : Int) < (0 : Int)))
 (omap
 (some false) .inr)
 (obind (Rc.tfilters.F N) fun r0 =>
 (chkI ((a.getD b.toNat ([] : List Int)).tail.headD 0) ((a.getD b.toNat ([] : List Int)).tail.headD 0)
 (br (decide ((a.getD b.toNat ([] : List Int)).tail.headD 0 >= r0))
 (omap
 (some false) .inr)
 (chkI m m
 (chkI n n
 (chkR a a
 (chkI l l
 (spltps.loop5 N nn k i c d g e h f j m n l a (i64.wrap (b + 1)) o))))))))))))
 (some (Sum.inl o)))
def spltps.loop5R (N nn : Nat) (j h a c : Int) (f : Bool) (d g e : List Int) (i : List (List Int)) (n o k : Int) (l : List (List Int)) (m : Int) (p : Bool) : Option (spltps.loop5.R ⊕ spltps.R) := loopR spltps.loop5.ann (mkL [n,o,k] [] [] [l]) (evCode ((spltps.C N).inLoop spltps.loop5.ann) (spltps.K N) (inlTab (spltps.C N) 0) (bodyAt 5 Tryz.f73)) (sigKr Tryz.prog Tryz.f73 spltps.sig (mkL [j,h,a,c] [f] [d,g,e] [i]) fun L => (L.b 0)) nn (mkL [m] [p] [] [])
theorem spltps.loop5_eq (N : Nat) : ∀ nn,spltps.loop5R N nn = spltps.loop5 N nn := lq fun _ h => by funext; rw [spltps.loop5,<- h]; kernel_rfl
def spltps.F (N : Nat) (i f c d : Int) (h : Bool) (e b g : List Int) (a : List (List Int)) : Option spltps.R :=
 (br (f != 2)
 (some (↑a.length == (0 : Int)))
 (obind (Rc.glags.F N i) fun r0 =>
 (osum (spltps.loop5 N N i f c d h e b g a r0.1 r0.2 (↑a.length) a ((0 : Int)) false) fun r1 =>
 (some ((a.length : Int) == ↑b.length)))))
noncomputable def spltps.spec : Eng.Spec := spltps.sig.spec (fun N L => spltps.F N (L.i 0) (L.i 1) (L.i 2) (L.i 3) (L.b 0) (L.l 0) (L.l 1) (L.l 2) (L.r 0)) spltps.enc
theorem spltps.ok : CallOK Tryz.prog 73 spltps.spec := ok2 spltps.C spltps.K Tryz.f73 spltps.dec (fun _ => ⟨glags.ok,tfilters.ok,trivial⟩) (fun _ => ⟨fun _ _ => ⟨rfl,rfl⟩,trivial⟩) (by intro N L; show _ = spltps.F N (L.i 0) (L.i 1) (L.i 2) (L.i 3) (L.b 0) (L.l 0) (L.l 1) (L.l 2) (L.r 0); rw [spltps.F,<- funext (spltps.loop5_eq N)]; kernel_rfl)
def sppulses.sig : Eng.Sig := { args := [.at (.int .i64 0),.at (.int .i64 1),.agg [.bool 0,.int .i64 2,.int .i64 3,.roi .i64 0,.int .i64 4,.roi .i64 1,.rro ⟨[.i64,.i64],none,false⟩ 0,.roi .i64 2]],ret := .at (.bool 0) }
def sppulses.C (N : Nat) : Cfg := { P := Tryz.prog,N := N,RT := noRT,specs := [(112,good9.spec)] }
abbrev sppulses.R : Type := Bool
def sppulses.dec (L : Eng.Leaves) : sppulses.R := (L.b 0)
def sppulses.enc (r : sppulses.R) : Eng.Leaves := mkL [] [r] [] []
def sppulses.K (N : Nat) : FCfg := {}
def sppulses.F (N : Nat) (f j b c d : Int) (g : Bool) (e h a : List Int) (i : List (List Int)) : Option sppulses.R :=
 (br (b == 0)
 (some (↑a.length == (0 : Int)))
 (br (↑a.length == i64.wrap ((i64.wrap (f * j)).tdiv (1000 : Int)))
 (obind (Rc.good9.F N a) fun r0 =>
 (some r0))
 (some false)))
noncomputable def sppulses.spec : Eng.Spec := sppulses.sig.spec (fun N L => sppulses.F N (L.i 0) (L.i 1) (L.i 2) (L.i 3) (L.i 4) (L.b 0) (L.l 0) (L.l 1) (L.l 2) (L.r 0)) sppulses.enc
theorem sppulses.ok : CallOK Tryz.prog 74 sppulses.spec := ok2 sppulses.C sppulses.K Tryz.f74 sppulses.dec (fun _ => ⟨good9.ok,trivial⟩) (fun _ => trivial)
def spgood.sig : Eng.Sig := { args := [.at (.int .i64 0),.at (.int .i64 1),.agg [.bool 0,.int .i64 2,.int .i64 3,.roi .i64 0,.int .i64 4,.roi .i64 1,.rro ⟨[.i64,.i64],none,false⟩ 0,.roi .i64 2]],ret := .at (.bool 0) }
def spgood.C (N : Nat) : Cfg := { P := Tryz.prog,N := N,RT := noRT,specs := [(41,spmay.spec),(34,torder.spec),(72,lgood.spec),(73,spltps.spec),(74,sppulses.spec)] }
abbrev spgood.R : Type := Bool
def spgood.dec (L : Eng.Leaves) : spgood.R := (L.b 0)
def spgood.enc (r : spgood.R) : Eng.Leaves := mkL [] [r] [] []
abbrev spgood.loop4.R : Type := Bool
def spgood.loop4.ann : Ann := { nx := 20,slots := [(6,.at (.bool 0)),(50,.at (.froi .i64 0)),(51,.at (.fint .i64 0)),(52,.at (.int .i64 0))],xslots := [(6,.at (.bool 0))],T := spgood.loop4.R,dec := fun L => (L.b 0),enc := fun r => mkL [] [r] [] [],ret := true }
def spgood.K (N : Nat) : FCfg := { anns := [(4,spgood.loop4.ann)] }
def spgood.loop4 (N : Nat) : Nat -> Int -> Int -> Int -> Int -> Int -> Bool -> List Int -> List Int -> List Int -> List (List Int) -> Int -> List Int -> Int -> Bool -> Option (spgood.loop4.R ⊕ spgood.R)
 | 0,_,_,_,_,_,_,_,_,_,_,_,_,_,_ => none
 | nn + 1,k,m,g,a,b,e,c,f,d,h,l,i,j,n =>
 (br (decide (j < l))
 (chk ((0 : Int) <= j /\ j < ↑i.length)
 (br (decide (i.getD j.toNat (0 : Int) < (0 : Int)))
 (omap
 (some false) .inr)
 (br (decide (i.getD j.toNat (0 : Int) > (63 : Int)))
 (omap
 (some false) .inr)
 (chkL i i
 (chkI l l
 (spgood.loop4 N nn k m g a b e c f d h l i (i64.wrap (j + 1)) n))))))
 (some (Sum.inl n)))
def spgood.loop4R (N nn : Nat) (j k h a c : Int) (f : Bool) (d g e : List Int) (i : List (List Int)) (l : Int) (m : List Int) (n : Int) (o : Bool) : Option (spgood.loop4.R ⊕ spgood.R) := loopR spgood.loop4.ann (mkL [l] [] [m] []) (evCode ((spgood.C N).inLoop spgood.loop4.ann) (spgood.K N) (inlTab (spgood.C N) 0) (bodyAt 4 Tryz.f21)) (sigKr Tryz.prog Tryz.f21 spgood.sig (mkL [j,k,h,a,c] [f] [d,g,e] [i]) fun L => (L.b 0)) nn (mkL [n] [o] [] [])
theorem spgood.loop4_eq (N : Nat) : ∀ nn,spgood.loop4R N nn = spgood.loop4 N nn := lq fun _ h => by funext; rw [spgood.loop4,<- h]; kernel_rfl
def spgood.F (N : Nat) (i j e a c : Int) (g : Bool) (b d f : List Int) (h : List (List Int)) : Option spgood.R :=
 (obind (Rc.spmay.F N i j) fun r0 =>
 (br (!r0)
 (some false)
 (br (decide (e < 0))
 (some false)
 (br (decide (e > 2))
 (some false)
 (obind (Rc.torder.F N i) fun r1 =>
 (obind (Rc.lgood.F N r1 a b) fun r2 =>
 (br (!r2)
 (chkI a a
 (chkL b b
 (some false)))
 (br (decide (c < 0))
 (chkI a a
 (chkL b b
 (some false)))
 (br (decide (c >= 5))
 (chkI a a
 (chkL b b
 (some false)))
 (chkI a a
 (chkL b b
 (br (↑d.length != i64.wrap (j.tdiv (5 : Int)))
 (some false)
 (osum (spgood.loop4 N N i j e a c g b d f h (↑d.length) d ((0 : Int)) false) fun r3 =>
 (obind (Rc.spltps.F N i e a c g b d f h) fun r4 =>
 (br r4
 (obind (Rc.sppulses.F N i j e a c g b d f h) fun r5 =>
 (some r5))
 (some false))))))))))))))))
noncomputable def spgood.spec : Eng.Spec := spgood.sig.spec (fun N L => spgood.F N (L.i 0) (L.i 1) (L.i 2) (L.i 3) (L.i 4) (L.b 0) (L.l 0) (L.l 1) (L.l 2) (L.r 0)) spgood.enc
theorem spgood.ok : CallOK Tryz.prog 21 spgood.spec := ok2 spgood.C spgood.K Tryz.f21 spgood.dec (fun _ => ⟨spmay.ok,torder.ok,lgood.ok,spltps.ok,sppulses.ok,trivial⟩) (fun _ => ⟨fun _ _ => ⟨rfl,rfl⟩,trivial⟩) (by intro N L; show _ = spgood.F N (L.i 0) (L.i 1) (L.i 2) (L.i 3) (L.i 4) (L.b 0) (L.l 0) (L.l 1) (L.l 2) (L.r 0); rw [spgood.F,<- funext (spgood.loop4_eq N)]; kernel_rfl)
def spreadf.sig : Eng.Sig := { args := [.at (.ptr 0 0),.at (.int .i64 0),.at (.int .i64 1),.at (.int .i64 2)],n := 2,pre := [(0,.cells 10 [.full 1 false,.int .u64 3,.int .u64 4,.int .u64 5,.int .i64 6,.int .i64 7,.int .u64 8,.int .i64 9,.int .i64 10,.bool 0]),(1,.ints false .u8 0)],post := [(0,.cells 10 [.full 1 false,.int .u64 4,.int .u64 5,.int .u64 6,.int .i64 7,.int .i64 8,.int .u64 9,.int .i64 10,.int .i64 11,.bool 1]),(1,.fints false .u8 0)],ret := .tup [(true,[.bool 0,.int .i64 0,.int .i64 1,.roi .i64 0,.int .i64 2,.roi .i64 1,.rro ⟨[.i64,.i64],none,false⟩ 0,.roi .i64 2]),(false,[.int .i64 3])] }
def spreadf.C (N : Nat) : Cfg := { P := Tryz.prog,N := N,RT := noRT,specs := [(41,spmay.spec),(42,bits.spec),(44,ticdf.spec),(43,symbol.spec),(34,torder.spec),(45,uint.spec),(46,greadfirst.spec),(47,greadnext.spec),(48,greadltp.spec),(49,read9.spec)],hi := 2 }
abbrev spreadf.R : Type := Int × Int × Int × Int × Int × Int × Int × Int × Int × Int × Int × Int × Bool × Bool × List Int × List Int × List Int × List (List Int)
def spreadf.dec (L : Eng.Leaves) : spreadf.R := (L.i 0,L.i 1,L.i 2,L.i 3,L.i 4,L.i 5,L.i 6,L.i 7,L.i 8,L.i 9,L.i 10,L.i 11,L.b 0,L.b 1,L.l 0,L.l 1,L.l 2,L.r 0)
def spreadf.enc (r : spreadf.R) : Eng.Leaves := mkL [r.1,r.2.1,r.2.2.1,r.2.2.2.1,r.2.2.2.2.1,r.2.2.2.2.2.1,r.2.2.2.2.2.2.1,r.2.2.2.2.2.2.2.1,r.2.2.2.2.2.2.2.2.1,r.2.2.2.2.2.2.2.2.2.1,r.2.2.2.2.2.2.2.2.2.2.1,r.2.2.2.2.2.2.2.2.2.2.2.1] [r.2.2.2.2.2.2.2.2.2.2.2.2.1,r.2.2.2.2.2.2.2.2.2.2.2.2.2.1] [r.2.2.2.2.2.2.2.2.2.2.2.2.2.2.1,r.2.2.2.2.2.2.2.2.2.2.2.2.2.2.2.1,r.2.2.2.2.2.2.2.2.2.2.2.2.2.2.2.2.1] [r.2.2.2.2.2.2.2.2.2.2.2.2.2.2.2.2.2]
abbrev spreadf.loop6.R : Type := Int × Int × Int × Int × Int × List Int × List Int × List (List Int)
def spreadf.loop6.ann : Ann := { nx := 23,slots := [(0,.at (.ptr 0 0)),(10,.at (.ptr 8 0)),(30,.at (.fint .i64 0)),(31,.at (.int .i64 0))],blks := [(0,.cells 10 [.full 1 false,.int .u64 1,.int .u64 2,.int .u64 3,.int .i64 4,.fint .i64 1,.fint .u64 2,.fint .i64 3,.int .i64 5,.fbool 0]),(1,.fints false .u8 0),(8,.cells 8 [.fbool 1,.fint .i64 4,.fint .i64 5,.full 20 false,.fint .i64 6,.full 21 false,.full 22 false,.nils]),(20,.ints true .i64 0),(21,.ints true .i64 1),(22,.recs true ⟨[.i64,.i64],none,false⟩ 0)],mov := [20,21,22],xslots := [(0,.at (.ptr 0 0)),(10,.at (.ptr 8 0))],xblks := [(0,.cells 10 [.full 1 false,.int .u64 0,.int .u64 1,.int .u64 2,.int .i64 3,.fint .i64 1,.fint .u64 2,.fint .i64 3,.int .i64 4,.fbool 0]),(1,.fints false .u8 0),(8,.cells 8 [.fbool 1,.fint .i64 4,.fint .i64 5,.full 20 false,.fint .i64 6,.full 21 false,.full 22 false,.nils]),(20,.ints true .i64 0),(21,.ints true .i64 1),(22,.recs true ⟨[.i64,.i64],none,false⟩ 0)],T := spreadf.loop6.R,dec := fun L => (L.i 0,L.i 1,L.i 2,L.i 3,L.i 4,L.l 0,L.l 1,L.r 0),enc := fun r => mkL [r.1,r.2.1,r.2.2.1,r.2.2.2.1,r.2.2.2.2.1] [] [r.2.2.2.2.2.1,r.2.2.2.2.2.2.1] [r.2.2.2.2.2.2.2] }
abbrev spreadf.loop11.R : Type := Int × Int × Int × Int × Int × Int × Int × Int × Bool × List Int × List Int × List (List Int)
def spreadf.loop11.ann : Ann := { nx := 28,slots := [(0,.at (.ptr 0 0)),(3,.at (.int .i64 0)),(10,.at (.ptr 8 0)),(49,.at (.fint .i64 0)),(50,.at (.int .i64 1))],blks := [(0,.cells 10 [.full 1 false,.int .u64 2,.int .u64 3,.int .u64 4,.int .i64 5,.int .i64 6,.int .u64 7,.int .i64 8,.int .i64 9,.bool 0]),(1,.fints false .u8 0),(8,.cells 8 [.fbool 0,.fint .i64 1,.fint .i64 2,.full 25 false,.fint .i64 3,.full 26 false,.full 27 false,.nils]),(25,.ints true .i64 0),(26,.ints true .i64 1),(27,.recs true ⟨[.i64,.i64],none,false⟩ 0)],mov := [25,26,27],exId := 2,xslots := [(0,.at (.ptr 0 0)),(10,.at (.ptr 8 0))],xblks := [(0,.cells 10 [.full 1 false,.int .u64 0,.int .u64 1,.int .u64 2,.int .i64 3,.int .i64 4,.int .u64 5,.int .i64 6,.int .i64 7,.bool 0]),(1,.fints false .u8 0),(8,.cells 8 [.fbool 0,.fint .i64 1,.fint .i64 2,.full 25 false,.fint .i64 3,.full 26 false,.full 27 false,.nils]),(25,.ints true .i64 0),(26,.ints true .i64 1),(27,.recs true ⟨[.i64,.i64],none,false⟩ 0)],T := spreadf.loop11.R,dec := fun L => (L.i 0,L.i 1,L.i 2,L.i 3,L.i 4,L.i 5,L.i 6,L.i 7,L.b 0,L.l 0,L.l 1,L.r 0),enc := fun r => mkL [r.1,r.2.1,r.2.2.1,r.2.2.2.1,r.2.2.2.2.1,r.2.2.2.2.2.1,r.2.2.2.2.2.2.1,r.2.2.2.2.2.2.2.1] [r.2.2.2.2.2.2.2.2.1] [r.2.2.2.2.2.2.2.2.2.1,r.2.2.2.2.2.2.2.2.2.2.1] [r.2.2.2.2.2.2.2.2.2.2.2] }
abbrev spreadf.loop20.R : Type := Int × Int × Int × Int × Int × Int × Int × Int × Bool × List Int × List Int × List (List Int)
def spreadf.loop20.ann : Ann := { nx := 31,slots := [(0,.at (.ptr 0 0)),(1,.at (.fint .i64 0)),(10,.at (.ptr 8 0)),(76,.at (.fint .i64 1)),(77,.at (.int .i64 0))],blks := [(0,.cells 10 [.full 1 false,.int .u64 1,.int .u64 2,.int .u64 3,.int .i64 4,.int .i64 5,.int .u64 6,.int .i64 7,.int .i64 8,.bool 0]),(1,.fints false .u8 0),(8,.cells 8 [.fbool 0,.fint .i64 2,.fint .i64 3,.full 28 false,.fint .i64 4,.full 29 false,.full 30 false,.nils]),(28,.ints true .i64 0),(29,.ints true .i64 1),(30,.recs true ⟨[.i64,.i64],none,false⟩ 0)],mov := [28,29,30],exId := 4,xslots := [(0,.at (.ptr 0 0)),(10,.at (.ptr 8 0))],xblks := [(0,.cells 10 [.full 1 false,.int .u64 0,.int .u64 1,.int .u64 2,.int .i64 3,.int .i64 4,.int .u64 5,.int .i64 6,.int .i64 7,.bool 0]),(1,.fints false .u8 0),(8,.cells 8 [.fbool 0,.fint .i64 2,.fint .i64 3,.full 28 false,.fint .i64 4,.full 29 false,.full 30 false,.nils]),(28,.ints true .i64 0),(29,.ints true .i64 1),(30,.recs true ⟨[.i64,.i64],none,false⟩ 0)],T := spreadf.loop20.R,dec := fun L => (L.i 0,L.i 1,L.i 2,L.i 3,L.i 4,L.i 5,L.i 6,L.i 7,L.b 0,L.l 0,L.l 1,L.r 0),enc := fun r => mkL [r.1,r.2.1,r.2.2.1,r.2.2.2.1,r.2.2.2.2.1,r.2.2.2.2.2.1,r.2.2.2.2.2.2.1,r.2.2.2.2.2.2.2.1] [r.2.2.2.2.2.2.2.2.1] [r.2.2.2.2.2.2.2.2.2.1,r.2.2.2.2.2.2.2.2.2.2.1] [r.2.2.2.2.2.2.2.2.2.2.2] }
def spreadf.K (N : Nat) : FCfg := { anns := [(6,spreadf.loop6.ann),(11,spreadf.loop11.ann),(20,spreadf.loop20.ann)],frz := [101],emps := [(23,⟨[.i64,.i64],none,false⟩)],empi := [(23,6)] }
def spreadf.loop20 (N : Nat) : Nat -> Int -> Int -> Int -> Int -> Int -> Bool -> List Int -> Int -> Int -> Int -> Int -> Int -> Int -> Int -> Int -> Int -> Bool -> List Int -> List Int -> List (List Int) -> Option spreadf.loop20.R
 | 0,_,_,_,_,_,_,_,_,_,_,_,_,_,_,_,_,_,_,_,_ => none
 | nn + 1,f,m,d,h,a,c,b,p,q,s,n,i,o,g,e,j,t,u,k,l =>
 (br (decide (p < m))
 (obind (Rc.greadltp.F N f q s n i o g e j t b) fun r0 =>
 (chk (l.length + (1 : Nat) <= (1000000 : Nat))
 (chkI f f
 (chkI m m
 (chkL b b
 (chkB c c
 (chkI d d
 (chkI h h
 (chkI a a
 (spreadf.loop20 N nn f m d h a c b (i64.wrap (p + 1)) r0.2.2.1 r0.2.2.2.1 r0.2.2.2.2.1 r0.2.2.2.2.2.1 r0.2.2.2.2.2.2.1 r0.2.2.2.2.2.2.2.1 r0.2.2.2.2.2.2.2.2.1 r0.2.2.2.2.2.2.2.2.2.1 r0.2.2.2.2.2.2.2.2.2.2 u k (l ++ [[r0.1,r0.2.1]])))))))))))
 (chkL b b
 (chkB c c
 (chkI d d
 (chkI h h
 (chkI a a
 (some ((q,s,n,i,o,g,e,j,t,u,k,l)))))))))
def spreadf.loop20R (N nn : Nat) (i n j o a : Int) (e : Bool) (b : List Int) (p q s k f l d c g : Int) (t : Bool) (u h : List Int) (m : List (List Int)) : Option spreadf.loop20.R := loopF spreadf.loop20.ann (mkL [i,n,j,o,a] [e] [b] []) (evCode ((spreadf.C N).inLoop spreadf.loop20.ann) (spreadf.K N) (inlTab (spreadf.C N) 0) (bodyAt 20 Tryz.f12)) nn (mkL [p,q,s,k,f,l,d,c,g] [t] [u,h] [m])
theorem spreadf.loop20_eq (N : Nat) : ∀ nn,spreadf.loop20R N nn = spreadf.loop20 N nn := lq fun _ h => by funext; rw [spreadf.loop20,<- h]; kernel_rfl
def spreadf.loop11 (N : Nat) : Nat -> Int -> Int -> Int -> Int -> Bool -> List Int -> Int -> Int -> Int -> Int -> Int -> Int -> Int -> Int -> Int -> Int -> Bool -> List Int -> List Int -> List (List Int) -> Option spreadf.loop11.R
 | 0,_,_,_,_,_,_,_,_,_,_,_,_,_,_,_,_,_,_,_,_ => none
 | nn + 1,i,e,h,a,c,b,u,p,q,s,m,k,j,f,d,l,o,t,g,n =>
 (br (decide (p < i))
 (br (p == 0)
 (br c
 (obind (Rc.greadfirst.F N q s m k j f d l o b) fun r0 =>
 (chk (g.length + [r0.1].length <= (17592186043904 : Nat))
 (chkI i i
 (chkL b b
 (chkB c c
 (chkI e e
 (chkI h h
 (chkI a a
 (spreadf.loop11 N nn i e h a c b r0.1 (i64.wrap (p + 1)) r0.2.1 r0.2.2.1 r0.2.2.2.1 r0.2.2.2.2.1 r0.2.2.2.2.2.1 r0.2.2.2.2.2.2.1 r0.2.2.2.2.2.2.2.1 r0.2.2.2.2.2.2.2.2.1 r0.2.2.2.2.2.2.2.2.2 t (g ++ [r0.1]) n)))))))))
 (obind (Rc.greadnext.F N u q s m k j f d l o b) fun r1 =>
 (chk (g.length + [r1.1].length <= (17592186043904 : Nat))
 (chkI i i
 (chkL b b
 (chkB c c
 (chkI e e
 (chkI h h
 (chkI a a
 (spreadf.loop11 N nn i e h a c b r1.1 (i64.wrap (p + 1)) r1.2.1 r1.2.2.1 r1.2.2.2.1 r1.2.2.2.2.1 j f d r1.2.2.2.2.2 o t (g ++ [r1.1]) n))))))))))
 (obind (Rc.greadnext.F N u q s m k j f d l o b) fun r2 =>
 (chk (g.length + [r2.1].length <= (17592186043904 : Nat))
 (chkI i i
 (chkL b b
 (chkB c c
 (chkI e e
 (chkI h h
 (chkI a a
 (spreadf.loop11 N nn i e h a c b r2.1 (i64.wrap (p + 1)) r2.2.1 r2.2.2.1 r2.2.2.2.1 r2.2.2.2.2.1 j f d r2.2.2.2.2.2 o t (g ++ [r2.1]) n))))))))))
 (chkL b b
 (chkB c c
 (chkI e e
 (chkI h h
 (chkI a a
 (some ((q,s,m,k,j,f,d,l,o,t,g,n)))))))))
def spreadf.loop11R (N nn : Nat) (m i n a : Int) (e : Bool) (b : List Int) (o p q s j f k d c g : Int) (t : Bool) (u h : List Int) (l : List (List Int)) : Option spreadf.loop11.R := loopF spreadf.loop11.ann (mkL [m,i,n,a] [e] [b] []) (evCode ((spreadf.C N).inLoop spreadf.loop11.ann) (spreadf.K N) (inlTab (spreadf.C N) 0) (bodyAt 11 Tryz.f12)) nn (mkL [o,p,q,s,j,f,k,d,c,g] [t] [u,h] [l])
theorem spreadf.loop11_eq (N : Nat) : ∀ nn,spreadf.loop11R N nn = spreadf.loop11 N nn := lq fun _ h => by funext; rw [spreadf.loop11,<- h]; kernel_rfl
def spreadf.loop6 (N : Nat) : Nat -> Int -> Int -> Int -> Int -> Int -> Int -> Int -> Bool -> Bool -> List Int -> Int -> Int -> Int -> Int -> Int -> Int -> List Int -> List Int -> List (List Int) -> Option spreadf.loop6.R
 | 0,_,_,_,_,_,_,_,_,_,_,_,_,_,_,_,_,_,_,_ => none
 | nn + 1,m,f,d,a,g,i,c,h,e,b,q,s,t,n,j,k,p,l,o =>
 (br (decide (q < m))
 (obind (Rc.ticdf.F N (4)) fun r0 =>
 (obind (Rc.symbol.F N s t n j f d a k h r0 b) fun r1 =>
 (chk (p.length + [i64.wrap (r1.1 - 4)].length <= (17592186043904 : Nat))
 (chkI m m
 (chkI f f
 (chkI d d
 (chkI a a
 (chkB h h
 (chkL b b
 (chkB e e
 (chkI g g
 (chkI i i
 (chkI c c
 (spreadf.loop6 N nn m f d a g i c h e b (i64.wrap (q + 1)) r1.2.1 r1.2.2.1 r1.2.2.2.1 r1.2.2.2.2.1 r1.2.2.2.2.2 (p ++ [i64.wrap (r1.1 - 4)]) l o))))))))))))))
 (chkI f f
 (chkI d d
 (chkI a a
 (chkB h h
 (chkL b b
 (chkB e e
 (chkI g g
 (chkI i i
 (chkI c c
 (some ((s,t,n,j,k,p,l,o)))))))))))))
def spreadf.loop6R (N nn : Nat) (m i d a j n c : Int) (o e : Bool) (b : List Int) (p q s k f g : Int) (t h : List Int) (l : List (List Int)) : Option spreadf.loop6.R := loopF spreadf.loop6.ann (mkL [m,i,d,a,j,n,c] [o,e] [b] []) (evCode ((spreadf.C N).inLoop spreadf.loop6.ann) (spreadf.K N) (inlTab (spreadf.C N) 0) (bodyAt 6 Tryz.f12)) nn (mkL [p,q,s,k,f,g] [] [t,h] [l])
theorem spreadf.loop6_eq (N : Nat) : ∀ nn,spreadf.loop6R N nn = spreadf.loop6 N nn := lq fun _ h => by funext; rw [spreadf.loop6,<- h]; kernel_rfl
def spreadf.F (N : Nat) (a l m j k g d i e c h : Int) (f : Bool) (b : List Int) : Option spreadf.R :=
 (obind (Rc.spmay.F N a l) fun r0 =>
 (br (!r0)
 (chkL b b
 (some (((0 : Int),0,0,1,j,k,g,d,i,e,c,h,false,f,([] : List Int),([] : List Int),([] : List Int),([] : List (List Int))))))
 (obind (Rc.bits.F N (1) j k g d i e c h f b) fun r1 =>
 (obind (Rc.ticdf.F N (0)) fun r2 =>
 (obind (Rc.symbol.F N j k g d r1.2.1 r1.2.2.1 r1.2.2.2.1 r1.2.2.2.2 f r2 b) fun r3 =>
 (obind (Rc.ticdf.F N (3)) fun r4 =>
 (obind (Rc.symbol.F N r3.2.1 r3.2.2.1 r3.2.2.2.1 r3.2.2.2.2.1 r1.2.1 r1.2.2.1 r1.2.2.2.1 r3.2.2.2.2.2 f r4 b) fun r5 =>
 (obind (Rc.torder.F N a) fun r6 =>
 (obind (spreadf.loop6 N N r6 r1.2.1 r1.2.2.1 r1.2.2.2.1 r3.1 r5.1 (0) f (r1.1 == 1) b (0) r5.2.1 r5.2.2.1 r5.2.2.2.1 r5.2.2.2.2.1 r5.2.2.2.2.2 (([] : List Int)) (([] : List Int)) (([] : List (List Int)))) fun r7 =>
 (obind (Rc.uint.F N (5) r7.1 r7.2.1 r7.2.2.1 r7.2.2.2.1 r1.2.1 r1.2.2.1 r1.2.2.2.1 r7.2.2.2.2.1 f b) fun r8 =>
 (obind (spreadf.loop11 N N (i64.wrap (l.tdiv 5)) r3.1 r5.1 r8.1 (r1.1 == 1) b m (0) r8.2.1 r8.2.2.1 r8.2.2.2.1 r8.2.2.2.2.1 r8.2.2.2.2.2.1 r8.2.2.2.2.2.2.1 r8.2.2.2.2.2.2.2.1 r8.2.2.2.2.2.2.2.2.1 r8.2.2.2.2.2.2.2.2.2 r7.2.2.2.2.2.1 r7.2.2.2.2.2.2.1 r7.2.2.2.2.2.2.2) fun r9 =>
 (br (r3.1 == 2)
 (obind (spreadf.loop20 N N a (↑r9.2.2.2.2.2.2.2.2.2.2.1.length) r3.1 r5.1 r8.1 (r1.1 == (1 : Int)) b ((0 : Int)) r9.1 r9.2.1 r9.2.2.1 r9.2.2.2.1 r9.2.2.2.2.1 r9.2.2.2.2.2.1 r9.2.2.2.2.2.2.1 r9.2.2.2.2.2.2.2.1 r9.2.2.2.2.2.2.2.2.1 r9.2.2.2.2.2.2.2.2.2.1 r9.2.2.2.2.2.2.2.2.2.2.1 r9.2.2.2.2.2.2.2.2.2.2.2) fun r10 =>
 (br (r3.1 != 0)
 (obind (Rc.read9.F N (i64.wrap ((i64.wrap (a * l)).tdiv 1000)) r10.1 r10.2.1 r10.2.2.1 r10.2.2.2.1 r10.2.2.2.2.1 r10.2.2.2.2.2.1 r10.2.2.2.2.2.2.1 r10.2.2.2.2.2.2.2.1 r10.2.2.2.2.2.2.2.2.1 b) fun r11 =>
 (chkL b b
 (some ((r3.1,r5.1,r8.1,0,r11.2.1,r11.2.2.1,r11.2.2.2.1,r11.2.2.2.2.1,r11.2.2.2.2.2.1,r11.2.2.2.2.2.2.1,r11.2.2.2.2.2.2.2.1,r11.2.2.2.2.2.2.2.2.1,r1.1 == 1,r11.2.2.2.2.2.2.2.2.2.1,r10.2.2.2.2.2.2.2.2.2.1,r10.2.2.2.2.2.2.2.2.2.2.1,r11.2.2.2.2.2.2.2.2.2.2,r10.2.2.2.2.2.2.2.2.2.2.2)))))
 (chkL b b
 (some ((r3.1,r5.1,r8.1,0,r10.1,r10.2.1,r10.2.2.1,r10.2.2.2.1,r10.2.2.2.2.1,r10.2.2.2.2.2.1,r10.2.2.2.2.2.2.1,r10.2.2.2.2.2.2.2.1,r1.1 == 1,r10.2.2.2.2.2.2.2.2.1,r10.2.2.2.2.2.2.2.2.2.1,r10.2.2.2.2.2.2.2.2.2.2.1,([] : List Int),r10.2.2.2.2.2.2.2.2.2.2.2))))))
 (br (r3.1 != 0)
 (obind (Rc.read9.F N (i64.wrap ((i64.wrap (a * l)).tdiv 1000)) r9.1 r9.2.1 r9.2.2.1 r9.2.2.2.1 r9.2.2.2.2.1 r9.2.2.2.2.2.1 r9.2.2.2.2.2.2.1 r9.2.2.2.2.2.2.2.1 r9.2.2.2.2.2.2.2.2.1 b) fun r12 =>
 (chkL b b
 (some ((r3.1,r5.1,r8.1,0,r12.2.1,r12.2.2.1,r12.2.2.2.1,r12.2.2.2.2.1,r12.2.2.2.2.2.1,r12.2.2.2.2.2.2.1,r12.2.2.2.2.2.2.2.1,r12.2.2.2.2.2.2.2.2.1,r1.1 == 1,r12.2.2.2.2.2.2.2.2.2.1,r9.2.2.2.2.2.2.2.2.2.1,r9.2.2.2.2.2.2.2.2.2.2.1,r12.2.2.2.2.2.2.2.2.2.2,r9.2.2.2.2.2.2.2.2.2.2.2)))))
 (chkL b b
 (some ((r3.1,r5.1,r8.1,0,r9.1,r9.2.1,r9.2.2.1,r9.2.2.2.1,r9.2.2.2.2.1,r9.2.2.2.2.2.1,r9.2.2.2.2.2.2.1,r9.2.2.2.2.2.2.2.1,r1.1 == 1,r9.2.2.2.2.2.2.2.2.1,r9.2.2.2.2.2.2.2.2.2.1,r9.2.2.2.2.2.2.2.2.2.2.1,([] : List Int),r9.2.2.2.2.2.2.2.2.2.2.2)))))))))))))))))
noncomputable def spreadf.spec : Eng.Spec := spreadf.sig.spec (fun N L => spreadf.F N (L.i 0) (L.i 1) (L.i 2) (L.i 3) (L.i 4) (L.i 5) (L.i 6) (L.i 7) (L.i 8) (L.i 9) (L.i 10) (L.b 0) (L.l 0)) spreadf.enc
theorem spreadf.ok : CallOK Tryz.prog 12 spreadf.spec := ok2 spreadf.C spreadf.K Tryz.f12 spreadf.dec (fun _ => ⟨spmay.ok,bits.ok,ticdf.ok,symbol.ok,torder.ok,uint.ok,greadfirst.ok,greadnext.ok,greadltp.ok,read9.ok,trivial⟩) (fun _ => ⟨fun _ _ => ⟨rfl,rfl⟩,fun _ _ => ⟨rfl,rfl⟩,fun _ _ => ⟨rfl,rfl⟩,trivial⟩) (by intro N L; show _ = spreadf.F N (L.i 0) (L.i 1) (L.i 2) (L.i 3) (L.i 4) (L.i 5) (L.i 6) (L.i 7) (L.i 8) (L.i 9) (L.i 10) (L.b 0) (L.l 0); rw [spreadf.F,<- funext (spreadf.loop6_eq N),<- funext (spreadf.loop11_eq N),<- funext (spreadf.loop20_eq N)]; kernel_rfl)
def spwritef.sig : Eng.Sig := { args := [.at (.ptr 0 0),.at (.int .i64 0),.at (.int .i64 1),.at (.int .i64 2),.agg [.bool 0,.int .i64 3,.int .i64 4,.roi .i64 0,.int .i64 5,.roi .i64 1,.rro ⟨[.i64,.i64],none,false⟩ 0,.roi .i64 2]],n := 3,pre := [(0,.cells 6 [.full 1 false,.int .u64 6,.int .u64 7,.full 2 false,.int .i64 8,.int .i64 9]),(1,.ints true .u8 3),(2,.ints true .u8 4)],post := [(0,.cells 6 [.full 3 false,.int .u64 4,.int .u64 5,.full 4 false,.int .i64 6,.int .i64 7]),(1,.dead),(2,.dead),(3,.ints true .u8 3),(4,.ints true .u8 4)],m := 2,ret := .tup [(true,[.bool 0,.int .i64 0,.int .i64 1,.roi .i64 0,.int .i64 2,.roi .i64 1,.rro ⟨[.i64,.i64],none,false⟩ 0,.roi .i64 2]),(false,[.int .i64 3])] }
def spwritef.C (N : Nat) : Cfg := { P := Tryz.prog,N := N,RT := noRT,specs := [(21,spgood.spec),(54,spbit.spec),(53,ebits.spec),(44,ticdf.spec),(55,esymbol.spec),(56,euint.spec),(57,gwritefirst.spec),(58,gwritenext.spec),(59,gwriteltp.spec),(60,write9.spec)],hi := 3 }
abbrev spwritef.R : Type := Int × Int × Int × Int × Int × Int × Int × Int × Bool × List Int × List Int × List Int × List Int × List Int × List (List Int)
def spwritef.dec (L : Eng.Leaves) : spwritef.R := (L.i 0,L.i 1,L.i 2,L.i 3,L.i 4,L.i 5,L.i 6,L.i 7,L.b 0,L.l 0,L.l 1,L.l 2,L.l 3,L.l 4,L.r 0)
def spwritef.enc (r : spwritef.R) : Eng.Leaves := mkL [r.1,r.2.1,r.2.2.1,r.2.2.2.1,r.2.2.2.2.1,r.2.2.2.2.2.1,r.2.2.2.2.2.2.1,r.2.2.2.2.2.2.2.1] [r.2.2.2.2.2.2.2.2.1] [r.2.2.2.2.2.2.2.2.2.1,r.2.2.2.2.2.2.2.2.2.2.1,r.2.2.2.2.2.2.2.2.2.2.2.1,r.2.2.2.2.2.2.2.2.2.2.2.2.1,r.2.2.2.2.2.2.2.2.2.2.2.2.2.1] [r.2.2.2.2.2.2.2.2.2.2.2.2.2.2]
abbrev spwritef.loop7.R : Type := Int × Int × Int × Int × List Int × List Int
def spwritef.loop7.ann : Ann := { nx := 22,slots := [(0,.at (.ptr 0 0)),(43,.at (.froi .i64 0)),(44,.at (.fint .i64 0)),(45,.at (.int .i64 0))],blks := [(0,.cells 6 [.full 20 false,.int .u64 1,.int .u64 2,.full 21 false,.int .i64 3,.int .i64 4]),(20,.ints true .u8 0),(21,.ints true .u8 1)],mov := [20,21],xslots := [(0,.at (.ptr 0 0))],xblks := [(0,.cells 6 [.full 20 false,.int .u64 0,.int .u64 1,.full 21 false,.int .i64 2,.int .i64 3]),(20,.ints true .u8 0),(21,.ints true .u8 1)],T := spwritef.loop7.R,dec := fun L => (L.i 0,L.i 1,L.i 2,L.i 3,L.l 0,L.l 1),enc := fun r => mkL [r.1,r.2.1,r.2.2.1,r.2.2.2.1] [] [r.2.2.2.2.1,r.2.2.2.2.2] [] }
abbrev spwritef.loop16.R : Type := Int × Int × Int × Int × List Int × List Int × List Int
def spwritef.loop16.ann : Ann := { nx := 35,slots := [(0,.at (.ptr 0 0)),(3,.at (.int .i64 0)),(9,.at (.ptr 3 0)),(14,.at (.ptr 27 0)),(79,.at (.froi .i64 0)),(80,.at (.fint .i64 0)),(81,.at (.int .i64 1))],blks := [(0,.cells 6 [.full 32 false,.int .u64 2,.int .u64 3,.full 33 false,.int .i64 4,.int .i64 5]),(3,.cells 8 [.fbool 0,.fint .i64 1,.fint .i64 2,.froi .i64 1,.fint .i64 3,.froi .i64 2,.frro ⟨[.i64,.i64],none,false⟩ 0,.froi .i64 3]),(27,.cells 8 [.fbool 1,.fint .i64 4,.fint .i64 5,.full 29 true,.fint .i64 6,.full 34 false,.full 30 false,.full 31 false]),(29,.fints true .i64 4),(30,.frecs true ⟨[.i64,.i64],none,false⟩ 1),(31,.fints true .i64 5),(32,.ints true .u8 0),(33,.ints true .u8 1),(34,.ints true .i64 2)],mov := [32,33,34],exId := 2,xslots := [(0,.at (.ptr 0 0)),(9,.at (.ptr 3 0)),(14,.at (.ptr 27 0))],xblks := [(0,.cells 6 [.full 32 false,.int .u64 0,.int .u64 1,.full 33 false,.int .i64 2,.int .i64 3]),(3,.cells 8 [.fbool 0,.fint .i64 1,.fint .i64 2,.froi .i64 1,.fint .i64 3,.froi .i64 2,.frro ⟨[.i64,.i64],none,false⟩ 0,.froi .i64 3]),(27,.cells 8 [.fbool 1,.fint .i64 4,.fint .i64 5,.full 29 true,.fint .i64 6,.full 34 false,.full 30 false,.full 31 false]),(29,.fints true .i64 4),(30,.frecs true ⟨[.i64,.i64],none,false⟩ 1),(31,.fints true .i64 5),(32,.ints true .u8 0),(33,.ints true .u8 1),(34,.ints true .i64 2)],T := spwritef.loop16.R,dec := fun L => (L.i 0,L.i 1,L.i 2,L.i 3,L.l 0,L.l 1,L.l 2),enc := fun r => mkL [r.1,r.2.1,r.2.2.1,r.2.2.2.1] [] [r.2.2.2.2.1,r.2.2.2.2.2.1,r.2.2.2.2.2.2] [] }
abbrev spwritef.loop25.R : Type := Int × Int × Int × Int × List Int × List Int
def spwritef.loop25.ann : Ann := { nx := 37,slots := [(0,.at (.ptr 0 0)),(1,.at (.fint .i64 0)),(111,.at (.frro ⟨[.i64,.i64],none,false⟩ 0)),(112,.at (.fint .i64 1)),(113,.at (.int .i64 0))],blks := [(0,.cells 6 [.full 35 false,.int .u64 1,.int .u64 2,.full 36 false,.int .i64 3,.int .i64 4]),(35,.ints true .u8 0),(36,.ints true .u8 1)],mov := [35,36],exId := 4,xslots := [(0,.at (.ptr 0 0))],xblks := [(0,.cells 6 [.full 35 false,.int .u64 0,.int .u64 1,.full 36 false,.int .i64 2,.int .i64 3]),(35,.ints true .u8 0),(36,.ints true .u8 1)],T := spwritef.loop25.R,dec := fun L => (L.i 0,L.i 1,L.i 2,L.i 3,L.l 0,L.l 1),enc := fun r => mkL [r.1,r.2.1,r.2.2.1,r.2.2.2.1] [] [r.2.2.2.2.1,r.2.2.2.2.2] [] }
def spwritef.K (N : Nat) : FCfg := { anns := [(7,spwritef.loop7.ann),(16,spwritef.loop16.ann),(25,spwritef.loop25.ann)],lits := [67,71],frz := [129] }
def spwritef.loop25 (N : Nat) : Nat -> Int -> Int -> List (List Int) -> Int -> Int -> Int -> Int -> Int -> List Int -> List Int -> Option spwritef.loop25.R
 | 0,_,_,_,_,_,_,_,_,_,_ => none
 | nn + 1,d,e,a,b,h,i,c,f,g,j =>
 (br (decide (b < e))
 (chk ((0 : Int) <= b /\ b < ↑a.length)
 (obind (Rc.gwriteltp.F N d ((a.getD b.toNat ([] : List Int)).headD 0) ((a.getD b.toNat ([] : List Int)).tail.headD 0) h i c f g j) fun r0 =>
 (chkI d d
 (chkR a a
 (chkI e e
 (spwritef.loop25 N nn d e a (i64.wrap (b + 1)) r0.2.1 r0.2.2.1 r0.2.2.2.1 r0.2.2.2.2.1 r0.2.2.2.2.2.1 r0.2.2.2.2.2.2))))))
 (some ((h,i,c,f,g,j))))
def spwritef.loop25R (N nn : Nat) (c d : Int) (e : List (List Int)) (f h i a b : Int) (g j : List Int) : Option spwritef.loop25.R := loopF spwritef.loop25.ann (mkL [c,d] [] [] [e]) (evCode ((spwritef.C N).inLoop spwritef.loop25.ann) (spwritef.K N) (inlTab (spwritef.C N) 0) (bodyAt 25 Tryz.f15)) nn (mkL [f,h,i,a,b] [] [g,j] [])
theorem spwritef.loop25_eq (N : Nat) : ∀ nn,spwritef.loop25R N nn = spwritef.loop25 N nn := lq fun _ h => by funext; rw [spwritef.loop25,<- h]; kernel_rfl
def spwritef.loop16 (N : Nat) : Nat -> Int -> Int -> Int -> Int -> Int -> Int -> Int -> Bool -> Bool -> List Int -> List Int -> List Int -> List Int -> List Int -> List Int -> List (List Int) -> List (List Int) -> Int -> Int -> Int -> Int -> Int -> Int -> List Int -> List Int -> List Int -> Option spwritef.loop16.R
 | 0,_,_,_,_,_,_,_,_,_,_,_,_,_,_,_,_,_,_,_,_,_,_,_,_,_,_ => none
 | nn + 1,u,i,o,b,f,j,a,e,c,l,p,g,d,q,s,k,t,aa,n,x,y,m,v,w,z,h =>
 (br (decide (n < u))
 (chk ((0 : Int) <= n /\ n < ↑l.length)
 (br (n == 0)
 (br e
 (obind (Rc.gwritefirst.F N (l.getD n.toNat 0) x y m v w z) fun r0 =>
 (chk (h.length + [l.getD n.toNat 0].length <= (17592186043904 : Nat))
 (chkL l l
 (chkI u u
 (chkB e e
 (chkI i i
 (chkI o o
 (chkL p p
 (chkI b b
 (chkL g g
 (chkR k k
 (chkL d d
 (chkB c c
 (chkI f f
 (chkI j j
 (chkI a a
 (chkL q q
 (chkR t t
 (chkL s s
 (spwritef.loop16 N nn u i o b f j a e c l p g d q s k t (l.getD n.toNat 0) (i64.wrap (n + 1)) r0.2.1 r0.2.2.1 r0.2.2.2.1 r0.2.2.2.2.1 r0.2.2.2.2.2.1 r0.2.2.2.2.2.2 (h ++ [l.getD n.toNat 0])))))))))))))))))))))
 (obind (Rc.gwritenext.F N (l.getD n.toNat 0) aa x y m v w z) fun r1 =>
 (chk (h.length + [r1.1].length <= (17592186043904 : Nat))
 (chkL l l
 (chkI u u
 (chkB e e
 (chkI i i
 (chkI o o
 (chkL p p
 (chkI b b
 (chkL g g
 (chkR k k
 (chkL d d
 (chkB c c
 (chkI f f
 (chkI j j
 (chkI a a
 (chkL q q
 (chkR t t
 (chkL s s
 (spwritef.loop16 N nn u i o b f j a e c l p g d q s k t r1.1 (i64.wrap (n + 1)) r1.2.2.1 r1.2.2.2.1 r1.2.2.2.2.1 r1.2.2.2.2.2.1 r1.2.2.2.2.2.2.2 r1.2.2.2.2.2.2.1 (h ++ [r1.1]))))))))))))))))))))))
 (obind (Rc.gwritenext.F N (l.getD n.toNat 0) aa x y m v w z) fun r2 =>
 (chk (h.length + [r2.1].length <= (17592186043904 : Nat))
 (chkL l l
 (chkI u u
 (chkB e e
 (chkI i i
 (chkI o o
 (chkL p p
 (chkI b b
 (chkL g g
 (chkR k k
 (chkL d d
 (chkB c c
 (chkI f f
 (chkI j j
 (chkI a a
 (chkL q q
 (chkR t t
 (chkL s s
 (spwritef.loop16 N nn u i o b f j a e c l p g d q s k t r2.1 (i64.wrap (n + 1)) r2.2.2.1 r2.2.2.2.1 r2.2.2.2.2.1 r2.2.2.2.2.2.1 r2.2.2.2.2.2.2.2 r2.2.2.2.2.2.2.1 (h ++ [r2.1])))))))))))))))))))))))
 (chkB e e
 (chkI i i
 (chkI o o
 (chkL p p
 (chkI b b
 (chkL g g
 (chkR k k
 (chkL d d
 (chkB c c
 (chkI f f
 (chkI j j
 (chkI a a
 (chkL q q
 (chkR t t
 (chkL s s
 (some ((x,y,m,v,w,z,h)))))))))))))))))))
def spwritef.loop16R (N nn : Nat) (o k p b g l a : Int) (h d : Bool) (q s i e t u : List Int) (m v : List (List Int)) (w x y z c j : Int) (n aa f : List Int) : Option spwritef.loop16.R := loopF spwritef.loop16.ann (mkL [o,k,p,b,g,l,a] [h,d] [q,s,i,e,t,u] [m,v]) (evCode ((spwritef.C N).inLoop spwritef.loop16.ann) (spwritef.K N) (inlTab (spwritef.C N) 0) (bodyAt 16 Tryz.f15)) nn (mkL [w,x,y,z,c,j] [] [n,aa,f] [])
theorem spwritef.loop16_eq (N : Nat) : ∀ nn,spwritef.loop16R N nn = spwritef.loop16 N nn := lq fun _ h => by funext; rw [spwritef.loop16,<- h]; kernel_rfl
def spwritef.loop7 (N : Nat) : Nat -> Int -> List Int -> Int -> Int -> Int -> Int -> Int -> List Int -> List Int -> Option spwritef.loop7.R
 | 0,_,_,_,_,_,_,_,_,_ => none
 | nn + 1,e,b,c,g,h,a,d,f,i =>
 (br (decide (c < e))
 (chk ((0 : Int) <= c /\ c < ↑b.length)
 (obind (Rc.ticdf.F N (4)) fun r0 =>
 (obind (Rc.esymbol.F N (i64.wrap (b.getD c.toNat (0 : Int) + (4 : Int))) g h a d r0 f i) fun r1 =>
 (chkL b b
 (chkI e e
 (spwritef.loop7 N nn e b (i64.wrap (c + 1)) r1.2.1 r1.2.2.1 r1.2.2.2.1 r1.2.2.2.2.1 r1.2.2.2.2.2.2 r1.2.2.2.2.2.1))))))
 (some ((g,h,a,d,f,i))))
def spwritef.loop7R (N nn : Nat) (d : Int) (e : List Int) (f g h a b : Int) (c i : List Int) : Option spwritef.loop7.R := loopF spwritef.loop7.ann (mkL [d] [] [e] []) (evCode ((spwritef.C N).inLoop spwritef.loop7.ann) (spwritef.K N) (inlTab (spwritef.C N) 0) (bodyAt 7 Tryz.f15)) nn (mkL [f,g,h,a,b] [] [c,i] [])
theorem spwritef.loop7_eq (N : Nat) : ∀ nn,spwritef.loop7R N nn = spwritef.loop7 N nn := lq fun _ h => by funext; rw [spwritef.loop7,<- h]; kernel_rfl
def spwritef.F (N : Nat) (l q p e a d m n i j : Int) (g : Bool) (b h c k o : List Int) (f : List (List Int)) : Option spwritef.R :=
 (obind (Rc.spgood.F N l q e a d g b h c f) fun r0 =>
 (br (!r0)
 (some (((0 : Int),0,0,1,m,n,i,j,false,([] : List Int),([] : List Int),([] : List Int),k,o,([] : List (List Int)))))
 (obind (Rc.spbit.F N g) fun r1 =>
 (obind (Rc.ebits.F N r1 (1) m n i j k o) fun r2 =>
 (obind (Rc.ticdf.F N (0)) fun r3 =>
 (obind (Rc.esymbol.F N e m n r2.2.1 r2.2.2.1 r3 k r2.2.2.2) fun r4 =>
 (chkI e e
 (obind (Rc.ticdf.F N (3)) fun r5 =>
 (obind (Rc.esymbol.F N a r4.2.1 r4.2.2.1 r4.2.2.2.1 r4.2.2.2.2.1 r5 r4.2.2.2.2.2.2 r4.2.2.2.2.2.1) fun r6 =>
 (chkI a a
 (obind (spwritef.loop7 N N (↑b.length) b ((0 : Int)) r6.2.1 r6.2.2.1 r6.2.2.2.1 r6.2.2.2.2.1 r6.2.2.2.2.2.2 r6.2.2.2.2.2.1) fun r7 =>
 (obind (Rc.euint.F N d (5) r7.1 r7.2.1 r7.2.2.1 r7.2.2.2.1 r7.2.2.2.2.1 r7.2.2.2.2.2) fun r8 =>
 (chk ((0 : Nat) + b.length <= (17592186043904 : Nat))
 (chk (f.length <= (1000000 : Nat))
 (chk (c.length <= (17592186043904 : Nat))
 (chkL c c
 (obind (spwritef.loop16 N N (↑h.length) e a d e a d g g h b h c (([] : List Int) ++ b) c f f p ((0 : Int)) r8.2.1 r8.2.2.1 r8.2.2.2.1 r8.2.2.2.2.1 r8.2.2.2.2.2.1 r8.2.2.2.2.2.2 (([] : List Int))) fun r9 =>
 (obind (spwritef.loop25 N N l (↑f.length) f ((0 : Int)) r9.1 r9.2.1 r9.2.2.1 r9.2.2.2.1 r9.2.2.2.2.1 r9.2.2.2.2.2.1) fun r10 =>
 (br (e != 0)
 (obind (Rc.write9.F N r10.1 r10.2.1 r10.2.2.1 r10.2.2.2.1 c r10.2.2.2.2.1 r10.2.2.2.2.2) fun r11 =>
 (some ((e,a,d,0,r11.2.1,r11.2.2.1,r11.2.2.2.1,r11.2.2.2.2.1,g,([] : List Int) ++ b,r9.2.2.2.2.2.2,c,r11.2.2.2.2.2.1,r11.2.2.2.2.2.2,f))))
 (some ((e,a,d,0,r10.1,r10.2.1,r10.2.2.1,r10.2.2.2.1,g,([] : List Int) ++ b,r9.2.2.2.2.2.2,c,r10.2.2.2.2.1,r10.2.2.2.2.2,f))))))))))))))))))))))
noncomputable def spwritef.spec : Eng.Spec := spwritef.sig.spec (fun N L => spwritef.F N (L.i 0) (L.i 1) (L.i 2) (L.i 3) (L.i 4) (L.i 5) (L.i 6) (L.i 7) (L.i 8) (L.i 9) (L.b 0) (L.l 0) (L.l 1) (L.l 2) (L.l 3) (L.l 4) (L.r 0)) spwritef.enc
theorem spwritef.ok : CallOK Tryz.prog 15 spwritef.spec := ok2 spwritef.C spwritef.K Tryz.f15 spwritef.dec (fun _ => ⟨spgood.ok,spbit.ok,ebits.ok,ticdf.ok,esymbol.ok,euint.ok,gwritefirst.ok,gwritenext.ok,gwriteltp.ok,write9.ok,trivial⟩) (fun _ => ⟨fun _ _ => ⟨rfl,rfl⟩,fun _ _ => ⟨rfl,rfl⟩,fun _ _ => ⟨rfl,rfl⟩,trivial⟩) (by intro N L; show _ = spwritef.F N (L.i 0) (L.i 1) (L.i 2) (L.i 3) (L.i 4) (L.i 5) (L.i 6) (L.i 7) (L.i 8) (L.i 9) (L.b 0) (L.l 0) (L.l 1) (L.l 2) (L.l 3) (L.l 4) (L.r 0); rw [spwritef.F,<- funext (spwritef.loop7_eq N),<- funext (spwritef.loop16_eq N),<- funext (spwritef.loop25_eq N)]; kernel_rfl)
def plreset.sig : Eng.Sig := { args := [.at (.ptr 0 0)],n := 3,pre := [(0,.cells 4 [.int .i64 0,.ptr 1 0,.full 2 false,.int .i64 1]),(1,.ints false .i64 0),(2,.ints true .i64 1)],post := [(0,.cells 4 [.fint .i64 0,.ptr 1 0,.full 3 false,.int .i64 0]),(1,.ints false .i64 0),(2,.dead),(3,.ints true .i64 1)],m := 1,ret := .at (.unk) }
def plreset.C (N : Nat) : Cfg := { P := Tryz.prog,N := N,RT := noRT,specs := [(98,syreset.spec),(34,torder.spec)],hi := 3 }
abbrev plreset.R : Type := Int × List Int × List Int
def plreset.dec (L : Eng.Leaves) : plreset.R := (L.i 0,L.l 0,L.l 1)
def plreset.enc (r : plreset.R) : Eng.Leaves := mkL [r.1] [] [r.2.1,r.2.2] []
abbrev plreset.loop4.R : Type := List Int
def plreset.loop4.ann : Ann := { nx := 20,slots := [(0,.at (.ptr 0 0)),(2,.at (.fint .i64 0)),(23,.at (.fint .i64 1)),(24,.at (.int .i64 0))],blks := [(0,.cells 4 [.fint .i64 2,.ptr 1 0,.full 4 true,.fint .i64 3]),(1,.fints false .i64 0),(4,.ints true .i64 0)],xslots := [(0,.at (.ptr 0 0))],xblks := [(0,.cells 4 [.fint .i64 2,.ptr 1 0,.full 4 true,.fint .i64 3]),(1,.fints false .i64 0),(4,.ints true .i64 0)],T := plreset.loop4.R,dec := fun L => (L.l 0),enc := fun r => mkL [] [] [r] [] }
def plreset.K (N : Nat) : FCfg := { anns := [(4,plreset.loop4.ann)] }
def plreset.loop4 (N : Nat) : Nat -> Int -> Int -> Int -> Int -> List Int -> Int -> List Int -> Option plreset.loop4.R
 | 0,_,_,_,_,_,_,_ => none
 | nn + 1,f,e,b,c,a,d,g =>
 (br (decide (d < e))
 (chk (i64.wrap (f + 1) ≠ 0)
 (chk ((0 : Int) <= d /\ d < ↑g.length)
 (chkI f f
 (chkI e e
 (chkI b b
 (chkI c c
 (chkL a a
 (plreset.loop4 N nn f e b c a (i64.wrap (d + 1)) (g.set d.toNat (i64.wrap ((i64.wrap (32768 * i64.wrap (d + (1 : Int)))).tdiv (i64.wrap (f + 1)))))))))))))
 (chkI b b
 (chkI c c
 (chkL a a
 (some g)))))
def plreset.loop4R (N nn : Nat) (f d b c : Int) (a : List Int) (e : Int) (g : List Int) : Option plreset.loop4.R := loopF plreset.loop4.ann (mkL [f,d,b,c] [] [a] []) (evCode ((plreset.C N).inLoop plreset.loop4.ann) (plreset.K N) (inlTab (plreset.C N) 0) (bodyAt 4 Tryz.f36)) nn (mkL [e] [] [g] [])
theorem plreset.loop4_eq (N : Nat) : ∀ nn,plreset.loop4R N nn = plreset.loop4 N nn := lq fun _ h => by funext; rw [plreset.loop4,<- h]; kernel_rfl
def plreset.F (N : Nat) (a c : Int) (b d : List Int) : Option plreset.R :=
 (obind (Rc.syreset.F N b) fun r0 =>
 (obind (Rc.torder.F N a) fun r1 =>
 (chk ((0 : Int) <= r1 /\ r1 <= r1 /\ r1 <= ↑(17592186043904 : Nat))
 (obind (plreset.loop4 N N r1 (↑(List.replicate r1.toNat (0 : Int)).length) a c r0 ((0 : Int)) (List.replicate r1.toNat (0 : Int))) fun r2 =>
 (chkI a a
 (some (((20 : Int),r0,r2))))))))
noncomputable def plreset.spec : Eng.Spec := plreset.sig.spec (fun N L => plreset.F N (L.i 0) (L.i 1) (L.l 0) (L.l 1)) plreset.enc
theorem plreset.ok : CallOK Tryz.prog 36 plreset.spec := ok2 plreset.C plreset.K Tryz.f36 plreset.dec (fun _ => ⟨syreset.ok,torder.ok,trivial⟩) (fun _ => ⟨fun _ _ => ⟨rfl,rfl⟩,trivial⟩) (by intro N L; show _ = plreset.F N (L.i 0) (L.i 1) (L.l 0) (L.l 1); rw [plreset.F,<- funext (plreset.loop4_eq N)]; kernel_rfl)
def plgain.sig : Eng.Sig := { args := [.at (.ptr 0 0)],n := 3,pre := [(0,.cells 4 [.int .i64 0,.ptr 1 0,.full 2 false,.int .i64 1]),(1,.ints false .i64 0),(2,.ints true .i64 1)],post := [(0,.cells 4 [.fint .i64 0,.ptr 1 0,.full 2 false,.fint .i64 1]),(1,.fints false .i64 0),(2,.fints true .i64 1)],ret := .at (.int .i64 0) }
def plgain.C (N : Nat) : Cfg := { P := Tryz.prog,N := N,RT := noRT,specs := [],hi := 3 }
abbrev plgain.R : Type := Int
def plgain.dec (L : Eng.Leaves) : plgain.R := (L.i 0)
def plgain.enc (r : plgain.R) : Eng.Leaves := mkL [r] [] [] []
def plgain.K (N : Nat) : FCfg := {}
def plgain.F (N : Nat) (d a : Int) (b c : List Int) : Option plgain.R :=
 (chkI d d
 (chkI a a
 (chkL b b
 (chkL c c
 (some a)))))
noncomputable def plgain.spec : Eng.Spec := plgain.sig.spec (fun N L => plgain.F N (L.i 0) (L.i 1) (L.l 0) (L.l 1)) plgain.enc
theorem plgain.ok : CallOK Tryz.prog 30 plgain.spec := ok2 plgain.C plgain.K Tryz.f30 plgain.dec (fun _ => trivial) (fun _ => trivial)
def plsame.sig : Eng.Sig := { args := [.at (.ptr 0 0),.at (.ptr 3 0)],n := 6,pre := [(0,.cells 4 [.int .i64 0,.ptr 1 0,.full 2 false,.int .i64 1]),(1,.ints false .i64 0),(2,.ints true .i64 1),(3,.cells 4 [.int .i64 2,.ptr 4 0,.full 5 false,.int .i64 3]),(4,.ints false .i64 2),(5,.ints true .i64 3)],post := [(0,.cells 4 [.int .i64 0,.ptr 1 0,.full 2 false,.int .i64 1]),(1,.ints false .i64 0),(2,.ints true .i64 1),(3,.cells 4 [.int .i64 2,.ptr 4 0,.full 5 false,.int .i64 3]),(4,.ints false .i64 2),(5,.ints true .i64 3)],ret := .at (.bool 0) }
def plsame.C (N : Nat) : Cfg := { P := Tryz.prog,N := N,RT := noRT,specs := [(96,sysame.spec)],hi := 6 }
abbrev plsame.R : Type := Int × Int × Int × Int × Bool × List Int × List Int × List Int × List Int
def plsame.dec (L : Eng.Leaves) : plsame.R := (L.i 0,L.i 1,L.i 2,L.i 3,L.b 0,L.l 0,L.l 1,L.l 2,L.l 3)
def plsame.enc (r : plsame.R) : Eng.Leaves := mkL [r.1,r.2.1,r.2.2.1,r.2.2.2.1] [r.2.2.2.2.1] [r.2.2.2.2.2.1,r.2.2.2.2.2.2.1,r.2.2.2.2.2.2.2.1,r.2.2.2.2.2.2.2.2] []
abbrev plsame.loop4.R : Type := Bool
def plsame.loop4.ann : Ann := { nx := 20,slots := [(0,.at (.ptr 0 0)),(1,.at (.ptr 3 0)),(4,.at (.bool 0)),(55,.at (.full 2 false)),(56,.at (.fint .i64 0)),(57,.at (.int .i64 0))],blks := [(0,.cells 4 [.fint .i64 1,.ptr 1 0,.full 2 false,.fint .i64 2]),(1,.fints false .i64 0),(2,.fints true .i64 1),(3,.cells 4 [.fint .i64 3,.ptr 4 0,.full 5 false,.fint .i64 4]),(4,.fints false .i64 2),(5,.fints true .i64 3)],xslots := [(0,.at (.ptr 0 0)),(1,.at (.ptr 3 0)),(55,.at (.full 2 false)),(4,.at (.bool 0))],xblks := [(0,.cells 4 [.fint .i64 1,.ptr 1 0,.full 2 false,.fint .i64 2]),(1,.fints false .i64 0),(2,.fints true .i64 1),(3,.cells 4 [.fint .i64 3,.ptr 4 0,.full 5 false,.fint .i64 4]),(4,.fints false .i64 2),(5,.fints true .i64 3)],T := plsame.loop4.R,dec := fun L => (L.b 0),enc := fun r => mkL [] [r] [] [],ret := true }
def plsame.K (N : Nat) : FCfg := { anns := [(4,plsame.loop4.ann)] }
def plsame.loop4 (N : Nat) : Nat -> Int -> Int -> Int -> Int -> List Int -> List Int -> List Int -> List Int -> Int -> Int -> Int -> Int -> Int -> List Int -> List Int -> List Int -> List Int -> Int -> Bool -> Option (plsame.loop4.R ⊕ plsame.R)
 | 0,_,_,_,_,_,_,_,_,_,_,_,_,_,_,_,_,_,_,_ => none
 | nn + 1,p,q,l,m,n,o,j,k,s,g,h,d,e,f,c,b,a,i,t =>
 (br (decide (i < s))
 (chk ((0 : Int) <= i /\ i < ↑c.length)
 (chk ((0 : Int) <= i /\ i < ↑a.length)
 (br (c.getD i.toNat 0 != a.getD i.toNat 0)
 (omap
 (some ((g,h,d,e,false,f,c,b,a))) .inr)
 (chkI s s
 (chkI g g
 (chkI h h
 (chkL f f
 (chkL c c
 (chkI d d
 (chkI e e
 (chkL b b
 (chkL a a
 (plsame.loop4 N nn p q l m n o j k s g h d e f c b a (i64.wrap (i + 1)) t)))))))))))))
 (chkI g g
 (chkI h h
 (chkL f f
 (chkL c c
 (chkI d d
 (chkI e e
 (chkL b b
 (chkL a a
 (some (Sum.inl t)))))))))))
def plsame.loop4R (N nn : Nat) (k m d e : Int) (f g a c : List Int) (u s t n o : Int) (p q h j : List Int) (v : Int) (w : Bool) : Option (plsame.loop4.R ⊕ plsame.R) := loopR plsame.loop4.ann (mkL [u,s,t,n,o] [] [p,q,h,j] []) (evCode ((plsame.C N).inLoop plsame.loop4.ann) (plsame.K N) (inlTab (plsame.C N) 0) (bodyAt 4 Tryz.f33)) (sigKr Tryz.prog Tryz.f33 plsame.sig (mkL [k,m,d,e] [] [f,g,a,c] []) fun L => (L.i 0,L.i 1,L.i 2,L.i 3,L.b 0,L.l 0,L.l 1,L.l 2,L.l 3)) nn (mkL [v] [w] [] [])
theorem plsame.loop4_eq (N : Nat) : ∀ nn,plsame.loop4R N nn = plsame.loop4 N nn := lq fun _ h => by funext; rw [plsame.loop4,<- h]; kernel_rfl
def plsame.F (N : Nat) (g h c d : Int) (f e a b : List Int) : Option plsame.R :=
 (br (g != c)
 (some ((g,h,c,d,false,f,e,a,b)))
 (br (h != d)
 (some ((g,h,c,d,false,f,e,a,b)))
 (obind (Rc.sysame.F N f a) fun r0 =>
 (br (!r0)
 (some ((g,h,c,d,false,f,e,a,b)))
 (br ((e.length : Int) != ↑b.length)
 (some ((g,h,c,d,false,f,e,a,b)))
 (osum (plsame.loop4 N N g h c d f e a b (↑e.length) g h c d f e a b ((0 : Int)) false) fun r1 =>
 (some ((g,h,c,d,true,f,e,a,b)))))))))
noncomputable def plsame.spec : Eng.Spec := plsame.sig.spec (fun N L => plsame.F N (L.i 0) (L.i 1) (L.i 2) (L.i 3) (L.l 0) (L.l 1) (L.l 2) (L.l 3)) plsame.enc
theorem plsame.ok : CallOK Tryz.prog 33 plsame.spec := ok2 plsame.C plsame.K Tryz.f33 plsame.dec (fun _ => ⟨sysame.ok,trivial⟩) (fun _ => ⟨fun _ _ => ⟨rfl,rfl⟩,trivial⟩) (by intro N L; show _ = plsame.F N (L.i 0) (L.i 1) (L.i 2) (L.i 3) (L.l 0) (L.l 1) (L.l 2) (L.l 3); rw [plsame.F,<- funext (plsame.loop4_eq N)]; kernel_rfl)
def plcopy.sig : Eng.Sig := { args := [.at (.ptr 0 0)],n := 3,pre := [(0,.cells 4 [.int .i64 0,.ptr 1 0,.full 2 false,.int .i64 1]),(1,.ints false .i64 0),(2,.ints true .i64 1)],post := [(0,.cells 4 [.fint .i64 0,.ptr 1 0,.full 2 false,.fint .i64 1]),(1,.fints false .i64 0),(2,.fints true .i64 1),(3,.cells 4 [.int .i64 0,.ptr 4 0,.full 5 false,.int .i64 1]),(4,.ints false .i64 0),(5,.ints true .i64 1)],m := 3,ret := .at (.ptr 3 0) }
def plcopy.C (N : Nat) : Cfg := { P := Tryz.prog,N := N,RT := noRT,specs := [(97,sycopy.spec)],hi := 3 }
abbrev plcopy.R : Type := Int × Int × List Int × List Int
def plcopy.dec (L : Eng.Leaves) : plcopy.R := (L.i 0,L.i 1,L.l 0,L.l 1)
def plcopy.enc (r : plcopy.R) : Eng.Leaves := mkL [r.1,r.2.1] [] [r.2.2.1,r.2.2.2] []
def plcopy.K (N : Nat) : FCfg := { lits := [12] }
def plcopy.F (N : Nat) (c d : Int) (b a : List Int) : Option plcopy.R :=
 (obind (Rc.sycopy.F N b) fun r0 =>
 (chk (a.length <= (17592186043904 : Nat))
 (chkI c c
 (chkI d d
 (chkL b b
 (chkL a a
 (some ((c,d,r0,a)))))))))
noncomputable def plcopy.spec : Eng.Spec := plcopy.sig.spec (fun N L => plcopy.F N (L.i 0) (L.i 1) (L.l 0) (L.l 1)) plcopy.enc
theorem plcopy.ok : CallOK Tryz.prog 35 plcopy.spec := ok2 plcopy.C plcopy.K Tryz.f35 plcopy.dec (fun _ => ⟨sycopy.ok,trivial⟩) (fun _ => trivial)
def rvoiced.sig : Eng.Sig := { args := [.at (.ptr 0 0),.at (.int .i64 0),.at (.int .i64 1),.at (.int .i64 2)],n := 1,pre := [(0,.cells 11 [.roi .u8 0,.int .u64 3,.int .u64 4,.int .i64 5,.int .i64 6,.int .i64 7,.int .u64 8,.int .i64 9,.int .i64 10,.bool 0,.int .u64 11])],post := [(0,.cells 11 [.froi .u8 0,.int .u64 3,.int .u64 4,.int .i64 5,.int .i64 6,.int .i64 7,.int .u64 8,.int .i64 9,.int .i64 10,.bool 1,.int .u64 11])],ret := .agg [.bool 0,.int .i64 0,.int .i64 1,.roi .i64 0,.int .i64 2,.roi .i64 1,.roi .i64 2,.roi .i64 3,.roi .i64 4] }
def rvoiced.C (N : Nat) : Cfg := { P := Tryz.prog,N := N,RT := noRT,specs := [(81,rbits.spec),(83,icdf.spec),(82,rsymbol.spec),(84,rorder.spec),(85,ruint.spec),(86,rclamp.spec),(70,rlags.spec),(87,rpulses.spec)],hi := 1 }
abbrev rvoiced.R : Type := Int × Int × Int × Int × Int × Int × Int × Int × Int × Int × Int × Int × Bool × Bool × List Int × List Int × List Int × List Int × List Int
def rvoiced.dec (L : Eng.Leaves) : rvoiced.R := (L.i 0,L.i 1,L.i 2,L.i 3,L.i 4,L.i 5,L.i 6,L.i 7,L.i 8,L.i 9,L.i 10,L.i 11,L.b 0,L.b 1,L.l 0,L.l 1,L.l 2,L.l 3,L.l 4)
def rvoiced.enc (r : rvoiced.R) : Eng.Leaves := mkL [r.1,r.2.1,r.2.2.1,r.2.2.2.1,r.2.2.2.2.1,r.2.2.2.2.2.1,r.2.2.2.2.2.2.1,r.2.2.2.2.2.2.2.1,r.2.2.2.2.2.2.2.2.1,r.2.2.2.2.2.2.2.2.2.1,r.2.2.2.2.2.2.2.2.2.2.1,r.2.2.2.2.2.2.2.2.2.2.2.1] [r.2.2.2.2.2.2.2.2.2.2.2.2.1,r.2.2.2.2.2.2.2.2.2.2.2.2.2.1] [r.2.2.2.2.2.2.2.2.2.2.2.2.2.2.1,r.2.2.2.2.2.2.2.2.2.2.2.2.2.2.2.1,r.2.2.2.2.2.2.2.2.2.2.2.2.2.2.2.2.1,r.2.2.2.2.2.2.2.2.2.2.2.2.2.2.2.2.2.1,r.2.2.2.2.2.2.2.2.2.2.2.2.2.2.2.2.2.2] []
abbrev rvoiced.loop5.R : Type := Int × Int × Int × Int × Int × Int × List Int × List Int × List Int × List Int
def rvoiced.loop5.ann : Ann := { nx := 24,slots := [(0,.at (.ptr 0 0)),(1,.at (.fint .i64 0)),(9,.at (.ptr 3 0)),(10,.at (.int .i64 0))],blks := [(0,.cells 11 [.froi .u8 0,.int .u64 1,.int .u64 2,.int .i64 3,.int .i64 4,.fint .i64 1,.fint .u64 2,.fint .i64 3,.int .i64 5,.fbool 0,.int .u64 6]),(3,.cells 9 [.fbool 1,.fint .i64 4,.fint .i64 5,.full 20 false,.fint .i64 6,.full 21 false,.full 22 false,.full 23 false,.nils]),(20,.ints true .i64 0),(21,.ints true .i64 1),(22,.ints true .i64 2),(23,.ints true .i64 3)],mov := [20,21,22,23],xslots := [(0,.at (.ptr 0 0)),(9,.at (.ptr 3 0))],xblks := [(0,.cells 11 [.froi .u8 0,.int .u64 0,.int .u64 1,.int .i64 2,.int .i64 3,.fint .i64 1,.fint .u64 2,.fint .i64 3,.int .i64 4,.fbool 0,.int .u64 5]),(3,.cells 9 [.fbool 1,.fint .i64 4,.fint .i64 5,.full 20 false,.fint .i64 6,.full 21 false,.full 22 false,.full 23 false,.nils]),(20,.ints true .i64 0),(21,.ints true .i64 1),(22,.ints true .i64 2),(23,.ints true .i64 3)],T := rvoiced.loop5.R,dec := fun L => (L.i 0,L.i 1,L.i 2,L.i 3,L.i 4,L.i 5,L.l 0,L.l 1,L.l 2,L.l 3),enc := fun r => mkL [r.1,r.2.1,r.2.2.1,r.2.2.2.1,r.2.2.2.2.1,r.2.2.2.2.2.1] [] [r.2.2.2.2.2.2.1,r.2.2.2.2.2.2.2.1,r.2.2.2.2.2.2.2.2.1,r.2.2.2.2.2.2.2.2.2] [] }
abbrev rvoiced.loop10.R : Type := Int × Int × Int × Int × Int × Int × Int × Int × Int × Bool × List Int × List Int × List Int × List Int
def rvoiced.loop10.ann : Ann := { nx := 29,slots := [(0,.at (.ptr 0 0)),(2,.at (.fint .i64 0)),(3,.at (.int .i64 0)),(9,.at (.ptr 3 0)),(11,.at (.int .i64 1))],blks := [(0,.cells 11 [.froi .u8 0,.int .u64 2,.int .u64 3,.int .i64 4,.int .i64 5,.int .i64 6,.int .u64 7,.int .i64 8,.int .i64 9,.bool 0,.int .u64 10]),(3,.cells 9 [.fbool 0,.fint .i64 1,.fint .i64 2,.full 25 false,.fint .i64 3,.full 26 false,.full 27 false,.full 28 false,.nils]),(25,.ints true .i64 0),(26,.ints true .i64 1),(27,.ints true .i64 2),(28,.ints true .i64 3)],mov := [25,26,27,28],exId := 2,xslots := [(0,.at (.ptr 0 0)),(9,.at (.ptr 3 0))],xblks := [(0,.cells 11 [.froi .u8 0,.int .u64 0,.int .u64 1,.int .i64 2,.int .i64 3,.int .i64 4,.int .u64 5,.int .i64 6,.int .i64 7,.bool 0,.int .u64 8]),(3,.cells 9 [.fbool 0,.fint .i64 1,.fint .i64 2,.full 25 false,.fint .i64 3,.full 26 false,.full 27 false,.full 28 false,.nils]),(25,.ints true .i64 0),(26,.ints true .i64 1),(27,.ints true .i64 2),(28,.ints true .i64 3)],T := rvoiced.loop10.R,dec := fun L => (L.i 0,L.i 1,L.i 2,L.i 3,L.i 4,L.i 5,L.i 6,L.i 7,L.i 8,L.b 0,L.l 0,L.l 1,L.l 2,L.l 3),enc := fun r => mkL [r.1,r.2.1,r.2.2.1,r.2.2.2.1,r.2.2.2.2.1,r.2.2.2.2.2.1,r.2.2.2.2.2.2.1,r.2.2.2.2.2.2.2.1,r.2.2.2.2.2.2.2.2.1] [r.2.2.2.2.2.2.2.2.2.1] [r.2.2.2.2.2.2.2.2.2.2.1,r.2.2.2.2.2.2.2.2.2.2.2.1,r.2.2.2.2.2.2.2.2.2.2.2.2.1,r.2.2.2.2.2.2.2.2.2.2.2.2.2] [] }
abbrev rvoiced.loop20.R : Type := Int × Int × Int × Int × Int × Int × Int × Int × Int × Bool × List Int × List Int × List Int × List Int
def rvoiced.loop20.ann : Ann := { nx := 33,slots := [(0,.at (.ptr 0 0)),(2,.at (.fint .i64 0)),(9,.at (.ptr 3 0)),(12,.at (.fint .i64 1)),(13,.at (.fint .i64 2)),(14,.at (.int .i64 0))],blks := [(0,.cells 11 [.froi .u8 0,.int .u64 1,.int .u64 2,.int .i64 3,.int .i64 4,.int .i64 5,.int .u64 6,.int .i64 7,.int .i64 8,.bool 0,.int .u64 9]),(3,.cells 9 [.fbool 0,.fint .i64 3,.fint .i64 4,.full 29 false,.fint .i64 5,.full 30 false,.full 31 false,.full 32 false,.nils]),(29,.ints true .i64 0),(30,.ints true .i64 1),(31,.ints true .i64 2),(32,.ints true .i64 3)],mov := [29,30,31,32],exId := 4,xslots := [(0,.at (.ptr 0 0)),(9,.at (.ptr 3 0))],xblks := [(0,.cells 11 [.froi .u8 0,.int .u64 0,.int .u64 1,.int .i64 2,.int .i64 3,.int .i64 4,.int .u64 5,.int .i64 6,.int .i64 7,.bool 0,.int .u64 8]),(3,.cells 9 [.fbool 0,.fint .i64 3,.fint .i64 4,.full 29 false,.fint .i64 5,.full 30 false,.full 31 false,.full 32 false,.nils]),(29,.ints true .i64 0),(30,.ints true .i64 1),(31,.ints true .i64 2),(32,.ints true .i64 3)],T := rvoiced.loop20.R,dec := fun L => (L.i 0,L.i 1,L.i 2,L.i 3,L.i 4,L.i 5,L.i 6,L.i 7,L.i 8,L.b 0,L.l 0,L.l 1,L.l 2,L.l 3),enc := fun r => mkL [r.1,r.2.1,r.2.2.1,r.2.2.2.1,r.2.2.2.2.1,r.2.2.2.2.2.1,r.2.2.2.2.2.2.1,r.2.2.2.2.2.2.2.1,r.2.2.2.2.2.2.2.2.1] [r.2.2.2.2.2.2.2.2.2.1] [r.2.2.2.2.2.2.2.2.2.2.1,r.2.2.2.2.2.2.2.2.2.2.2.1,r.2.2.2.2.2.2.2.2.2.2.2.2.1,r.2.2.2.2.2.2.2.2.2.2.2.2.2] [] }
def rvoiced.K (N : Nat) : FCfg := { anns := [(5,rvoiced.loop5.ann),(10,rvoiced.loop10.ann),(20,rvoiced.loop20.ann)],frz := [124] }
def rvoiced.loop20 (N : Nat) : Nat -> Int -> Int -> Int -> Int -> Int -> Int -> Bool -> List Int -> Int -> Int -> Int -> Int -> Int -> Int -> Int -> Int -> Int -> Int -> Bool -> List Int -> List Int -> List Int -> List Int -> Option rvoiced.loop20.R
 | 0,_,_,_,_,_,_,_,_,_,_,_,_,_,_,_,_,_,_,_,_,_,_,_ => none
 | nn + 1,w,f,m,d,g,a,c,b,q,s,t,n,h,o,p,e,i,x,u,v,j,k,l =>
 (br (decide (q < i64.wrap (w.tdiv 5)))
 (obind (Rc.ruint.F N (i64.wrap (i64.wrap (m - f) + 1)) s t n h o p e i x u b) fun r0 =>
 (chk (k.length + [i64.wrap (f + r0.1)].length <= (17592186043904 : Nat))
 (obind (Rc.icdf.F N (6)) fun r1 =>
 (obind (Rc.rsymbol.F N r0.2.1 r0.2.2.1 r0.2.2.2.1 r0.2.2.2.2.1 r0.2.2.2.2.2.1 r0.2.2.2.2.2.2.1 r0.2.2.2.2.2.2.2.1 r0.2.2.2.2.2.2.2.2.1 r0.2.2.2.2.2.2.2.2.2.1 r0.2.2.2.2.2.2.2.2.2.2 r1 b) fun r2 =>
 (chk (l.length + [r2.1].length <= (17592186043904 : Nat))
 (chkI w w
 (chkI f f
 (chkI m m
 (chkL b b
 (chkB c c
 (chkI d d
 (chkI g g
 (chkI a a
 (rvoiced.loop20 N nn w f m d g a c b (i64.wrap (q + 1)) r2.2.1 r2.2.2.1 r2.2.2.2.1 r2.2.2.2.2.1 r0.2.2.2.2.2.1 r0.2.2.2.2.2.2.1 r0.2.2.2.2.2.2.2.1 r2.2.2.2.2.2.1 r2.2.2.2.2.2.2 r0.2.2.2.2.2.2.2.2.2.2 v j (k ++ [i64.wrap (f + r0.1)]) (l ++ [r2.1])))))))))))))))
 (chkL b b
 (chkB c c
 (chkI d d
 (chkI g g
 (chkI a a
 (some ((s,t,n,h,o,p,e,i,x,u,v,j,k,l)))))))))
def rvoiced.loop20R (N nn : Nat) (w n o h p a : Int) (d : Bool) (b : List Int) (q s t i e j k c f x : Int) (u : Bool) (v g l m : List Int) : Option rvoiced.loop20.R := loopF rvoiced.loop20.ann (mkL [w,n,o,h,p,a] [d] [b] []) (evCode ((rvoiced.C N).inLoop rvoiced.loop20.ann) (rvoiced.K N) (inlTab (rvoiced.C N) 0) (bodyAt 20 Tryz.f27)) nn (mkL [q,s,t,i,e,j,k,c,f,x] [u] [v,g,l,m] [])
theorem rvoiced.loop20_eq (N : Nat) : ∀ nn,rvoiced.loop20R N nn = rvoiced.loop20 N nn := lq fun _ h => by funext; rw [rvoiced.loop20,<- h]; kernel_rfl
def rvoiced.loop10 (N : Nat) : Nat -> Int -> Int -> Int -> Int -> Bool -> List Int -> Int -> Int -> Int -> Int -> Int -> Int -> Int -> Int -> Int -> Int -> Int -> Bool -> List Int -> List Int -> List Int -> List Int -> Option rvoiced.loop10.R
 | 0,_,_,_,_,_,_,_,_,_,_,_,_,_,_,_,_,_,_,_,_,_,_ => none
 | nn + 1,q,e,g,a,c,b,v,p,s,t,m,j,h,i,d,k,w,l,u,f,n,o =>
 (br (decide (p < i64.wrap (q.tdiv 5)))
 (br (p == 0)
 (br c
 (obind (Rc.icdf.F N (1)) fun r0 =>
 (obind (Rc.rsymbol.F N s t m j h i d k w l r0 b) fun r1 =>
 (obind (Rc.ruint.F N (8) r1.2.1 r1.2.2.1 r1.2.2.2.1 r1.2.2.2.2.1 h i d r1.2.2.2.2.2.1 r1.2.2.2.2.2.2 l b) fun r2 =>
 (chk (f.length + [i64.wrap (i64.wrap (8 * r1.1) + r2.1)].length <= (17592186043904 : Nat))
 (chkI q q
 (chkL b b
 (chkB c c
 (chkI e e
 (chkI g g
 (chkI a a
 (rvoiced.loop10 N nn q e g a c b (i64.wrap (i64.wrap (8 * r1.1) + r2.1)) (i64.wrap (p + 1)) r2.2.1 r2.2.2.1 r2.2.2.2.1 r2.2.2.2.2.1 r2.2.2.2.2.2.1 r2.2.2.2.2.2.2.1 r2.2.2.2.2.2.2.2.1 r2.2.2.2.2.2.2.2.2.1 r2.2.2.2.2.2.2.2.2.2.1 r2.2.2.2.2.2.2.2.2.2.2 u (f ++ [i64.wrap (i64.wrap (8 * r1.1) + r2.1)]) n o)))))))))))
 (obind (Rc.rclamp.F N v (0) (63)) fun r3 =>
 (obind (Rc.icdf.F N (2)) fun r4 =>
 (obind (Rc.rsymbol.F N s t m j h i d k w l r4 b) fun r5 =>
 (obind (Rc.rclamp.F N (i64.wrap (i64.wrap (r3 + r5.1) - 8)) (0) (63)) fun r6 =>
 (chk (f.length + [r6].length <= (17592186043904 : Nat))
 (chkI q q
 (chkL b b
 (chkB c c
 (chkI e e
 (chkI g g
 (chkI a a
 (rvoiced.loop10 N nn q e g a c b r6 (i64.wrap (p + 1)) r5.2.1 r5.2.2.1 r5.2.2.2.1 r5.2.2.2.2.1 h i d r5.2.2.2.2.2.1 r5.2.2.2.2.2.2 l u (f ++ [r6]) n o)))))))))))))
 (obind (Rc.rclamp.F N v (0) (63)) fun r7 =>
 (obind (Rc.icdf.F N (2)) fun r8 =>
 (obind (Rc.rsymbol.F N s t m j h i d k w l r8 b) fun r9 =>
 (obind (Rc.rclamp.F N (i64.wrap (i64.wrap (r7 + r9.1) - 8)) (0) (63)) fun r10 =>
 (chk (f.length + [r10].length <= (17592186043904 : Nat))
 (chkI q q
 (chkL b b
 (chkB c c
 (chkI e e
 (chkI g g
 (chkI a a
 (rvoiced.loop10 N nn q e g a c b r10 (i64.wrap (p + 1)) r9.2.1 r9.2.2.1 r9.2.2.2.1 r9.2.2.2.2.1 h i d r9.2.2.2.2.2.1 r9.2.2.2.2.2.2 l u (f ++ [r10]) n o)))))))))))))
 (chkL b b
 (chkB c c
 (chkI e e
 (chkI g g
 (chkI a a
 (some ((s,t,m,j,h,i,d,k,w,l,u,f,n,o)))))))))
def rvoiced.loop10R (N nn : Nat) (v h n a : Int) (d : Bool) (b : List Int) (o p q s i e j k c f w : Int) (t : Bool) (u g l m : List Int) : Option rvoiced.loop10.R := loopF rvoiced.loop10.ann (mkL [v,h,n,a] [d] [b] []) (evCode ((rvoiced.C N).inLoop rvoiced.loop10.ann) (rvoiced.K N) (inlTab (rvoiced.C N) 0) (bodyAt 10 Tryz.f27)) nn (mkL [o,p,q,s,i,e,j,k,c,f,w] [t] [u,g,l,m] [])
theorem rvoiced.loop10_eq (N : Nat) : ∀ nn,rvoiced.loop10R N nn = rvoiced.loop10 N nn := lq fun _ h => by funext; rw [rvoiced.loop10,<- h]; kernel_rfl
def rvoiced.loop5 (N : Nat) : Nat -> Int -> Int -> Int -> Int -> Int -> Int -> Int -> Bool -> Bool -> List Int -> Int -> Int -> Int -> Int -> Int -> Int -> Int -> List Int -> List Int -> List Int -> List Int -> Option rvoiced.loop5.R
 | 0,_,_,_,_,_,_,_,_,_,_,_,_,_,_,_,_,_,_,_,_,_ => none
 | nn + 1,h,e,f,a,g,j,c,i,d,b,s,t,u,n,k,l,v,q,m,o,p =>
 (obind (Rc.rorder.F N h) fun r0 =>
 (br (decide (s < r0))
 (obind (Rc.icdf.F N (4)) fun r1 =>
 (obind (Rc.rsymbol.F N t u n k e f a l v i r1 b) fun r2 =>
 (chk (q.length + [i64.wrap (r2.1 - 4)].length <= (17592186043904 : Nat))
 (chkI h h
 (chkL b b
 (chkI e e
 (chkI f f
 (chkI a a
 (chkB i i
 (chkB d d
 (chkI g g
 (chkI j j
 (chkI c c
 (rvoiced.loop5 N nn h e f a g j c i d b (i64.wrap (s + 1)) r2.2.1 r2.2.2.1 r2.2.2.2.1 r2.2.2.2.2.1 r2.2.2.2.2.2.1 r2.2.2.2.2.2.2 (q ++ [i64.wrap (r2.1 - 4)]) m o p))))))))))))))
 (chkL b b
 (chkI e e
 (chkI f f
 (chkI a a
 (chkB i i
 (chkB d d
 (chkI g g
 (chkI j j
 (chkI c c
 (some ((t,u,n,k,l,v,q,m,o,p))))))))))))))
def rvoiced.loop5R (N nn : Nat) (h i j a k o c : Int) (p d : Bool) (b : List Int) (q s t l e f v : Int) (u g m n : List Int) : Option rvoiced.loop5.R := loopF rvoiced.loop5.ann (mkL [h,i,j,a,k,o,c] [p,d] [b] []) (evCode ((rvoiced.C N).inLoop rvoiced.loop5.ann) (rvoiced.K N) (inlTab (rvoiced.C N) 0) (bodyAt 5 Tryz.f27)) nn (mkL [q,s,t,l,e,f,v] [] [u,g,m,n] [])
theorem rvoiced.loop5_eq (N : Nat) : ∀ nn,rvoiced.loop5R N nn = rvoiced.loop5 N nn := lq fun _ h => by funext; rw [rvoiced.loop5,<- h]; kernel_rfl
def rvoiced.F (N : Nat) (a l m h i f c j k d g n : Int) (e : Bool) (b : List Int) : Option rvoiced.R :=
 (obind (Rc.rbits.F N (1) h i f c j k d g n e b) fun r0 =>
 (obind (Rc.icdf.F N (0)) fun r1 =>
 (obind (Rc.rsymbol.F N h i f c r0.2.1 r0.2.2.1 r0.2.2.2.1 r0.2.2.2.2 n e r1 b) fun r2 =>
 (obind (Rc.icdf.F N (3)) fun r3 =>
 (obind (Rc.rsymbol.F N r2.2.1 r2.2.2.1 r2.2.2.2.1 r2.2.2.2.2.1 r0.2.1 r0.2.2.1 r0.2.2.2.1 r2.2.2.2.2.2.1 r2.2.2.2.2.2.2 e r3 b) fun r4 =>
 (obind (rvoiced.loop5 N N a r0.2.1 r0.2.2.1 r0.2.2.2.1 r2.1 r4.1 (0) e (r0.1 == 1) b (0) r4.2.1 r4.2.2.1 r4.2.2.2.1 r4.2.2.2.2.1 r4.2.2.2.2.2.1 r4.2.2.2.2.2.2 (([] : List Int)) (([] : List Int)) (([] : List Int)) (([] : List Int))) fun r5 =>
 (obind (Rc.ruint.F N (5) r5.1 r5.2.1 r5.2.2.1 r5.2.2.2.1 r0.2.1 r0.2.2.1 r0.2.2.2.1 r5.2.2.2.2.1 r5.2.2.2.2.2.1 e b) fun r6 =>
 (obind (rvoiced.loop10 N N l r2.1 r4.1 r6.1 (r0.1 == 1) b m (0) r6.2.1 r6.2.2.1 r6.2.2.2.1 r6.2.2.2.2.1 r6.2.2.2.2.2.1 r6.2.2.2.2.2.2.1 r6.2.2.2.2.2.2.2.1 r6.2.2.2.2.2.2.2.2.1 r6.2.2.2.2.2.2.2.2.2.1 r6.2.2.2.2.2.2.2.2.2.2 r5.2.2.2.2.2.2.1 r5.2.2.2.2.2.2.2.1 r5.2.2.2.2.2.2.2.2.1 r5.2.2.2.2.2.2.2.2.2) fun r7 =>
 (br (r2.1 == 2)
 (obind (Rc.rlags.F N a) fun r8 =>
 (obind (rvoiced.loop20 N N l r8.1 r8.2 r2.1 r4.1 r6.1 (r0.1 == 1) b (0) r7.1 r7.2.1 r7.2.2.1 r7.2.2.2.1 r7.2.2.2.2.1 r7.2.2.2.2.2.1 r7.2.2.2.2.2.2.1 r7.2.2.2.2.2.2.2.1 r7.2.2.2.2.2.2.2.2.1 r7.2.2.2.2.2.2.2.2.2.1 r7.2.2.2.2.2.2.2.2.2.2.1 r7.2.2.2.2.2.2.2.2.2.2.2.1 r7.2.2.2.2.2.2.2.2.2.2.2.2.1 r7.2.2.2.2.2.2.2.2.2.2.2.2.2) fun r9 =>
 (br (decide (r2.1 > 0))
 (obind (Rc.rpulses.F N (i64.wrap ((i64.wrap (a * l)).tdiv 1000)) r9.1 r9.2.1 r9.2.2.1 r9.2.2.2.1 r9.2.2.2.2.1 r9.2.2.2.2.2.1 r9.2.2.2.2.2.2.1 r9.2.2.2.2.2.2.2.1 r9.2.2.2.2.2.2.2.2.1 r9.2.2.2.2.2.2.2.2.2.1 b) fun r10 =>
 (chkL b b
 (some ((r2.1,r4.1,r6.1,r10.1,r10.2.1,r10.2.2.1,r10.2.2.2.1,r10.2.2.2.2.1,r10.2.2.2.2.2.1,r10.2.2.2.2.2.2.1,r10.2.2.2.2.2.2.2.1,r10.2.2.2.2.2.2.2.2.1,r0.1 == 1,r10.2.2.2.2.2.2.2.2.2.1,r9.2.2.2.2.2.2.2.2.2.2.1,r9.2.2.2.2.2.2.2.2.2.2.2.1,r9.2.2.2.2.2.2.2.2.2.2.2.2.1,r9.2.2.2.2.2.2.2.2.2.2.2.2.2,r10.2.2.2.2.2.2.2.2.2.2)))))
 (chkL b b
 (some ((r2.1,r4.1,r6.1,r9.1,r9.2.1,r9.2.2.1,r9.2.2.2.1,r9.2.2.2.2.1,r9.2.2.2.2.2.1,r9.2.2.2.2.2.2.1,r9.2.2.2.2.2.2.2.1,r9.2.2.2.2.2.2.2.2.1,r0.1 == 1,r9.2.2.2.2.2.2.2.2.2.1,r9.2.2.2.2.2.2.2.2.2.2.1,r9.2.2.2.2.2.2.2.2.2.2.2.1,r9.2.2.2.2.2.2.2.2.2.2.2.2.1,r9.2.2.2.2.2.2.2.2.2.2.2.2.2,([] : List Int))))))))
 (br (decide (r2.1 > 0))
 (obind (Rc.rpulses.F N (i64.wrap ((i64.wrap (a * l)).tdiv 1000)) r7.1 r7.2.1 r7.2.2.1 r7.2.2.2.1 r7.2.2.2.2.1 r7.2.2.2.2.2.1 r7.2.2.2.2.2.2.1 r7.2.2.2.2.2.2.2.1 r7.2.2.2.2.2.2.2.2.1 r7.2.2.2.2.2.2.2.2.2.1 b) fun r11 =>
 (chkL b b
 (some ((r2.1,r4.1,r6.1,r11.1,r11.2.1,r11.2.2.1,r11.2.2.2.1,r11.2.2.2.2.1,r11.2.2.2.2.2.1,r11.2.2.2.2.2.2.1,r11.2.2.2.2.2.2.2.1,r11.2.2.2.2.2.2.2.2.1,r0.1 == 1,r11.2.2.2.2.2.2.2.2.2.1,r7.2.2.2.2.2.2.2.2.2.2.1,r7.2.2.2.2.2.2.2.2.2.2.2.1,r7.2.2.2.2.2.2.2.2.2.2.2.2.1,r7.2.2.2.2.2.2.2.2.2.2.2.2.2,r11.2.2.2.2.2.2.2.2.2.2)))))
 (chkL b b
 (some ((r2.1,r4.1,r6.1,r7.1,r7.2.1,r7.2.2.1,r7.2.2.2.1,r7.2.2.2.2.1,r7.2.2.2.2.2.1,r7.2.2.2.2.2.2.1,r7.2.2.2.2.2.2.2.1,r7.2.2.2.2.2.2.2.2.1,r0.1 == 1,r7.2.2.2.2.2.2.2.2.2.1,r7.2.2.2.2.2.2.2.2.2.2.1,r7.2.2.2.2.2.2.2.2.2.2.2.1,r7.2.2.2.2.2.2.2.2.2.2.2.2.1,r7.2.2.2.2.2.2.2.2.2.2.2.2.2,([] : List Int)))))))))))))))
noncomputable def rvoiced.spec : Eng.Spec := rvoiced.sig.spec (fun N L => rvoiced.F N (L.i 0) (L.i 1) (L.i 2) (L.i 3) (L.i 4) (L.i 5) (L.i 6) (L.i 7) (L.i 8) (L.i 9) (L.i 10) (L.i 11) (L.b 0) (L.l 0)) rvoiced.enc
theorem rvoiced.ok : CallOK Tryz.prog 27 rvoiced.spec := ok2 rvoiced.C rvoiced.K Tryz.f27 rvoiced.dec (fun _ => ⟨rbits.ok,icdf.ok,rsymbol.ok,rorder.ok,ruint.ok,rclamp.ok,rlags.ok,rpulses.ok,trivial⟩) (fun _ => ⟨fun _ _ => ⟨rfl,rfl⟩,fun _ _ => ⟨rfl,rfl⟩,fun _ _ => ⟨rfl,rfl⟩,trivial⟩) (by intro N L; show _ = rvoiced.F N (L.i 0) (L.i 1) (L.i 2) (L.i 3) (L.i 4) (L.i 5) (L.i 6) (L.i 7) (L.i 8) (L.i 9) (L.i 10) (L.i 11) (L.b 0) (L.l 0); rw [rvoiced.F,<- funext (rvoiced.loop5_eq N),<- funext (rvoiced.loop10_eq N),<- funext (rvoiced.loop20_eq N)]; kernel_rfl)
def same14.sig : Eng.Sig := { args := [.at (.roi .i64 0),.at (.roi .i64 1)],ret := .at (.bool 0) }
def same14.C (N : Nat) : Cfg := { P := Tryz.prog,N := N,RT := noRT,specs := [] }
abbrev same14.R : Type := Bool
def same14.dec (L : Eng.Leaves) : same14.R := (L.b 0)
def same14.enc (r : same14.R) : Eng.Leaves := mkL [] [r] [] []
abbrev same14.loop4.R : Type := Bool
def same14.loop4.ann : Ann := { nx := 20,slots := [(0,.at (.froi .i64 0)),(1,.at (.froi .i64 1)),(4,.at (.bool 0)),(5,.at (.int .i64 0))],xslots := [(4,.at (.bool 0))],T := same14.loop4.R,dec := fun L => (L.b 0),enc := fun r => mkL [] [r] [] [],ret := true }
def same14.K (N : Nat) : FCfg := { anns := [(4,same14.loop4.ann)] }
def same14.loop4 (N : Nat) : Nat -> List Int -> List Int -> List Int -> List Int -> Int -> Bool -> Option (same14.loop4.R ⊕ same14.R)
 | 0,_,_,_,_,_,_ => none
 | nn + 1,d,e,a,b,c,f =>
 (br (decide (c < ↑a.length))
 (chk ((0 : Int) <= c /\ c < ↑a.length)
 (chk ((0 : Int) <= c /\ c < ↑b.length)
 (br (a.getD c.toNat 0 != b.getD c.toNat 0)
 (omap
 (some false) .inr)
 (chkL a a
 (chkL b b
 (same14.loop4 N nn d e a b (i64.wrap (c + 1)) f))))))
 (some (Sum.inl f)))
def same14.loop4R (N nn : Nat) (c d : List Int) (a b : List Int) (e : Int) (f : Bool) : Option (same14.loop4.R ⊕ same14.R) := loopR same14.loop4.ann (mkL [] [] [a,b] []) (evCode ((same14.C N).inLoop same14.loop4.ann) (same14.K N) (inlTab (same14.C N) 0) (bodyAt 4 Tryz.f19)) (sigKr Tryz.prog Tryz.f19 same14.sig (mkL [] [] [c,d] []) fun L => (L.b 0)) nn (mkL [e] [f] [] [])
theorem same14.loop4_eq (N : Nat) : ∀ nn,same14.loop4R N nn = same14.loop4 N nn := lq fun _ h => by funext; rw [same14.loop4,<- h]; kernel_rfl
def same14.F (N : Nat) (a b : List Int) : Option same14.R :=
 (br ((a.length : Int) != ↑b.length)
 (some false)
 (osum (same14.loop4 N N a b a b (0) false) fun r0 =>
 (some true)))
noncomputable def same14.spec : Eng.Spec := same14.sig.spec (fun N L => same14.F N (L.l 0) (L.l 1)) same14.enc
theorem same14.ok : CallOK Tryz.prog 19 same14.spec := ok2 same14.C same14.K Tryz.f19 same14.dec (fun _ => trivial) (fun _ => ⟨fun _ _ => ⟨rfl,rfl⟩,trivial⟩) (by intro N L; show _ = same14.F N (L.l 0) (L.l 1); rw [same14.F,<- funext (same14.loop4_eq N)]; kernel_rfl)
def ints14.sig : Eng.Sig := { args := [.at (.roi .i64 0),.at (.roi .i64 1)],ret := .at (.bool 0) }
def ints14.C (N : Nat) : Cfg := { P := Tryz.prog,N := N,RT := noRT,specs := [] }
abbrev ints14.R : Type := Bool
def ints14.dec (L : Eng.Leaves) : ints14.R := (L.b 0)
def ints14.enc (r : ints14.R) : Eng.Leaves := mkL [] [r] [] []
abbrev ints14.loop4.R : Type := Bool
def ints14.loop4.ann : Ann := { nx := 20,slots := [(0,.at (.froi .i64 0)),(1,.at (.froi .i64 1)),(4,.at (.bool 0)),(5,.at (.int .i64 0))],xslots := [(4,.at (.bool 0))],T := ints14.loop4.R,dec := fun L => (L.b 0),enc := fun r => mkL [] [r] [] [],ret := true }
def ints14.K (N : Nat) : FCfg := { anns := [(4,ints14.loop4.ann)] }
def ints14.loop4 (N : Nat) : Nat -> List Int -> List Int -> List Int -> List Int -> Int -> Bool -> Option (ints14.loop4.R ⊕ ints14.R)
 | 0,_,_,_,_,_,_ => none
 | nn + 1,d,e,a,b,c,f =>
 (br (decide (c < ↑a.length))
 (chk ((0 : Int) <= c /\ c < ↑a.length)
 (chk ((0 : Int) <= c /\ c < ↑b.length)
 (br (a.getD c.toNat 0 != b.getD c.toNat 0)
 (omap
 (some false) .inr)
 (chkL a a
 (chkL b b
 (ints14.loop4 N nn d e a b (i64.wrap (c + 1)) f))))))
 (some (Sum.inl f)))
def ints14.loop4R (N nn : Nat) (c d : List Int) (a b : List Int) (e : Int) (f : Bool) : Option (ints14.loop4.R ⊕ ints14.R) := loopR ints14.loop4.ann (mkL [] [] [a,b] []) (evCode ((ints14.C N).inLoop ints14.loop4.ann) (ints14.K N) (inlTab (ints14.C N) 0) (bodyAt 4 Tryz.f23)) (sigKr Tryz.prog Tryz.f23 ints14.sig (mkL [] [] [c,d] []) fun L => (L.b 0)) nn (mkL [e] [f] [] [])
theorem ints14.loop4_eq (N : Nat) : ∀ nn,ints14.loop4R N nn = ints14.loop4 N nn := lq fun _ h => by funext; rw [ints14.loop4,<- h]; kernel_rfl
def ints14.F (N : Nat) (a b : List Int) : Option ints14.R :=
 (br ((a.length : Int) != ↑b.length)
 (some false)
 (osum (ints14.loop4 N N a b a b (0) false) fun r0 =>
 (some true)))
noncomputable def ints14.spec : Eng.Spec := ints14.sig.spec (fun N L => ints14.F N (L.l 0) (L.l 1)) ints14.enc
theorem ints14.ok : CallOK Tryz.prog 23 ints14.spec := ok2 ints14.C ints14.K Tryz.f23 ints14.dec (fun _ => trivial) (fun _ => ⟨fun _ _ => ⟨rfl,rfl⟩,trivial⟩) (by intro N L; show _ = ints14.F N (L.l 0) (L.l 1); rw [ints14.F,<- funext (ints14.loop4_eq N)]; kernel_rfl)
def good14.sig : Eng.Sig := { args := [.at (.int .i64 0),.at (.int .i64 1),.agg [.bool 0,.int .i64 2,.int .i64 3,.roi .i64 0,.int .i64 4,.roi .i64 1,.rro ⟨[.i64,.i64],none,false⟩ 0,.roi .i64 2]],ret := .at (.bool 0) }
def good14.C (N : Nat) : Cfg := { P := Tryz.prog,N := N,RT := noRT,specs := [(69,r6good.spec),(70,rlags.spec),(71,rgood9.spec)] }
abbrev good14.R : Type := Bool
def good14.dec (L : Eng.Leaves) : good14.R := (L.b 0)
def good14.enc (r : good14.R) : Eng.Leaves := mkL [] [r] [] []
abbrev good14.loop9.R : Type := Bool
def good14.loop9.ann : Ann := { nx := 20,slots := [(5,.at (.ptr 0 0)),(6,.at (.bool 0)),(8,.at (.int .i64 0))],blks := [(0,.cells 8 [.fbool 0,.fint .i64 0,.fint .i64 1,.froi .i64 0,.fint .i64 2,.froi .i64 1,.frro ⟨[.i64,.i64],none,false⟩ 0,.froi .i64 2])],xslots := [(5,.at (.ptr 0 0)),(6,.at (.bool 0))],xblks := [(0,.cells 8 [.fbool 0,.fint .i64 0,.fint .i64 1,.froi .i64 0,.fint .i64 2,.froi .i64 1,.frro ⟨[.i64,.i64],none,false⟩ 0,.froi .i64 2])],T := good14.loop9.R,dec := fun L => (L.b 0),enc := fun r => mkL [] [r] [] [],ret := true }
abbrev good14.loop15.R : Type := Bool
def good14.loop15.ann : Ann := { nx := 20,slots := [(5,.at (.ptr 0 0)),(6,.at (.bool 0)),(9,.at (.fint .i64 0)),(10,.at (.fint .i64 1)),(11,.at (.int .i64 0))],blks := [(0,.cells 8 [.fbool 0,.fint .i64 2,.fint .i64 3,.froi .i64 0,.fint .i64 4,.froi .i64 1,.frro ⟨[.i64,.i64],none,false⟩ 0,.froi .i64 2])],exId := 2,xslots := [(5,.at (.ptr 0 0)),(6,.at (.bool 0))],xblks := [(0,.cells 8 [.fbool 0,.fint .i64 2,.fint .i64 3,.froi .i64 0,.fint .i64 4,.froi .i64 1,.frro ⟨[.i64,.i64],none,false⟩ 0,.froi .i64 2])],T := good14.loop15.R,dec := fun L => (L.b 0),enc := fun r => mkL [] [r] [] [],ret := true }
def good14.K (N : Nat) : FCfg := { anns := [(9,good14.loop9.ann),(15,good14.loop15.ann)] }
def good14.loop15 (N : Nat) : Nat -> Int -> Int -> Int -> Int -> Int -> Bool -> List Int -> List Int -> List Int -> List (List Int) -> Int -> Int -> Int -> Int -> Int -> Bool -> List Int -> List Int -> List Int -> List (List Int) -> Int -> Bool -> Option (good14.loop15.R ⊕ good14.R)
 | 0,_,_,_,_,_,_,_,_,_,_,_,_,_,_,_,_,_,_,_,_,_,_ => none
 | nn + 1,s,u,n,g,h,l,i,m,j,o,v,t,k,p,b,e,q,f,c,a,d,w =>
 (br (decide (d < ↑a.length))
 (chk ((0 : Int) <= d /\ d < ↑a.length)
 (br (decide ((a.getD d.toNat ([] : List Int)).headD 0 < v))
 (omap
 (some false) .inr)
 (chk ((0 : Int) <= d /\ d < ↑a.length)
 (br (decide ((a.getD d.toNat ([] : List Int)).headD 0 > t))
 (omap
 (some false) .inr)
 (chk ((0 : Int) <= d /\ d < ↑a.length)
 (br (decide ((a.getD d.toNat ([] : List Int)).tail.headD (0 : Int) < (0 : Int)))
 (omap
 (some false) .inr)
 (chk ((0 : Int) <= d /\ d < ↑a.length)
 (br (decide ((a.getD d.toNat ([] : List Int)).tail.headD (0 : Int) > (7 : Int)))
 (omap
 (some false) .inr)
 (chkI v v
 (chkI t t
 (chkB e e
 (chkI k k
 (chkI p p
 (chkL q q
 (chkI b b
 (chkL f f
 (chkR a a
 (chkL c c
 (good14.loop15 N nn s u n g h l i m j o v t k p b e q f c a (i64.wrap (d + 1)) w)))))))))))))))))))
 (chkB e e
 (chkI k k
 (chkI p p
 (chkL q q
 (chkI b b
 (chkL f f
 (chkR a a
 (chkL c c
 (some (Sum.inl w)))))))))))
def good14.loop15R (N nn : Nat) (k o h a c : Int) (f : Bool) (d g e : List Int) (i : List (List Int)) (w s p t j : Int) (m : Bool) (u n l : List Int) (q : List (List Int)) (v : Int) (x : Bool) : Option (good14.loop15.R ⊕ good14.R) := loopR good14.loop15.ann (mkL [w,s,p,t,j] [m] [u,n,l] [q]) (evCode ((good14.C N).inLoop good14.loop15.ann) (good14.K N) (inlTab (good14.C N) 0) (bodyAt 15 Tryz.f20)) (sigKr Tryz.prog Tryz.f20 good14.sig (mkL [k,o,h,a,c] [f] [d,g,e] [i]) fun L => (L.b 0)) nn (mkL [v] [x] [] [])
theorem good14.loop15_eq (N : Nat) : ∀ nn,good14.loop15R N nn = good14.loop15 N nn := lq fun _ h => by funext; rw [good14.loop15,<- h]; kernel_rfl
def good14.loop9 (N : Nat) : Nat -> Int -> Int -> Int -> Int -> Int -> Bool -> List Int -> List Int -> List Int -> List (List Int) -> Int -> Int -> Int -> Bool -> List Int -> List Int -> List Int -> List (List Int) -> Int -> Bool -> Option (good14.loop9.R ⊕ good14.R)
 | 0,_,_,_,_,_,_,_,_,_,_,_,_,_,_,_,_,_,_,_,_ => none
 | nn + 1,q,t,m,e,f,k,g,l,h,n,i,o,b,d,p,a,c,j,s,u =>
 (br (decide (s < ↑a.length))
 (chk ((0 : Int) <= s /\ s < ↑a.length)
 (br (decide (a.getD s.toNat (0 : Int) < (0 : Int)))
 (omap
 (some false) .inr)
 (chk ((0 : Int) <= s /\ s < ↑a.length)
 (br (decide (a.getD s.toNat (0 : Int) > (63 : Int)))
 (omap
 (some false) .inr)
 (chkB d d
 (chkI i i
 (chkI o o
 (chkL p p
 (chkI b b
 (chkL a a
 (chkR j j
 (chkL c c
 (good14.loop9 N nn q t m e f k g l h n i o b d p a c j (i64.wrap (s + 1)) u)))))))))))))
 (chkB d d
 (chkI i i
 (chkI o o
 (chkL p p
 (chkI b b
 (chkL a a
 (chkR j j
 (chkL c c
 (some (Sum.inl u)))))))))))
def good14.loop9R (N nn : Nat) (k o h a c : Int) (f : Bool) (d g e : List Int) (i : List (List Int)) (p s j : Int) (m : Bool) (t n l : List Int) (q : List (List Int)) (u : Int) (v : Bool) : Option (good14.loop9.R ⊕ good14.R) := loopR good14.loop9.ann (mkL [p,s,j] [m] [t,n,l] [q]) (evCode ((good14.C N).inLoop good14.loop9.ann) (good14.K N) (inlTab (good14.C N) 0) (bodyAt 9 Tryz.f20)) (sigKr Tryz.prog Tryz.f20 good14.sig (mkL [k,o,h,a,c] [f] [d,g,e] [i]) fun L => (L.b 0)) nn (mkL [u] [v] [] [])
theorem good14.loop9_eq (N : Nat) : ∀ nn,good14.loop9R N nn = good14.loop9 N nn := lq fun _ h => by funext; rw [good14.loop9,<- h]; kernel_rfl
def good14.F (N : Nat) (i j b c d : Int) (h : Bool) (e g a : List Int) (f : List (List Int)) : Option good14.R :=
 (br (i != 8000)
 (br (i != 16000)
 (some false)
 (br (j != 10)
 (br (j != 20)
 (some false)
 (br (decide (b < 0))
 (some false)
 (br (decide (b > 2))
 (some false)
 (br (decide (d < 0))
 (some false)
 (br (decide (d > 4))
 (some false)
 (br (↑g.length != i64.wrap (j.tdiv (5 : Int)))
 (some false)
 (br (i == 16000)
 (obind (Rc.r6good.F N (16) c e) fun r0 =>
 (br (!r0)
 (some false)
 (osum (good14.loop9 N N i j b c d h e g a f b c d h e g a f (0) false) fun r1 =>
 (obind (Rc.rlags.F N i) fun r2 =>
 (osum (good14.loop15 N N i j b c d h e g a f r2.1 r2.2 b c d h e g a f (0) r1) fun r3 =>
 (br (b == 2)
 (br (↑f.length != i64.wrap (j.tdiv (5 : Int)))
 (some false)
 (br (b != 2)
 (br (↑f.length != (0 : Int))
 (some false)
 (br (b == 0)
 (some (↑a.length == (0 : Int)))
 (br (↑a.length == i64.wrap ((i64.wrap (i * j)).tdiv (1000 : Int)))
 (obind (Rc.rgood9.F N a) fun r4 =>
 (some r4))
 (some false))))
 (br (b == 0)
 (some (↑a.length == (0 : Int)))
 (br (↑a.length == i64.wrap ((i64.wrap (i * j)).tdiv (1000 : Int)))
 (obind (Rc.rgood9.F N a) fun r5 =>
 (some r5))
 (some false)))))
 (br (b != 2)
 (br (↑f.length != (0 : Int))
 (some false)
 (br (b == 0)
 (some (↑a.length == (0 : Int)))
 (br (↑a.length == i64.wrap ((i64.wrap (i * j)).tdiv (1000 : Int)))
 (obind (Rc.rgood9.F N a) fun r6 =>
 (some r6))
 (some false))))
 (br (b == 0)
 (some (↑a.length == (0 : Int)))
 (br (↑a.length == i64.wrap ((i64.wrap (i * j)).tdiv (1000 : Int)))
 (obind (Rc.rgood9.F N a) fun r7 =>
 (some r7))
 (some false))))))))))
 (obind (Rc.r6good.F N (10) c e) fun r8 =>
 (br (!r8)
 (some false)
 (osum (good14.loop9 N N i j b c d h e g a f b c d h e g a f (0) false) fun r9 =>
 (obind (Rc.rlags.F N i) fun r10 =>
 (osum (good14.loop15 N N i j b c d h e g a f r10.1 r10.2 b c d h e g a f (0) r9) fun r11 =>
 (br (b == 2)
 (br (↑f.length != i64.wrap (j.tdiv (5 : Int)))
 (some false)
 (br (b != 2)
 (br (↑f.length != (0 : Int))
 (some false)
 (br (b == 0)
 (some (↑a.length == (0 : Int)))
 (br (↑a.length == i64.wrap ((i64.wrap (i * j)).tdiv (1000 : Int)))
 (obind (Rc.rgood9.F N a) fun r12 =>
 (some r12))
 (some false))))
 (br (b == 0)
 (some (↑a.length == (0 : Int)))
 (br (↑a.length == i64.wrap ((i64.wrap (i * j)).tdiv (1000 : Int)))
 (obind (Rc.rgood9.F N a) fun r13 =>
 (some r13))
 (some false)))))
 (br (b != 2)
 (br (↑f.length != (0 : Int))
 (some false)
 (br (b == 0)
 (some (↑a.length == (0 : Int)))
 (br (↑a.length == i64.wrap ((i64.wrap (i * j)).tdiv (1000 : Int)))
 (obind (Rc.rgood9.F N a) fun r14 =>
 (some r14))
 (some false))))
 (br (b == 0)
 (some (↑a.length == (0 : Int)))
 (br (↑a.length == i64.wrap ((i64.wrap (i * j)).tdiv (1000 : Int)))
 (obind (Rc.rgood9.F N a) fun r15 =>
 (some r15))
 (some false)))))))))))))))))
 (br (decide (b < 0))
 (some false)
 (br (decide (b > 2))
 (some false)
 (br (decide (d < 0))
 (some false)
 (br (decide (d > 4))
 (some false)
 (br (↑g.length != i64.wrap (j.tdiv (5 : Int)))
 (some false)
 (br (i == 16000)
 (obind (Rc.r6good.F N (16) c e) fun r16 =>
 (br (!r16)
 (some false)
 (osum (good14.loop9 N N i j b c d h e g a f b c d h e g a f (0) false) fun r17 =>
 (obind (Rc.rlags.F N i) fun r18 =>
 (osum (good14.loop15 N N i j b c d h e g a f r18.1 r18.2 b c d h e g a f (0) r17) fun r19 =>
 (br (b == 2)
 (br (↑f.length != i64.wrap (j.tdiv (5 : Int)))
 (some false)
 (br (b != 2)
 (br (↑f.length != (0 : Int))
 (some false)
 (br (b == 0)
 (some (↑a.length == (0 : Int)))
 (br (↑a.length == i64.wrap ((i64.wrap (i * j)).tdiv (1000 : Int)))
 (obind (Rc.rgood9.F N a) fun r20 =>
 (some r20))
 (some false))))
 (br (b == 0)
 (some (↑a.length == (0 : Int)))
 (br (↑a.length == i64.wrap ((i64.wrap (i * j)).tdiv (1000 : Int)))
 (obind (Rc.rgood9.F N a) fun r21 =>
 (some r21))
 (some false)))))
 (br (b != 2)
 (br (↑f.length != (0 : Int))
 (some false)
 (br (b == 0)
 (some (↑a.length == (0 : Int)))
 (br (↑a.length == i64.wrap ((i64.wrap (i * j)).tdiv (1000 : Int)))
 (obind (Rc.rgood9.F N a) fun r22 =>
 (some r22))
 (some false))))
 (br (b == 0)
 (some (↑a.length == (0 : Int)))
 (br (↑a.length == i64.wrap ((i64.wrap (i * j)).tdiv (1000 : Int)))
 (obind (Rc.rgood9.F N a) fun r23 =>
 (some r23))
 (some false))))))))))
 (obind (Rc.r6good.F N (10) c e) fun r24 =>
 (br (!r24)
 (some false)
 (osum (good14.loop9 N N i j b c d h e g a f b c d h e g a f (0) false) fun r25 =>
 (obind (Rc.rlags.F N i) fun r26 =>
 (osum (good14.loop15 N N i j b c d h e g a f r26.1 r26.2 b c d h e g a f (0) r25) fun r27 =>
 (br (b == 2)
 (br (↑f.length != i64.wrap (j.tdiv (5 : Int)))
 (some false)
 (br (b != 2)
 (br (↑f.length != (0 : Int))
 (some false)
 (br (b == 0)
 (some (↑a.length == (0 : Int)))
 (br (↑a.length == i64.wrap ((i64.wrap (i * j)).tdiv (1000 : Int)))
 (obind (Rc.rgood9.F N a) fun r28 =>
 (some r28))
 (some false))))
 (br (b == 0)
 (some (↑a.length == (0 : Int)))
 (br (↑a.length == i64.wrap ((i64.wrap (i * j)).tdiv (1000 : Int)))
 (obind (Rc.rgood9.F N a) fun r29 =>
 (some r29))
 (some false)))))
 (br (b != 2)
 (br (↑f.length != (0 : Int))
 (some false)
 (br (b == 0)
 (some (↑a.length == (0 : Int)))
 (br (↑a.length == i64.wrap ((i64.wrap (i * j)).tdiv (1000 : Int)))
 (obind (Rc.rgood9.F N a) fun r30 =>
 (some r30))
 (some false))))
 (br (b == 0)
 (some (↑a.length == (0 : Int)))
 (br (↑a.length == i64.wrap ((i64.wrap (i * j)).tdiv (1000 : Int)))
 (obind (Rc.rgood9.F N a) fun r31 =>
 (some r31))
 (some false))))))))))))))))))
 (br (j != 10)
 (br (j != 20)
 (some false)
 (br (decide (b < 0))
 (some false)
 (br (decide (b > 2))
 (some false)
 (br (decide (d < 0))
 (some false)
 (br (decide (d > 4))
 (some false)
 (br (↑g.length != i64.wrap (j.tdiv (5 : Int)))
 (some false)
 (br (i == 16000)
 (obind (Rc.r6good.F N (16) c e) fun r32 =>
 (br (!r32)
 (some false)
 (osum (good14.loop9 N N i j b c d h e g a f b c d h e g a f (0) false) fun r33 =>
 (obind (Rc.rlags.F N i) fun r34 =>
 (osum (good14.loop15 N N i j b c d h e g a f r34.1 r34.2 b c d h e g a f (0) r33) fun r35 =>
 (br (b == 2)
 (br (↑f.length != i64.wrap (j.tdiv (5 : Int)))
 (some false)
 (br (b != 2)
 (br (↑f.length != (0 : Int))
 (some false)
 (br (b == 0)
 (some (↑a.length == (0 : Int)))
 (br (↑a.length == i64.wrap ((i64.wrap (i * j)).tdiv (1000 : Int)))
 (obind (Rc.rgood9.F N a) fun r36 =>
 (some r36))
 (some false))))
 (br (b == 0)
 (some (↑a.length == (0 : Int)))
 (br (↑a.length == i64.wrap ((i64.wrap (i * j)).tdiv (1000 : Int)))
 (obind (Rc.rgood9.F N a) fun r37 =>
 (some r37))
 (some false)))))
 (br (b != 2)
 (br (↑f.length != (0 : Int))
 (some false)
 (br (b == 0)
 (some (↑a.length == (0 : Int)))
 (br (↑a.length == i64.wrap ((i64.wrap (i * j)).tdiv (1000 : Int)))
 (obind (Rc.rgood9.F N a) fun r38 =>
 (some r38))
 (some false))))
 (br (b == 0)
 (some (↑a.length == (0 : Int)))
 (br (↑a.length == i64.wrap ((i64.wrap (i * j)).tdiv (1000 : Int)))
 (obind (Rc.rgood9.F N a) fun r39 =>
 (some r39))
 (some false))))))))))
 (obind (Rc.r6good.F N (10) c e) fun r40 =>
 (br (!r40)
 (some false)
 (osum (good14.loop9 N N i j b c d h e g a f b c d h e g a f (0) false) fun r41 =>
 (obind (Rc.rlags.F N i) fun r42 =>
 (osum (good14.loop15 N N i j b c d h e g a f r42.1 r42.2 b c d h e g a f (0) r41) fun r43 =>
 (br (b == 2)
 (br (↑f.length != i64.wrap (j.tdiv (5 : Int)))
 (some false)
 (br (b != 2)
 (br (↑f.length != (0 : Int))
 (some false)
 (br (b == 0)
 (some (↑a.length == (0 : Int)))
 (br (↑a.length == i64.wrap ((i64.wrap (i * j)).tdiv (1000 : Int)))
 (obind (Rc.rgood9.F N a) fun r44 =>
 (some r44))
 (some false))))
 (br (b == 0)
 (some (↑a.length == (0 : Int)))
 (br (↑a.length == i64.wrap ((i64.wrap (i * j)).tdiv (1000 : Int)))
 (obind (Rc.rgood9.F N a) fun r45 =>
 (some r45))
 (some false)))))
 (br (b != 2)
 (br (↑f.length != (0 : Int))
 (some false)
 (br (b == 0)
 (some (↑a.length == (0 : Int)))
 (br (↑a.length == i64.wrap ((i64.wrap (i * j)).tdiv (1000 : Int)))
 (obind (Rc.rgood9.F N a) fun r46 =>
 (some r46))
 (some false))))
 (br (b == 0)
 (some (↑a.length == (0 : Int)))
 (br (↑a.length == i64.wrap ((i64.wrap (i * j)).tdiv (1000 : Int)))
 (obind (Rc.rgood9.F N a) fun r47 =>
 (some r47))
 (some false)))))))))))))))))
 (br (decide (b < 0))
 (some false)
 (br (decide (b > 2))
 (some false)
 (br (decide (d < 0))
 (some false)
 (br (decide (d > 4))
 (some false)
 (br (↑g.length != i64.wrap (j.tdiv (5 : Int)))
 (some false)
 (br (i == 16000)
 (obind (Rc.r6good.F N (16) c e) fun r48 =>
 (br (!r48)
 (some false)
 (osum (good14.loop9 N N i j b c d h e g a f b c d h e g a f (0) false) fun r49 =>
 (obind (Rc.rlags.F N i) fun r50 =>
 (osum (good14.loop15 N N i j b c d h e g a f r50.1 r50.2 b c d h e g a f (0) r49) fun r51 =>
 (br (b == 2)
 (br (↑f.length != i64.wrap (j.tdiv (5 : Int)))
 (some false)
 (br (b != 2)
 (br (↑f.length != (0 : Int))
 (some false)
 (br (b == 0)
 (some (↑a.length == (0 : Int)))
 (br (↑a.length == i64.wrap ((i64.wrap (i * j)).tdiv (1000 : Int)))
 (obind (Rc.rgood9.F N a) fun r52 =>
 (some r52))
 (some false))))
 (br (b == 0)
 (some (↑a.length == (0 : Int)))
 (br (↑a.length == i64.wrap ((i64.wrap (i * j)).tdiv (1000 : Int)))
 (obind (Rc.rgood9.F N a) fun r53 =>
 (some r53))
 (some false)))))
 (br (b != 2)
 (br (↑f.length != (0 : Int))
 (some false)
 (br (b == 0)
 (some (↑a.length == (0 : Int)))
 (br (↑a.length == i64.wrap ((i64.wrap (i * j)).tdiv (1000 : Int)))
 (obind (Rc.rgood9.F N a) fun r54 =>
 (some r54))
 (some false))))
 (br (b == 0)
 (some (↑a.length == (0 : Int)))
 (br (↑a.length == i64.wrap ((i64.wrap (i * j)).tdiv (1000 : Int)))
 (obind (Rc.rgood9.F N a) fun r55 =>
 (some r55))
 (some false))))))))))
 (obind (Rc.r6good.F N (10) c e) fun r56 =>
 (br (!r56)
 (some false)
 (osum (good14.loop9 N N i j b c d h e g a f b c d h e g a f (0) false) fun r57 =>
 (obind (Rc.rlags.F N i) fun r58 =>
 (osum (good14.loop15 N N i j b c d h e g a f r58.1 r58.2 b c d h e g a f (0) r57) fun r59 =>
 (br (b == 2)
 (br (↑f.length != i64.wrap (j.tdiv (5 : Int)))
 (some false)
 (br (b != 2)
 (br (↑f.length != (0 : Int))
 (some false)
 (br (b == 0)
 (some (↑a.length == (0 : Int)))
 (br (↑a.length == i64.wrap ((i64.wrap (i * j)).tdiv (1000 : Int)))
 (obind (Rc.rgood9.F N a) fun r60 =>
 (some r60))
 (some false))))
 (br (b == 0)
 (some (↑a.length == (0 : Int)))
 (br (↑a.length == i64.wrap ((i64.wrap (i * j)).tdiv (1000 : Int)))
 (obind (Rc.rgood9.F N a) fun r61 =>
 (some r61))
 (some false)))))
 (br (b != 2)
 (br (↑f.length != (0 : Int))
 (some false)
 (br (b == 0)
 (some (↑a.length == (0 : Int)))
 (br (↑a.length == i64.wrap ((i64.wrap (i * j)).tdiv (1000 : Int)))
 (obind (Rc.rgood9.F N a) fun r62 =>
 (some r62))
 (some false))))
 (br (b == 0)
 (some (↑a.length == (0 : Int)))
 (br (↑a.length == i64.wrap ((i64.wrap (i * j)).tdiv (1000 : Int)))
 (obind (Rc.rgood9.F N a) fun r63 =>
 (some r63))
 (some false))))))))))))))))))
noncomputable def good14.spec : Eng.Spec := good14.sig.spec (fun N L => good14.F N (L.i 0) (L.i 1) (L.i 2) (L.i 3) (L.i 4) (L.b 0) (L.l 0) (L.l 1) (L.l 2) (L.r 0)) good14.enc
theorem good14.ok : CallOK Tryz.prog 20 good14.spec := ok2 good14.C good14.K Tryz.f20 good14.dec (fun _ => ⟨r6good.ok,rlags.ok,rgood9.ok,trivial⟩) (fun _ => ⟨fun _ _ => ⟨rfl,rfl⟩,fun _ _ => ⟨rfl,rfl⟩,trivial⟩) (by intro N L; show _ = good14.F N (L.i 0) (L.i 1) (L.i 2) (L.i 3) (L.i 4) (L.b 0) (L.l 0) (L.l 1) (L.l 2) (L.r 0); rw [good14.F,<- funext (good14.loop9_eq N),<- funext (good14.loop15_eq N)]; kernel_rfl)
def own14.sig : Eng.Sig := { args := [.agg [.bool 0,.int .i64 0,.int .i64 1,.roi .i64 0,.int .i64 2,.roi .i64 1,.rro ⟨[.i64,.i64],none,false⟩ 0,.roi .i64 2]],ret := .agg [.bool 0,.int .i64 0,.int .i64 1,.roi .i64 0,.int .i64 2,.roi .i64 1,.roi .i64 2,.roi .i64 3,.roi .i64 4] }
def own14.C (N : Nat) : Cfg := { P := Tryz.prog,N := N,RT := noRT,specs := [] }
abbrev own14.R : Type := Int × Int × Int × Bool × List Int × List Int × List Int × List Int × List Int
def own14.dec (L : Eng.Leaves) : own14.R := (L.i 0,L.i 1,L.i 2,L.b 0,L.l 0,L.l 1,L.l 2,L.l 3,L.l 4)
def own14.enc (r : own14.R) : Eng.Leaves := mkL [r.1,r.2.1,r.2.2.1] [r.2.2.2.1] [r.2.2.2.2.1,r.2.2.2.2.2.1,r.2.2.2.2.2.2.1,r.2.2.2.2.2.2.2.1,r.2.2.2.2.2.2.2.2] []
abbrev own14.loop3.R : Type := List Int × List Int
def own14.loop3.ann : Ann := { nx := 22,slots := [(1,.at (.ptr 0 0)),(3,.at (.ptr 2 0)),(4,.at (.int .i64 0))],blks := [(0,.cells 8 [.fbool 0,.fint .i64 0,.fint .i64 1,.froi .i64 0,.fint .i64 2,.froi .i64 1,.frro ⟨[.i64,.i64],none,false⟩ 0,.froi .i64 2]),(2,.cells 9 [.fbool 1,.fint .i64 3,.fint .i64 4,.froi .i64 3,.fint .i64 5,.froi .i64 4,.full 20 false,.full 21 false,.froi .i64 5]),(20,.ints true .i64 0),(21,.ints true .i64 1)],mov := [20,21],xslots := [(1,.at (.ptr 0 0)),(3,.at (.ptr 2 0))],xblks := [(0,.cells 8 [.fbool 0,.fint .i64 0,.fint .i64 1,.froi .i64 0,.fint .i64 2,.froi .i64 1,.frro ⟨[.i64,.i64],none,false⟩ 0,.froi .i64 2]),(2,.cells 9 [.fbool 1,.fint .i64 3,.fint .i64 4,.froi .i64 3,.fint .i64 5,.froi .i64 4,.full 20 false,.full 21 false,.froi .i64 5]),(20,.ints true .i64 0),(21,.ints true .i64 1)],T := own14.loop3.R,dec := fun L => (L.l 0,L.l 1),enc := fun r => mkL [] [] [r.1,r.2] [] }
def own14.K (N : Nat) : FCfg := { anns := [(3,own14.loop3.ann)],frz := [51] }
def own14.loop3 (N : Nat) : Nat -> Int -> Int -> Int -> Int -> Int -> Int -> Bool -> Bool -> List Int -> List Int -> List Int -> List Int -> List Int -> List Int -> List (List Int) -> Int -> List Int -> List Int -> Option own14.loop3.R
 | 0,_,_,_,_,_,_,_,_,_,_,_,_,_,_,_,_,_,_ => none
 | nn + 1,k,n,c,h,l,a,i,e,o,j,f,m,g,d,b,s,p,q =>
 (br (decide (s < ↑b.length))
 (chk ((0 : Int) <= s /\ s < ↑b.length)
 (chk (p.length + [(b.getD s.toNat ([] : List Int)).headD 0].length <= (17592186043904 : Nat))
 (chk ((0 : Int) <= s /\ s < ↑b.length)
 (chk (q.length + [(b.getD s.toNat ([] : List Int)).tail.headD 0].length <= (17592186043904 : Nat))
 (chkB i i
 (chkI k k
 (chkI n n
 (chkL o o
 (chkI c c
 (chkL j j
 (chkR b b
 (chkL f f
 (chkB e e
 (chkI h h
 (chkI l l
 (chkL m m
 (chkI a a
 (chkL g g
 (chkL d d
 (own14.loop3 N nn k n c h l a i e o j f m g d b (i64.wrap (s + 1)) (p ++ [(b.getD s.toNat ([] : List Int)).headD 0]) (q ++ [(b.getD s.toNat ([] : List Int)).tail.headD 0])))))))))))))))))))))
 (chkB i i
 (chkI k k
 (chkI n n
 (chkL o o
 (chkI c c
 (chkL j j
 (chkR b b
 (chkL f f
 (chkB e e
 (chkI h h
 (chkI l l
 (chkL m m
 (chkI a a
 (chkL g g
 (chkL d d
 (some ((p,q)))))))))))))))))))
def own14.loop3R (N nn : Nat) (j p b g k a : Int) (h d : Bool) (q i e l f c : List Int) (m : List (List Int)) (s : Int) (n o : List Int) : Option own14.loop3.R := loopF own14.loop3.ann (mkL [j,p,b,g,k,a] [h,d] [q,i,e,l,f,c] [m]) (evCode ((own14.C N).inLoop own14.loop3.ann) (own14.K N) (inlTab (own14.C N) 0) (bodyAt 3 Tryz.f22)) nn (mkL [s] [] [n,o] [])
theorem own14.loop3_eq (N : Nat) : ∀ nn,own14.loop3R N nn = own14.loop3 N nn := lq fun _ h => by funext; rw [own14.loop3,<- h]; kernel_rfl
def own14.F (N : Nat) (g a b : Int) (e : Bool) (c f d : List Int) (h : List (List Int)) : Option own14.R :=
 (obind (own14.loop3 N N g a b g a b e e c f d c f d h (0) (([] : List Int)) (([] : List Int))) fun r0 =>
 (some ((g,a,b,e,c,f,r0.1,r0.2,d))))
noncomputable def own14.spec : Eng.Spec := own14.sig.spec (fun N L => own14.F N (L.i 0) (L.i 1) (L.i 2) (L.b 0) (L.l 0) (L.l 1) (L.l 2) (L.r 0)) own14.enc
theorem own14.ok : CallOK Tryz.prog 22 own14.spec := ok2 own14.C own14.K Tryz.f22 own14.dec (fun _ => trivial) (fun _ => ⟨fun _ _ => ⟨rfl,rfl⟩,trivial⟩) (by intro N L; show _ = own14.F N (L.i 0) (L.i 1) (L.i 2) (L.b 0) (L.l 0) (L.l 1) (L.l 2) (L.r 0); rw [own14.F,<- funext (own14.loop3_eq N)]; kernel_rfl)
def plain14.sig : Eng.Sig := { args := [],ret := .agg [.bool 0,.int .i64 0,.int .i64 1,.roi .i64 0,.int .i64 2,.roi .i64 1,.rro ⟨[.i64,.i64],none,false⟩ 0,.roi .i64 2] }
def plain14.C (N : Nat) : Cfg := { P := Tryz.prog,N := N,RT := noRT,specs := [] }
abbrev plain14.R : Type := Int × Int × Int × Bool × List Int × List Int × List Int × List (List Int)
def plain14.dec (L : Eng.Leaves) : plain14.R := (L.i 0,L.i 1,L.i 2,L.b 0,L.l 0,L.l 1,L.l 2,L.r 0)
def plain14.enc (r : plain14.R) : Eng.Leaves := mkL [r.1,r.2.1,r.2.2.1] [r.2.2.2.1] [r.2.2.2.2.1,r.2.2.2.2.2.1,r.2.2.2.2.2.2.1] [r.2.2.2.2.2.2.2]
def plain14.K (N : Nat) : FCfg := { frz := [9] }
def plain14.F (N : Nat)  : Option plain14.R :=
 (some (((1 : Int),0,0,true,List.replicate 10 0,[(30 : Int),30],(List.replicate 80 (0 : Int)).set 0 1,([] : List (List Int)))))
noncomputable def plain14.spec : Eng.Spec := plain14.sig.spec (fun N L => plain14.F N ) plain14.enc
theorem plain14.ok : CallOK Tryz.prog 17 plain14.spec := ok2 plain14.C plain14.K Tryz.f17 plain14.dec (fun _ => trivial) (fun _ => trivial)
def is14.sig : Eng.Sig := { args := [.agg [.bool 0,.int .i64 0,.int .i64 1,.roi .i64 0,.int .i64 2,.roi .i64 1,.rro ⟨[.i64,.i64],none,false⟩ 0,.roi .i64 2],.agg [.bool 1,.int .i64 3,.int .i64 4,.roi .i64 3,.int .i64 5,.roi .i64 4,.roi .i64 5,.roi .i64 6,.roi .i64 7]],ret := .at (.bool 0) }
def is14.C (N : Nat) : Cfg := { P := Tryz.prog,N := N,RT := noRT,specs := [(22,own14.spec),(23,ints14.spec),(19,same14.spec)] }
abbrev is14.R : Type := Bool
def is14.dec (L : Eng.Leaves) : is14.R := (L.b 0)
def is14.enc (r : is14.R) : Eng.Leaves := mkL [] [r] [] []
def is14.K (N : Nat) : FCfg := {}
def is14.F (N : Nat) (h a b m p e : Int) (f k : Bool) (c g d q l n o i : List Int) (j : List (List Int)) : Option is14.R :=
 (obind (Rc.own14.F N h a b f c g d j) fun r0 =>
 (br (r0.2.2.2.1 == k)
 (br (r0.1 == m)
 (br (r0.2.1 == p)
 (obind (Rc.ints14.F N r0.2.2.2.2.1 q) fun r1 =>
 (br r1
 (br (r0.2.2.1 == e)
 (obind (Rc.ints14.F N r0.2.2.2.2.2.1 l) fun r2 =>
 (br r2
 (obind (Rc.ints14.F N r0.2.2.2.2.2.2.1 n) fun r3 =>
 (br r3
 (obind (Rc.ints14.F N r0.2.2.2.2.2.2.2.1 o) fun r4 =>
 (br r4
 (obind (Rc.same14.F N r0.2.2.2.2.2.2.2.2 i) fun r5 =>
 (some r5))
 (some false)))
 (some false)))
 (some false)))
 (some false))
 (some false)))
 (some false))
 (some false))
 (some false)))
noncomputable def is14.spec : Eng.Spec := is14.sig.spec (fun N L => is14.F N (L.i 0) (L.i 1) (L.i 2) (L.i 3) (L.i 4) (L.i 5) (L.b 0) (L.b 1) (L.l 0) (L.l 1) (L.l 2) (L.l 3) (L.l 4) (L.l 5) (L.l 6) (L.l 7) (L.r 0)) is14.enc
theorem is14.ok : CallOK Tryz.prog 26 is14.spec := ok2 is14.C is14.K Tryz.f26 is14.dec (fun _ => ⟨own14.ok,ints14.ok,same14.ok,trivial⟩) (fun _ => trivial)
def plplay.sig : Eng.Sig := { args := [.at (.ptr 0 0),.at (.int .i64 0),.agg [.bool 0,.int .i64 1,.int .i64 2,.roi .i64 0,.int .i64 3,.roi .i64 1,.rro ⟨[.i64,.i64],none,false⟩ 0,.roi .i64 2]],n := 3,pre := [(0,.cells 4 [.int .i64 4,.ptr 1 0,.full 2 false,.int .i64 5]),(1,.ints false .i64 3),(2,.ints true .i64 4)],post := [(0,.cells 4 [.fint .i64 4,.ptr 1 0,.full 4 false,.int .i64 1]),(1,.ints false .i64 0),(2,.dead),(3,.ints true .i64 1),(4,.ints true .i64 2)],m := 2,ret := .tup [(false,[.full 3 false]),(false,[.int .i64 0])] }
def plplay.C (N : Nat) : Cfg := { P := Tryz.prog,N := N,RT := noRT,specs := [(21,spgood.spec),(36,plreset.spec),(34,torder.spec),(61,ldecode.spec),(62,lbetween.spec),(63,lfrom.spec),(64,gloud.spec),(65,ttaps.spec),(66,syrun.spec),(67,sypcm.spec)],hi := 3 }
abbrev plplay.R : Type := Int × Int × List Int × List Int × List Int
def plplay.dec (L : Eng.Leaves) : plplay.R := (L.i 0,L.i 1,L.l 0,L.l 1,L.l 2)
def plplay.enc (r : plplay.R) : Eng.Leaves := mkL [r.1,r.2.1] [] [r.2.2.1,r.2.2.2.1,r.2.2.2.2] []
abbrev plplay.loop12.R : Type := Int × List Int × List Int × List Int × List Int × List Int
def plplay.loop12.ann : Ann := { nx := 60,slots := [(0,.at (.ptr 0 0)),(5,.at (.ptr 3 0)),(12,.at (.full 40 false)),(14,.at (.full 41 false)),(16,.at (.fint .i64 0)),(17,.at (.full 20 false)),(73,.at (.froi .i64 0)),(74,.at (.fint .i64 1)),(75,.at (.int .i64 0))],blks := [(0,.cells 4 [.fint .i64 2,.ptr 1 0,.full 21 false,.int .i64 1]),(1,.ints false .i64 0),(3,.cells 8 [.fbool 0,.fint .i64 3,.fint .i64 4,.froi .i64 1,.fint .i64 5,.froi .i64 2,.frro ⟨[.i64,.i64],none,false⟩ 0,.froi .i64 3]),(40,.ints true .i64 1),(41,.ints true .i64 2),(20,.ints true .i64 3),(21,.ints true .i64 4)],mov := [20,21,40,41],xslots := [(0,.at (.ptr 0 0)),(5,.at (.ptr 3 0)),(12,.at (.full 40 false)),(14,.at (.full 41 false)),(17,.at (.full 20 false))],xblks := [(0,.cells 4 [.fint .i64 2,.ptr 1 0,.full 21 false,.int .i64 0]),(1,.ints false .i64 0),(3,.cells 8 [.fbool 0,.fint .i64 3,.fint .i64 4,.froi .i64 1,.fint .i64 5,.froi .i64 2,.frro ⟨[.i64,.i64],none,false⟩ 0,.froi .i64 3]),(40,.ints true .i64 1),(41,.ints true .i64 2),(20,.ints true .i64 3),(21,.ints true .i64 4)],T := plplay.loop12.R,dec := fun L => (L.i 0,L.l 0,L.l 1,L.l 2,L.l 3,L.l 4),enc := fun r => mkL [r.1] [] [r.2.1,r.2.2.1,r.2.2.2.1,r.2.2.2.2.1,r.2.2.2.2.2] [] }
def plplay.K (N : Nat) : FCfg := { anns := [(12,plplay.loop12.ann)],mks := [81,20] }
def plplay.loop12 (N : Nat) : Nat -> Int -> Int -> Int -> Int -> Int -> Int -> Bool -> List Int -> List Int -> List Int -> List Int -> List (List Int) -> Int -> Int -> List Int -> List Int -> List Int -> List Int -> List Int -> Option plplay.loop12.R
 | 0,_,_,_,_,_,_,_,_,_,_,_,_,_,_,_,_,_,_,_ => none
 | nn + 1,e,m,i,h,k,b,g,j,l,f,a,c,d,t,n,q,s,p,o =>
 (br (decide (d < m))
 (chk ((0 : Int) <= d /\ d < ↑j.length)
 (chk ((0 : Int) <= e /\ e <= e /\ e <= ↑(17592186043904 : Nat))
 (obind (Rc.gloud.F N (j.getD d.toNat 0)) fun r0 =>
 (br (decide (i64.wrap ((2 : Int) * d) < ↑f.length))
 (br (h != 0)
 (chk ((0 : Int) <= i64.wrap (d * e) /\ i64.wrap (d * e) <= ↑a.length)
 (br (h == 2)
 (chk ((0 : Int) <= d /\ d < ↑c.length)
 (chk ((0 : Int) <= d /\ d < ↑c.length)
 (obind (Rc.ttaps.F N ((c.getD d.toNat ([] : List Int)).tail.headD 0)) fun r1 =>
 (chkR c c
 (obind (Rc.syrun.F N r0 ((c.getD d.toNat ([] : List Int)).headD 0) r1.1 r1.2.1 r1.2.2.1 r1.2.2.2.1 r1.2.2.2.2 (List.take (List.replicate e.toNat (0 : Int)).length (List.take (a.length - (i64.wrap (d * e)).toNat) (List.drop (i64.wrap (d * e)).toNat a)) ++ List.drop (min (List.take (a.length - (i64.wrap (d * e)).toNat) (List.drop (i64.wrap (d * e)).toNat a)).length (List.replicate e.toNat (0 : Int)).length) (List.replicate e.toNat 0)) q n) fun r2 =>
 (chk (p.length + r2.2.2.length <= (17592186043904 : Nat))
 (chkI e e
 (chkL j j
 (chkI m m
 (chkI i i
 (chkB g g
 (chkI h h
 (chkI k k
 (chkL l l
 (chkI b b
 (chkL f f
 (chkR c c
 (chkL a a
 (plplay.loop12 N nn e m i h k b g j l f a c (i64.wrap (d + 1)) (j.getD d.toNat 0) r2.2.1 q s (p ++ r2.2.2) o)))))))))))))))))))
 (obind (Rc.syrun.F N r0 (0) (0) (0) (0) (0) (0) (List.take (List.replicate e.toNat (0 : Int)).length (List.take (a.length - (i64.wrap (d * e)).toNat) (List.drop (i64.wrap (d * e)).toNat a)) ++ List.drop (min (List.take (a.length - (i64.wrap (d * e)).toNat) (List.drop (i64.wrap (d * e)).toNat a)).length (List.replicate e.toNat (0 : Int)).length) (List.replicate e.toNat 0)) q n) fun r3 =>
 (chk (p.length + r3.2.2.length <= (17592186043904 : Nat))
 (chkI e e
 (chkL j j
 (chkI m m
 (chkI i i
 (chkB g g
 (chkI h h
 (chkI k k
 (chkL l l
 (chkI b b
 (chkL f f
 (chkR c c
 (chkL a a
 (plplay.loop12 N nn e m i h k b g j l f a c (i64.wrap (d + 1)) (j.getD d.toNat 0) r3.2.1 q s (p ++ r3.2.2) o)))))))))))))))))
 (br (h == 2)
 (chk ((0 : Int) <= d /\ d < ↑c.length)
 (chk ((0 : Int) <= d /\ d < ↑c.length)
 (obind (Rc.ttaps.F N ((c.getD d.toNat ([] : List Int)).tail.headD 0)) fun r4 =>
 (chkR c c
 (obind (Rc.syrun.F N r0 ((c.getD d.toNat ([] : List Int)).headD 0) r4.1 r4.2.1 r4.2.2.1 r4.2.2.2.1 r4.2.2.2.2 (List.replicate e.toNat 0) q n) fun r5 =>
 (chk (p.length + r5.2.2.length <= (17592186043904 : Nat))
 (chkI e e
 (chkL j j
 (chkI m m
 (chkI i i
 (chkB g g
 (chkI h h
 (chkI k k
 (chkL l l
 (chkI b b
 (chkL f f
 (chkR c c
 (chkL a a
 (plplay.loop12 N nn e m i h k b g j l f a c (i64.wrap (d + 1)) (j.getD d.toNat 0) r5.2.1 q s (p ++ r5.2.2) o)))))))))))))))))))
 (obind (Rc.syrun.F N r0 (0) (0) (0) (0) (0) (0) (List.replicate e.toNat 0) q n) fun r6 =>
 (chk (p.length + r6.2.2.length <= (17592186043904 : Nat))
 (chkI e e
 (chkL j j
 (chkI m m
 (chkI i i
 (chkB g g
 (chkI h h
 (chkI k k
 (chkL l l
 (chkI b b
 (chkL f f
 (chkR c c
 (chkL a a
 (plplay.loop12 N nn e m i h k b g j l f a c (i64.wrap (d + 1)) (j.getD d.toNat 0) r6.2.1 q s (p ++ r6.2.2) o)))))))))))))))))
 (br (h != 0)
 (chk ((0 : Int) <= i64.wrap (d * e) /\ i64.wrap (d * e) <= ↑a.length)
 (br (h == 2)
 (chk ((0 : Int) <= d /\ d < ↑c.length)
 (chk ((0 : Int) <= d /\ d < ↑c.length)
 (obind (Rc.ttaps.F N ((c.getD d.toNat ([] : List Int)).tail.headD 0)) fun r7 =>
 (chkR c c
 (obind (Rc.syrun.F N r0 ((c.getD d.toNat ([] : List Int)).headD 0) r7.1 r7.2.1 r7.2.2.1 r7.2.2.2.1 r7.2.2.2.2 (List.take (List.replicate e.toNat (0 : Int)).length (List.take (a.length - (i64.wrap (d * e)).toNat) (List.drop (i64.wrap (d * e)).toNat a)) ++ List.drop (min (List.take (a.length - (i64.wrap (d * e)).toNat) (List.drop (i64.wrap (d * e)).toNat a)).length (List.replicate e.toNat (0 : Int)).length) (List.replicate e.toNat 0)) s n) fun r8 =>
 (chk (p.length + r8.2.2.length <= (17592186043904 : Nat))
 (chkI e e
 (chkL j j
 (chkI m m
 (chkI i i
 (chkB g g
 (chkI h h
 (chkI k k
 (chkL l l
 (chkI b b
 (chkL f f
 (chkR c c
 (chkL a a
 (plplay.loop12 N nn e m i h k b g j l f a c (i64.wrap (d + 1)) (j.getD d.toNat 0) r8.2.1 q s (p ++ r8.2.2) o)))))))))))))))))))
 (obind (Rc.syrun.F N r0 (0) (0) (0) (0) (0) (0) (List.take (List.replicate e.toNat (0 : Int)).length (List.take (a.length - (i64.wrap (d * e)).toNat) (List.drop (i64.wrap (d * e)).toNat a)) ++ List.drop (min (List.take (a.length - (i64.wrap (d * e)).toNat) (List.drop (i64.wrap (d * e)).toNat a)).length (List.replicate e.toNat (0 : Int)).length) (List.replicate e.toNat 0)) s n) fun r9 =>
 (chk (p.length + r9.2.2.length <= (17592186043904 : Nat))
 (chkI e e
 (chkL j j
 (chkI m m
 (chkI i i
 (chkB g g
 (chkI h h
 (chkI k k
 (chkL l l
 (chkI b b
 (chkL f f
 (chkR c c
 (chkL a a
 (plplay.loop12 N nn e m i h k b g j l f a c (i64.wrap (d + 1)) (j.getD d.toNat 0) r9.2.1 q s (p ++ r9.2.2) o)))))))))))))))))
 (br (h == 2)
 (chk ((0 : Int) <= d /\ d < ↑c.length)
 (chk ((0 : Int) <= d /\ d < ↑c.length)
 (obind (Rc.ttaps.F N ((c.getD d.toNat ([] : List Int)).tail.headD 0)) fun r10 =>
 (chkR c c
 (obind (Rc.syrun.F N r0 ((c.getD d.toNat ([] : List Int)).headD 0) r10.1 r10.2.1 r10.2.2.1 r10.2.2.2.1 r10.2.2.2.2 (List.replicate e.toNat 0) s n) fun r11 =>
 (chk (p.length + r11.2.2.length <= (17592186043904 : Nat))
 (chkI e e
 (chkL j j
 (chkI m m
 (chkI i i
 (chkB g g
 (chkI h h
 (chkI k k
 (chkL l l
 (chkI b b
 (chkL f f
 (chkR c c
 (chkL a a
 (plplay.loop12 N nn e m i h k b g j l f a c (i64.wrap (d + 1)) (j.getD d.toNat 0) r11.2.1 q s (p ++ r11.2.2) o)))))))))))))))))))
 (obind (Rc.syrun.F N r0 (0) (0) (0) (0) (0) (0) (List.replicate e.toNat 0) s n) fun r12 =>
 (chk (p.length + r12.2.2.length <= (17592186043904 : Nat))
 (chkI e e
 (chkL j j
 (chkI m m
 (chkI i i
 (chkB g g
 (chkI h h
 (chkI k k
 (chkL l l
 (chkI b b
 (chkL f f
 (chkR c c
 (chkL a a
 (plplay.loop12 N nn e m i h k b g j l f a c (i64.wrap (d + 1)) (j.getD d.toNat 0) r12.2.1 q s (p ++ r12.2.2) o)))))))))))))))))))))
 (chkI i i
 (chkB g g
 (chkI h h
 (chkI k k
 (chkL l l
 (chkI b b
 (chkL f f
 (chkR c c
 (chkL a a
 (some ((t,n,q,s,p,o)))))))))))))
def plplay.loop12R (N nn : Nat) (k l g h m a : Int) (c : Bool) (n o d b : List Int) (i : List (List Int)) (p j : Int) (e q s t f : List Int) : Option plplay.loop12.R := loopF plplay.loop12.ann (mkL [k,l,g,h,m,a] [c] [n,o,d,b] [i]) (evCode ((plplay.C N).inLoop plplay.loop12.ann) (plplay.K N) (inlTab (plplay.C N) 0) (bodyAt 12 Tryz.f16)) nn (mkL [p,j] [] [e,q,s,t,f] [])
theorem plplay.loop12_eq (N : Nat) : ∀ nn,plplay.loop12R N nn = plplay.loop12 N nn := lq fun _ h => by funext; rw [plplay.loop12,<- h]; kernel_rfl
def plplay.F (N : Nat) (m h a c e l : Int) (f : Bool) (b d g k i : List Int) (j : List (List Int)) : Option plplay.R :=
 (obind (Rc.spgood.F N e m h a c f b d g j) fun r0 =>
 (br (!r0)
 (chkI e e
 (some (((1 : Int),l,k,([] : List Int),i))))
 (br f
 (obind (Rc.plreset.F N e l k i) fun r1 =>
 (obind (Rc.torder.F N e) fun r2 =>
 (obind (Rc.ldecode.F N r2 a b) fun r3 =>
 (chkI a a
 (chkL b b
 (obind (Rc.lbetween.F N c r1.2.2 r3.2) fun r4 =>
 (obind (Rc.lfrom.F N r4.2) fun r5 =>
 (obind (Rc.lfrom.F N r3.2) fun r6 =>
 (obind (plplay.loop12 N N (i64.wrap (e.tdiv (200 : Int))) (↑d.length) e h a c f d b d g j ((0 : Int)) r1.1 r1.2.1 r5.2 r6.2 (([] : List Int)) r1.2.2) fun r7 =>
 (obind (Rc.sypcm.F N r7.2.2.2.2.1) fun r8 =>
 (chkI e e
 (some (((0 : Int),r7.1,r7.2.1,r8,r3.2))))))))))))))
 (obind (Rc.torder.F N e) fun r9 =>
 (obind (Rc.ldecode.F N r9 a b) fun r10 =>
 (chkI a a
 (chkL b b
 (obind (Rc.lbetween.F N c i r10.2) fun r11 =>
 (obind (Rc.lfrom.F N r11.2) fun r12 =>
 (obind (Rc.lfrom.F N r10.2) fun r13 =>
 (obind (plplay.loop12 N N (i64.wrap (e.tdiv (200 : Int))) (↑d.length) e h a c f d b d g j ((0 : Int)) l k r12.2 r13.2 (([] : List Int)) i) fun r14 =>
 (obind (Rc.sypcm.F N r14.2.2.2.2.1) fun r15 =>
 (chkI e e
 (some (((0 : Int),r14.1,r14.2.1,r15,r10.2))))))))))))))))
noncomputable def plplay.spec : Eng.Spec := plplay.sig.spec (fun N L => plplay.F N (L.i 0) (L.i 1) (L.i 2) (L.i 3) (L.i 4) (L.i 5) (L.b 0) (L.l 0) (L.l 1) (L.l 2) (L.l 3) (L.l 4) (L.r 0)) plplay.enc
theorem plplay.ok : CallOK Tryz.prog 16 plplay.spec := ok2 plplay.C plplay.K Tryz.f16 plplay.dec (fun _ => ⟨spgood.ok,plreset.ok,torder.ok,ldecode.ok,lbetween.ok,lfrom.ok,gloud.ok,ttaps.ok,syrun.ok,sypcm.ok,trivial⟩) (fun _ => ⟨fun _ _ => ⟨rfl,rfl⟩,trivial⟩) (by intro N L; show _ = plplay.F N (L.i 0) (L.i 1) (L.i 2) (L.i 3) (L.i 4) (L.i 5) (L.b 0) (L.l 0) (L.l 1) (L.l 2) (L.l 3) (L.l 4) (L.r 0); rw [plplay.F,<- funext (plplay.loop12_eq N)]; kernel_rfl)
end
end Go.Proofs.Rc
