/-
 Functions of the program: what each comes to, and its contract (written by a program).
 Conditions: none: each contract is proved for every input of its shape.
-/
import Derived.Test.YtghbobmkkbdhpaaGreatEngLoopToEngRow3
import Derived.Laws.Externs
import Derived.Test.YtghbobmkkbdhpaaGreatProg
import Derived.Test.YtghbobmkkbdhpaaGreatRencFns
set_option linter.unusedVariables false
set_option linter.unusedSimpArgs false
namespace Go.Proofs.Rc
noncomputable section
open Go.Eng Go.IntKind
set_option maxRecDepth 100000
def clamp.sig : Eng.Sig := { args := [.at (.int .i64 0),.at (.int .i64 1),.at (.int .i64 2)],ret := .at (.int .i64 0) }
def clamp.C (N : Nat) : Cfg := { P := Tryz.prog,N := N,RT := noRT,specs := [] }
abbrev clamp.R : Type := Int
def clamp.dec (L : Eng.Leaves) : clamp.R := (L.i 0)
def clamp.enc (r : clamp.R) : Eng.Leaves := mkL [r] [] [] []
def clamp.K (N : Nat) : FCfg := {}
def clamp.F (N : Nat) (a b c : Int) : Option clamp.R :=
 (br (decide (b > c))
 (some b)
 (br (decide (a < b))
 (some b)
 (br (decide (a > c))
 (some c)
 (some a))))
noncomputable def clamp.spec : Eng.Spec := clamp.sig.spec (fun N L => clamp.F N (L.i 0) (L.i 1) (L.i 2)) clamp.enc
theorem clamp.ok : CallOK Tryz.prog 121 clamp.spec := ok2 clamp.C clamp.K Tryz.f121 clamp.dec (fun _ => trivial) (fun _ => trivial)
def factor.sig : Eng.Sig := { args := [.at (.int .i64 0)],ret := .at (.int .i64 0) }
def factor.C (N : Nat) : Cfg := { P := Tryz.prog,N := N,RT := noRT,specs := [(121,clamp.spec)] }
abbrev factor.R : Type := Int
def factor.dec (L : Eng.Leaves) : factor.R := (L.i 0)
def factor.enc (r : factor.R) : Eng.Leaves := mkL [r] [] [] []
def factor.K (N : Nat) : FCfg := {}
def factor.F (N : Nat) (a : Int) : Option factor.R :=
 (obind (Rc.clamp.F N a ((-2147483648)) (2147483648)) fun r0 =>
 (some r0))
noncomputable def factor.spec : Eng.Spec := factor.sig.spec (fun N L => factor.F N (L.i 0)) factor.enc
theorem factor.ok : CallOK Tryz.prog 154 factor.spec := ok2 factor.C factor.K Tryz.f154 factor.dec (fun _ => ⟨clamp.ok,trivial⟩) (fun _ => trivial)
def fmul.sig : Eng.Sig := { args := [.at (.int .i64 0),.at (.int .i64 1),.at (.int .i64 2)],ret := .at (.int .i64 0) }
def fmul.C (N : Nat) : Cfg := { P := Tryz.prog,N := N,RT := noRT,specs := [(154,factor.spec)] }
abbrev fmul.R : Type := Int
def fmul.dec (L : Eng.Leaves) : fmul.R := (L.i 0)
def fmul.enc (r : fmul.R) : Eng.Leaves := mkL [r] [] [] []
def fmul.K (N : Nat) : FCfg := {}
def fmul.F (N : Nat) (a b s : Int) : Option fmul.R :=
 (obind (Rc.factor.F N a) fun r0 =>
 (obind (Rc.factor.F N b) fun r1 =>
 (br (s == 0)
 (some (i64.wrap (r0 * r1)))
 (br (decide (s < 0))
 (some ((0 : Int)))
 (br (decide (s > 62))
 (some ((0 : Int)))
 (chk (0 <= i64.wrap (s - 1))
 (chk (0 <= s)
 (some ((i64.wrap (i64.wrap (r0 * r1) + i64.wrap ((1 : Int) * (2 : Int) ^ min (i64.wrap (s - (1 : Int))).toNat i64.bits))).fdiv ((2 : Int) ^ min s.toNat i64.bits))))))))))
noncomputable def fmul.spec : Eng.Spec := fmul.sig.spec (fun N L => fmul.F N (L.i 0) (L.i 1) (L.i 2)) fmul.enc
theorem fmul.ok : CallOK Tryz.prog 123 fmul.spec := ok2 fmul.C fmul.K Tryz.f123 fmul.dec (fun _ => ⟨factor.ok,trivial⟩) (fun _ => trivial)
def exp2.sig : Eng.Sig := { args := [.at (.int .i64 0)],ret := .at (.int .i64 0) }
def exp2.C (N : Nat) : Cfg := { P := Tryz.prog,N := N,RT := noRT,specs := [(121,clamp.spec),(123,fmul.spec)] }
abbrev exp2.R : Type := Int
def exp2.dec (L : Eng.Leaves) : exp2.R := (L.i 0)
def exp2.enc (r : exp2.R) : Eng.Leaves := mkL [r] [] [] []
abbrev exp2.loop5.R : Type := Int
def exp2.loop5.ann : Ann := { nx := 20,slots := [(4,.at (.fint .i64 0)),(5,.at (.int .i64 0)),(14,.agg [.fint .i64 1,.fint .i64 2,.fint .i64 3,.fint .i64 4,.fint .i64 5,.fint .i64 6,.fint .i64 7,.fint .i64 8]),(15,.at (.int .i64 1))],xslots := [(5,.at (.int .i64 0))],T := exp2.loop5.R,dec := fun L => (L.i 0),enc := fun r => mkL [r] [] [] [] }
def exp2.K (N : Nat) : FCfg := { anns := [(5,exp2.loop5.ann)] }
def exp2.loop5 (N : Nat) : Nat -> Int -> Int -> Int -> Int -> Int -> Int -> Int -> Int -> Int -> Int -> Int -> Option exp2.loop5.R
 | 0,_,_,_,_,_,_,_,_,_,_,_ => none
 | nn + 1,j,a,b,c,d,e,f,g,h,k,i =>
 (br (decide (i < 8))
 (chk ((0 : Int) <= i /\ i < ↑(8 : Nat))
 (chk (0 <= i64.wrap (7 - i))
 (br (i64.wrap ↑(BitVec.ofInt i64.bits (j.fdiv ((2 : Int) ^ min (i64.wrap ((7 : Int) - i)).toNat i64.bits)) &&& BitVec.ofInt i64.bits (1 : Int)).toNat == (1 : Int))
 (obind (Rc.fmul.F N k ([a,b,c,d,e,f,g,h].getD i.toNat 0) (30)) fun r0 =>
 (chkI j j
 (chkI a a
 (chkI b b
 (chkI c c
 (chkI d d
 (chkI e e
 (chkI f f
 (chkI g g
 (chkI h h
 (exp2.loop5 N nn j a b c d e f g h r0 (i64.wrap (i + 1)))))))))))))
 (chkI j j
 (chkI a a
 (chkI b b
 (chkI c c
 (chkI d d
 (chkI e e
 (chkI f f
 (chkI g g
 (chkI h h
 (exp2.loop5 N nn j a b c d e f g h k (i64.wrap (i + 1)))))))))))))))
 (some k))
def exp2.loop5R (N nn : Nat) (j a b c d e f g h : Int) (k i : Int) : Option exp2.loop5.R := loopF exp2.loop5.ann (mkL [j,a,b,c,d,e,f,g,h] [] [] []) (evCode ((exp2.C N).inLoop exp2.loop5.ann) (exp2.K N) (inlTab (exp2.C N) 0) (bodyAt 5 Tryz.f125)) nn (mkL [k,i] [] [] [])
theorem exp2.loop5_eq (N : Nat) : ∀ nn,exp2.loop5R N nn = exp2.loop5 N nn := lq fun _ h => by funext; rw [exp2.loop5,<- h]; kernel_rfl
def exp2.F (N : Nat) (q : Int) : Option exp2.R :=
 (obind (Rc.clamp.F N q (0) (7935)) fun r0 =>
 (obind (exp2.loop5 N N (i64.wrap ↑(BitVec.ofInt i64.bits r0 &&& BitVec.ofInt i64.bits (255 : Int)).toNat) ((1518500250 : Int)) ((1276901417 : Int)) ((1170923762 : Int)) ((1121280436 : Int)) ((1097253708 : Int)) ((1085434106 : Int)) ((1079572136 : Int)) ((1076653033 : Int)) ((1073741824 : Int)) ((0 : Int))) fun r1 =>
 (br (r0.fdiv ((2 : Int) ^ min (Int.toNat 8) i64.bits) == 30)
 (some r1)
 (obind (Rc.fmul.F N r1 (1) (i64.wrap (30 - r0.fdiv ((2 : Int) ^ min (Int.toNat 8) i64.bits)))) fun r2 =>
 (some r2)))))
noncomputable def exp2.spec : Eng.Spec := exp2.sig.spec (fun N L => exp2.F N (L.i 0)) exp2.enc
theorem exp2.ok : CallOK Tryz.prog 125 exp2.spec := ok2 exp2.C exp2.K Tryz.f125 exp2.dec (fun _ => ⟨clamp.ok,fmul.ok,trivial⟩) (fun _ => ⟨fun _ _ => ⟨rfl,rfl⟩,trivial⟩) (by intro N L; show _ = exp2.F N (L.i 0); rw [exp2.F,<- funext (exp2.loop5_eq N)]; kernel_rfl)
def ticdf.sig : Eng.Sig := { args := [.at (.int .i64 0)],ret := .at (.roi .i64 0) }
def ticdf.C (N : Nat) : Cfg := { P := Tryz.prog,N := N,RT := noRT,specs := [] }
abbrev ticdf.R : Type := List Int
def ticdf.dec (L : Eng.Leaves) : ticdf.R := (L.l 0)
def ticdf.enc (r : ticdf.R) : Eng.Leaves := mkL [] [] [r] []
def ticdf.K (N : Nat) : FCfg := { lits := [6,9,12,15,18,21,24,27,30] }
def ticdf.F (N : Nat) (k : Int) : Option ticdf.R :=
 (br (k == 0)
 (some ([(192 : Int),96,0]))
 (br (k == 1)
 (some ([(224 : Int),192,160,128,96,64,32,0]))
 (br (k == 2)
 (some ([(252 : Int),247,240,230,214,190,150,106,66,42,26,16,10,6,4,2,0]))
 (br (k == 3)
 (some ([(240 : Int),224,208,192,176,160,144,128,112,96,80,64,48,32,16,0]))
 (br (k == 4)
 (some ([(253 : Int),244,222,170,86,34,12,3,0]))
 (br (k == 5)
 (some ([(218 : Int),180,148,122,100,82,67,54,43,34,26,19,14,10,6,3,0]))
 (br (k == 6)
 (some ([(205 : Int),163,128,97,70,44,20,0]))
 (br (k == 7)
 (some ([(231 : Int),155,38,0]))
 (br (k == 8)
 (some ([(192 : Int),128,64,0]))
 (some (([] : List Int))))))))))))
noncomputable def ticdf.spec : Eng.Spec := ticdf.sig.spec (fun N L => ticdf.F N (L.i 0)) ticdf.enc
theorem ticdf.ok : CallOK Tryz.prog 44 ticdf.spec := ok2 ticdf.C ticdf.K Tryz.f44 ticdf.dec (fun _ => trivial) (fun _ => trivial)
def tfilters.sig : Eng.Sig := { args := [],ret := .at (.int .i64 0) }
def tfilters.C (N : Nat) : Cfg := { P := Tryz.prog,N := N,RT := noRT,specs := [] }
abbrev tfilters.R : Type := Int
def tfilters.dec (L : Eng.Leaves) : tfilters.R := (L.i 0)
def tfilters.enc (r : tfilters.R) : Eng.Leaves := mkL [r] [] [] []
def tfilters.K (N : Nat) : FCfg := {}
def tfilters.F (N : Nat)  : Option tfilters.R :=
 (some ((8 : Int)))
noncomputable def tfilters.spec : Eng.Spec := tfilters.sig.spec (fun N L => tfilters.F N ) tfilters.enc
theorem tfilters.ok : CallOK Tryz.prog 111 tfilters.spec := ok2 tfilters.C tfilters.K Tryz.f111 tfilters.dec (fun _ => trivial) (fun _ => trivial)
def gclamp.sig : Eng.Sig := { args := [.at (.int .i64 0)],ret := .at (.int .i64 0) }
def gclamp.C (N : Nat) : Cfg := { P := Tryz.prog,N := N,RT := noRT,specs := [] }
abbrev gclamp.R : Type := Int
def gclamp.dec (L : Eng.Leaves) : gclamp.R := (L.i 0)
def gclamp.enc (r : gclamp.R) : Eng.Leaves := mkL [r] [] [] []
def gclamp.K (N : Nat) : FCfg := {}
def gclamp.F (N : Nat) (g : Int) : Option gclamp.R :=
 (some (if (63 : Int) < if (0 : Int) > g then (0 : Int) else g then (63 : Int) else if (0 : Int) > g then (0 : Int) else g))
noncomputable def gclamp.spec : Eng.Spec := gclamp.sig.spec (fun N L => gclamp.F N (L.i 0)) gclamp.enc
theorem gclamp.ok : CallOK Tryz.prog 106 gclamp.spec := ok2 gclamp.C gclamp.K Tryz.f106 gclamp.dec (fun _ => trivial) (fun _ => trivial)
def gloud.sig : Eng.Sig := { args := [.at (.int .i64 0)],ret := .at (.int .i64 0) }
def gloud.C (N : Nat) : Cfg := { P := Tryz.prog,N := N,RT := noRT,specs := [(106,gclamp.spec),(125,exp2.spec)] }
abbrev gloud.R : Type := Int
def gloud.dec (L : Eng.Leaves) : gloud.R := (L.i 0)
def gloud.enc (r : gloud.R) : Eng.Leaves := mkL [r] [] [] []
def gloud.K (N : Nat) : FCfg := {}
def gloud.F (N : Nat) (g : Int) : Option gloud.R :=
 (obind (Rc.gclamp.F N g) fun r0 =>
 (obind (Rc.exp2.F N (i64.wrap (70 * r0))) fun r1 =>
 (some r1)))
noncomputable def gloud.spec : Eng.Spec := gloud.sig.spec (fun N L => gloud.F N (L.i 0)) gloud.enc
theorem gloud.ok : CallOK Tryz.prog 64 gloud.spec := ok2 gloud.C gloud.K Tryz.f64 gloud.dec (fun _ => ⟨gclamp.ok,exp2.ok,trivial⟩) (fun _ => trivial)
def gsymbol.sig : Eng.Sig := { args := [.at (.ptr 0 0),.at (.int .i64 0)],n := 2,pre := [(0,.cells 10 [.full 1 false,.int .u64 1,.int .u64 2,.int .u64 3,.int .i64 4,.int .i64 5,.int .u64 6,.int .i64 7,.int .i64 8,.bool 0]),(1,.ints false .u8 0)],post := [(0,.cells 10 [.full 1 false,.int .u64 1,.int .u64 2,.int .u64 3,.int .i64 4,.fint .i64 5,.fint .u64 6,.fint .i64 7,.int .i64 5,.fbool 0]),(1,.fints false .u8 0)],ret := .at (.int .i64 0) }
def gsymbol.C (N : Nat) : Cfg := { P := Tryz.prog,N := N,RT := noRT,specs := [(44,ticdf.spec),(43,symbol.spec)],hi := 2 }
abbrev gsymbol.R : Type := Int × Int × Int × Int × Int × Int
def gsymbol.dec (L : Eng.Leaves) : gsymbol.R := (L.i 0,L.i 1,L.i 2,L.i 3,L.i 4,L.i 5)
def gsymbol.enc (r : gsymbol.R) : Eng.Leaves := mkL [r.1,r.2.1,r.2.2.1,r.2.2.2.1,r.2.2.2.2.1,r.2.2.2.2.2] [] [] []
def gsymbol.K (N : Nat) : FCfg := {}
def gsymbol.F (N : Nat) (k i j h e d c a f : Int) (g : Bool) (b : List Int) : Option gsymbol.R :=
 (obind (Rc.ticdf.F N k) fun r0 =>
 (obind (Rc.symbol.F N i j h e d c a f g r0 b) fun r1 =>
 (chkI d d
 (chkI c c
 (chkI a a
 (chkB g g
 (chkL b b
 (some ((r1.1,r1.2.1,r1.2.2.1,r1.2.2.2.1,r1.2.2.2.2.1,r1.2.2.2.2.2))))))))))
noncomputable def gsymbol.spec : Eng.Spec := gsymbol.sig.spec (fun N L => gsymbol.F N (L.i 0) (L.i 1) (L.i 2) (L.i 3) (L.i 4) (L.i 5) (L.i 6) (L.i 7) (L.i 8) (L.b 0) (L.l 0)) gsymbol.enc
theorem gsymbol.ok : CallOK Tryz.prog 105 gsymbol.spec := ok2 gsymbol.C gsymbol.K Tryz.f105 gsymbol.dec (fun _ => ⟨ticdf.ok,symbol.ok,trivial⟩) (fun _ => trivial)
def greadfirst.sig : Eng.Sig := { args := [.at (.ptr 0 0)],n := 2,pre := [(0,.cells 10 [.full 1 false,.int .u64 0,.int .u64 1,.int .u64 2,.int .i64 3,.int .i64 4,.int .u64 5,.int .i64 6,.int .i64 7,.bool 0]),(1,.ints false .u8 0)],post := [(0,.cells 10 [.full 1 false,.int .u64 1,.int .u64 2,.int .u64 3,.int .i64 4,.int .i64 5,.int .u64 6,.int .i64 7,.int .i64 8,.bool 0]),(1,.fints false .u8 0)],ret := .at (.int .i64 0) }
def greadfirst.C (N : Nat) : Cfg := { P := Tryz.prog,N := N,RT := noRT,specs := [(105,gsymbol.spec),(45,uint.spec)],inl := [(104,{ unr := [(3,4)] })],hi := 2 }
abbrev greadfirst.R : Type := Int × Int × Int × Int × Int × Int × Int × Int × Int × Bool
def greadfirst.dec (L : Eng.Leaves) : greadfirst.R := (L.i 0,L.i 1,L.i 2,L.i 3,L.i 4,L.i 5,L.i 6,L.i 7,L.i 8,L.b 0)
def greadfirst.enc (r : greadfirst.R) : Eng.Leaves := mkL [r.1,r.2.1,r.2.2.1,r.2.2.2.1,r.2.2.2.2.1,r.2.2.2.2.2.1,r.2.2.2.2.2.2.1,r.2.2.2.2.2.2.2.1,r.2.2.2.2.2.2.2.2.1] [r.2.2.2.2.2.2.2.2.2] [] []
def greadfirst.K (N : Nat) : FCfg := {}
def greadfirst.F (N : Nat) (i j g e d c a f : Int) (h : Bool) (b : List Int) : Option greadfirst.R :=
 (obind (Rc.gsymbol.F N (1) i j g e d c a f h b) fun r0 =>
 (obind (Rc.uint.F N (8) r0.2.1 r0.2.2.1 r0.2.2.2.1 r0.2.2.2.2.1 d c a r0.2.2.2.2.2 h b) fun r1 =>
 (chkL b b
 (some ((i64.wrap (i64.wrap (8 * ([r0.1] ++ [r1.1]).getD (Int.toNat 0) 0) + ([r0.1] ++ [r1.1]).getD (Int.toNat 1) 0),r1.2.1,r1.2.2.1,r1.2.2.2.1,r1.2.2.2.2.1,r1.2.2.2.2.2.1,r1.2.2.2.2.2.2.1,r1.2.2.2.2.2.2.2.1,r1.2.2.2.2.2.2.2.2.1,r1.2.2.2.2.2.2.2.2.2))))))
theorem greadfirst.F_eq (N : Nat) (L : Eng.Leaves) : evSig (greadfirst.C N) (greadfirst.K N) 1 Tryz.f46 greadfirst.sig L greadfirst.dec = greadfirst.F N (L.i 0) (L.i 1) (L.i 2) (L.i 3) (L.i 4) (L.i 5) (L.i 6) (L.i 7) (L.b 0) (L.l 0) := by
 kernel_rfl
def greadfirst.spec : Eng.Spec := greadfirst.sig.spec (fun N L => greadfirst.F N (L.i 0) (L.i 1) (L.i 2) (L.i 3) (L.i 4) (L.i 5) (L.i 6) (L.i 7) (L.b 0) (L.l 0)) greadfirst.enc
theorem greadfirst.cok (N : Nat) : CfgOK (greadfirst.C N) := cok0 wide ⟨gsymbol.ok,uint.ok,trivial⟩ (by kernel_rfl) rfl rfl rfl rfl
theorem greadfirst.aok (N : Nat) : AnnsOK (greadfirst.K N) := aok1 trivial
theorem greadfirst.ok : CallOK Tryz.prog 46 greadfirst.spec := ok0 greadfirst.cok (fun _ q hq => by
   simp only [greadfirst.C,List.mem_cons,List.not_mem_nil,or_false] at hq
   subst hq
   exact ⟨fun q hq => by simp at hq,by kernel_rfl⟩) greadfirst.aok greadfirst.F_eq (by kernel_rfl) (by kernel_rfl) (fun _ => rfl) (fun _ => ⟨rfl,rfl⟩) fun _ _ => ⟨rfl,rfl⟩
def gwritefirst.sig : Eng.Sig := { args := [.at (.ptr 0 0),.at (.int .i64 0)],n := 3,pre := [(0,.cells 6 [.full 1 false,.int .u64 1,.int .u64 2,.full 2 false,.int .i64 3,.int .i64 4]),(1,.ints true .u8 0),(2,.ints true .u8 1)],post := [(0,.cells 6 [.full 3 false,.int .u64 1,.int .u64 2,.full 4 false,.int .i64 3,.int .i64 4]),(1,.dead),(2,.dead),(3,.ints true .u8 0),(4,.ints true .u8 1)],m := 2,ret := .at (.int .i64 0) }
def gwritefirst.C (N : Nat) : Cfg := { P := Tryz.prog,N := N,RT := noRT,specs := [(44,ticdf.spec),(55,esymbol.spec),(56,euint.spec)],hi := 3 }
abbrev gwritefirst.R : Type := Int × Int × Int × Int × Int × List Int × List Int
def gwritefirst.dec (L : Eng.Leaves) : gwritefirst.R := (L.i 0,L.i 1,L.i 2,L.i 3,L.i 4,L.l 0,L.l 1)
def gwritefirst.enc (r : gwritefirst.R) : Eng.Leaves := mkL [r.1,r.2.1,r.2.2.1,r.2.2.2.1,r.2.2.2.2.1] [] [r.2.2.2.2.2.1,r.2.2.2.2.2.2] []
def gwritefirst.K (N : Nat) : FCfg := {}
def gwritefirst.F (N : Nat) (g d e a b : Int) (c f : List Int) : Option gwritefirst.R :=
 (br (decide (g < 0))
 (some (((1 : Int),d,e,a,b,c,f)))
 (br (decide (g > 63))
 (some (((1 : Int),d,e,a,b,c,f)))
 (obind (Rc.ticdf.F N (1)) fun r0 =>
 (obind (Rc.esymbol.F N (i64.wrap (g.tdiv 8)) d e a b r0 c f) fun r1 =>
 (br (r1.1 != 0)
 (some ((r1.1,r1.2.1,r1.2.2.1,r1.2.2.2.1,r1.2.2.2.2.1,r1.2.2.2.2.2.2,r1.2.2.2.2.2.1)))
 (obind (Rc.euint.F N (g.tmod 8) (8) r1.2.1 r1.2.2.1 r1.2.2.2.1 r1.2.2.2.2.1 r1.2.2.2.2.2.2 r1.2.2.2.2.2.1) fun r2 =>
 (some ((r2.1,r2.2.1,r2.2.2.1,r2.2.2.2.1,r2.2.2.2.2.1,r2.2.2.2.2.2.1,r2.2.2.2.2.2.2)))))))))
noncomputable def gwritefirst.spec : Eng.Spec := gwritefirst.sig.spec (fun N L => gwritefirst.F N (L.i 0) (L.i 1) (L.i 2) (L.i 3) (L.i 4) (L.l 0) (L.l 1)) gwritefirst.enc
theorem gwritefirst.ok : CallOK Tryz.prog 57 gwritefirst.spec := ok2 gwritefirst.C gwritefirst.K Tryz.f57 gwritefirst.dec (fun _ => ⟨ticdf.ok,esymbol.ok,euint.ok,trivial⟩) (fun _ => trivial)
def greadnext.sig : Eng.Sig := { args := [.at (.ptr 0 0),.at (.int .i64 0)],n := 2,pre := [(0,.cells 10 [.full 1 false,.int .u64 1,.int .u64 2,.int .u64 3,.int .i64 4,.int .i64 5,.int .u64 6,.int .i64 7,.int .i64 8,.bool 0]),(1,.ints false .u8 0)],post := [(0,.cells 10 [.full 1 false,.int .u64 1,.int .u64 2,.int .u64 3,.int .i64 4,.fint .i64 5,.fint .u64 6,.fint .i64 7,.int .i64 5,.fbool 0]),(1,.fints false .u8 0)],ret := .at (.int .i64 0) }
def greadnext.C (N : Nat) : Cfg := { P := Tryz.prog,N := N,RT := noRT,specs := [(106,gclamp.spec),(105,gsymbol.spec)],hi := 2 }
abbrev greadnext.R : Type := Int × Int × Int × Int × Int × Int
def greadnext.dec (L : Eng.Leaves) : greadnext.R := (L.i 0,L.i 1,L.i 2,L.i 3,L.i 4,L.i 5)
def greadnext.enc (r : greadnext.R) : Eng.Leaves := mkL [r.1,r.2.1,r.2.2.1,r.2.2.2.1,r.2.2.2.2.1,r.2.2.2.2.2] [] [] []
def greadnext.K (N : Nat) : FCfg := {}
def greadnext.F (N : Nat) (i j k h e d c a f : Int) (g : Bool) (b : List Int) : Option greadnext.R :=
 (obind (Rc.gclamp.F N i) fun r0 =>
 (obind (Rc.gsymbol.F N (2) j k h e d c a f g b) fun r1 =>
 (obind (Rc.gclamp.F N (i64.wrap (i64.wrap (r0 + r1.1) - 8))) fun r2 =>
 (chkI d d
 (chkI c c
 (chkI a a
 (chkB g g
 (chkL b b
 (some ((r2,r1.2.1,r1.2.2.1,r1.2.2.2.1,r1.2.2.2.2.1,r1.2.2.2.2.2)))))))))))
noncomputable def greadnext.spec : Eng.Spec := greadnext.sig.spec (fun N L => greadnext.F N (L.i 0) (L.i 1) (L.i 2) (L.i 3) (L.i 4) (L.i 5) (L.i 6) (L.i 7) (L.i 8) (L.b 0) (L.l 0)) greadnext.enc
theorem greadnext.ok : CallOK Tryz.prog 47 greadnext.spec := ok2 greadnext.C greadnext.K Tryz.f47 greadnext.dec (fun _ => ⟨gclamp.ok,gsymbol.ok,trivial⟩) (fun _ => trivial)
def gwritenext.sig : Eng.Sig := { args := [.at (.ptr 0 0),.at (.int .i64 0),.at (.int .i64 1)],n := 3,pre := [(0,.cells 6 [.full 1 false,.int .u64 2,.int .u64 3,.full 2 false,.int .i64 4,.int .i64 5]),(1,.ints true .u8 0),(2,.ints true .u8 1)],post := [(0,.cells 6 [.full 3 false,.int .u64 2,.int .u64 3,.full 2 false,.int .i64 4,.int .i64 5]),(1,.dead),(2,.ints true .u8 0),(3,.ints true .u8 1)],m := 1,ret := .tup [(false,[.int .i64 0]),(false,[.int .i64 1])] }
def gwritenext.C (N : Nat) : Cfg := { P := Tryz.prog,N := N,RT := noRT,specs := [(106,gclamp.spec),(44,ticdf.spec),(55,esymbol.spec)],hi := 3 }
abbrev gwritenext.R : Type := Int × Int × Int × Int × Int × Int × List Int × List Int
def gwritenext.dec (L : Eng.Leaves) : gwritenext.R := (L.i 0,L.i 1,L.i 2,L.i 3,L.i 4,L.i 5,L.l 0,L.l 1)
def gwritenext.enc (r : gwritenext.R) : Eng.Leaves := mkL [r.1,r.2.1,r.2.2.1,r.2.2.2.1,r.2.2.2.2.1,r.2.2.2.2.2.1] [] [r.2.2.2.2.2.2.1,r.2.2.2.2.2.2.2] []
def gwritenext.K (N : Nat) : FCfg := {}
def gwritenext.F (N : Nat) (g d e f a b : Int) (c h : List Int) : Option gwritenext.R :=
 (obind (Rc.gclamp.F N g) fun r0 =>
 (obind (Rc.gclamp.F N d) fun r1 =>
 (obind (Rc.gclamp.F N (i64.wrap (i64.wrap (r1 + if (16 : Int) < if (0 : Int) > i64.wrap (i64.wrap (r0 - r1) + (8 : Int)) then (0 : Int) else i64.wrap (i64.wrap (r0 - r1) + (8 : Int)) then (16 : Int) else if (0 : Int) > i64.wrap (i64.wrap (r0 - r1) + (8 : Int)) then (0 : Int) else i64.wrap (i64.wrap (r0 - r1) + (8 : Int))) - (8 : Int)))) fun r2 =>
 (obind (Rc.ticdf.F N (2)) fun r3 =>
 (obind (Rc.esymbol.F N (if (16 : Int) < if (0 : Int) > i64.wrap (i64.wrap (r0 - r1) + (8 : Int)) then (0 : Int) else i64.wrap (i64.wrap (r0 - r1) + (8 : Int)) then (16 : Int) else if (0 : Int) > i64.wrap (i64.wrap (r0 - r1) + (8 : Int)) then (0 : Int) else i64.wrap (i64.wrap (r0 - r1) + (8 : Int))) e f a b r3 c h) fun r4 =>
 (some ((r2,r4.1,r4.2.1,r4.2.2.1,r4.2.2.2.1,r4.2.2.2.2.1,r4.2.2.2.2.2.1,r4.2.2.2.2.2.2))))))))
noncomputable def gwritenext.spec : Eng.Spec := gwritenext.sig.spec (fun N L => gwritenext.F N (L.i 0) (L.i 1) (L.i 2) (L.i 3) (L.i 4) (L.i 5) (L.l 0) (L.l 1)) gwritenext.enc
theorem gwritenext.ok : CallOK Tryz.prog 58 gwritenext.spec := ok2 gwritenext.C gwritenext.K Tryz.f58 gwritenext.dec (fun _ => ⟨gclamp.ok,ticdf.ok,esymbol.ok,trivial⟩) (fun _ => trivial)
def glags.sig : Eng.Sig := { args := [.at (.int .i64 0)],ret := .tup [(false,[.int .i64 0]),(false,[.int .i64 1])] }
def glags.C (N : Nat) : Cfg := { P := Tryz.prog,N := N,RT := noRT,specs := [] }
abbrev glags.R : Type := Int × Int
def glags.dec (L : Eng.Leaves) : glags.R := (L.i 0,L.i 1)
def glags.enc (r : glags.R) : Eng.Leaves := mkL [r.1,r.2] [] [] []
def glags.K (N : Nat) : FCfg := {}
def glags.F (N : Nat) (a : Int) : Option glags.R :=
 (br (a != 8000)
 (br (a != 16000)
 (some (((0 : Int),0)))
 (some ((i64.wrap (a.tdiv 500),i64.wrap ((i64.wrap (18 * a)).tdiv 1000)))))
 (some ((i64.wrap (a.tdiv 500),i64.wrap ((i64.wrap (18 * a)).tdiv 1000)))))
noncomputable def glags.spec : Eng.Spec := glags.sig.spec (fun N L => glags.F N (L.i 0)) glags.enc
theorem glags.ok : CallOK Tryz.prog 107 glags.spec := ok2 glags.C glags.K Tryz.f107 glags.dec (fun _ => trivial) (fun _ => trivial)
def greadltp.sig : Eng.Sig := { args := [.at (.ptr 0 0),.at (.int .i64 0)],n := 2,pre := [(0,.cells 10 [.full 1 false,.int .u64 1,.int .u64 2,.int .u64 3,.int .i64 4,.int .i64 5,.int .u64 6,.int .i64 7,.int .i64 8,.bool 0]),(1,.ints false .u8 0)],post := [(0,.cells 10 [.full 1 false,.int .u64 2,.int .u64 3,.int .u64 4,.int .i64 5,.int .i64 6,.int .u64 7,.int .i64 8,.int .i64 9,.bool 0]),(1,.fints false .u8 0)],ret := .agg [.int .i64 0,.int .i64 1] }
def greadltp.C (N : Nat) : Cfg := { P := Tryz.prog,N := N,RT := noRT,specs := [(105,gsymbol.spec),(45,uint.spec),(107,glags.spec)],inl := [(104,{ unr := [(3,4)] })],hi := 2 }
abbrev greadltp.R : Type := Int × Int × Int × Int × Int × Int × Int × Int × Int × Int × Bool
def greadltp.dec (L : Eng.Leaves) : greadltp.R := (L.i 0,L.i 1,L.i 2,L.i 3,L.i 4,L.i 5,L.i 6,L.i 7,L.i 8,L.i 9,L.b 0)
def greadltp.enc (r : greadltp.R) : Eng.Leaves := mkL [r.1,r.2.1,r.2.2.1,r.2.2.2.1,r.2.2.2.2.1,r.2.2.2.2.2.1,r.2.2.2.2.2.2.1,r.2.2.2.2.2.2.2.1,r.2.2.2.2.2.2.2.2.1,r.2.2.2.2.2.2.2.2.2.1] [r.2.2.2.2.2.2.2.2.2.2] [] []
def greadltp.K (N : Nat) : FCfg := {}
def greadltp.F (N : Nat) (h i j f d g c a e : Int) (k : Bool) (b : List Int) : Option greadltp.R :=
 (obind (Rc.glags.F N h) fun r0 =>
 (br (r0.1 == 0)
 (chkL b b
 (some (((0 : Int),0,i,j,f,d,g,c,a,e,k))))
 (obind (Rc.uint.F N (i64.wrap (i64.wrap (r0.2 - r0.1) + 1)) i j f d g c a e k b) fun r1 =>
 (obind (Rc.gsymbol.F N (6) r1.2.1 r1.2.2.1 r1.2.2.2.1 r1.2.2.2.2.1 r1.2.2.2.2.2.1 r1.2.2.2.2.2.2.1 r1.2.2.2.2.2.2.2.1 r1.2.2.2.2.2.2.2.2.1 r1.2.2.2.2.2.2.2.2.2 b) fun r2 =>
 (chkL b b
 (some ((i64.wrap (r0.1 + ([r1.1] ++ [r2.1]).getD (Int.toNat 0) 0),([r1.1] ++ [r2.1]).getD (Int.toNat 1) 0,r2.2.1,r2.2.2.1,r2.2.2.2.1,r2.2.2.2.2.1,r1.2.2.2.2.2.1,r1.2.2.2.2.2.2.1,r1.2.2.2.2.2.2.2.1,r2.2.2.2.2.2,r1.2.2.2.2.2.2.2.2.2))))))))
theorem greadltp.F_eq (N : Nat) (L : Eng.Leaves) : evSig (greadltp.C N) (greadltp.K N) 1 Tryz.f48 greadltp.sig L greadltp.dec = greadltp.F N (L.i 0) (L.i 1) (L.i 2) (L.i 3) (L.i 4) (L.i 5) (L.i 6) (L.i 7) (L.i 8) (L.b 0) (L.l 0) := by
 kernel_rfl
def greadltp.spec : Eng.Spec := greadltp.sig.spec (fun N L => greadltp.F N (L.i 0) (L.i 1) (L.i 2) (L.i 3) (L.i 4) (L.i 5) (L.i 6) (L.i 7) (L.i 8) (L.b 0) (L.l 0)) greadltp.enc
theorem greadltp.cok (N : Nat) : CfgOK (greadltp.C N) := cok0 wide ⟨gsymbol.ok,uint.ok,glags.ok,trivial⟩ (by kernel_rfl) rfl rfl rfl rfl
theorem greadltp.aok (N : Nat) : AnnsOK (greadltp.K N) := aok1 trivial
theorem greadltp.ok : CallOK Tryz.prog 48 greadltp.spec := ok0 greadltp.cok (fun _ q hq => by
   simp only [greadltp.C,List.mem_cons,List.not_mem_nil,or_false] at hq
   subst hq
   exact ⟨fun q hq => by simp at hq,by kernel_rfl⟩) greadltp.aok greadltp.F_eq (by kernel_rfl) (by kernel_rfl) (fun _ => rfl) (fun _ => ⟨rfl,rfl⟩) fun _ _ => ⟨rfl,rfl⟩
def gwriteltp.sig : Eng.Sig := { args := [.at (.ptr 0 0),.at (.int .i64 0),.agg [.int .i64 1,.int .i64 2]],n := 3,pre := [(0,.cells 6 [.full 1 false,.int .u64 3,.int .u64 4,.full 2 false,.int .i64 5,.int .i64 6]),(1,.ints true .u8 0),(2,.ints true .u8 1)],post := [(0,.cells 6 [.full 3 false,.int .u64 1,.int .u64 2,.full 4 false,.int .i64 3,.int .i64 4]),(1,.dead),(2,.dead),(3,.ints true .u8 0),(4,.ints true .u8 1)],m := 2,ret := .at (.int .i64 0) }
def gwriteltp.C (N : Nat) : Cfg := { P := Tryz.prog,N := N,RT := noRT,specs := [(107,glags.spec),(111,tfilters.spec),(56,euint.spec),(44,ticdf.spec),(55,esymbol.spec)],hi := 3 }
abbrev gwriteltp.R : Type := Int × Int × Int × Int × Int × List Int × List Int
def gwriteltp.dec (L : Eng.Leaves) : gwriteltp.R := (L.i 0,L.i 1,L.i 2,L.i 3,L.i 4,L.l 0,L.l 1)
def gwriteltp.enc (r : gwriteltp.R) : Eng.Leaves := mkL [r.1,r.2.1,r.2.2.1,r.2.2.2.1,r.2.2.2.2.1] [] [r.2.2.2.2.2.1,r.2.2.2.2.2.2] []
def gwriteltp.K (N : Nat) : FCfg := {}
def gwriteltp.F (N : Nat) (i e b f g a c : Int) (d h : List Int) : Option gwriteltp.R :=
 (obind (Rc.glags.F N i) fun r0 =>
 (br (r0.1 == 0)
 (some (((1 : Int),f,g,a,c,d,h)))
 (br (decide (e < r0.1))
 (some (((1 : Int),f,g,a,c,d,h)))
 (br (decide (e > r0.2))
 (some (((1 : Int),f,g,a,c,d,h)))
 (br (decide (b < 0))
 (some (((1 : Int),f,g,a,c,d,h)))
 (obind (Rc.tfilters.F N) fun r1 =>
 (chkI b b
 (br (decide (b >= r1))
 (some (((1 : Int),f,g,a,c,d,h)))
 (obind (Rc.euint.F N (i64.wrap (e - r0.1)) (i64.wrap (i64.wrap (r0.2 - r0.1) + 1)) f g a c d h) fun r2 =>
 (br (r2.1 != 0)
 (some ((r2.1,r2.2.1,r2.2.2.1,r2.2.2.2.1,r2.2.2.2.2.1,r2.2.2.2.2.2.1,r2.2.2.2.2.2.2)))
 (obind (Rc.ticdf.F N (6)) fun r3 =>
 (obind (Rc.esymbol.F N b r2.2.1 r2.2.2.1 r2.2.2.2.1 r2.2.2.2.2.1 r3 r2.2.2.2.2.2.1 r2.2.2.2.2.2.2) fun r4 =>
 (chkI b b
 (some ((r4.1,r4.2.1,r4.2.2.1,r4.2.2.2.1,r4.2.2.2.2.1,r4.2.2.2.2.2.2,r4.2.2.2.2.2.1))))))))))))))))
noncomputable def gwriteltp.spec : Eng.Spec := gwriteltp.sig.spec (fun N L => gwriteltp.F N (L.i 0) (L.i 1) (L.i 2) (L.i 3) (L.i 4) (L.i 5) (L.i 6) (L.l 0) (L.l 1)) gwriteltp.enc
theorem gwriteltp.ok : CallOK Tryz.prog 59 gwriteltp.spec := ok2 gwriteltp.C gwriteltp.K Tryz.f59 gwriteltp.dec (fun _ => ⟨glags.ok,tfilters.ok,euint.ok,ticdf.ok,esymbol.ok,trivial⟩) (fun _ => trivial)
def rclamp.sig : Eng.Sig := { args := [.at (.int .i64 0),.at (.int .i64 1),.at (.int .i64 2)],ret := .at (.int .i64 0) }
def rclamp.C (N : Nat) : Cfg := { P := Tryz.prog,N := N,RT := noRT,specs := [] }
abbrev rclamp.R : Type := Int
def rclamp.dec (L : Eng.Leaves) : rclamp.R := (L.i 0)
def rclamp.enc (r : rclamp.R) : Eng.Leaves := mkL [r] [] [] []
def rclamp.K (N : Nat) : FCfg := {}
def rclamp.F (N : Nat) (a b c : Int) : Option rclamp.R :=
 (br (decide (a < b))
 (some b)
 (br (decide (b > c))
 (some b)
 (br (decide (a > c))
 (some c)
 (some a))))
noncomputable def rclamp.spec : Eng.Spec := rclamp.sig.spec (fun N L => rclamp.F N (L.i 0) (L.i 1) (L.i 2)) rclamp.enc
theorem rclamp.ok : CallOK Tryz.prog 86 rclamp.spec := ok2 rclamp.C rclamp.K Tryz.f86 rclamp.dec (fun _ => trivial) (fun _ => trivial)
def rmul.sig : Eng.Sig := { args := [.at (.int .i64 0),.at (.int .i64 1),.at (.int .i64 2)],ret := .at (.int .i64 0) }
def rmul.C (N : Nat) : Cfg := { P := Tryz.prog,N := N,RT := noRT,specs := [(86,rclamp.spec)] }
abbrev rmul.R : Type := Int
def rmul.dec (L : Eng.Leaves) : rmul.R := (L.i 0)
def rmul.enc (r : rmul.R) : Eng.Leaves := mkL [r] [] [] []
def rmul.K (N : Nat) : FCfg := {}
def rmul.F (N : Nat) (a b s : Int) : Option rmul.R :=
 (obind (Rc.rclamp.F N a ((-2147483648)) (2147483648)) fun r0 =>
 (obind (Rc.rclamp.F N b ((-2147483648)) (2147483648)) fun r1 =>
 (br (decide (s < 0))
 (some ((0 : Int)))
 (br (decide (s > 62))
 (some ((0 : Int)))
 (br (s == 0)
 (some (i64.wrap (r0 * r1)))
 (chk (0 <= u64.wrap (i64.wrap (s - 1)))
 (chk (0 <= u64.wrap s)
 (chk (0 <= u64.wrap s)
 (br (decide (i64.wrap (i64.wrap (r0 * r1) - i64.wrap ((i64.wrap (r0 * r1)).fdiv ((2 : Int) ^ min (u64.wrap s).toNat i64.bits) * (2 : Int) ^ min (u64.wrap s).toNat i64.bits)) >= i64.wrap ((1 : Int) * (2 : Int) ^ min (u64.wrap (i64.wrap (s - (1 : Int)))).toNat i64.bits)))
 (some (i64.wrap ((i64.wrap (r0 * r1)).fdiv ((2 : Int) ^ min (u64.wrap s).toNat i64.bits) + 1)))
 (some ((i64.wrap (r0 * r1)).fdiv ((2 : Int) ^ min (u64.wrap s).toNat i64.bits))))))))))))
noncomputable def rmul.spec : Eng.Spec := rmul.sig.spec (fun N L => rmul.F N (L.i 0) (L.i 1) (L.i 2)) rmul.enc
theorem rmul.ok : CallOK Tryz.prog 142 rmul.spec := ok2 rmul.C rmul.K Tryz.f142 rmul.dec (fun _ => ⟨rclamp.ok,trivial⟩) (fun _ => trivial)
def rexp2.sig : Eng.Sig := { args := [.at (.int .i64 0)],ret := .at (.int .i64 0) }
def rexp2.C (N : Nat) : Cfg := { P := Tryz.prog,N := N,RT := noRT,specs := [(86,rclamp.spec),(142,rmul.spec)] }
abbrev rexp2.R : Type := Int
def rexp2.dec (L : Eng.Leaves) : rexp2.R := (L.i 0)
def rexp2.enc (r : rexp2.R) : Eng.Leaves := mkL [r] [] [] []
abbrev rexp2.loop5.R : Type := Int
def rexp2.loop5.ann : Ann := { nx := 20,slots := [(0,.at (.fint .i64 0)),(3,.at (.full 0 true)),(4,.at (.int .i64 0)),(5,.at (.int .i64 1))],blks := [(0,.fints true .i64 0)],xslots := [(3,.at (.full 0 true)),(4,.at (.int .i64 0))],xblks := [(0,.fints true .i64 0)],T := rexp2.loop5.R,dec := fun L => (L.i 0),enc := fun r => mkL [r] [] [] [] }
def rexp2.K (N : Nat) : FCfg := { anns := [(5,rexp2.loop5.ann)] }
def rexp2.loop5 (N : Nat) : Nat -> Int -> List Int -> Int -> Int -> Option rexp2.loop5.R
 | 0,_,_,_,_ => none
 | nn + 1,q,a,c,b =>
 (br (decide (b < 8))
 (chk (0 <= u64.wrap (i64.wrap (7 - b)))
 (br (i64.wrap ↑(BitVec.ofInt i64.bits (q.fdiv ((2 : Int) ^ min (u64.wrap (i64.wrap ((7 : Int) - b))).toNat i64.bits)) &&& BitVec.ofInt i64.bits (1 : Int)).toNat == (1 : Int))
 (chk ((0 : Int) <= b /\ b < ↑a.length)
 (obind (Rc.rmul.F N c (a.getD b.toNat 0) (30)) fun r0 =>
 (chkI q q
 (chkL a a
 (rexp2.loop5 N nn q a r0 (i64.wrap (b + 1)))))))
 (chkI q q
 (chkL a a
 (rexp2.loop5 N nn q a c (i64.wrap (b + 1)))))))
 (chkL a a
 (some c)))
def rexp2.loop5R (N nn : Nat) (q : Int) (a : List Int) (b c : Int) : Option rexp2.loop5.R := loopF rexp2.loop5.ann (mkL [q] [] [a] []) (evCode ((rexp2.C N).inLoop rexp2.loop5.ann) (rexp2.K N) (inlTab (rexp2.C N) 0) (bodyAt 5 Tryz.f148)) nn (mkL [b,c] [] [] [])
theorem rexp2.loop5_eq (N : Nat) : ∀ nn,rexp2.loop5R N nn = rexp2.loop5 N nn := lq fun _ h => by funext; rw [rexp2.loop5,<- h]; kernel_rfl
def rexp2.F (N : Nat) (q : Int) : Option rexp2.R :=
 (obind (Rc.rclamp.F N q (0) (7935)) fun r0 =>
 (obind (rexp2.loop5 N N r0 ([(1518500250 : Int),1276901417,1170923762,1121280436,1097253708,1085434106,1079572136,1076653033]) (1073741824) (0)) fun r1 =>
 (obind (Rc.rmul.F N r1 (1) (i64.wrap (30 - i64.wrap (r0.tdiv 256)))) fun r2 =>
 (some r2))))
noncomputable def rexp2.spec : Eng.Spec := rexp2.sig.spec (fun N L => rexp2.F N (L.i 0)) rexp2.enc
theorem rexp2.ok : CallOK Tryz.prog 148 rexp2.spec := ok2 rexp2.C rexp2.K Tryz.f148 rexp2.dec (fun _ => ⟨rclamp.ok,rmul.ok,trivial⟩) (fun _ => ⟨fun _ _ => ⟨rfl,rfl⟩,trivial⟩) (by intro N L; show _ = rexp2.F N (L.i 0); rw [rexp2.F,<- funext (rexp2.loop5_eq N)]; kernel_rfl)
def rloud.sig : Eng.Sig := { args := [.at (.int .i64 0)],ret := .at (.int .i64 0) }
def rloud.C (N : Nat) : Cfg := { P := Tryz.prog,N := N,RT := noRT,specs := [(86,rclamp.spec),(148,rexp2.spec)] }
abbrev rloud.R : Type := Int
def rloud.dec (L : Eng.Leaves) : rloud.R := (L.i 0)
def rloud.enc (r : rloud.R) : Eng.Leaves := mkL [r] [] [] []
def rloud.K (N : Nat) : FCfg := {}
def rloud.F (N : Nat) (g : Int) : Option rloud.R :=
 (obind (Rc.rclamp.F N g (0) (63)) fun r0 =>
 (obind (Rc.rexp2.F N (i64.wrap (70 * r0))) fun r1 =>
 (some r1)))
noncomputable def rloud.spec : Eng.Spec := rloud.sig.spec (fun N L => rloud.F N (L.i 0)) rloud.enc
theorem rloud.ok : CallOK Tryz.prog 94 rloud.spec := ok2 rloud.C rloud.K Tryz.f94 rloud.dec (fun _ => ⟨rclamp.ok,rexp2.ok,trivial⟩) (fun _ => trivial)
def pmay9.sig : Eng.Sig := { args := [.at (.int .i64 0)],ret := .at (.bool 0) }
def pmay9.C (N : Nat) : Cfg := { P := Tryz.prog,N := N,RT := noRT,specs := [] }
abbrev pmay9.R : Type := Bool
def pmay9.dec (L : Eng.Leaves) : pmay9.R := (L.b 0)
def pmay9.enc (r : pmay9.R) : Eng.Leaves := mkL [] [r] [] []
def pmay9.K (N : Nat) : FCfg := {}
def pmay9.F (N : Nat) (n : Int) : Option pmay9.R :=
 (br (decide (n >= 16))
 (br (decide (n <= 480))
 (some (n.tmod (16 : Int) == (0 : Int)))
 (some false))
 (some false))
noncomputable def pmay9.spec : Eng.Spec := pmay9.sig.spec (fun N L => pmay9.F N (L.i 0)) pmay9.enc
theorem pmay9.ok : CallOK Tryz.prog 108 pmay9.spec := ok2 pmay9.C pmay9.K Tryz.f108 pmay9.dec (fun _ => trivial) (fun _ => trivial)
def abs9.sig : Eng.Sig := { args := [.at (.int .i64 0)],ret := .at (.int .i64 0) }
def abs9.C (N : Nat) : Cfg := { P := Tryz.prog,N := N,RT := noRT,specs := [] }
abbrev abs9.R : Type := Int
def abs9.dec (L : Eng.Leaves) : abs9.R := (L.i 0)
def abs9.enc (r : abs9.R) : Eng.Leaves := mkL [r] [] [] []
def abs9.K (N : Nat) : FCfg := {}
def abs9.F (N : Nat) (v : Int) : Option abs9.R :=
 (some (if i64.wrap ((0 : Int) - v) > v then i64.wrap ((0 : Int) - v) else v))
noncomputable def abs9.spec : Eng.Spec := abs9.sig.spec (fun N L => abs9.F N (L.i 0)) abs9.enc
theorem abs9.ok : CallOK Tryz.prog 152 abs9.spec := ok2 abs9.C abs9.K Tryz.f152 abs9.dec (fun _ => trivial) (fun _ => trivial)
def count9.sig : Eng.Sig := { args := [.at (.roi .i64 0)],ret := .at (.int .i64 0) }
def count9.C (N : Nat) : Cfg := { P := Tryz.prog,N := N,RT := noRT,specs := [(121,clamp.spec),(152,abs9.spec)] }
abbrev count9.R : Type := Int
def count9.dec (L : Eng.Leaves) : count9.R := (L.i 0)
def count9.enc (r : count9.R) : Eng.Leaves := mkL [r] [] [] []
abbrev count9.loop3.R : Type := Int
def count9.loop3.ann : Ann := { nx := 20,slots := [(3,.at (.int .i64 0)),(6,.at (.froi .i64 0)),(7,.at (.fint .i64 0)),(8,.at (.int .i64 1))],xslots := [(3,.at (.int .i64 0))],T := count9.loop3.R,dec := fun L => (L.i 0),enc := fun r => mkL [r] [] [] [] }
def count9.K (N : Nat) : FCfg := { anns := [(3,count9.loop3.ann)] }
def count9.loop3 (N : Nat) : Nat -> Int -> List Int -> Int -> Int -> Option count9.loop3.R
 | 0,_,_,_,_ => none
 | nn + 1,c,a,d,b =>
 (br (decide (b < c))
 (chk ((0 : Int) <= b /\ b < ↑a.length)
 (obind (Rc.clamp.F N (a.getD b.toNat 0) ((-32)) (32)) fun r0 =>
 (obind (Rc.abs9.F N r0) fun r1 =>
 (chkL a a
 (chkI c c
 (count9.loop3 N nn c a (i64.wrap (d + r1)) (i64.wrap (b + 1))))))))
 (some d))
def count9.loop3R (N nn : Nat) (a : Int) (b : List Int) (c d : Int) : Option count9.loop3.R := loopF count9.loop3.ann (mkL [a] [] [b] []) (evCode ((count9.C N).inLoop count9.loop3.ann) (count9.K N) (inlTab (count9.C N) 0) (bodyAt 3 Tryz.f113)) nn (mkL [c,d] [] [] [])
theorem count9.loop3_eq (N : Nat) : ∀ nn,count9.loop3R N nn = count9.loop3 N nn := lq fun _ h => by funext; rw [count9.loop3,<- h]; kernel_rfl
def count9.F (N : Nat) (l : List Int) : Option count9.R :=
 (obind (count9.loop3 N N (↑l.length) l ((0 : Int)) ((0 : Int))) fun r0 =>
 (some r0))
noncomputable def count9.spec : Eng.Spec := count9.sig.spec (fun N L => count9.F N (L.l 0)) count9.enc
theorem count9.ok : CallOK Tryz.prog 113 count9.spec := ok2 count9.C count9.K Tryz.f113 count9.dec (fun _ => ⟨clamp.ok,abs9.ok,trivial⟩) (fun _ => ⟨fun _ _ => ⟨rfl,rfl⟩,trivial⟩) (by intro N L; show _ = count9.F N (L.l 0); rw [count9.F,<- funext (count9.loop3_eq N)]; kernel_rfl)
def good9.sig : Eng.Sig := { args := [.at (.roi .i64 0)],ret := .at (.bool 0) }
def good9.C (N : Nat) : Cfg := { P := Tryz.prog,N := N,RT := noRT,specs := [(108,pmay9.spec),(113,count9.spec)] }
abbrev good9.R : Type := Bool
def good9.dec (L : Eng.Leaves) : good9.R := (L.b 0)
def good9.enc (r : good9.R) : Eng.Leaves := mkL [] [r] [] []
abbrev good9.loop4.R : Type := Bool
def good9.loop4.ann : Ann := { nx := 20,slots := [(0,.at (.froi .i64 0)),(2,.at (.bool 0)),(3,.at (.int .i64 0))],xslots := [(2,.at (.bool 0))],T := good9.loop4.R,dec := fun L => (L.b 0),enc := fun r => mkL [] [r] [] [],ret := true }
def good9.K (N : Nat) : FCfg := { anns := [(4,good9.loop4.ann)] }
def good9.loop4 (N : Nat) : Nat -> List Int -> List Int -> Int -> Bool -> Option (good9.loop4.R ⊕ good9.R)
 | 0,_,_,_,_ => none
 | nn + 1,b,l,a,c =>
 (br (decide (a < ↑l.length))
 (chk ((0 : Int) <= i64.wrap (a + (16 : Int)) /\ i64.wrap (a + (16 : Int)) <= ↑l.length)
 (chk ((0 : Int) <= a /\ a <= ↑(i64.wrap (a + (16 : Int))).toNat)
 (obind (Rc.count9.F N (List.take ((i64.wrap (a + (16 : Int))).toNat - a.toNat) (List.drop a.toNat l))) fun r0 =>
 (br (decide (r0 > 16))
 (omap
 (some false) .inr)
 (chkL l l
 (good9.loop4 N nn b l (i64.wrap (a + 16)) c))))))
 (some (Sum.inl c)))
def good9.loop4R (N nn : Nat) (a : List Int) (l : List Int) (c : Int) (d : Bool) : Option (good9.loop4.R ⊕ good9.R) := loopR good9.loop4.ann (mkL [] [] [l] []) (evCode ((good9.C N).inLoop good9.loop4.ann) (good9.K N) (inlTab (good9.C N) 0) (bodyAt 4 Tryz.f112)) (sigKr Tryz.prog Tryz.f112 good9.sig (mkL [] [] [a] []) fun L => (L.b 0)) nn (mkL [c] [d] [] [])
theorem good9.loop4_eq (N : Nat) : ∀ nn,good9.loop4R N nn = good9.loop4 N nn := lq fun _ h => by funext; rw [good9.loop4,<- h]; kernel_rfl
def good9.F (N : Nat) (l : List Int) : Option good9.R :=
 (obind (Rc.pmay9.F N (↑l.length)) fun r0 =>
 (br (!r0)
 (some false)
 (osum (good9.loop4 N N l l (0) false) fun r1 =>
 (some true))))
noncomputable def good9.spec : Eng.Spec := good9.sig.spec (fun N L => good9.F N (L.l 0)) good9.enc
theorem good9.ok : CallOK Tryz.prog 112 good9.spec := ok2 good9.C good9.K Tryz.f112 good9.dec (fun _ => ⟨pmay9.ok,count9.ok,trivial⟩) (fun _ => ⟨fun _ _ => ⟨rfl,rfl⟩,trivial⟩) (by intro N L; show _ = good9.F N (L.l 0); rw [good9.F,<- funext (good9.loop4_eq N)]; kernel_rfl)
def share9.sig : Eng.Sig := { args := [.at (.ptr 0 0),.at (.full 2 false),.at (.int .i64 0)],n := 3,pre := [(0,.cells 10 [.full 1 false,.int .u64 1,.int .u64 2,.int .u64 3,.int .i64 4,.int .i64 5,.int .u64 6,.int .i64 7,.int .i64 8,.bool 0]),(1,.ints false .u8 0),(2,.ints false .i64 1)],post := [(0,.cells 10 [.full 1 false,.int .u64 0,.int .u64 1,.int .u64 2,.int .i64 3,.int .i64 4,.int .u64 5,.int .i64 6,.int .i64 7,.bool 0]),(1,.fints false .u8 0),(2,.ints false .i64 0)],ret := .at (.unk) }
abbrev share9.R : Type := Int × Int × Int × Int × Int × Int × Int × Int × Bool × List Int
def share9.dec (L : Eng.Leaves) : share9.R := (L.i 0,L.i 1,L.i 2,L.i 3,L.i 4,L.i 5,L.i 6,L.i 7,L.b 0,L.l 0)
def share9.enc (r : share9.R) : Eng.Leaves := mkL [r.1,r.2.1,r.2.2.1,r.2.2.2.1,r.2.2.2.2.1,r.2.2.2.2.2.1,r.2.2.2.2.2.2.1,r.2.2.2.2.2.2.2.1] [r.2.2.2.2.2.2.2.2.1] [r.2.2.2.2.2.2.2.2.2] []
def share9.G (N : Nat) : Nat -> Int -> Int -> Int -> Int -> Int -> Int -> Int -> Int -> Int -> Bool -> List Int -> List Int -> Option share9.R
 | 0,_,_,_,_,_,_,_,_,_,_,_,_ => none
 | nn + 1,k,rng,val,last,front,back,window,waiting,count,bad,b,l =>
 (br (↑l.length == (1 : Int))
 (chk ((0 : Int) <= (0 : Int) /\ (0 : Int) < ↑l.length)
 (chkL b b
 (some ((rng,val,last,front,back,window,waiting,count,bad,l.set (Int.toNat (0 : Int)) k)))))
 (obind (Rc.uint.F N (i64.wrap (k + (1 : Int))) rng val last front back window waiting count bad b) fun r0 =>
 (chk ((0 : Int) <= i64.wrap ((↑l.length : Int).tdiv (2 : Int)) /\ i64.wrap ((↑l.length : Int).tdiv (2 : Int)) <= ↑l.length)
 (chk ((0 : Nat) + ((i64.wrap ((↑l.length : Int).tdiv (2 : Int))).toNat - (0 : Nat)) <= l.length)
 (obind (Rc.share9.G N nn r0.1 r0.2.1 r0.2.2.1 r0.2.2.2.1 r0.2.2.2.2.1 r0.2.2.2.2.2.1 r0.2.2.2.2.2.2.1 r0.2.2.2.2.2.2.2.1 r0.2.2.2.2.2.2.2.2.1 r0.2.2.2.2.2.2.2.2.2 b (List.take ((i64.wrap ((↑l.length : Int).tdiv (2 : Int))).toNat - (0 : Nat)) (List.drop (0 : Nat) l))) fun r1 =>
 (chk ((0 : Int) <= i64.wrap ((↑(List.take (0 : Nat) l ++ (r1.2.2.2.2.2.2.2.2.2 ++ List.drop ((0 : Nat) + ((i64.wrap ((↑l.length : Int).tdiv (2 : Int))).toNat - (0 : Nat))) l)).length : Int).tdiv (2 : Int)) /\ i64.wrap ((↑(List.take (0 : Nat) l ++ (r1.2.2.2.2.2.2.2.2.2 ++ List.drop ((0 : Nat) + ((i64.wrap ((↑l.length : Int).tdiv (2 : Int))).toNat - (0 : Nat))) l)).length : Int).tdiv (2 : Int)) <= ↑(List.take (0 : Nat) l ++ (r1.2.2.2.2.2.2.2.2.2 ++ List.drop ((0 : Nat) + ((i64.wrap ((↑l.length : Int).tdiv (2 : Int))).toNat - (0 : Nat))) l)).length)
 (chk ((i64.wrap ((↑(List.take (0 : Nat) l ++ (r1.2.2.2.2.2.2.2.2.2 ++ List.drop ((0 : Nat) + ((i64.wrap ((↑l.length : Int).tdiv (2 : Int))).toNat - (0 : Nat))) l)).length : Int).tdiv (2 : Int))).toNat + ((List.take (0 : Nat) l ++ (r1.2.2.2.2.2.2.2.2.2 ++ List.drop ((0 : Nat) + ((i64.wrap ((↑l.length : Int).tdiv (2 : Int))).toNat - (0 : Nat))) l)).length - (i64.wrap ((↑(List.take (0 : Nat) l ++ (r1.2.2.2.2.2.2.2.2.2 ++ List.drop ((0 : Nat) + ((i64.wrap ((↑l.length : Int).tdiv (2 : Int))).toNat - (0 : Nat))) l)).length : Int).tdiv (2 : Int))).toNat) <= (List.take (0 : Nat) l ++ (r1.2.2.2.2.2.2.2.2.2 ++ List.drop ((0 : Nat) + ((i64.wrap ((↑l.length : Int).tdiv (2 : Int))).toNat - (0 : Nat))) l)).length)
 (obind (Rc.share9.G N nn (i64.wrap (k - r0.1)) r1.1 r1.2.1 r1.2.2.1 r1.2.2.2.1 r1.2.2.2.2.1 r1.2.2.2.2.2.1 r1.2.2.2.2.2.2.1 r1.2.2.2.2.2.2.2.1 r1.2.2.2.2.2.2.2.2.1 b (List.take ((List.take (0 : Nat) l ++ (r1.2.2.2.2.2.2.2.2.2 ++ List.drop ((0 : Nat) + ((i64.wrap ((↑l.length : Int).tdiv (2 : Int))).toNat - (0 : Nat))) l)).length - (i64.wrap ((↑(List.take (0 : Nat) l ++ (r1.2.2.2.2.2.2.2.2.2 ++ List.drop ((0 : Nat) + ((i64.wrap ((↑l.length : Int).tdiv (2 : Int))).toNat - (0 : Nat))) l)).length : Int).tdiv (2 : Int))).toNat) (List.drop (i64.wrap ((↑(List.take (0 : Nat) l ++ (r1.2.2.2.2.2.2.2.2.2 ++ List.drop ((0 : Nat) + ((i64.wrap ((↑l.length : Int).tdiv (2 : Int))).toNat - (0 : Nat))) l)).length : Int).tdiv (2 : Int))).toNat (List.take (0 : Nat) l ++ (r1.2.2.2.2.2.2.2.2.2 ++ List.drop ((0 : Nat) + ((i64.wrap ((↑l.length : Int).tdiv (2 : Int))).toNat - (0 : Nat))) l))))) fun r2 =>
 (chkL b b
 (some ((r2.1,r2.2.1,r2.2.2.1,r2.2.2.2.1,r2.2.2.2.2.1,r2.2.2.2.2.2.1,r2.2.2.2.2.2.2.1,r2.2.2.2.2.2.2.2.1,r2.2.2.2.2.2.2.2.2.1,List.take (i64.wrap ((↑(List.take (0 : Nat) l ++ (r1.2.2.2.2.2.2.2.2.2 ++ List.drop ((0 : Nat) + ((i64.wrap ((↑l.length : Int).tdiv (2 : Int))).toNat - (0 : Nat))) l)).length : Int).tdiv (2 : Int))).toNat (List.take (0 : Nat) l ++ (r1.2.2.2.2.2.2.2.2.2 ++ List.drop ((0 : Nat) + ((i64.wrap ((↑l.length : Int).tdiv (2 : Int))).toNat - (0 : Nat))) l)) ++ (r2.2.2.2.2.2.2.2.2.2 ++ List.drop ((i64.wrap ((↑(List.take (0 : Nat) l ++ (r1.2.2.2.2.2.2.2.2.2 ++ List.drop ((0 : Nat) + ((i64.wrap ((↑l.length : Int).tdiv (2 : Int))).toNat - (0 : Nat))) l)).length : Int).tdiv (2 : Int))).toNat + ((List.take (0 : Nat) l ++ (r1.2.2.2.2.2.2.2.2.2 ++ List.drop ((0 : Nat) + ((i64.wrap ((↑l.length : Int).tdiv (2 : Int))).toNat - (0 : Nat))) l)).length - (i64.wrap ((↑(List.take (0 : Nat) l ++ (r1.2.2.2.2.2.2.2.2.2 ++ List.drop ((0 : Nat) + ((i64.wrap ((↑l.length : Int).tdiv (2 : Int))).toNat - (0 : Nat))) l)).length : Int).tdiv (2 : Int))).toNat)) (List.take (0 : Nat) l ++ (r1.2.2.2.2.2.2.2.2.2 ++ List.drop ((0 : Nat) + ((i64.wrap ((↑l.length : Int).tdiv (2 : Int))).toNat - (0 : Nat))) l)))))))))))))))
def share9.specAt (nn : Nat) : Eng.Spec := share9.sig.spec (fun N L => share9.G N nn (L.i 0) (L.i 1) (L.i 2) (L.i 3) (L.i 4) (L.i 5) (L.i 6) (L.i 7) (L.i 8) (L.b 0) (L.l 0) (L.l 1)) share9.enc
def share9.C (N : Nat) (nn : Nat) : Cfg := { P := Tryz.prog,N := N,RT := noRT,specs := [(45,uint.spec),(109,share9.specAt nn)],hi := 3 }
def share9.K (N : Nat) : FCfg := {}
def share9.F (N : Nat) (k h i f d g c a e : Int) (j : Bool) (b l : List Int) : Option share9.R := share9.G N N k h i f d g c a e j b l
theorem share9.F_eq (N nn : Nat) (L : Eng.Leaves) : evSig (share9.C N nn) (share9.K N) 0 Tryz.f109 share9.sig L share9.dec = share9.G N (nn + 1) (L.i 0) (L.i 1) (L.i 2) (L.i 3) (L.i 4) (L.i 5) (L.i 6) (L.i 7) (L.i 8) (L.b 0) (L.l 0) (L.l 1) := by
 kernel_rfl
theorem share9.cok (nn : Nat) (hrec : CallOK Tryz.prog 109 (share9.specAt nn)) (N : Nat) : CfgOK (share9.C N nn) := ⟨fun _ _ _ _ h => by simp [share9.C,noRT] at h,wide,by
 simp only [share9.C,List.mem_cons,List.not_mem_nil,or_false,forall_eq_or_imp,forall_eq,false_imp_iff,implies_true]
 exact ⟨⟨uint.ok,by kernel_rfl⟩,⟨hrec,by kernel_rfl⟩⟩,fun g hg => by simp [share9.C] at hg,fun m hm => by simp [share9.C] at hm,fun q hq => by simp [share9.C] at hq⟩
theorem share9.aok (N : Nat) : AnnsOK (share9.K N) := aok1 trivial
theorem share9.okAt : ∀ nn,CallOK Tryz.prog 109 (share9.specAt nn) :=
 callOK_rec (run:=fun N nn L => share9.G N nn (L.i 0) (L.i 1) (L.i 2) (L.i 3) (L.i 4) (L.i 5) (L.i 6) (L.i 7) (L.i 8) (L.b 0) (L.l 0) (L.l 1)) (fun _ _ => rfl) (by kernel_rfl) fun nn hrec =>
 callOK_of_sig (fn:=Tryz.f109) (Cf:=fun N => share9.C N nn) (K:=share9.K) (d:=0) (dec:=share9.dec) (by kernel_rfl) (fun _ => rfl) (share9.cok nn hrec) (fun _ q hq => by simp [share9.C] at hq) share9.aok
 (fun N L r h => (share9.F_eq N nn L).trans h) (by kernel_rfl) (fun _ => ⟨rfl,rfl⟩) (fun _ _ => ⟨rfl,rfl⟩)
def share9.spec : Eng.Spec := share9.sig.spec (fun N L => share9.F N (L.i 0) (L.i 1) (L.i 2) (L.i 3) (L.i 4) (L.i 5) (L.i 6) (L.i 7) (L.i 8) (L.b 0) (L.l 0) (L.l 1)) share9.enc
theorem share9.ok : CallOK Tryz.prog 109 share9.spec := callOK_diag (run:=fun N nn L => share9.G N nn (L.i 0) (L.i 1) (L.i 2) (L.i 3) (L.i 4) (L.i 5) (L.i 6) (L.i 7) (L.i 8) (L.b 0) (L.l 0) (L.l 1)) share9.okAt
def read9.sig : Eng.Sig := { args := [.at (.ptr 0 0),.at (.int .i64 0)],n := 2,pre := [(0,.cells 10 [.full 1 false,.int .u64 1,.int .u64 2,.int .u64 3,.int .i64 4,.int .i64 5,.int .u64 6,.int .i64 7,.int .i64 8,.bool 0]),(1,.ints false .u8 0)],post := [(0,.cells 10 [.full 1 false,.int .u64 1,.int .u64 2,.int .u64 3,.int .i64 4,.int .i64 5,.int .u64 6,.int .i64 7,.int .i64 8,.bool 0]),(1,.fints false .u8 0),(2,.ints true .i64 0)],m := 1,ret := .tup [(false,[.full 2 false]),(false,[.int .i64 0])] }
def read9.C (N : Nat) : Cfg := { P := Tryz.prog,N := N,RT := noRT,specs := [(108,pmay9.spec),(44,ticdf.spec),(43,symbol.spec),(109,share9.spec),(42,bits.spec)],hi := 2 }
abbrev read9.R : Type := Int × Int × Int × Int × Int × Int × Int × Int × Int × Bool × List Int
def read9.dec (L : Eng.Leaves) : read9.R := (L.i 0,L.i 1,L.i 2,L.i 3,L.i 4,L.i 5,L.i 6,L.i 7,L.i 8,L.b 0,L.l 0)
def read9.enc (r : read9.R) : Eng.Leaves := mkL [r.1,r.2.1,r.2.2.1,r.2.2.2.1,r.2.2.2.2.1,r.2.2.2.2.2.1,r.2.2.2.2.2.2.1,r.2.2.2.2.2.2.2.1,r.2.2.2.2.2.2.2.2.1] [r.2.2.2.2.2.2.2.2.2.1] [r.2.2.2.2.2.2.2.2.2.2] []
abbrev read9.loop5.R : Type := Int × Int × Int × Int × Int × Int × Int × Int × Bool × List Int
def read9.loop5.ann : Ann := { nx := 20,slots := [(0,.at (.ptr 0 0)),(1,.at (.fint .i64 0)),(6,.at (.full 2 true)),(7,.at (.int .i64 0))],blks := [(0,.cells 10 [.full 1 false,.int .u64 1,.int .u64 2,.int .u64 3,.int .i64 4,.int .i64 5,.int .u64 6,.int .i64 7,.int .i64 8,.bool 0]),(1,.fints false .u8 0),(2,.ints true .i64 0)],xslots := [(0,.at (.ptr 0 0)),(6,.at (.full 2 true))],xblks := [(0,.cells 10 [.full 1 false,.int .u64 0,.int .u64 1,.int .u64 2,.int .i64 3,.int .i64 4,.int .u64 5,.int .i64 6,.int .i64 7,.bool 0]),(1,.fints false .u8 0),(2,.ints true .i64 0)],T := read9.loop5.R,dec := fun L => (L.i 0,L.i 1,L.i 2,L.i 3,L.i 4,L.i 5,L.i 6,L.i 7,L.b 0,L.l 0),enc := fun r => mkL [r.1,r.2.1,r.2.2.1,r.2.2.2.1,r.2.2.2.2.1,r.2.2.2.2.2.1,r.2.2.2.2.2.2.1,r.2.2.2.2.2.2.2.1] [r.2.2.2.2.2.2.2.2.1] [r.2.2.2.2.2.2.2.2.2] [] }
abbrev read9.loop10.R : Type := Int × Int × Int × Int × List Int
def read9.loop10.ann : Ann := { nx := 25,slots := [(0,.at (.ptr 0 0)),(8,.at (.fsub 2 0 1)),(32,.at (.fint .i64 2)),(33,.at (.int .i64 0))],blks := [(0,.cells 10 [.full 1 false,.fint .u64 3,.fint .u64 4,.fint .u64 5,.fint .i64 6,.int .i64 1,.int .u64 2,.int .i64 3,.int .i64 4,.fbool 0]),(1,.fints false .u8 0),(2,.ints true .i64 0)],exId := 2,xslots := [(0,.at (.ptr 0 0)),(8,.at (.fsub 2 0 1))],xblks := [(0,.cells 10 [.full 1 false,.fint .u64 3,.fint .u64 4,.fint .u64 5,.fint .i64 6,.int .i64 0,.int .u64 1,.int .i64 2,.int .i64 3,.fbool 0]),(1,.fints false .u8 0),(2,.ints true .i64 0)],T := read9.loop10.R,dec := fun L => (L.i 0,L.i 1,L.i 2,L.i 3,L.l 0),enc := fun r => mkL [r.1,r.2.1,r.2.2.1,r.2.2.2.1] [] [r.2.2.2.2] [] }
def read9.K (N : Nat) : FCfg := { anns := [(5,read9.loop5.ann),(10,read9.loop10.ann)] }
def read9.loop10 (N : Nat) : Nat -> Int -> Int -> Int -> Int -> Int -> Int -> Int -> Bool -> List Int -> Int -> Int -> Int -> Int -> Int -> List Int -> Option read9.loop10.R
 | 0,_,_,_,_,_,_,_,_,_,_,_,_,_,_,_ => none
 | nn + 1,a,d,k,g,h,e,c,i,b,f,n,l,j,m,o =>
 (br (decide (f < k))
 (chk ((0 : Int) <= f /\ f < ↑d.toNat)
 (br (decide (o.getD (a.toNat + f.toNat) (0 : Int) > (0 : Int)))
 (obind (Rc.bits.F N (1) g h e c n l j m i b) fun r0 =>
 (br (r0.1 == 1)
 (chk ((0 : Int) <= f /\ f < ↑d.toNat)
 (chk ((0 : Int) <= f /\ f < ↑d.toNat)
 (chkN a.toNat a.toNat
 (chkN d.toNat d.toNat
 (chkI k k
 (chkI g g
 (chkI h h
 (chkI e e
 (chkI c c
 (chkB i i
 (chkL b b
 (read9.loop10 N nn a d k g h e c i b (i64.wrap (f + 1)) r0.2.1 r0.2.2.1 r0.2.2.2.1 r0.2.2.2.2 (o.set (a.toNat + f.toNat) (i64.wrap (0 - o.getD (a.toNat + f.toNat) 0)))))))))))))))
 (chkN a.toNat a.toNat
 (chkN d.toNat d.toNat
 (chkI k k
 (chkI g g
 (chkI h h
 (chkI e e
 (chkI c c
 (chkB i i
 (chkL b b
 (read9.loop10 N nn a d k g h e c i b (i64.wrap (f + 1)) r0.2.1 r0.2.2.1 r0.2.2.2.1 r0.2.2.2.2 o))))))))))))
 (chkN a.toNat a.toNat
 (chkN d.toNat d.toNat
 (chkI k k
 (chkI g g
 (chkI h h
 (chkI e e
 (chkI c c
 (chkB i i
 (chkL b b
 (read9.loop10 N nn a d k g h e c i b (i64.wrap (f + 1)) n l j m o))))))))))))
 (chkN a.toNat a.toNat
 (chkN d.toNat d.toNat
 (chkI g g
 (chkI h h
 (chkI e e
 (chkI c c
 (chkB i i
 (chkL b b
 (some ((n,l,j,m,o))))))))))))
def read9.loop10R (N nn : Nat) (d g j k l h e : Int) (m : Bool) (b : List Int) (n i c a f : Int) (o : List Int) : Option read9.loop10.R := loopF read9.loop10.ann (mkL [d,g,j,k,l,h,e] [m] [b] []) (evCode ((read9.C N).inLoop read9.loop10.ann) (read9.K N) (inlTab (read9.C N) 0) (bodyAt 10 Tryz.f49)) nn (mkL [n,i,c,a,f] [] [o] [])
theorem read9.loop10_eq (N : Nat) : ∀ nn,read9.loop10R N nn = read9.loop10 N nn := lq fun _ h => by funext; rw [read9.loop10,<- h]; kernel_rfl
def read9.loop5 (N : Nat) : Nat -> Int -> List Int -> Int -> Int -> Int -> Int -> Int -> Int -> Int -> Int -> Int -> Bool -> List Int -> Option read9.loop5.R
 | 0,_,_,_,_,_,_,_,_,_,_,_,_,_ => none
 | nn + 1,n,b,c,k,l,h,e,f,d,a,g,i,j =>
 (br (decide (c < n))
 (chk ((0 : Int) <= i64.wrap (c + (16 : Int)) /\ i64.wrap (c + (16 : Int)) <= ↑j.length)
 (chk ((0 : Int) <= c /\ c <= ↑(i64.wrap (c + (16 : Int))).toNat)
 (obind (Rc.ticdf.F N (5)) fun r0 =>
 (obind (Rc.symbol.F N k l h e f d a g i r0 b) fun r1 =>
 (chk (c.toNat + ((i64.wrap (c + (16 : Int))).toNat - c.toNat) <= j.length)
 (obind (Rc.share9.F N r1.1 r1.2.1 r1.2.2.1 r1.2.2.2.1 r1.2.2.2.2.1 f d a r1.2.2.2.2.2 i b (List.take ((i64.wrap (c + (16 : Int))).toNat - c.toNat) (List.drop c.toNat j))) fun r2 =>
 (obind (read9.loop10 N N (↑c.toNat) (↑((i64.wrap (c + (16 : Int))).toNat - c.toNat)) (↑((i64.wrap (c + (16 : Int))).toNat - c.toNat)) r2.1 r2.2.1 r2.2.2.1 r2.2.2.2.1 r2.2.2.2.2.2.2.2.2.1 b ((0 : Int)) r2.2.2.2.2.1 r2.2.2.2.2.2.1 r2.2.2.2.2.2.2.1 r2.2.2.2.2.2.2.2.1 (List.take c.toNat j ++ (r2.2.2.2.2.2.2.2.2.2 ++ List.drop (c.toNat + ((i64.wrap (c + (16 : Int))).toNat - c.toNat)) j))) fun r3 =>
 (chkI n n
 (chkL b b
 (read9.loop5 N nn n b (i64.wrap (c + 16)) r2.1 r2.2.1 r2.2.2.1 r2.2.2.2.1 r3.1 r3.2.1 r3.2.2.1 r3.2.2.2.1 r2.2.2.2.2.2.2.2.2.1 r3.2.2.2.2))))))))))
 (chkL b b
 (some ((k,l,h,e,f,d,a,g,i,j)))))
def read9.loop5R (N nn : Nat) (n : Int) (b : List Int) (k h i f d g c a e : Int) (j : Bool) (l : List Int) : Option read9.loop5.R := loopF read9.loop5.ann (mkL [n] [] [b] []) (evCode ((read9.C N).inLoop read9.loop5.ann) (read9.K N) (inlTab (read9.C N) 0) (bodyAt 5 Tryz.f49)) nn (mkL [k,h,i,f,d,g,c,a,e] [j] [l] [])
theorem read9.loop5_eq (N : Nat) : ∀ nn,read9.loop5R N nn = read9.loop5 N nn
 | 0 => by funext; kernel_rfl
 | nn + 1 => by
  funext; rw [read9.loop5,<- read9.loop5_eq N nn,<- funext (read9.loop10_eq N)]; kernel_rfl
def read9.F (N : Nat) (n h i f d g c a e : Int) (j : Bool) (b : List Int) : Option read9.R :=
 (obind (Rc.pmay9.F N n) fun r0 =>
 (br (!r0)
 (chkL b b
 (some (((1 : Int),h,i,f,d,g,c,a,e,j,([] : List Int)))))
 (chk ((0 : Int) <= n /\ n <= n /\ n <= ↑(17592186043904 : Nat))
 (obind (read9.loop5 N N n b (0) h i f d g c a e j (List.replicate n.toNat 0)) fun r1 =>
 (chkL b b
 (some (((0 : Int),r1.1,r1.2.1,r1.2.2.1,r1.2.2.2.1,r1.2.2.2.2.1,r1.2.2.2.2.2.1,r1.2.2.2.2.2.2.1,r1.2.2.2.2.2.2.2.1,r1.2.2.2.2.2.2.2.2.1,r1.2.2.2.2.2.2.2.2.2))))))))
noncomputable def read9.spec : Eng.Spec := read9.sig.spec (fun N L => read9.F N (L.i 0) (L.i 1) (L.i 2) (L.i 3) (L.i 4) (L.i 5) (L.i 6) (L.i 7) (L.i 8) (L.b 0) (L.l 0)) read9.enc
theorem read9.ok : CallOK Tryz.prog 49 read9.spec := ok2 read9.C read9.K Tryz.f49 read9.dec (fun _ => ⟨pmay9.ok,ticdf.ok,symbol.ok,share9.ok,bits.ok,trivial⟩) (fun _ => ⟨fun _ _ => ⟨rfl,rfl⟩,fun _ _ => ⟨rfl,rfl⟩,trivial⟩) (by intro N L; show _ = read9.F N (L.i 0) (L.i 1) (L.i 2) (L.i 3) (L.i 4) (L.i 5) (L.i 6) (L.i 7) (L.i 8) (L.b 0) (L.l 0); rw [read9.F,<- funext (read9.loop5_eq N)]; kernel_rfl)
def spread9.sig : Eng.Sig := { args := [.at (.ptr 0 0),.at (.roi .i64 0)],n := 3,pre := [(0,.cells 6 [.full 1 false,.int .u64 0,.int .u64 1,.full 2 false,.int .i64 2,.int .i64 3]),(1,.ints true .u8 1),(2,.ints true .u8 2)],post := [(0,.cells 6 [.full 3 false,.int .u64 1,.int .u64 2,.full 4 false,.int .i64 3,.int .i64 4]),(1,.dead),(2,.dead),(3,.ints true .u8 0),(4,.ints true .u8 1)],m := 2,ret := .at (.int .i64 0) }
abbrev spread9.R : Type := Int × Int × Int × Int × Int × List Int × List Int
def spread9.dec (L : Eng.Leaves) : spread9.R := (L.i 0,L.i 1,L.i 2,L.i 3,L.i 4,L.l 0,L.l 1)
def spread9.enc (r : spread9.R) : Eng.Leaves := mkL [r.1,r.2.1,r.2.2.1,r.2.2.2.1,r.2.2.2.2.1] [] [r.2.2.2.2.2.1,r.2.2.2.2.2.2] []
def spread9.G (N : Nat) : Nat -> Int -> Int -> Int -> Int -> List Int -> List Int -> List Int -> Option spread9.R
 | 0,_,_,_,_,_,_,_ => none
 | nn + 1,val,rng,rawBits,count,l,told,raw =>
 (br (↑l.length == (1 : Int))
 (some (((0 : Int),val,rng,rawBits,count,told,raw)))
 (chk ((0 : Int) <= i64.wrap ((↑l.length : Int).tdiv (2 : Int)) /\ i64.wrap ((↑l.length : Int).tdiv (2 : Int)) <= ↑l.length)
 (obind (Rc.count9.F N (List.take ((i64.wrap ((↑l.length : Int).tdiv (2 : Int))).toNat - (0 : Nat)) (List.drop (0 : Nat) l))) fun r0 =>
 (obind (Rc.count9.F N l) fun r1 =>
 (obind (Rc.euint.F N r0 (i64.wrap (r1 + (1 : Int))) val rng rawBits count told raw) fun r2 =>
 (br (r2.1 != (0 : Int))
 (some ((r2.1,r2.2.1,r2.2.2.1,r2.2.2.2.1,r2.2.2.2.2.1,r2.2.2.2.2.2.1,r2.2.2.2.2.2.2)))
 (obind (Rc.spread9.G N nn r2.2.1 r2.2.2.1 r2.2.2.2.1 r2.2.2.2.2.1 (List.take ((i64.wrap ((↑l.length : Int).tdiv (2 : Int))).toNat - (0 : Nat)) (List.drop (0 : Nat) l)) r2.2.2.2.2.2.1 r2.2.2.2.2.2.2) fun r3 =>
 (br (r3.1 != (0 : Int))
 (some ((r3.1,r3.2.1,r3.2.2.1,r3.2.2.2.1,r3.2.2.2.2.1,r3.2.2.2.2.2.1,r3.2.2.2.2.2.2)))
 (chk ((0 : Int) <= i64.wrap ((↑l.length : Int).tdiv (2 : Int)) /\ i64.wrap ((↑l.length : Int).tdiv (2 : Int)) <= ↑l.length)
 (obind (Rc.spread9.G N nn r3.2.1 r3.2.2.1 r3.2.2.2.1 r3.2.2.2.2.1 (List.take (l.length - (i64.wrap ((↑l.length : Int).tdiv (2 : Int))).toNat) (List.drop (i64.wrap ((↑l.length : Int).tdiv (2 : Int))).toNat l)) r3.2.2.2.2.2.1 r3.2.2.2.2.2.2) fun r4 =>
 (some ((r4.1,r4.2.1,r4.2.2.1,r4.2.2.2.1,r4.2.2.2.2.1,r4.2.2.2.2.2.1,r4.2.2.2.2.2.2)))))))))))))
def spread9.specAt (nn : Nat) : Eng.Spec := spread9.sig.spec (fun N L => spread9.G N nn (L.i 0) (L.i 1) (L.i 2) (L.i 3) (L.l 0) (L.l 1) (L.l 2)) spread9.enc
def spread9.C (N : Nat) (nn : Nat) : Cfg := { P := Tryz.prog,N := N,RT := noRT,specs := [(113,count9.spec),(56,euint.spec),(114,spread9.specAt nn)],hi := 3 }
def spread9.K (N : Nat) : FCfg := {}
def spread9.F (N : Nat) (d e a b : Int) (l c f : List Int) : Option spread9.R := spread9.G N N d e a b l c f
theorem spread9.F_eq (N nn : Nat) (L : Eng.Leaves) : evSig (spread9.C N nn) (spread9.K N) 0 Tryz.f114 spread9.sig L spread9.dec = spread9.G N (nn + 1) (L.i 0) (L.i 1) (L.i 2) (L.i 3) (L.l 0) (L.l 1) (L.l 2) := by
 kernel_rfl
theorem spread9.cok (nn : Nat) (hrec : CallOK Tryz.prog 114 (spread9.specAt nn)) (N : Nat) : CfgOK (spread9.C N nn) := ⟨fun _ _ _ _ h => by simp [spread9.C,noRT] at h,wide,by
 simp only [spread9.C,List.mem_cons,List.not_mem_nil,or_false,forall_eq_or_imp,forall_eq,false_imp_iff,implies_true]
 exact ⟨⟨count9.ok,by kernel_rfl⟩,⟨euint.ok,by kernel_rfl⟩,⟨hrec,by kernel_rfl⟩⟩,fun g hg => by simp [spread9.C] at hg,fun m hm => by simp [spread9.C] at hm,fun q hq => by simp [spread9.C] at hq⟩
theorem spread9.aok (N : Nat) : AnnsOK (spread9.K N) := aok1 trivial
theorem spread9.okAt : ∀ nn,CallOK Tryz.prog 114 (spread9.specAt nn) :=
 callOK_rec (run:=fun N nn L => spread9.G N nn (L.i 0) (L.i 1) (L.i 2) (L.i 3) (L.l 0) (L.l 1) (L.l 2)) (fun _ _ => rfl) (by kernel_rfl) fun nn hrec =>
 callOK_of_sig (fn:=Tryz.f114) (Cf:=fun N => spread9.C N nn) (K:=spread9.K) (d:=0) (dec:=spread9.dec) (by kernel_rfl) (fun _ => rfl) (spread9.cok nn hrec) (fun _ q hq => by simp [spread9.C] at hq) spread9.aok
 (fun N L r h => (spread9.F_eq N nn L).trans h) (by kernel_rfl) (fun _ => ⟨rfl,rfl⟩) (fun _ _ => ⟨rfl,rfl⟩)
def spread9.spec : Eng.Spec := spread9.sig.spec (fun N L => spread9.F N (L.i 0) (L.i 1) (L.i 2) (L.i 3) (L.l 0) (L.l 1) (L.l 2)) spread9.enc
theorem spread9.ok : CallOK Tryz.prog 114 spread9.spec := callOK_diag (run:=fun N nn L => spread9.G N nn (L.i 0) (L.i 1) (L.i 2) (L.i 3) (L.l 0) (L.l 1) (L.l 2)) spread9.okAt
def signs9.sig : Eng.Sig := { args := [.at (.ptr 0 0),.at (.roi .i64 0)],n := 3,pre := [(0,.cells 6 [.full 1 false,.int .u64 0,.int .u64 1,.full 2 false,.int .i64 2,.int .i64 3]),(1,.ints true .u8 1),(2,.ints true .u8 2)],post := [(0,.cells 6 [.full 1 false,.int .u64 1,.int .u64 2,.full 3 false,.int .i64 3,.int .i64 4]),(1,.ints true .u8 0),(2,.dead),(3,.ints true .u8 1)],m := 1,ret := .at (.int .i64 0) }
def signs9.C (N : Nat) : Cfg := { P := Tryz.prog,N := N,RT := noRT,specs := [(53,ebits.spec)],hi := 3 }
abbrev signs9.R : Type := Int × Int × Int × Int × Int × List Int × List Int
def signs9.dec (L : Eng.Leaves) : signs9.R := (L.i 0,L.i 1,L.i 2,L.i 3,L.i 4,L.l 0,L.l 1)
def signs9.enc (r : signs9.R) : Eng.Leaves := mkL [r.1,r.2.1,r.2.2.1,r.2.2.2.1,r.2.2.2.2.1] [] [r.2.2.2.2.2.1,r.2.2.2.2.2.2] []
abbrev signs9.loop2.R : Type := Int × Int × Int × List Int
def signs9.loop2.ann : Ann := { nx := 21,slots := [(0,.at (.ptr 0 0)),(4,.at (.int .i64 0)),(9,.at (.froi .i64 0)),(10,.at (.fint .i64 0)),(11,.at (.int .i64 1))],blks := [(0,.cells 6 [.full 1 false,.fint .u64 1,.fint .u64 2,.full 20 false,.int .i64 2,.int .i64 3]),(1,.fints true .u8 1),(20,.ints true .u8 0)],mov := [20],xslots := [(0,.at (.ptr 0 0)),(4,.at (.int .i64 0))],xblks := [(0,.cells 6 [.full 1 false,.fint .u64 1,.fint .u64 2,.full 20 false,.int .i64 1,.int .i64 2]),(1,.fints true .u8 1),(20,.ints true .u8 0)],T := signs9.loop2.R,dec := fun L => (L.i 0,L.i 1,L.i 2,L.l 0),enc := fun r => mkL [r.1,r.2.1,r.2.2.1] [] [r.2.2.2] [],ret := true }
def signs9.K (N : Nat) : FCfg := { anns := [(2,signs9.loop2.ann)] }
def signs9.loop2 (N : Nat) : Nat -> Int -> Int -> Int -> Int -> List Int -> List Int -> List Int -> Int -> Int -> Int -> List Int -> List Int -> Int -> Int -> Int -> Int -> List Int -> Option (signs9.loop2.R ⊕ signs9.R)
 | 0,_,_,_,_,_,_,_,_,_,_,_,_,_,_,_,_,_ => none
 | nn + 1,k,l,b,f,p,h,m,g,c,d,n,a,q,j,e,i,o =>
 (br (decide (j < g))
 (chk ((0 : Int) <= j /\ j < ↑n.length)
 (br (n.getD j.toNat (0 : Int) == (0 : Int))
 (chkL n n
 (chkI g g
 (chkI c c
 (chkI d d
 (chkL a a
 (signs9.loop2 N nn k l b f p h m g c d n a q (i64.wrap (j + 1)) e i o))))))
 (br (decide (n.getD j.toNat (0 : Int) < (0 : Int)))
 (obind (Rc.ebits.F N (1) (1) c d e i a o) fun r0 =>
 (br (r0.1 != 0)
 (omap
 (some ((r0.1,c,d,r0.2.1,r0.2.2.1,a,r0.2.2.2))) .inr)
 (chkL n n
 (chkI g g
 (chkI c c
 (chkI d d
 (chkL a a
 (signs9.loop2 N nn k l b f p h m g c d n a q (i64.wrap (j + 1)) r0.2.1 r0.2.2.1 r0.2.2.2))))))))
 (obind (Rc.ebits.F N (0) (1) c d e i a o) fun r1 =>
 (br (r1.1 != 0)
 (omap
 (some ((r1.1,c,d,r1.2.1,r1.2.2.1,a,r1.2.2.2))) .inr)
 (chkL n n
 (chkI g g
 (chkI c c
 (chkI d d
 (chkL a a
 (signs9.loop2 N nn k l b f p h m g c d n a q (i64.wrap (j + 1)) r1.2.1 r1.2.2.1 r1.2.2.2)))))))))))
 (chkI c c
 (chkI d d
 (chkL a a
 (some (Sum.inl (q,e,i,o)))))))
def signs9.loop2R (N nn : Nat) (e f a b : Int) (k d g : List Int) (m n o : Int) (s j : List Int) (t p c h : Int) (q : List Int) : Option (signs9.loop2.R ⊕ signs9.R) := loopR signs9.loop2.ann (mkL [m,n,o] [] [s,j] []) (evCode ((signs9.C N).inLoop signs9.loop2.ann) (signs9.K N) (inlTab (signs9.C N) 0) (bodyAt 2 Tryz.f115)) (sigKr Tryz.prog Tryz.f115 signs9.sig (mkL [e,f,a,b] [] [k,d,g] []) fun L => (L.i 0,L.i 1,L.i 2,L.i 3,L.i 4,L.l 0,L.l 1)) nn (mkL [t,p,c,h] [] [q] [])
theorem signs9.loop2_eq (N : Nat) : ∀ nn,signs9.loop2R N nn = signs9.loop2 N nn := lq fun _ h => by funext; rw [signs9.loop2,<- h]; kernel_rfl
def signs9.F (N : Nat) (d e a b : Int) (l c f : List Int) : Option signs9.R :=
 (osum (signs9.loop2 N N d e a b l c f (↑l.length) d e l c ((0 : Int)) ((0 : Int)) a b f) fun r0 =>
 (some (((0 : Int),d,e,r0.2.1,r0.2.2.1,c,r0.2.2.2))))
noncomputable def signs9.spec : Eng.Spec := signs9.sig.spec (fun N L => signs9.F N (L.i 0) (L.i 1) (L.i 2) (L.i 3) (L.l 0) (L.l 1) (L.l 2)) signs9.enc
theorem signs9.ok : CallOK Tryz.prog 115 signs9.spec := ok2 signs9.C signs9.K Tryz.f115 signs9.dec (fun _ => ⟨ebits.ok,trivial⟩) (fun _ => ⟨fun _ _ => ⟨rfl,rfl⟩,trivial⟩) (by intro N L; show _ = signs9.F N (L.i 0) (L.i 1) (L.i 2) (L.i 3) (L.l 0) (L.l 1) (L.l 2); rw [signs9.F,<- funext (signs9.loop2_eq N)]; kernel_rfl)
def write9.sig : Eng.Sig := { args := [.at (.ptr 0 0),.at (.roi .i64 0)],n := 3,pre := [(0,.cells 6 [.full 1 false,.int .u64 0,.int .u64 1,.full 2 false,.int .i64 2,.int .i64 3]),(1,.ints true .u8 1),(2,.ints true .u8 2)],post := [(0,.cells 6 [.full 3 false,.int .u64 1,.int .u64 2,.full 4 false,.int .i64 3,.int .i64 4]),(1,.dead),(2,.dead),(3,.ints true .u8 0),(4,.ints true .u8 1)],m := 2,ret := .at (.int .i64 0) }
def write9.C (N : Nat) : Cfg := { P := Tryz.prog,N := N,RT := noRT,specs := [(112,good9.spec),(113,count9.spec),(44,ticdf.spec),(55,esymbol.spec),(114,spread9.spec),(115,signs9.spec)],hi := 3 }
abbrev write9.R : Type := Int × Int × Int × Int × Int × List Int × List Int
def write9.dec (L : Eng.Leaves) : write9.R := (L.i 0,L.i 1,L.i 2,L.i 3,L.i 4,L.l 0,L.l 1)
def write9.enc (r : write9.R) : Eng.Leaves := mkL [r.1,r.2.1,r.2.2.1,r.2.2.2.1,r.2.2.2.2.1] [] [r.2.2.2.2.2.1,r.2.2.2.2.2.2] []
abbrev write9.loop4.R : Type := Int × Int × Int × Int × Int × List Int × List Int
def write9.loop4.ann : Ann := { nx := 22,slots := [(0,.at (.ptr 0 0)),(1,.at (.froi .i64 0)),(4,.at (.int .i64 0)),(5,.at (.int .i64 1))],blks := [(0,.cells 6 [.full 20 false,.int .u64 2,.int .u64 3,.full 21 false,.int .i64 4,.int .i64 5]),(20,.ints true .u8 0),(21,.ints true .u8 1)],mov := [20,21],xslots := [(0,.at (.ptr 0 0)),(4,.at (.int .i64 0))],xblks := [(0,.cells 6 [.full 20 false,.int .u64 1,.int .u64 2,.full 21 false,.int .i64 3,.int .i64 4]),(20,.ints true .u8 0),(21,.ints true .u8 1)],T := write9.loop4.R,dec := fun L => (L.i 0,L.i 1,L.i 2,L.i 3,L.i 4,L.l 0,L.l 1),enc := fun r => mkL [r.1,r.2.1,r.2.2.1,r.2.2.2.1,r.2.2.2.2.1] [] [r.2.2.2.2.2.1,r.2.2.2.2.2.2] [],ret := true }
def write9.K (N : Nat) : FCfg := { anns := [(4,write9.loop4.ann)] }
def write9.loop4 (N : Nat) : Nat -> Int -> Int -> Int -> Int -> List Int -> List Int -> List Int -> List Int -> Int -> Int -> Int -> Int -> Int -> Int -> List Int -> List Int -> Option (write9.loop4.R ⊕ write9.R)
 | 0,_,_,_,_,_,_,_,_,_,_,_,_,_,_,_,_ => none
 | nn + 1,h,i,c,d,o,f,j,l,p,b,k,m,a,e,g,n =>
 (br (decide (b < ↑l.length))
 (chk ((0 : Int) <= i64.wrap (b + (16 : Int)) /\ i64.wrap (b + (16 : Int)) <= ↑l.length)
 (chk ((0 : Int) <= b /\ b <= ↑(i64.wrap (b + (16 : Int))).toNat)
 (obind (Rc.count9.F N (List.take ((i64.wrap (b + (16 : Int))).toNat - b.toNat) (List.drop b.toNat l))) fun r0 =>
 (obind (Rc.ticdf.F N (5)) fun r1 =>
 (obind (Rc.esymbol.F N r0 k m a e r1 g n) fun r2 =>
 (br (r2.1 != 0)
 (omap
 (some ((r2.1,r2.2.1,r2.2.2.1,r2.2.2.2.1,r2.2.2.2.2.1,r2.2.2.2.2.2.2,r2.2.2.2.2.2.1))) .inr)
 (obind (Rc.spread9.F N r2.2.1 r2.2.2.1 r2.2.2.2.1 r2.2.2.2.2.1 (List.take ((i64.wrap (b + (16 : Int))).toNat - b.toNat) (List.drop b.toNat l)) r2.2.2.2.2.2.2 r2.2.2.2.2.2.1) fun r3 =>
 (br (r3.1 != 0)
 (omap
 (some ((r3.1,r3.2.1,r3.2.2.1,r3.2.2.2.1,r3.2.2.2.2.1,r3.2.2.2.2.2.1,r3.2.2.2.2.2.2))) .inr)
 (obind (Rc.signs9.F N r3.2.1 r3.2.2.1 r3.2.2.2.1 r3.2.2.2.2.1 (List.take ((i64.wrap (b + (16 : Int))).toNat - b.toNat) (List.drop b.toNat l)) r3.2.2.2.2.2.1 r3.2.2.2.2.2.2) fun r4 =>
 (br (r4.1 != 0)
 (omap
 (some ((r4.1,r4.2.1,r4.2.2.1,r4.2.2.2.1,r4.2.2.2.2.1,r4.2.2.2.2.2.1,r4.2.2.2.2.2.2))) .inr)
 (chkL l l
 (write9.loop4 N nn h i c d o f j l p (i64.wrap (b + 16)) r4.2.1 r4.2.2.1 r4.2.2.2.1 r4.2.2.2.2.1 r4.2.2.2.2.2.1 r4.2.2.2.2.2.2))))))))))))
 (some (Sum.inl (p,k,m,a,e,g,n))))
def write9.loop4R (N nn : Nat) (e f a b : Int) (k d g : List Int) (l : List Int) (p q m n c h : Int) (j o : List Int) : Option (write9.loop4.R ⊕ write9.R) := loopR write9.loop4.ann (mkL [] [] [l] []) (evCode ((write9.C N).inLoop write9.loop4.ann) (write9.K N) (inlTab (write9.C N) 0) (bodyAt 4 Tryz.f60)) (sigKr Tryz.prog Tryz.f60 write9.sig (mkL [e,f,a,b] [] [k,d,g] []) fun L => (L.i 0,L.i 1,L.i 2,L.i 3,L.i 4,L.l 0,L.l 1)) nn (mkL [p,q,m,n,c,h] [] [j,o] [])
theorem write9.loop4_eq (N : Nat) : ∀ nn,write9.loop4R N nn = write9.loop4 N nn := lq fun _ h => by funext; rw [write9.loop4,<- h]; kernel_rfl
def write9.F (N : Nat) (d e a b : Int) (l c f : List Int) : Option write9.R :=
 (obind (Rc.good9.F N l) fun r0 =>
 (br (!r0)
 (some (((1 : Int),d,e,a,b,c,f)))
 (osum (write9.loop4 N N d e a b l c f l (0) (0) d e a b c f) fun r1 =>
 (some (((0 : Int),r1.2.1,r1.2.2.1,r1.2.2.2.1,r1.2.2.2.2.1,r1.2.2.2.2.2.1,r1.2.2.2.2.2.2))))))
noncomputable def write9.spec : Eng.Spec := write9.sig.spec (fun N L => write9.F N (L.i 0) (L.i 1) (L.i 2) (L.i 3) (L.l 0) (L.l 1) (L.l 2)) write9.enc
theorem write9.ok : CallOK Tryz.prog 60 write9.spec := ok2 write9.C write9.K Tryz.f60 write9.dec (fun _ => ⟨good9.ok,count9.ok,ticdf.ok,esymbol.ok,spread9.ok,signs9.ok,trivial⟩) (fun _ => ⟨fun _ _ => ⟨rfl,rfl⟩,trivial⟩) (by intro N L; show _ = write9.F N (L.i 0) (L.i 1) (L.i 2) (L.i 3) (L.l 0) (L.l 1) (L.l 2); rw [write9.F,<- funext (write9.loop4_eq N)]; kernel_rfl)
end
end Go.Proofs.Rc
