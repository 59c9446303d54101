/-
 Functions of the program: what each comes to, and its contract (written by a program).
 Conditions: none: each contract is proved for every input of its shape.
-/
import Derived.Test.YtghbobmkkbdhpaaGreatEngLoopToEngRow3
import Derived.Laws.Externs
import Derived.Test.YtghbobmkkbdhpaaGreatProg
set_option linter.unusedVariables false
set_option linter.unusedSimpArgs false
namespace Go.Proofs.Rc
noncomputable section
open Go.Eng Go.IntKind
set_option maxRecDepth 100000
theorem wide : Tryz.prog.follows .mixedOrders = true := by kernel_rfl
def next.sig : Eng.Sig := { args := [.at (.ptr 0 0)],n := 2,pre := [(0,.cells 10 [.full 1 false,.int .u64 0,.int .u64 1,.int .u64 2,.int .i64 3,.int .i64 4,.int .u64 5,.int .i64 6,.int .i64 7,.bool 0]),(1,.ints false .u8 0)],post := [(0,.cells 10 [.full 1 false,.fint .u64 0,.fint .u64 1,.fint .u64 2,.int .i64 1,.fint .i64 4,.fint .u64 5,.fint .i64 6,.fint .i64 7,.fbool 0]),(1,.fints false .u8 0)],ret := .at (.int .u64 0) }
def next.C (N : Nat) : Cfg := { P := Tryz.prog,N := N,RT := noRT,specs := [],hi := 2 }
abbrev next.R : Type := Int × Int
def next.dec (L : Eng.Leaves) : next.R := (L.i 0,L.i 1)
def next.enc (r : next.R) : Eng.Leaves := mkL [r.1,r.2] [] [] []
def next.K (N : Nat) : FCfg := {}
def next.F (N : Nat) (h i f c g d a e : Int) (j : Bool) (b : List Int) : Option next.R :=
 (br (decide (c >= ↑b.length))
 (chkI h h
 (chkI i i
 (chkI f f
 (chkI g g
 (chkI d d
 (chkI a a
 (chkI e e
 (chkB j j
 (chkL b b
 (some (((0 : Int),c))))))))))))
 (chk ((0 : Int) <= i64.wrap (i64.wrap (c + (1 : Int)) - (1 : Int)) /\ i64.wrap (i64.wrap (c + (1 : Int)) - (1 : Int)) < ↑b.length)
 (chkI h h
 (chkI i i
 (chkI f f
 (chkI g g
 (chkI d d
 (chkI a a
 (chkI e e
 (chkB j j
 (chkL b b
 (some ((u64.wrap (b.getD (i64.wrap (i64.wrap (c + 1) - (1 : Int))).toNat 0),i64.wrap (c + 1)))))))))))))))
noncomputable def next.spec : Eng.Spec := next.sig.spec (fun N L => next.F N (L.i 0) (L.i 1) (L.i 2) (L.i 3) (L.i 4) (L.i 5) (L.i 6) (L.i 7) (L.b 0) (L.l 0)) next.enc
theorem next.ok : CallOK Tryz.prog 51 next.spec := ok2 next.C next.K Tryz.f51 next.dec (fun _ => trivial) (fun _ => trivial)
def norm.sig : Eng.Sig := { args := [.at (.ptr 0 0)],n := 2,pre := [(0,.cells 10 [.full 1 false,.int .u64 0,.int .u64 1,.int .u64 2,.int .i64 3,.int .i64 4,.int .u64 5,.int .i64 6,.int .i64 7,.bool 0]),(1,.ints false .u8 0)],post := [(0,.cells 10 [.full 1 false,.int .u64 0,.int .u64 1,.int .u64 2,.int .i64 3,.fint .i64 4,.fint .u64 5,.fint .i64 6,.int .i64 4,.fbool 0]),(1,.fints false .u8 0)],ret := .at (.unk) }
def norm.C (N : Nat) : Cfg := { P := Tryz.prog,N := N,RT := noRT,specs := [(51,next.spec)],hi := 2 }
abbrev norm.R : Type := Int × Int × Int × Int × Int
def norm.dec (L : Eng.Leaves) : norm.R := (L.i 0,L.i 1,L.i 2,L.i 3,L.i 4)
def norm.enc (r : norm.R) : Eng.Leaves := mkL [r.1,r.2.1,r.2.2.1,r.2.2.2.1,r.2.2.2.2] [] [] []
abbrev norm.loop0.R : Type := Int × Int × Int × Int × Int
def norm.loop0.ann : Ann := { nx := 20,slots := [(0,.at (.ptr 0 0))],blks := [(0,.cells 10 [.full 1 false,.int .u64 0,.int .u64 1,.int .u64 2,.int .i64 3,.fint .i64 0,.fint .u64 1,.fint .i64 2,.int .i64 4,.fbool 0]),(1,.fints false .u8 0)],xslots := [(0,.at (.ptr 0 0))],xblks := [(0,.cells 10 [.full 1 false,.int .u64 0,.int .u64 1,.int .u64 2,.int .i64 3,.fint .i64 0,.fint .u64 1,.fint .i64 2,.int .i64 4,.fbool 0]),(1,.fints false .u8 0)],T := norm.loop0.R,dec := fun L => (L.i 0,L.i 1,L.i 2,L.i 3,L.i 4),enc := fun r => mkL [r.1,r.2.1,r.2.2.1,r.2.2.2.1,r.2.2.2.2] [] [] [] }
def norm.K (N : Nat) : FCfg := { anns := [(0,norm.loop0.ann)] }
def norm.loop0 (N : Nat) : Nat -> Int -> Int -> Int -> Bool -> List Int -> Int -> Int -> Int -> Int -> Int -> Option norm.loop0.R
 | 0,_,_,_,_,_,_,_,_,_,_ => none
 | nn + 1,d,c,a,f,b,i,j,g,h,e =>
 (br (decide (i <= 8388608))
 (obind (Rc.next.F N (u64.wrap (i * (2 : Int) ^ min (Int.toNat 8) u64.bits)) j g h d c a (i64.wrap (e + 8)) f b) fun r0 =>
 (chkI d d
 (chkI c c
 (chkI a a
 (chkB f f
 (chkL b b
 (norm.loop0 N nn d c a f b (u64.wrap (i * (2 : Int) ^ min (Int.toNat (8 : Int)) u64.bits)) (u64.wrap ↑(BitVec.ofInt u64.bits (u64.wrap (u64.wrap (u64.wrap (j * (2 : Int) ^ min (Int.toNat (8 : Int)) u64.bits) + (255 : Int)) - u64.wrap ↑(BitVec.ofInt u64.bits ((u64.wrap ↑(BitVec.ofInt u64.bits (u64.wrap (g * (2 : Int) ^ min (Int.toNat (8 : Int)) u64.bits)) ||| BitVec.ofInt u64.bits r0.1).toNat).fdiv ((2 : Int) ^ min (Int.toNat (1 : Int)) u64.bits)) &&& BitVec.ofInt u64.bits (255 : Int)).toNat)) &&& BitVec.ofInt u64.bits (2147483647 : Int)).toNat) r0.1 r0.2 (i64.wrap (e + (8 : Int))))))))))
 (chkI d d
 (chkI c c
 (chkI a a
 (chkB f f
 (chkL b b
 (some ((i,j,g,h,e)))))))))
def norm.loop0R (N nn : Nat) (f c a : Int) (h : Bool) (b : List Int) (i j g d e : Int) : Option norm.loop0.R := loopF norm.loop0.ann (mkL [f,c,a] [h] [b] []) (evCode ((norm.C N).inLoop norm.loop0.ann) (norm.K N) (inlTab (norm.C N) 0) (bodyAt 0 Tryz.f52)) nn (mkL [i,j,g,d,e] [] [] [])
theorem norm.loop0_eq (N : Nat) : ∀ nn,norm.loop0R N nn = norm.loop0 N nn := lq fun _ h => by funext; rw [norm.loop0,<- h]; kernel_rfl
def norm.F (N : Nat) (i j h e d c a f : Int) (g : Bool) (b : List Int) : Option norm.R :=
 (obind (norm.loop0 N N d c a g b i j h e f) fun r0 =>
 (chkI d d
 (chkI c c
 (chkI a a
 (chkB g g
 (chkL b b
 (some ((r0.1,r0.2.1,r0.2.2.1,r0.2.2.2.1,r0.2.2.2.2)))))))))
noncomputable def norm.spec : Eng.Spec := norm.sig.spec (fun N L => norm.F N (L.i 0) (L.i 1) (L.i 2) (L.i 3) (L.i 4) (L.i 5) (L.i 6) (L.i 7) (L.b 0) (L.l 0)) norm.enc
theorem norm.ok : CallOK Tryz.prog 52 norm.spec := ok2 norm.C norm.K Tryz.f52 norm.dec (fun _ => ⟨next.ok,trivial⟩) (fun _ => ⟨fun _ _ => ⟨rfl,rfl⟩,trivial⟩) (by intro N L; show _ = norm.F N (L.i 0) (L.i 1) (L.i 2) (L.i 3) (L.i 4) (L.i 5) (L.i 6) (L.i 7) (L.b 0) (L.l 0); rw [norm.F,<- funext (norm.loop0_eq N)]; kernel_rfl)
def len64.sig : Eng.Sig := { args := [.at (.int .u64 0)],ret := .at (.int .i64 0) }
def len64.C (N : Nat) : Cfg := { P := Tryz.prog,N := N,RT := noRT,specs := [] }
abbrev len64.R : Type := Int
def len64.dec (L : Eng.Leaves) : len64.R := (L.i 0)
def len64.enc (r : len64.R) : Eng.Leaves := mkL [r] [] [] []
def len64.K (N : Nat) : FCfg := {}
def len64.F (N : Nat) (x : Int) : Option len64.R :=
 (br (decide (x >= 4294967296))
 (br (decide (x.fdiv ((2 : Int) ^ min (Int.toNat 32) u64.bits) >= 65536))
 (br (decide ((x.fdiv ((2 : Int) ^ min (Int.toNat 32) u64.bits)).fdiv ((2 : Int) ^ min (Int.toNat 16) u64.bits) >= 256))
 (chk ((0 : Int) <= u8.wrap (((x.fdiv ((2 : Int) ^ min (Int.toNat (32 : Int)) u64.bits)).fdiv ((2 : Int) ^ min (Int.toNat (16 : Int)) u64.bits)).fdiv ((2 : Int) ^ min (Int.toNat (8 : Int)) u64.bits)) /\ u8.wrap (((x.fdiv ((2 : Int) ^ min (Int.toNat (32 : Int)) u64.bits)).fdiv ((2 : Int) ^ min (Int.toNat (16 : Int)) u64.bits)).fdiv ((2 : Int) ^ min (Int.toNat (8 : Int)) u64.bits)) < ↑(256 : Nat))
 (some (i64.wrap (i64.wrap (i64.wrap ((32 : Int) + (16 : Int)) + 8) + i64.wrap ([(0 : Int),1,2,2,3,3,3,3,4,4,4,4,4,4,4,4,5,5,5,5,5,5,5,5,5,5,5,5,5,5,5,5,6,6,6,6,6,6,6,6,6,6,6,6,6,6,6,6,6,6,6,6,6,6,6,6,6,6,6,6,6,6,6,6,7,7,7,7,7,7,7,7,7,7,7,7,7,7,7,7,7,7,7,7,7,7,7,7,7,7,7,7,7,7,7,7,7,7,7,7,7,7,7,7,7,7,7,7,7,7,7,7,7,7,7,7,7,7,7,7,7,7,7,7,7,7,7,7,8,8,8,8,8,8,8,8,8,8,8,8,8,8,8,8,8,8,8,8,8,8,8,8,8,8,8,8,8,8,8,8,8,8,8,8,8,8,8,8,8,8,8,8,8,8,8,8,8,8,8,8,8,8,8,8,8,8,8,8,8,8,8,8,8,8,8,8,8,8,8,8,8,8,8,8,8,8,8,8,8,8,8,8,8,8,8,8,8,8,8,8,8,8,8,8,8,8,8,8,8,8,8,8,8,8,8,8,8,8,8,8,8,8,8,8,8,8,8,8,8,8,8,8,8,8,8,8].getD (u8.wrap (((x.fdiv ((2 : Int) ^ min (Int.toNat 32) u64.bits)).fdiv ((2 : Int) ^ min (Int.toNat 16) u64.bits)).fdiv ((2 : Int) ^ min (Int.toNat 8) u64.bits))).toNat 0)))))
 (chk ((0 : Int) <= u8.wrap ((x.fdiv ((2 : Int) ^ min (Int.toNat (32 : Int)) u64.bits)).fdiv ((2 : Int) ^ min (Int.toNat (16 : Int)) u64.bits)) /\ u8.wrap ((x.fdiv ((2 : Int) ^ min (Int.toNat (32 : Int)) u64.bits)).fdiv ((2 : Int) ^ min (Int.toNat (16 : Int)) u64.bits)) < ↑(256 : Nat))
 (some (i64.wrap (i64.wrap ((32 : Int) + (16 : Int)) + i64.wrap ([(0 : Int),1,2,2,3,3,3,3,4,4,4,4,4,4,4,4,5,5,5,5,5,5,5,5,5,5,5,5,5,5,5,5,6,6,6,6,6,6,6,6,6,6,6,6,6,6,6,6,6,6,6,6,6,6,6,6,6,6,6,6,6,6,6,6,7,7,7,7,7,7,7,7,7,7,7,7,7,7,7,7,7,7,7,7,7,7,7,7,7,7,7,7,7,7,7,7,7,7,7,7,7,7,7,7,7,7,7,7,7,7,7,7,7,7,7,7,7,7,7,7,7,7,7,7,7,7,7,7,8,8,8,8,8,8,8,8,8,8,8,8,8,8,8,8,8,8,8,8,8,8,8,8,8,8,8,8,8,8,8,8,8,8,8,8,8,8,8,8,8,8,8,8,8,8,8,8,8,8,8,8,8,8,8,8,8,8,8,8,8,8,8,8,8,8,8,8,8,8,8,8,8,8,8,8,8,8,8,8,8,8,8,8,8,8,8,8,8,8,8,8,8,8,8,8,8,8,8,8,8,8,8,8,8,8,8,8,8,8,8,8,8,8,8,8,8,8,8,8,8,8,8,8,8,8,8,8].getD (u8.wrap ((x.fdiv ((2 : Int) ^ min (Int.toNat 32) u64.bits)).fdiv ((2 : Int) ^ min (Int.toNat 16) u64.bits))).toNat 0))))))
 (br (decide (x.fdiv ((2 : Int) ^ min (Int.toNat 32) u64.bits) >= 256))
 (chk ((0 : Int) <= u8.wrap ((x.fdiv ((2 : Int) ^ min (Int.toNat (32 : Int)) u64.bits)).fdiv ((2 : Int) ^ min (Int.toNat (8 : Int)) u64.bits)) /\ u8.wrap ((x.fdiv ((2 : Int) ^ min (Int.toNat (32 : Int)) u64.bits)).fdiv ((2 : Int) ^ min (Int.toNat (8 : Int)) u64.bits)) < ↑(256 : Nat))
 (some (i64.wrap (i64.wrap ((32 : Int) + (8 : Int)) + i64.wrap ([(0 : Int),1,2,2,3,3,3,3,4,4,4,4,4,4,4,4,5,5,5,5,5,5,5,5,5,5,5,5,5,5,5,5,6,6,6,6,6,6,6,6,6,6,6,6,6,6,6,6,6,6,6,6,6,6,6,6,6,6,6,6,6,6,6,6,7,7,7,7,7,7,7,7,7,7,7,7,7,7,7,7,7,7,7,7,7,7,7,7,7,7,7,7,7,7,7,7,7,7,7,7,7,7,7,7,7,7,7,7,7,7,7,7,7,7,7,7,7,7,7,7,7,7,7,7,7,7,7,7,8,8,8,8,8,8,8,8,8,8,8,8,8,8,8,8,8,8,8,8,8,8,8,8,8,8,8,8,8,8,8,8,8,8,8,8,8,8,8,8,8,8,8,8,8,8,8,8,8,8,8,8,8,8,8,8,8,8,8,8,8,8,8,8,8,8,8,8,8,8,8,8,8,8,8,8,8,8,8,8,8,8,8,8,8,8,8,8,8,8,8,8,8,8,8,8,8,8,8,8,8,8,8,8,8,8,8,8,8,8,8,8,8,8,8,8,8,8,8,8,8,8,8,8,8,8,8,8].getD (u8.wrap ((x.fdiv ((2 : Int) ^ min (Int.toNat 32) u64.bits)).fdiv ((2 : Int) ^ min (Int.toNat 8) u64.bits))).toNat 0)))))
 (chk ((0 : Int) <= u8.wrap (x.fdiv ((2 : Int) ^ min (Int.toNat (32 : Int)) u64.bits)) /\ u8.wrap (x.fdiv ((2 : Int) ^ min (Int.toNat (32 : Int)) u64.bits)) < ↑(256 : Nat))
 (some (i64.wrap (32 + i64.wrap ([(0 : Int),1,2,2,3,3,3,3,4,4,4,4,4,4,4,4,5,5,5,5,5,5,5,5,5,5,5,5,5,5,5,5,6,6,6,6,6,6,6,6,6,6,6,6,6,6,6,6,6,6,6,6,6,6,6,6,6,6,6,6,6,6,6,6,7,7,7,7,7,7,7,7,7,7,7,7,7,7,7,7,7,7,7,7,7,7,7,7,7,7,7,7,7,7,7,7,7,7,7,7,7,7,7,7,7,7,7,7,7,7,7,7,7,7,7,7,7,7,7,7,7,7,7,7,7,7,7,7,8,8,8,8,8,8,8,8,8,8,8,8,8,8,8,8,8,8,8,8,8,8,8,8,8,8,8,8,8,8,8,8,8,8,8,8,8,8,8,8,8,8,8,8,8,8,8,8,8,8,8,8,8,8,8,8,8,8,8,8,8,8,8,8,8,8,8,8,8,8,8,8,8,8,8,8,8,8,8,8,8,8,8,8,8,8,8,8,8,8,8,8,8,8,8,8,8,8,8,8,8,8,8,8,8,8,8,8,8,8,8,8,8,8,8,8,8,8,8,8,8,8,8,8,8,8,8,8].getD (u8.wrap (x.fdiv ((2 : Int) ^ min (Int.toNat 32) u64.bits))).toNat 0)))))))
 (br (decide (x >= 65536))
 (br (decide (x.fdiv ((2 : Int) ^ min (Int.toNat 16) u64.bits) >= 256))
 (chk ((0 : Int) <= u8.wrap ((x.fdiv ((2 : Int) ^ min (Int.toNat (16 : Int)) u64.bits)).fdiv ((2 : Int) ^ min (Int.toNat (8 : Int)) u64.bits)) /\ u8.wrap ((x.fdiv ((2 : Int) ^ min (Int.toNat (16 : Int)) u64.bits)).fdiv ((2 : Int) ^ min (Int.toNat (8 : Int)) u64.bits)) < ↑(256 : Nat))
 (some (i64.wrap (i64.wrap (i64.wrap ((0 : Int) + (16 : Int)) + 8) + i64.wrap ([(0 : Int),1,2,2,3,3,3,3,4,4,4,4,4,4,4,4,5,5,5,5,5,5,5,5,5,5,5,5,5,5,5,5,6,6,6,6,6,6,6,6,6,6,6,6,6,6,6,6,6,6,6,6,6,6,6,6,6,6,6,6,6,6,6,6,7,7,7,7,7,7,7,7,7,7,7,7,7,7,7,7,7,7,7,7,7,7,7,7,7,7,7,7,7,7,7,7,7,7,7,7,7,7,7,7,7,7,7,7,7,7,7,7,7,7,7,7,7,7,7,7,7,7,7,7,7,7,7,7,8,8,8,8,8,8,8,8,8,8,8,8,8,8,8,8,8,8,8,8,8,8,8,8,8,8,8,8,8,8,8,8,8,8,8,8,8,8,8,8,8,8,8,8,8,8,8,8,8,8,8,8,8,8,8,8,8,8,8,8,8,8,8,8,8,8,8,8,8,8,8,8,8,8,8,8,8,8,8,8,8,8,8,8,8,8,8,8,8,8,8,8,8,8,8,8,8,8,8,8,8,8,8,8,8,8,8,8,8,8,8,8,8,8,8,8,8,8,8,8,8,8,8,8,8,8,8,8].getD (u8.wrap ((x.fdiv ((2 : Int) ^ min (Int.toNat 16) u64.bits)).fdiv ((2 : Int) ^ min (Int.toNat 8) u64.bits))).toNat 0)))))
 (chk ((0 : Int) <= u8.wrap (x.fdiv ((2 : Int) ^ min (Int.toNat (16 : Int)) u64.bits)) /\ u8.wrap (x.fdiv ((2 : Int) ^ min (Int.toNat (16 : Int)) u64.bits)) < ↑(256 : Nat))
 (some (i64.wrap (i64.wrap ((0 : Int) + (16 : Int)) + i64.wrap ([(0 : Int),1,2,2,3,3,3,3,4,4,4,4,4,4,4,4,5,5,5,5,5,5,5,5,5,5,5,5,5,5,5,5,6,6,6,6,6,6,6,6,6,6,6,6,6,6,6,6,6,6,6,6,6,6,6,6,6,6,6,6,6,6,6,6,7,7,7,7,7,7,7,7,7,7,7,7,7,7,7,7,7,7,7,7,7,7,7,7,7,7,7,7,7,7,7,7,7,7,7,7,7,7,7,7,7,7,7,7,7,7,7,7,7,7,7,7,7,7,7,7,7,7,7,7,7,7,7,7,8,8,8,8,8,8,8,8,8,8,8,8,8,8,8,8,8,8,8,8,8,8,8,8,8,8,8,8,8,8,8,8,8,8,8,8,8,8,8,8,8,8,8,8,8,8,8,8,8,8,8,8,8,8,8,8,8,8,8,8,8,8,8,8,8,8,8,8,8,8,8,8,8,8,8,8,8,8,8,8,8,8,8,8,8,8,8,8,8,8,8,8,8,8,8,8,8,8,8,8,8,8,8,8,8,8,8,8,8,8,8,8,8,8,8,8,8,8,8,8,8,8,8,8,8,8,8,8].getD (u8.wrap (x.fdiv ((2 : Int) ^ min (Int.toNat 16) u64.bits))).toNat 0))))))
 (br (decide (x >= 256))
 (chk ((0 : Int) <= u8.wrap (x.fdiv ((2 : Int) ^ min (Int.toNat (8 : Int)) u64.bits)) /\ u8.wrap (x.fdiv ((2 : Int) ^ min (Int.toNat (8 : Int)) u64.bits)) < ↑(256 : Nat))
 (some (i64.wrap (i64.wrap ((0 : Int) + (8 : Int)) + i64.wrap ([(0 : Int),1,2,2,3,3,3,3,4,4,4,4,4,4,4,4,5,5,5,5,5,5,5,5,5,5,5,5,5,5,5,5,6,6,6,6,6,6,6,6,6,6,6,6,6,6,6,6,6,6,6,6,6,6,6,6,6,6,6,6,6,6,6,6,7,7,7,7,7,7,7,7,7,7,7,7,7,7,7,7,7,7,7,7,7,7,7,7,7,7,7,7,7,7,7,7,7,7,7,7,7,7,7,7,7,7,7,7,7,7,7,7,7,7,7,7,7,7,7,7,7,7,7,7,7,7,7,7,8,8,8,8,8,8,8,8,8,8,8,8,8,8,8,8,8,8,8,8,8,8,8,8,8,8,8,8,8,8,8,8,8,8,8,8,8,8,8,8,8,8,8,8,8,8,8,8,8,8,8,8,8,8,8,8,8,8,8,8,8,8,8,8,8,8,8,8,8,8,8,8,8,8,8,8,8,8,8,8,8,8,8,8,8,8,8,8,8,8,8,8,8,8,8,8,8,8,8,8,8,8,8,8,8,8,8,8,8,8,8,8,8,8,8,8,8,8,8,8,8,8,8,8,8,8,8,8].getD (u8.wrap (x.fdiv ((2 : Int) ^ min (Int.toNat 8) u64.bits))).toNat 0)))))
 (chk ((0 : Int) <= u8.wrap x /\ u8.wrap x < ↑(256 : Nat))
 (some (i64.wrap (0 + i64.wrap ([(0 : Int),1,2,2,3,3,3,3,4,4,4,4,4,4,4,4,5,5,5,5,5,5,5,5,5,5,5,5,5,5,5,5,6,6,6,6,6,6,6,6,6,6,6,6,6,6,6,6,6,6,6,6,6,6,6,6,6,6,6,6,6,6,6,6,7,7,7,7,7,7,7,7,7,7,7,7,7,7,7,7,7,7,7,7,7,7,7,7,7,7,7,7,7,7,7,7,7,7,7,7,7,7,7,7,7,7,7,7,7,7,7,7,7,7,7,7,7,7,7,7,7,7,7,7,7,7,7,7,8,8,8,8,8,8,8,8,8,8,8,8,8,8,8,8,8,8,8,8,8,8,8,8,8,8,8,8,8,8,8,8,8,8,8,8,8,8,8,8,8,8,8,8,8,8,8,8,8,8,8,8,8,8,8,8,8,8,8,8,8,8,8,8,8,8,8,8,8,8,8,8,8,8,8,8,8,8,8,8,8,8,8,8,8,8,8,8,8,8,8,8,8,8,8,8,8,8,8,8,8,8,8,8,8,8,8,8,8,8,8,8,8,8,8,8,8,8,8,8,8,8,8,8,8,8,8,8].getD (u8.wrap x).toNat 0))))))))
noncomputable def len64.spec : Eng.Spec := len64.sig.spec (fun N L => len64.F N (L.i 0)) len64.enc
theorem len64.ok : CallOK Tryz.prog 68 len64.spec := ok2 len64.C len64.K Tryz.f68 len64.dec (fun _ => trivial) (fun _ => trivial)
def blen.sig : Eng.Sig := { args := [.at (.int .u64 0)],ret := .at (.int .i64 0) }
def blen.C (N : Nat) : Cfg := { P := Tryz.prog,N := N,RT := noRT,specs := [(68,len64.spec)] }
abbrev blen.R : Type := Int
def blen.dec (L : Eng.Leaves) : blen.R := (L.i 0)
def blen.enc (r : blen.R) : Eng.Leaves := mkL [r] [] [] []
def blen.K (N : Nat) : FCfg := {}
def blen.F (N : Nat) (x : Int) : Option blen.R :=
 (obind (Rc.len64.F N x) fun r0 =>
 (some r0))
noncomputable def blen.spec : Eng.Spec := blen.sig.spec (fun N L => blen.F N (L.i 0)) blen.enc
theorem blen.ok : CallOK Tryz.prog 103 blen.spec := ok2 blen.C blen.K Tryz.f103 blen.dec (fun _ => ⟨len64.ok,trivial⟩) (fun _ => trivial)
def endb.sig : Eng.Sig := { args := [.at (.ptr 0 0)],n := 2,pre := [(0,.cells 10 [.full 1 false,.int .u64 0,.int .u64 1,.int .u64 2,.int .i64 3,.int .i64 4,.int .u64 5,.int .i64 6,.int .i64 7,.bool 0]),(1,.ints false .u8 0)],post := [(0,.cells 10 [.full 1 false,.fint .u64 0,.fint .u64 1,.fint .u64 2,.fint .i64 3,.int .i64 1,.fint .u64 5,.fint .i64 6,.fint .i64 7,.fbool 0]),(1,.fints false .u8 0)],ret := .at (.int .u64 0) }
def endb.C (N : Nat) : Cfg := { P := Tryz.prog,N := N,RT := noRT,specs := [],hi := 2 }
abbrev endb.R : Type := Int × Int
def endb.dec (L : Eng.Leaves) : endb.R := (L.i 0,L.i 1)
def endb.enc (r : endb.R) : Eng.Leaves := mkL [r.1,r.2] [] [] []
def endb.K (N : Nat) : FCfg := {}
def endb.F (N : Nat) (h i g e d c a f : Int) (j : Bool) (b : List Int) : Option endb.R :=
 (br (decide (d >= ↑b.length))
 (chkI h h
 (chkI i i
 (chkI g g
 (chkI e e
 (chkI c c
 (chkI a a
 (chkI f f
 (chkB j j
 (chkL b b
 (some (((0 : Int),d))))))))))))
 (chk ((0 : Int) <= i64.wrap (↑b.length - i64.wrap (d + (1 : Int))) /\ i64.wrap (↑b.length - i64.wrap (d + (1 : Int))) < ↑b.length)
 (chkI h h
 (chkI i i
 (chkI g g
 (chkI e e
 (chkI c c
 (chkI a a
 (chkI f f
 (chkB j j
 (chkL b b
 (some ((u64.wrap (b.getD (i64.wrap (↑b.length - i64.wrap (d + (1 : Int)))).toNat (0 : Int)),i64.wrap (d + (1 : Int))))))))))))))))
noncomputable def endb.spec : Eng.Spec := endb.sig.spec (fun N L => endb.F N (L.i 0) (L.i 1) (L.i 2) (L.i 3) (L.i 4) (L.i 5) (L.i 6) (L.i 7) (L.b 0) (L.l 0)) endb.enc
theorem endb.ok : CallOK Tryz.prog 99 endb.spec := ok2 endb.C endb.K Tryz.f99 endb.dec (fun _ => trivial) (fun _ => trivial)
def choose.sig : Eng.Sig := { args := [.at (.ptr 0 0),.at (.int .u64 0)],n := 2,pre := [(0,.cells 10 [.full 1 false,.int .u64 1,.int .u64 2,.int .u64 3,.int .i64 4,.int .i64 5,.int .u64 6,.int .i64 7,.int .i64 8,.bool 0]),(1,.ints false .u8 0)],post := [(0,.cells 10 [.full 1 false,.fint .u64 1,.fint .u64 2,.fint .u64 3,.fint .i64 4,.fint .i64 5,.fint .u64 6,.fint .i64 7,.fint .i64 8,.fbool 0]),(1,.fints false .u8 0)],ret := .at (.int .u64 0) }
def choose.C (N : Nat) : Cfg := { P := Tryz.prog,N := N,RT := noRT,specs := [],hi := 2 }
abbrev choose.R : Type := Int
def choose.dec (L : Eng.Leaves) : choose.R := (L.i 0)
def choose.enc (r : choose.R) : Eng.Leaves := mkL [r] [] [] []
def choose.K (N : Nat) : FCfg := {}
def choose.F (N : Nat) (j d g h e i c a f : Int) (k : Bool) (b : List Int) : Option choose.R :=
 (chk (j ≠ 0)
 (chk (u64.wrap (d.tdiv j) ≠ 0)
 (chkI d d
 (chkI g g
 (chkI h h
 (chkI e e
 (chkI i i
 (chkI c c
 (chkI a a
 (chkI f f
 (chkB k k
 (chkL b b
 (some (u64.wrap (j - if j < u64.wrap (u64.wrap (g.tdiv (u64.wrap (d.tdiv j))) + (1 : Int)) then j else u64.wrap (u64.wrap (g.tdiv (u64.wrap (d.tdiv j))) + (1 : Int)))))))))))))))))
noncomputable def choose.spec : Eng.Spec := choose.sig.spec (fun N L => choose.F N (L.i 0) (L.i 1) (L.i 2) (L.i 3) (L.i 4) (L.i 5) (L.i 6) (L.i 7) (L.i 8) (L.b 0) (L.l 0)) choose.enc
theorem choose.ok : CallOK Tryz.prog 101 choose.spec := ok2 choose.C choose.K Tryz.f101 choose.dec (fun _ => trivial) (fun _ => trivial)
def take.sig : Eng.Sig := { args := [.at (.ptr 0 0),.at (.int .u64 0),.at (.int .u64 1),.at (.int .u64 2)],n := 2,pre := [(0,.cells 10 [.full 1 false,.int .u64 3,.int .u64 4,.int .u64 5,.int .i64 6,.int .i64 7,.int .u64 8,.int .i64 9,.int .i64 10,.bool 0]),(1,.ints false .u8 0)],post := [(0,.cells 10 [.full 1 false,.int .u64 0,.int .u64 1,.int .u64 2,.int .i64 3,.fint .i64 7,.fint .u64 8,.fint .i64 9,.int .i64 4,.fbool 0]),(1,.fints false .u8 0)],ret := .at (.unk) }
def take.C (N : Nat) : Cfg := { P := Tryz.prog,N := N,RT := noRT,specs := [(52,norm.spec)],hi := 2 }
abbrev take.R : Type := Int × Int × Int × Int × Int
def take.dec (L : Eng.Leaves) : take.R := (L.i 0,L.i 1,L.i 2,L.i 3,L.i 4)
def take.enc (r : take.R) : Eng.Leaves := mkL [r.1,r.2.1,r.2.2.1,r.2.2.2.1,r.2.2.2.2] [] [] []
def take.K (N : Nat) : FCfg := {}
def take.F (N : Nat) (m l i f k j g d c a h : Int) (e : Bool) (b : List Int) : Option take.R :=
 (chk (i ≠ 0)
 (br (decide (m > 0))
 (obind (Rc.norm.F N (u64.wrap (u64.wrap (f.tdiv i) * u64.wrap (l - m))) (u64.wrap (k - u64.wrap (u64.wrap (f.tdiv i) * u64.wrap (i - l)))) j g d c a h e b) fun r0 =>
 (chkI d d
 (chkI c c
 (chkI a a
 (chkB e e
 (chkL b b
 (some ((r0.1,r0.2.1,r0.2.2.1,r0.2.2.2.1,r0.2.2.2.2)))))))))
 (obind (Rc.norm.F N (u64.wrap (f - u64.wrap (u64.wrap (f.tdiv i) * u64.wrap (i - l)))) (u64.wrap (k - u64.wrap (u64.wrap (f.tdiv i) * u64.wrap (i - l)))) j g d c a h e b) fun r1 =>
 (chkI d d
 (chkI c c
 (chkI a a
 (chkB e e
 (chkL b b
 (some ((r1.1,r1.2.1,r1.2.2.1,r1.2.2.2.1,r1.2.2.2.2)))))))))))
noncomputable def take.spec : Eng.Spec := take.sig.spec (fun N L => take.F N (L.i 0) (L.i 1) (L.i 2) (L.i 3) (L.i 4) (L.i 5) (L.i 6) (L.i 7) (L.i 8) (L.i 9) (L.i 10) (L.b 0) (L.l 0)) take.enc
theorem take.ok : CallOK Tryz.prog 102 take.spec := ok2 take.C take.K Tryz.f102 take.dec (fun _ => ⟨norm.ok,trivial⟩) (fun _ => trivial)
def good.sig : Eng.Sig := { args := [.at (.roi .i64 0)],ret := .at (.bool 0) }
def good.C (N : Nat) : Cfg := { P := Tryz.prog,N := N,RT := noRT,specs := [] }
abbrev good.R : Type := Bool
def good.dec (L : Eng.Leaves) : good.R := (L.b 0)
def good.enc (r : good.R) : Eng.Leaves := mkL [] [r] [] []
abbrev good.loop4.R : Type := Bool
def good.loop4.ann : Ann := { nx := 20,slots := [(0,.at (.froi .i64 0)),(2,.at (.bool 0)),(3,.at (.int .i64 0))],xslots := [(2,.at (.bool 0))],T := good.loop4.R,dec := fun L => (L.b 0),enc := fun r => mkL [] [r] [] [],ret := true }
def good.K (N : Nat) : FCfg := { anns := [(4,good.loop4.ann)] }
def good.loop4 (N : Nat) : Nat -> List Int -> List Int -> Int -> Bool -> Option (good.loop4.R ⊕ good.R)
 | 0,_,_,_,_ => none
 | nn + 1,b,t,a,c =>
 (br (decide (a < ↑t.length))
 (chk ((0 : Int) <= a /\ a < ↑t.length)
 (chk ((0 : Int) <= i64.wrap (a - (1 : Int)) /\ i64.wrap (a - (1 : Int)) < ↑t.length)
 (br (decide (t.getD a.toNat 0 >= t.getD (i64.wrap (a - (1 : Int))).toNat 0))
 (omap
 (some false) .inr)
 (chkL t t
 (good.loop4 N nn b t (i64.wrap (a + 1)) c)))))
 (some (Sum.inl c)))
def good.loop4R (N nn : Nat) (a : List Int) (t : List Int) (c : Int) (d : Bool) : Option (good.loop4.R ⊕ good.R) := loopR good.loop4.ann (mkL [] [] [t] []) (evCode ((good.C N).inLoop good.loop4.ann) (good.K N) (inlTab (good.C N) 0) (bodyAt 4 Tryz.f100)) (sigKr Tryz.prog Tryz.f100 good.sig (mkL [] [] [a] []) fun L => (L.b 0)) nn (mkL [c] [d] [] [])
theorem good.loop4_eq (N : Nat) : ∀ nn,good.loop4R N nn = good.loop4 N nn := lq fun _ h => by funext; rw [good.loop4,<- h]; kernel_rfl
def good.F (N : Nat) (t : List Int) : Option good.R :=
 (br (decide (↑t.length < (1 : Int)))
 (some false)
 (br (decide (↑t.length > (256 : Int)))
 (some false)
 (chk ((0 : Int) <= i64.wrap (↑t.length - (1 : Int)) /\ i64.wrap (↑t.length - (1 : Int)) < ↑t.length)
 (br (t.getD (i64.wrap (↑t.length - (1 : Int))).toNat (0 : Int) != (0 : Int))
 (some false)
 (chk ((0 : Int) <= (0 : Int) /\ (0 : Int) < ↑t.length)
 (br (decide (t.getD (Int.toNat 0) (0 : Int) >= (256 : Int)))
 (some false)
 (osum (good.loop4 N N t t (1) false) fun r0 =>
 (some true))))))))
noncomputable def good.spec : Eng.Spec := good.sig.spec (fun N L => good.F N (L.l 0)) good.enc
theorem good.ok : CallOK Tryz.prog 100 good.spec := ok2 good.C good.K Tryz.f100 good.dec (fun _ => trivial) (fun _ => ⟨fun _ _ => ⟨rfl,rfl⟩,trivial⟩) (by intro N L; show _ = good.F N (L.l 0); rw [good.F,<- funext (good.loop4_eq N)]; kernel_rfl)
def symbol.sig : Eng.Sig := { args := [.at (.ptr 0 0),.at (.roi .i64 0)],n := 2,pre := [(0,.cells 10 [.full 1 false,.int .u64 0,.int .u64 1,.int .u64 2,.int .i64 3,.int .i64 4,.int .u64 5,.int .i64 6,.int .i64 7,.bool 0]),(1,.ints false .u8 1)],post := [(0,.cells 10 [.full 1 false,.int .u64 1,.int .u64 2,.int .u64 3,.int .i64 4,.fint .i64 4,.fint .u64 5,.fint .i64 6,.int .i64 5,.fbool 0]),(1,.fints false .u8 1)],ret := .at (.int .i64 0) }
def symbol.C (N : Nat) : Cfg := { P := Tryz.prog,N := N,RT := noRT,specs := [(100,good.spec),(101,choose.spec),(102,take.spec)],hi := 2 }
abbrev symbol.R : Type := Int × Int × Int × Int × Int × Int
def symbol.dec (L : Eng.Leaves) : symbol.R := (L.i 0,L.i 1,L.i 2,L.i 3,L.i 4,L.i 5)
def symbol.enc (r : symbol.R) : Eng.Leaves := mkL [r.1,r.2.1,r.2.2.1,r.2.2.2.1,r.2.2.2.2.1,r.2.2.2.2.2] [] [] []
abbrev symbol.loop5.R : Type := Int × Int
def symbol.loop5.ann : Ann := { nx := 20,slots := [(1,.at (.froi .i64 0)),(5,.at (.fint .i64 0)),(6,.at (.int .i64 0)),(7,.at (.int .i64 1))],xslots := [(6,.at (.int .i64 0)),(7,.at (.int .i64 1))],T := symbol.loop5.R,dec := fun L => (L.i 0,L.i 1),enc := fun r => mkL [r.1,r.2] [] [] [] }
def symbol.K (N : Nat) : FCfg := { anns := [(5,symbol.loop5.ann)] }
def symbol.loop5 (N : Nat) : Nat -> Int -> List Int -> Int -> Int -> Option symbol.loop5.R
 | 0,_,_,_,_ => none
 | nn + 1,f,t,k,a =>
 (chk ((0 : Int) <= k /\ k < ↑t.length)
 (br (decide (f >= i64.wrap (256 - t.getD k.toNat 0)))
 (chk ((0 : Int) <= k /\ k < ↑t.length)
 (chkL t t
 (chkI f f
 (symbol.loop5 N nn f t (i64.wrap (k + 1)) (i64.wrap (256 - t.getD k.toNat 0))))))
 (some ((k,a)))))
def symbol.loop5R (N nn : Nat) (f : Int) (t : List Int) (k a : Int) : Option symbol.loop5.R := loopF symbol.loop5.ann (mkL [f] [] [t] []) (evCode ((symbol.C N).inLoop symbol.loop5.ann) (symbol.K N) (inlTab (symbol.C N) 0) (bodyAt 5 Tryz.f43)) nn (mkL [k,a] [] [] [])
theorem symbol.loop5_eq (N : Nat) : ∀ nn,symbol.loop5R N nn = symbol.loop5 N nn := lq fun _ h => by funext; rw [symbol.loop5,<- h]; kernel_rfl
def symbol.F (N : Nat) (i j h e d c a f : Int) (g : Bool) (t b : List Int) : Option symbol.R :=
 (obind (Rc.good.F N t) fun r0 =>
 (br (!r0)
 (chkI d d
 (chkI c c
 (chkI a a
 (chkB g g
 (chkL b b
 (some (((0 : Int),i,j,h,e,f))))))))
 (obind (Rc.choose.F N (256) i j h e d c a f g b) fun r1 =>
 (obind (symbol.loop5 N N (i64.wrap r1) t (0) (0)) fun r2 =>
 (chk ((0 : Int) <= r2.1 /\ r2.1 < ↑t.length)
 (obind (Rc.take.F N (u64.wrap r2.2) (u64.wrap (i64.wrap (256 - t.getD r2.1.toNat 0))) (256) i j h e d c a f g b) fun r3 =>
 (chkI d d
 (chkI c c
 (chkI a a
 (chkB g g
 (chkL b b
 (some ((r2.1,r3.1,r3.2.1,r3.2.2.1,r3.2.2.2.1,r3.2.2.2.2))))))))))))))
noncomputable def symbol.spec : Eng.Spec := symbol.sig.spec (fun N L => symbol.F N (L.i 0) (L.i 1) (L.i 2) (L.i 3) (L.i 4) (L.i 5) (L.i 6) (L.i 7) (L.b 0) (L.l 0) (L.l 1)) symbol.enc
theorem symbol.ok : CallOK Tryz.prog 43 symbol.spec := ok2 symbol.C symbol.K Tryz.f43 symbol.dec (fun _ => ⟨good.ok,choose.ok,take.ok,trivial⟩) (fun _ => ⟨fun _ _ => ⟨rfl,rfl⟩,trivial⟩) (by intro N L; show _ = symbol.F N (L.i 0) (L.i 1) (L.i 2) (L.i 3) (L.i 4) (L.i 5) (L.i 6) (L.i 7) (L.b 0) (L.l 0) (L.l 1); rw [symbol.F,<- funext (symbol.loop5_eq N)]; kernel_rfl)
def bits.sig : Eng.Sig := { args := [.at (.ptr 0 0),.at (.int .i64 0)],n := 2,pre := [(0,.cells 10 [.full 1 false,.int .u64 1,.int .u64 2,.int .u64 3,.int .i64 4,.int .i64 5,.int .u64 6,.int .i64 7,.int .i64 8,.bool 0]),(1,.ints false .u8 0)],post := [(0,.cells 10 [.full 1 false,.fint .u64 1,.fint .u64 2,.fint .u64 3,.fint .i64 4,.int .i64 1,.int .u64 2,.int .i64 3,.int .i64 4,.fbool 0]),(1,.fints false .u8 0)],ret := .at (.int .i64 0) }
def bits.C (N : Nat) : Cfg := { P := Tryz.prog,N := N,RT := noRT,specs := [(99,endb.spec)],hi := 2 }
abbrev bits.R : Type := Int × Int × Int × Int × Int
def bits.dec (L : Eng.Leaves) : bits.R := (L.i 0,L.i 1,L.i 2,L.i 3,L.i 4)
def bits.enc (r : bits.R) : Eng.Leaves := mkL [r.1,r.2.1,r.2.2.1,r.2.2.2.1,r.2.2.2.2] [] [] []
abbrev bits.loop3.R : Type := Int × Int × Int
def bits.loop3.ann : Ann := { nx := 20,slots := [(0,.at (.ptr 0 0)),(1,.at (.fint .i64 0))],blks := [(0,.cells 10 [.full 1 false,.fint .u64 1,.fint .u64 2,.fint .u64 3,.fint .i64 4,.int .i64 0,.int .u64 1,.int .i64 2,.fint .i64 5,.fbool 0]),(1,.fints false .u8 0)],xslots := [(0,.at (.ptr 0 0))],xblks := [(0,.cells 10 [.full 1 false,.fint .u64 1,.fint .u64 2,.fint .u64 3,.fint .i64 4,.int .i64 0,.int .u64 1,.int .i64 2,.fint .i64 5,.fbool 0]),(1,.fints false .u8 0)],T := bits.loop3.R,dec := fun L => (L.i 0,L.i 1,L.i 2),enc := fun r => mkL [r.1,r.2.1,r.2.2] [] [] [] }
def bits.K (N : Nat) : FCfg := { anns := [(3,bits.loop3.ann)] }
def bits.loop3 (N : Nat) : Nat -> Int -> Int -> Int -> Int -> Int -> Int -> Bool -> List Int -> Int -> Int -> Int -> Option bits.loop3.R
 | 0,_,_,_,_,_,_,_,_,_,_,_ => none
 | nn + 1,n,g,h,f,d,e,i,b,j,c,a =>
 (br (decide (a < n))
 (obind (Rc.endb.F N g h f d j c a e i b) fun r0 =>
 (chk (0 <= a)
 (chkI a a
 (chkI c c
 (chkI n n
 (chkI g g
 (chkI h h
 (chkI f f
 (chkI d d
 (chkI e e
 (chkB i i
 (chkL b b
 (bits.loop3 N nn n g h f d e i b r0.2 (u64.wrap ↑(BitVec.ofInt u64.bits c ||| BitVec.ofInt u64.bits (u64.wrap (r0.1 * (2 : Int) ^ min a.toNat u64.bits))).toNat) (i64.wrap (a + (8 : Int))))))))))))))))
 (chkI g g
 (chkI h h
 (chkI f f
 (chkI d d
 (chkI e e
 (chkB i i
 (chkL b b
 (some ((j,c,a)))))))))))
def bits.loop3R (N nn : Nat) (n h i f d e : Int) (j : Bool) (b : List Int) (g c a : Int) : Option bits.loop3.R := loopF bits.loop3.ann (mkL [n,h,i,f,d,e] [j] [b] []) (evCode ((bits.C N).inLoop bits.loop3.ann) (bits.K N) (inlTab (bits.C N) 0) (bodyAt 3 Tryz.f42)) nn (mkL [g,c,a] [] [] [])
theorem bits.loop3_eq (N : Nat) : ∀ nn,bits.loop3R N nn = bits.loop3 N nn := lq fun _ h => by funext; rw [bits.loop3,<- h]; kernel_rfl
def bits.F (N : Nat) (n g h c a j e d f : Int) (i : Bool) (b : List Int) : Option bits.R :=
 (br (decide (n < 0))
 (chkI g g
 (chkI h h
 (chkI c c
 (chkI a a
 (chkB i i
 (chkL b b
 (some (((0 : Int),j,e,d,f)))))))))
 (br (decide (n > 24))
 (chkI g g
 (chkI h h
 (chkI c c
 (chkI a a
 (chkB i i
 (chkL b b
 (some (((0 : Int),j,e,d,f)))))))))
 (obind (bits.loop3 N N n g h c a f i b j e d) fun r0 =>
 (chk (0 <= n)
 (chk (0 <= n)
 (chkI g g
 (chkI h h
 (chkI c c
 (chkI a a
 (chkB i i
 (chkL b b
 (some ((i64.wrap (u64.wrap ↑(BitVec.ofInt u64.bits r0.2.1 &&& BitVec.ofInt u64.bits (u64.wrap (u64.wrap ((1 : Int) * (2 : Int) ^ min n.toNat u64.bits) - (1 : Int)))).toNat),r0.1,r0.2.1.fdiv ((2 : Int) ^ min n.toNat u64.bits),i64.wrap (r0.2.2 - n),i64.wrap (f + n)))))))))))))))
noncomputable def bits.spec : Eng.Spec := bits.sig.spec (fun N L => bits.F N (L.i 0) (L.i 1) (L.i 2) (L.i 3) (L.i 4) (L.i 5) (L.i 6) (L.i 7) (L.i 8) (L.b 0) (L.l 0)) bits.enc
theorem bits.ok : CallOK Tryz.prog 42 bits.spec := ok2 bits.C bits.K Tryz.f42 bits.dec (fun _ => ⟨endb.ok,trivial⟩) (fun _ => ⟨fun _ _ => ⟨rfl,rfl⟩,trivial⟩) (by intro N L; show _ = bits.F N (L.i 0) (L.i 1) (L.i 2) (L.i 3) (L.i 4) (L.i 5) (L.i 6) (L.i 7) (L.i 8) (L.b 0) (L.l 0); rw [bits.F,<- funext (bits.loop3_eq N)]; kernel_rfl)
def uint.sig : Eng.Sig := { args := [.at (.ptr 0 0),.at (.int .i64 0)],n := 2,pre := [(0,.cells 10 [.full 1 false,.int .u64 1,.int .u64 2,.int .u64 3,.int .i64 4,.int .i64 5,.int .u64 6,.int .i64 7,.int .i64 8,.bool 0]),(1,.ints false .u8 0)],post := [(0,.cells 10 [.full 1 false,.int .u64 1,.int .u64 2,.int .u64 3,.int .i64 4,.int .i64 5,.int .u64 6,.int .i64 7,.int .i64 8,.bool 0]),(1,.fints false .u8 0)],ret := .at (.int .i64 0) }
def uint.C (N : Nat) : Cfg := { P := Tryz.prog,N := N,RT := noRT,specs := [(101,choose.spec),(102,take.spec),(103,blen.spec),(42,bits.spec)],hi := 2 }
abbrev uint.R : Type := Int × Int × Int × Int × Int × Int × Int × Int × Int × Bool
def uint.dec (L : Eng.Leaves) : uint.R := (L.i 0,L.i 1,L.i 2,L.i 3,L.i 4,L.i 5,L.i 6,L.i 7,L.i 8,L.b 0)
def uint.enc (r : uint.R) : Eng.Leaves := mkL [r.1,r.2.1,r.2.2.1,r.2.2.2.1,r.2.2.2.2.1,r.2.2.2.2.2.1,r.2.2.2.2.2.2.1,r.2.2.2.2.2.2.2.1,r.2.2.2.2.2.2.2.2.1] [r.2.2.2.2.2.2.2.2.2] [] []
def uint.K (N : Nat) : FCfg := {}
def uint.F (N : Nat) (k i j g d f c a e : Int) (h : Bool) (b : List Int) : Option uint.R :=
 (br (decide (k <= 1))
 (chkL b b
 (some (((0 : Int),i,j,g,d,f,c,a,e,h))))
 (br (decide (k > 4294967295))
 (chkL b b
 (some (((0 : Int),i,j,g,d,f,c,a,e,h))))
 (br (decide (k <= 256))
 (obind (Rc.choose.F N (u64.wrap k) i j g d f c a e h b) fun r0 =>
 (obind (Rc.take.F N r0 (u64.wrap (r0 + 1)) (u64.wrap k) i j g d f c a e h b) fun r1 =>
 (chkL b b
 (some ((i64.wrap r0,r1.1,r1.2.1,r1.2.2.1,r1.2.2.2.1,f,c,a,r1.2.2.2.2,h))))))
 (obind (Rc.blen.F N (u64.wrap (i64.wrap (k - 1)))) fun r2 =>
 (chk (0 <= i64.wrap (r2 - 8))
 (obind (Rc.choose.F N (u64.wrap (i64.wrap ((i64.wrap (k - (1 : Int))).fdiv ((2 : Int) ^ min (i64.wrap (r2 - (8 : Int))).toNat i64.bits) + 1))) i j g d f c a e h b) fun r3 =>
 (obind (Rc.take.F N r3 (u64.wrap (r3 + 1)) (u64.wrap (i64.wrap ((i64.wrap (k - (1 : Int))).fdiv ((2 : Int) ^ min (i64.wrap (r2 - (8 : Int))).toNat i64.bits) + 1))) i j g d f c a e h b) fun r4 =>
 (chk (0 <= i64.wrap (r2 - 8))
 (obind (Rc.bits.F N (i64.wrap (r2 - 8)) r4.1 r4.2.1 r4.2.2.1 r4.2.2.2.1 f c a r4.2.2.2.2 h b) fun r5 =>
 (br (decide (i64.wrap (i64.wrap (i64.wrap r3 * (2 : Int) ^ min (i64.wrap (r2 - (8 : Int))).toNat i64.bits) + r5.1) >= k))
 (chkL b b
 (some ((i64.wrap (k - 1),r4.1,r4.2.1,r4.2.2.1,r4.2.2.2.1,r5.2.1,r5.2.2.1,r5.2.2.2.1,r5.2.2.2.2,true))))
 (chkL b b
 (some ((i64.wrap (i64.wrap (i64.wrap r3 * (2 : Int) ^ min (i64.wrap (r2 - (8 : Int))).toNat i64.bits) + r5.1),r4.1,r4.2.1,r4.2.2.1,r4.2.2.2.1,r5.2.1,r5.2.2.1,r5.2.2.2.1,r5.2.2.2.2,h))))))))))))))
noncomputable def uint.spec : Eng.Spec := uint.sig.spec (fun N L => uint.F N (L.i 0) (L.i 1) (L.i 2) (L.i 3) (L.i 4) (L.i 5) (L.i 6) (L.i 7) (L.i 8) (L.b 0) (L.l 0)) uint.enc
theorem uint.ok : CallOK Tryz.prog 45 uint.spec := ok2 uint.C uint.K Tryz.f45 uint.dec (fun _ => ⟨choose.ok,take.ok,blen.ok,bits.ok,trivial⟩) (fun _ => trivial)
def clone8.sig : Eng.Sig := { args := [.at (.roi .u8 0)],post := [(0,.ints true .u8 0)],m := 1,ret := .at (.full 0 false) }
def clone8.C (N : Nat) : Cfg := { P := Tryz.prog,N := N,RT := noRT,specs := [] }
abbrev clone8.R : Type := List Int
def clone8.dec (L : Eng.Leaves) : clone8.R := (L.l 0)
def clone8.enc (r : clone8.R) : Eng.Leaves := mkL [] [] [r] []
def clone8.K (N : Nat) : FCfg := {}
def clone8.F (N : Nat) (b : List Int) : Option clone8.R :=
 (nilN b.length
 (some (([] : List Int)))
 (chk (([] : List Int).length + b.length <= (140737488351232 : Nat))
 (some (([] : List Int) ++ b))))
theorem clone8.F_eq (N : Nat) (L : Eng.Leaves) : evSig (clone8.C N) (clone8.K N) 0 Tryz.f50 clone8.sig L clone8.dec = clone8.F N (L.l 0) := by
 kernel_rfl
def clone8.F2 (N : Nat) (b : List Int) : Option clone8.R :=
 (chk (b.length <= 140737488351232) (some b))
theorem clone8.F2_F {N : Nat} {b : List Int} {r : clone8.R} (h : clone8.F2 N b = some r) : clone8.F N b = some r := by
 unfold clone8.F2 at h
 rw [chk_some] at h
 obtain ⟨h1,h2⟩ := h
 obtain rfl := Option.some.inj h2
 unfold clone8.F
 refine nilN_of (fun h => ?_) ?_
 ·have : b = [] := by simpa using h
  rw [this]
 ·rw [chk,if_pos (by simpa using h1)]
  rfl
def clone8.spec : Eng.Spec := clone8.sig.spec (fun N L => clone8.F2 N (L.l 0)) clone8.enc
theorem clone8.cok (N : Nat) : CfgOK (clone8.C N) := cok0 wide trivial (by kernel_rfl) rfl rfl rfl rfl
theorem clone8.aok (N : Nat) : AnnsOK (clone8.K N) := aok1 trivial
theorem clone8.ok : CallOK Tryz.prog 50 clone8.spec :=
 callOK_of_sig (fn:=Tryz.f50) (Cf:=clone8.C) (K:=clone8.K) (d:=0) (dec:=clone8.dec) (by kernel_rfl) (fun _ => rfl) clone8.cok (fun _ q hq => by simp [clone8.C] at hq) clone8.aok
 (fun N L r h => (clone8.F_eq N L).trans (clone8.F2_F h)) (by kernel_rfl) (fun _ => ⟨rfl,rfl⟩) (fun _ _ => ⟨rfl,rfl⟩)
def new.sig : Eng.Sig := { args := [.at (.roi .u8 0)],post := [(0,.cells 10 [.full 1 false,.int .u64 0,.int .u64 1,.int .u64 2,.int .i64 3,.int .i64 4,.int .u64 5,.int .i64 6,.int .i64 7,.bool 0]),(1,.ints false .u8 0)],m := 2,ret := .at (.ptr 0 0) }
def new.C (N : Nat) : Cfg := { P := Tryz.prog,N := N,RT := noRT,specs := [(50,clone8.spec),(51,next.spec),(52,norm.spec)] }
abbrev new.R : Type := Int × Int × Int × Int × Int × Int × Int × Int × Bool × List Int
def new.dec (L : Eng.Leaves) : new.R := (L.i 0,L.i 1,L.i 2,L.i 3,L.i 4,L.i 5,L.i 6,L.i 7,L.b 0,L.l 0)
def new.enc (r : new.R) : Eng.Leaves := mkL [r.1,r.2.1,r.2.2.1,r.2.2.2.1,r.2.2.2.2.1,r.2.2.2.2.2.1,r.2.2.2.2.2.2.1,r.2.2.2.2.2.2.2.1] [r.2.2.2.2.2.2.2.2.1] [r.2.2.2.2.2.2.2.2.2] []
def new.K (N : Nat) : FCfg := {}
def new.F (N : Nat) (b : List Int) : Option new.R :=
 (obind (Rc.clone8.F2 N b) fun r0 =>
 (obind (Rc.next.F N (128) (0) (0) (0) (0) (0) (0) (9) false r0) fun r1 =>
 (obind (Rc.norm.F N (128) (u64.wrap (127 - r1.1.fdiv ((2 : Int) ^ min (Int.toNat 1) u64.bits))) r1.1 r1.2 (0) (0) (0) (9) false r0) fun r2 =>
 (some ((r2.1,r2.2.1,r2.2.2.1,r2.2.2.2.1,0,0,0,r2.2.2.2.2,false,r0))))))
noncomputable def new.spec : Eng.Spec := new.sig.spec (fun N L => new.F N (L.l 0)) new.enc
theorem new.ok : CallOK Tryz.prog 13 new.spec := ok2 new.C new.K Tryz.f13 new.dec (fun _ => ⟨clone8.ok,next.ok,norm.ok,trivial⟩) (fun _ => trivial)
def rnext.sig : Eng.Sig := { args := [.at (.ptr 0 0)],n := 1,pre := [(0,.cells 11 [.roi .u8 0,.int .u64 0,.int .u64 1,.int .i64 2,.int .i64 3,.int .i64 4,.int .u64 5,.int .i64 6,.int .i64 7,.bool 0,.int .u64 8])],post := [(0,.cells 11 [.froi .u8 0,.fint .u64 0,.fint .u64 1,.fint .i64 2,.int .i64 1,.fint .i64 4,.fint .u64 5,.fint .i64 6,.fint .i64 7,.fbool 0,.fint .u64 8])],ret := .at (.int .i64 0) }
def rnext.C (N : Nat) : Cfg := { P := Tryz.prog,N := N,RT := noRT,specs := [],hi := 1 }
abbrev rnext.R : Type := Int × Int
def rnext.dec (L : Eng.Leaves) : rnext.R := (L.i 0,L.i 1)
def rnext.enc (r : rnext.R) : Eng.Leaves := mkL [r.1,r.2] [] [] []
def rnext.K (N : Nat) : FCfg := {}
def rnext.F (N : Nat) (h i e c f g a d k : Int) (j : Bool) (b : List Int) : Option rnext.R :=
 (br (decide (c >= ↑b.length))
 (chkL b b
 (chkI h h
 (chkI i i
 (chkI e e
 (chkI f f
 (chkI g g
 (chkI a a
 (chkI d d
 (chkB j j
 (chkI k k
 (some (((0 : Int),c)))))))))))))
 (chk ((0 : Int) <= i64.wrap (i64.wrap (c + (1 : Int)) - (1 : Int)) /\ i64.wrap (i64.wrap (c + (1 : Int)) - (1 : Int)) < ↑b.length)
 (chkL b b
 (chkI h h
 (chkI i i
 (chkI e e
 (chkI f f
 (chkI g g
 (chkI a a
 (chkI d d
 (chkB j j
 (chkI k k
 (some ((i64.wrap (b.getD (i64.wrap (i64.wrap (c + 1) - (1 : Int))).toNat 0),i64.wrap (c + 1))))))))))))))))
noncomputable def rnext.spec : Eng.Spec := rnext.sig.spec (fun N L => rnext.F N (L.i 0) (L.i 1) (L.i 2) (L.i 3) (L.i 4) (L.i 5) (L.i 6) (L.i 7) (L.i 8) (L.b 0) (L.l 0)) rnext.enc
theorem rnext.ok : CallOK Tryz.prog 79 rnext.spec := ok2 rnext.C rnext.K Tryz.f79 rnext.dec (fun _ => trivial) (fun _ => trivial)
def ron.sig : Eng.Sig := { args := [.at (.ptr 0 0)],n := 1,pre := [(0,.cells 11 [.roi .u8 0,.int .u64 0,.int .u64 1,.int .i64 2,.int .i64 3,.int .i64 4,.int .u64 5,.int .i64 6,.int .i64 7,.bool 0,.int .u64 8])],post := [(0,.cells 11 [.froi .u8 0,.int .u64 0,.int .u64 1,.int .i64 2,.int .i64 3,.fint .i64 4,.fint .u64 5,.fint .i64 6,.int .i64 4,.fbool 0,.fint .u64 8])],ret := .at (.unk) }
def ron.C (N : Nat) : Cfg := { P := Tryz.prog,N := N,RT := noRT,specs := [(79,rnext.spec)],hi := 1 }
abbrev ron.R : Type := Int × Int × Int × Int × Int
def ron.dec (L : Eng.Leaves) : ron.R := (L.i 0,L.i 1,L.i 2,L.i 3,L.i 4)
def ron.enc (r : ron.R) : Eng.Leaves := mkL [r.1,r.2.1,r.2.2.1,r.2.2.2.1,r.2.2.2.2] [] [] []
abbrev ron.loop0.R : Type := Int × Int × Int × Int × Int
def ron.loop0.ann : Ann := { nx := 20,slots := [(0,.at (.ptr 0 0))],blks := [(0,.cells 11 [.froi .u8 0,.int .u64 0,.int .u64 1,.int .i64 2,.int .i64 3,.fint .i64 0,.fint .u64 1,.fint .i64 2,.int .i64 4,.fbool 0,.fint .u64 3])],xslots := [(0,.at (.ptr 0 0))],xblks := [(0,.cells 11 [.froi .u8 0,.int .u64 0,.int .u64 1,.int .i64 2,.int .i64 3,.fint .i64 0,.fint .u64 1,.fint .i64 2,.int .i64 4,.fbool 0,.fint .u64 3])],T := ron.loop0.R,dec := fun L => (L.i 0,L.i 1,L.i 2,L.i 3,L.i 4),enc := fun r => mkL [r.1,r.2.1,r.2.2.1,r.2.2.2.1,r.2.2.2.2] [] [] [] }
def ron.K (N : Nat) : FCfg := { anns := [(0,ron.loop0.ann)] }
def ron.loop0 (N : Nat) : Nat -> Int -> Int -> Int -> Int -> Bool -> List Int -> Int -> Int -> Int -> Int -> Int -> Option ron.loop0.R
 | 0,_,_,_,_,_,_,_,_,_,_,_ => none
 | nn + 1,c,d,a,k,f,b,i,j,g,h,e =>
 (br (decide (i <= 8388608))
 (obind (Rc.rnext.F N (u64.wrap (i * 256)) j g h c d a (i64.wrap (e + 8)) k f b) fun r0 =>
 (chkL b b
 (chkI c c
 (chkI d d
 (chkI a a
 (chkB f f
 (chkI k k
 (ron.loop0 N nn c d a k f b (u64.wrap (i * 256)) ((u64.wrap (u64.wrap (256 * j) + u64.wrap (i64.wrap (255 - (i64.wrap ((i64.wrap (i64.wrap (256 * g) + r0.1)).tdiv (2 : Int))).tmod (256 : Int))))).tmod 2147483648) r0.1 r0.2 (i64.wrap (e + 8))))))))))
 (chkL b b
 (chkI c c
 (chkI d d
 (chkI a a
 (chkB f f
 (chkI k k
 (some ((i,j,g,h,e))))))))))
def ron.loop0R (N nn : Nat) (e f a k : Int) (h : Bool) (b : List Int) (i j g c d : Int) : Option ron.loop0.R := loopF ron.loop0.ann (mkL [e,f,a,k] [h] [b] []) (evCode ((ron.C N).inLoop ron.loop0.ann) (ron.K N) (inlTab (ron.C N) 0) (bodyAt 0 Tryz.f80)) nn (mkL [i,j,g,c,d] [] [] [])
theorem ron.loop0_eq (N : Nat) : ∀ nn,ron.loop0R N nn = ron.loop0 N nn := lq fun _ h => by funext; rw [ron.loop0,<- h]; kernel_rfl
def ron.F (N : Nat) (i j h e c d a f k : Int) (g : Bool) (b : List Int) : Option ron.R :=
 (obind (ron.loop0 N N c d a k g b i j h e f) fun r0 =>
 (chkL b b
 (chkI c c
 (chkI d d
 (chkI a a
 (chkB g g
 (chkI k k
 (some ((r0.1,r0.2.1,r0.2.2.1,r0.2.2.2.1,r0.2.2.2.2))))))))))
noncomputable def ron.spec : Eng.Spec := ron.sig.spec (fun N L => ron.F N (L.i 0) (L.i 1) (L.i 2) (L.i 3) (L.i 4) (L.i 5) (L.i 6) (L.i 7) (L.i 8) (L.b 0) (L.l 0)) ron.enc
theorem ron.ok : CallOK Tryz.prog 80 ron.spec := ok2 ron.C ron.K Tryz.f80 ron.dec (fun _ => ⟨rnext.ok,trivial⟩) (fun _ => ⟨fun _ _ => ⟨rfl,rfl⟩,trivial⟩) (by intro N L; show _ = ron.F N (L.i 0) (L.i 1) (L.i 2) (L.i 3) (L.i 4) (L.i 5) (L.i 6) (L.i 7) (L.i 8) (L.b 0) (L.l 0); rw [ron.F,<- funext (ron.loop0_eq N)]; kernel_rfl)
def rchoose.sig : Eng.Sig := { args := [.at (.ptr 0 0),.at (.int .u64 0)],n := 1,pre := [(0,.cells 11 [.roi .u8 0,.int .u64 1,.int .u64 2,.int .i64 3,.int .i64 4,.int .i64 5,.int .u64 6,.int .i64 7,.int .i64 8,.bool 0,.int .u64 9])],post := [(0,.cells 11 [.froi .u8 0,.fint .u64 1,.fint .u64 2,.fint .i64 3,.fint .i64 4,.fint .i64 5,.fint .u64 6,.fint .i64 7,.fint .i64 8,.fbool 0,.int .u64 1])],ret := .at (.int .u64 0) }
def rchoose.C (N : Nat) : Cfg := { P := Tryz.prog,N := N,RT := noRT,specs := [],hi := 1 }
abbrev rchoose.R : Type := Int × Int
def rchoose.dec (L : Eng.Leaves) : rchoose.R := (L.i 0,L.i 1)
def rchoose.enc (r : rchoose.R) : Eng.Leaves := mkL [r.1,r.2] [] [] []
def rchoose.K (N : Nat) : FCfg := {}
def rchoose.F (N : Nat) (j c i f d g h a e l : Int) (k : Bool) (b : List Int) : Option rchoose.R :=
 (chk (j ≠ 0)
 (chk (u64.wrap (c.tdiv j) ≠ 0)
 (br (decide (u64.wrap (u64.wrap (i.tdiv (u64.wrap (c.tdiv j))) + 1) > j))
 (chkL b b
 (chkI c c
 (chkI i i
 (chkI f f
 (chkI d d
 (chkI g g
 (chkI h h
 (chkI a a
 (chkI e e
 (chkB k k
 (some ((u64.wrap (j - j),u64.wrap (c.tdiv j))))))))))))))
 (chkL b b
 (chkI c c
 (chkI i i
 (chkI f f
 (chkI d d
 (chkI g g
 (chkI h h
 (chkI a a
 (chkI e e
 (chkB k k
 (some ((u64.wrap (j - u64.wrap (u64.wrap (i.tdiv (u64.wrap (c.tdiv j))) + 1)),u64.wrap (c.tdiv j)))))))))))))))))
noncomputable def rchoose.spec : Eng.Spec := rchoose.sig.spec (fun N L => rchoose.F N (L.i 0) (L.i 1) (L.i 2) (L.i 3) (L.i 4) (L.i 5) (L.i 6) (L.i 7) (L.i 8) (L.i 9) (L.b 0) (L.l 0)) rchoose.enc
theorem rchoose.ok : CallOK Tryz.prog 133 rchoose.spec := ok2 rchoose.C rchoose.K Tryz.f133 rchoose.dec (fun _ => trivial) (fun _ => trivial)
def rtake.sig : Eng.Sig := { args := [.at (.ptr 0 0),.at (.int .u64 0),.at (.int .u64 1),.at (.int .u64 2)],n := 1,pre := [(0,.cells 11 [.roi .u8 0,.int .u64 3,.int .u64 4,.int .i64 5,.int .i64 6,.int .i64 7,.int .u64 8,.int .i64 9,.int .i64 10,.bool 0,.int .u64 11])],post := [(0,.cells 11 [.froi .u8 0,.int .u64 0,.int .u64 1,.int .i64 2,.int .i64 3,.fint .i64 7,.fint .u64 8,.fint .i64 9,.int .i64 4,.fbool 0,.fint .u64 11])],ret := .at (.unk) }
def rtake.C (N : Nat) : Cfg := { P := Tryz.prog,N := N,RT := noRT,specs := [(80,ron.spec)],hi := 1 }
abbrev rtake.R : Type := Int × Int × Int × Int × Int
def rtake.dec (L : Eng.Leaves) : rtake.R := (L.i 0,L.i 1,L.i 2,L.i 3,L.i 4)
def rtake.enc (r : rtake.R) : Eng.Leaves := mkL [r.1,r.2.1,r.2.2.1,r.2.2.2.1,r.2.2.2.2] [] [] []
def rtake.K (N : Nat) : FCfg := {}
def rtake.F (N : Nat) (n k l m j i f c d a g h : Int) (e : Bool) (b : List Int) : Option rtake.R :=
 (br (decide (n > 0))
 (obind (Rc.ron.F N (u64.wrap (h * u64.wrap (k - n))) (u64.wrap (j - u64.wrap (h * u64.wrap (l - k)))) i f c d a g h e b) fun r0 =>
 (chkL b b
 (chkI c c
 (chkI d d
 (chkI a a
 (chkB e e
 (chkI h h
 (some ((r0.1,r0.2.1,r0.2.2.1,r0.2.2.2.1,r0.2.2.2.2))))))))))
 (obind (Rc.ron.F N (u64.wrap (m - u64.wrap (h * u64.wrap (l - k)))) (u64.wrap (j - u64.wrap (h * u64.wrap (l - k)))) i f c d a g h e b) fun r1 =>
 (chkL b b
 (chkI c c
 (chkI d d
 (chkI a a
 (chkB e e
 (chkI h h
 (some ((r1.1,r1.2.1,r1.2.2.1,r1.2.2.2.1,r1.2.2.2.2)))))))))))
noncomputable def rtake.spec : Eng.Spec := rtake.sig.spec (fun N L => rtake.F N (L.i 0) (L.i 1) (L.i 2) (L.i 3) (L.i 4) (L.i 5) (L.i 6) (L.i 7) (L.i 8) (L.i 9) (L.i 10) (L.i 11) (L.b 0) (L.l 0)) rtake.enc
theorem rtake.ok : CallOK Tryz.prog 134 rtake.spec := ok2 rtake.C rtake.K Tryz.f134 rtake.dec (fun _ => ⟨ron.ok,trivial⟩) (fun _ => trivial)
def rlen.sig : Eng.Sig := { args := [.at (.int .i64 0)],ret := .at (.int .i64 0) }
def rlen.C (N : Nat) : Cfg := { P := Tryz.prog,N := N,RT := noRT,specs := [] }
abbrev rlen.R : Type := Int
def rlen.dec (L : Eng.Leaves) : rlen.R := (L.i 0)
def rlen.enc (r : rlen.R) : Eng.Leaves := mkL [r] [] [] []
abbrev rlen.loop2.R : Type := Int
def rlen.loop2.ann : Ann := { nx := 20,slots := [(0,.at (.int .i64 0)),(3,.at (.int .i64 1))],xslots := [(3,.at (.int .i64 0))],T := rlen.loop2.R,dec := fun L => (L.i 0),enc := fun r => mkL [r] [] [] [] }
def rlen.K (N : Nat) : FCfg := { anns := [(2,rlen.loop2.ann)] }
def rlen.loop2 (N : Nat) : Nat -> Int -> Int -> Option rlen.loop2.R
 | 0,_,_ => none
 | nn + 1,a,n =>
 (br (decide (a > 0))
 (rlen.loop2 N nn (i64.wrap (a.tdiv 2)) (i64.wrap (n + 1)))
 (some n))
def rlen.loop2R (N nn : Nat) (a n : Int) : Option rlen.loop2.R := loopF rlen.loop2.ann (mkL [] [] [] []) (evCode ((rlen.C N).inLoop rlen.loop2.ann) (rlen.K N) (inlTab (rlen.C N) 0) (bodyAt 2 Tryz.f88)) nn (mkL [a,n] [] [] [])
theorem rlen.loop2_eq (N : Nat) : ∀ nn,rlen.loop2R N nn = rlen.loop2 N nn := lq fun _ h => by funext; rw [rlen.loop2,<- h]; kernel_rfl
def rlen.F (N : Nat) (a : Int) : Option rlen.R :=
 (obind (rlen.loop2 N N a (0)) fun r0 =>
 (some r0))
noncomputable def rlen.spec : Eng.Spec := rlen.sig.spec (fun N L => rlen.F N (L.i 0)) rlen.enc
theorem rlen.ok : CallOK Tryz.prog 88 rlen.spec := ok2 rlen.C rlen.K Tryz.f88 rlen.dec (fun _ => trivial) (fun _ => ⟨fun _ _ => ⟨rfl,rfl⟩,trivial⟩) (by intro N L; show _ = rlen.F N (L.i 0); rw [rlen.F,<- funext (rlen.loop2_eq N)]; kernel_rfl)
def rbits.sig : Eng.Sig := { args := [.at (.ptr 0 0),.at (.int .i64 0)],n := 1,pre := [(0,.cells 11 [.roi .u8 0,.int .u64 1,.int .u64 2,.int .i64 3,.int .i64 4,.int .i64 5,.int .u64 6,.int .i64 7,.int .i64 8,.bool 0,.int .u64 9])],post := [(0,.cells 11 [.froi .u8 0,.fint .u64 1,.fint .u64 2,.fint .i64 3,.fint .i64 4,.int .i64 1,.int .u64 2,.int .i64 3,.int .i64 4,.fbool 0,.fint .u64 9])],ret := .at (.int .i64 0) }
def rbits.C (N : Nat) : Cfg := { P := Tryz.prog,N := N,RT := noRT,specs := [],hi := 1 }
abbrev rbits.R : Type := Int × Int × Int × Int × Int
def rbits.dec (L : Eng.Leaves) : rbits.R := (L.i 0,L.i 1,L.i 2,L.i 3,L.i 4)
def rbits.enc (r : rbits.R) : Eng.Leaves := mkL [r.1,r.2.1,r.2.2.1,r.2.2.2.1,r.2.2.2.2] [] [] []
abbrev rbits.loop3.R : Type := Int × Int × Int
def rbits.loop3.ann : Ann := { nx := 20,slots := [(0,.at (.ptr 0 0)),(1,.at (.fint .i64 0))],blks := [(0,.cells 11 [.froi .u8 0,.fint .u64 1,.fint .u64 2,.fint .i64 3,.fint .i64 4,.int .i64 0,.int .u64 1,.int .i64 2,.fint .i64 5,.fbool 0,.fint .u64 6])],xslots := [(0,.at (.ptr 0 0))],xblks := [(0,.cells 11 [.froi .u8 0,.fint .u64 1,.fint .u64 2,.fint .i64 3,.fint .i64 4,.int .i64 0,.int .u64 1,.int .i64 2,.fint .i64 5,.fbool 0,.fint .u64 6])],T := rbits.loop3.R,dec := fun L => (L.i 0,L.i 1,L.i 2),enc := fun r => mkL [r.1,r.2.1,r.2.2] [] [] [] }
def rbits.K (N : Nat) : FCfg := { anns := [(3,rbits.loop3.ann)] }
def rbits.loop3 (N : Nat) : Nat -> Int -> Int -> Int -> Int -> Int -> Int -> Int -> Bool -> List Int -> Int -> Int -> Int -> Option rbits.loop3.R
 | 0,_,_,_,_,_,_,_,_,_,_,_,_ => none
 | nn + 1,n,g,h,e,c,d,k,i,b,f,j,a =>
 (br (decide (a < n))
 (br (decide (f < ↑b.length))
 (chk ((0 : Int) <= i64.wrap (↑b.length - i64.wrap (f + (1 : Int))) /\ i64.wrap (↑b.length - i64.wrap (f + (1 : Int))) < ↑b.length)
 (chk (0 <= u64.wrap a)
 (chkI n n
 (chkL b b
 (chkI g g
 (chkI h h
 (chkI e e
 (chkI c c
 (chkI d d
 (chkB i i
 (chkI k k
 (rbits.loop3 N nn n g h e c d k i b (i64.wrap (f + (1 : Int))) (u64.wrap ↑(BitVec.ofInt u64.bits j ||| BitVec.ofInt u64.bits (u64.wrap (u64.wrap (b.getD (i64.wrap (↑b.length - i64.wrap (f + (1 : Int)))).toNat (0 : Int)) * (2 : Int) ^ min (u64.wrap a).toNat u64.bits))).toNat) (i64.wrap (a + (8 : Int)))))))))))))))
 (chk (0 <= u64.wrap a)
 (chkI n n
 (chkL b b
 (chkI g g
 (chkI h h
 (chkI e e
 (chkI c c
 (chkI d d
 (chkB i i
 (chkI k k
 (rbits.loop3 N nn n g h e c d k i b f (u64.wrap ↑(BitVec.ofInt u64.bits j ||| BitVec.ofInt u64.bits (u64.wrap ((0 : Int) * (2 : Int) ^ min (u64.wrap a).toNat u64.bits))).toNat) (i64.wrap (a + (8 : Int)))))))))))))))
 (chkL b b
 (chkI g g
 (chkI h h
 (chkI e e
 (chkI c c
 (chkI d d
 (chkB i i
 (chkI k k
 (some ((f,j,a))))))))))))
def rbits.loop3R (N nn : Nat) (n h i e c d k : Int) (j : Bool) (b : List Int) (f g a : Int) : Option rbits.loop3.R := loopF rbits.loop3.ann (mkL [n,h,i,e,c,d,k] [j] [b] []) (evCode ((rbits.C N).inLoop rbits.loop3.ann) (rbits.K N) (inlTab (rbits.C N) 0) (bodyAt 3 Tryz.f81)) nn (mkL [f,g,a] [] [] [])
theorem rbits.loop3_eq (N : Nat) : ∀ nn,rbits.loop3R N nn = rbits.loop3 N nn := lq fun _ h => by funext; rw [rbits.loop3,<- h]; kernel_rfl
def rbits.F (N : Nat) (n f g c a i j d e k : Int) (h : Bool) (b : List Int) : Option rbits.R :=
 (br (decide (n < 0))
 (chkL b b
 (chkI f f
 (chkI g g
 (chkI c c
 (chkI a a
 (chkB h h
 (chkI k k
 (some (((0 : Int),i,j,d,e))))))))))
 (br (decide (n > 24))
 (chkL b b
 (chkI f f
 (chkI g g
 (chkI c c
 (chkI a a
 (chkB h h
 (chkI k k
 (some (((0 : Int),i,j,d,e))))))))))
 (obind (rbits.loop3 N N n f g c a e k h b i j d) fun r0 =>
 (chk (0 <= u64.wrap n)
 (chk (0 <= u64.wrap n)
 (chkL b b
 (chkI f f
 (chkI g g
 (chkI c c
 (chkI a a
 (chkB h h
 (chkI k k
 (some ((i64.wrap (u64.wrap ↑(BitVec.ofInt u64.bits r0.2.1 &&& BitVec.ofInt u64.bits (u64.wrap (u64.wrap ((1 : Int) * (2 : Int) ^ min (u64.wrap n).toNat u64.bits) - (1 : Int)))).toNat),r0.1,r0.2.1.fdiv ((2 : Int) ^ min (u64.wrap n).toNat u64.bits),i64.wrap (r0.2.2 - n),i64.wrap (e + n))))))))))))))))
noncomputable def rbits.spec : Eng.Spec := rbits.sig.spec (fun N L => rbits.F N (L.i 0) (L.i 1) (L.i 2) (L.i 3) (L.i 4) (L.i 5) (L.i 6) (L.i 7) (L.i 8) (L.i 9) (L.b 0) (L.l 0)) rbits.enc
theorem rbits.ok : CallOK Tryz.prog 81 rbits.spec := ok2 rbits.C rbits.K Tryz.f81 rbits.dec (fun _ => trivial) (fun _ => ⟨fun _ _ => ⟨rfl,rfl⟩,trivial⟩) (by intro N L; show _ = rbits.F N (L.i 0) (L.i 1) (L.i 2) (L.i 3) (L.i 4) (L.i 5) (L.i 6) (L.i 7) (L.i 8) (L.i 9) (L.b 0) (L.l 0); rw [rbits.F,<- funext (rbits.loop3_eq N)]; kernel_rfl)
def ruint.sig : Eng.Sig := { args := [.at (.ptr 0 0),.at (.int .i64 0)],n := 1,pre := [(0,.cells 11 [.roi .u8 0,.int .u64 1,.int .u64 2,.int .i64 3,.int .i64 4,.int .i64 5,.int .u64 6,.int .i64 7,.int .i64 8,.bool 0,.int .u64 9])],post := [(0,.cells 11 [.froi .u8 0,.int .u64 1,.int .u64 2,.int .i64 3,.int .i64 4,.int .i64 5,.int .u64 6,.int .i64 7,.int .i64 8,.bool 0,.int .u64 9])],ret := .at (.int .i64 0) }
def ruint.C (N : Nat) : Cfg := { P := Tryz.prog,N := N,RT := noRT,specs := [(133,rchoose.spec),(134,rtake.spec),(88,rlen.spec),(81,rbits.spec)],hi := 1 }
abbrev ruint.R : Type := Int × Int × Int × Int × Int × Int × Int × Int × Int × Int × Bool
def ruint.dec (L : Eng.Leaves) : ruint.R := (L.i 0,L.i 1,L.i 2,L.i 3,L.i 4,L.i 5,L.i 6,L.i 7,L.i 8,L.i 9,L.b 0)
def ruint.enc (r : ruint.R) : Eng.Leaves := mkL [r.1,r.2.1,r.2.2.1,r.2.2.2.1,r.2.2.2.2.1,r.2.2.2.2.2.1,r.2.2.2.2.2.2.1,r.2.2.2.2.2.2.2.1,r.2.2.2.2.2.2.2.2.1,r.2.2.2.2.2.2.2.2.2.1] [r.2.2.2.2.2.2.2.2.2.2] [] []
def ruint.K (N : Nat) : FCfg := {}
def ruint.F (N : Nat) (k i j g c e f a d l : Int) (h : Bool) (b : List Int) : Option ruint.R :=
 (br (decide (k < 1))
 (chkL b b
 (some (((0 : Int),i,j,g,c,e,f,a,d,l,h))))
 (br (decide (k > 4294967295))
 (chkL b b
 (some (((0 : Int),i,j,g,c,e,f,a,d,l,h))))
 (br (k == 1)
 (chkL b b
 (some (((0 : Int),i,j,g,c,e,f,a,d,l,h))))
 (br (decide (k <= 256))
 (obind (Rc.rchoose.F N (u64.wrap k) i j g c e f a d l h b) fun r0 =>
 (obind (Rc.rtake.F N r0.1 (u64.wrap (r0.1 + 1)) (u64.wrap k) i j g c e f a d r0.2 h b) fun r1 =>
 (chkL b b
 (some ((i64.wrap r0.1,r1.1,r1.2.1,r1.2.2.1,r1.2.2.2.1,e,f,a,r1.2.2.2.2,r0.2,h))))))
 (obind (Rc.rlen.F N (i64.wrap (k - 1))) fun r2 =>
 (chk (0 <= u64.wrap (i64.wrap (r2 - 8)))
 (obind (Rc.rchoose.F N (u64.wrap (i64.wrap ((i64.wrap (k - (1 : Int))).fdiv ((2 : Int) ^ min (u64.wrap (i64.wrap (r2 - (8 : Int)))).toNat i64.bits) + 1))) i j g c e f a d l h b) fun r3 =>
 (obind (Rc.rtake.F N r3.1 (u64.wrap (r3.1 + 1)) (u64.wrap (i64.wrap ((i64.wrap (k - (1 : Int))).fdiv ((2 : Int) ^ min (u64.wrap (i64.wrap (r2 - (8 : Int)))).toNat i64.bits) + 1))) i j g c e f a d r3.2 h b) fun r4 =>
 (chk (0 <= u64.wrap (i64.wrap (r2 - 8)))
 (obind (Rc.rbits.F N (i64.wrap (r2 - 8)) r4.1 r4.2.1 r4.2.2.1 r4.2.2.2.1 e f a r4.2.2.2.2 r3.2 h b) fun r5 =>
 (br (decide (i64.wrap ↑(BitVec.ofInt i64.bits (i64.wrap (i64.wrap r3.1 * (2 : Int) ^ min (u64.wrap (i64.wrap (r2 - (8 : Int)))).toNat i64.bits)) ||| BitVec.ofInt i64.bits r5.1).toNat >= k))
 (chkL b b
 (some ((i64.wrap (k - 1),r4.1,r4.2.1,r4.2.2.1,r4.2.2.2.1,r5.2.1,r5.2.2.1,r5.2.2.2.1,r5.2.2.2.2,r3.2,true))))
 (chkL b b
 (some ((i64.wrap ↑(BitVec.ofInt i64.bits (i64.wrap (i64.wrap r3.1 * (2 : Int) ^ min (u64.wrap (i64.wrap (r2 - (8 : Int)))).toNat i64.bits)) ||| BitVec.ofInt i64.bits r5.1).toNat,r4.1,r4.2.1,r4.2.2.1,r4.2.2.2.1,r5.2.1,r5.2.2.1,r5.2.2.2.1,r5.2.2.2.2,r3.2,h)))))))))))))))
noncomputable def ruint.spec : Eng.Spec := ruint.sig.spec (fun N L => ruint.F N (L.i 0) (L.i 1) (L.i 2) (L.i 3) (L.i 4) (L.i 5) (L.i 6) (L.i 7) (L.i 8) (L.i 9) (L.b 0) (L.l 0)) ruint.enc
theorem ruint.ok : CallOK Tryz.prog 85 ruint.spec := ok2 ruint.C ruint.K Tryz.f85 ruint.dec (fun _ => ⟨rchoose.ok,rtake.ok,rlen.ok,rbits.ok,trivial⟩) (fun _ => trivial)
end
end Go.Proofs.Rc
