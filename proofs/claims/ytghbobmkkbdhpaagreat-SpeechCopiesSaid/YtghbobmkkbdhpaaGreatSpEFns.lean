/-
 Functions of the program: what each comes to, and its contract (written by a program).
 Conditions: none: each contract is proved for every input of its shape.
-/
import Derived.Test.YtghbobmkkbdhpaaGreatEngRegToEngRow3
import Derived.Laws.Externs
import Derived.Test.YtghbobmkkbdhpaaGreatProg
import Derived.Test.YtghbobmkkbdhpaaGreatSpDFns
set_option linter.unusedVariables false
set_option linter.unusedSimpArgs false
namespace Go.Proofs.Rc
noncomputable section
open Go.Eng Go.IntKind
set_option maxRecDepth 100000
def played14.sig : Eng.Sig := { args := [.at (.ptr 0 0), .at (.rro ⟨[.i64], some .u8, true⟩ 0)], n := 3, pre := [(0, .cells 4 [.int .i64 0, .ptr 1 0, .full 2 false, .int .i64 1]), (1, .ints false .i64 0), (2, .ints true .i64 1)], post := [(0, .cells 4 [.fint .i64 0, .ptr 1 0, .full 4 false, .int .i64 0]), (1, .ints false .i64 0), (2, .dead), (3, .ints true .i64 1), (4, .ints true .i64 2)], m := 2, ret := .at (.full 3 false) }
def played14.C (N : Nat) : Cfg := { P := Tryz.prog, N := N, RT := noRT, specs := [(13, new.spec), (30, plgain.spec), (12, spreadf.spec), (16, plplay.spec)], hi := 3 }
abbrev played14.R : Type := Int × List Int × List Int × List Int
def played14.dec (L : Eng.Leaves) : played14.R := (L.i 0, L.l 0, L.l 1, L.l 2)
def played14.enc (r : played14.R) : Eng.Leaves := mkL [r.1] [] [r.2.1, r.2.2.1, r.2.2.2] []
abbrev played14.loop3.R : Type := Int × List Int × List Int × List Int
def played14.loop3.ann : Ann := { nx := 22, slots := [(0, .at (.ptr 0 0)), (1, .at (.frro ⟨[.i64], some .u8, true⟩ 0)), (5, .at (.full 20 false)), (6, .at (.int .i64 0))], blks := [(0, .cells 4 [.fint .i64 0, .ptr 1 0, .full 21 false, .int .i64 1]), (1, .ints false .i64 0), (20, .ints true .i64 1), (21, .ints true .i64 2)], mov := [20, 21], xslots := [(0, .at (.ptr 0 0)), (5, .at (.full 20 false))], xblks := [(0, .cells 4 [.fint .i64 0, .ptr 1 0, .full 21 false, .int .i64 0]), (1, .ints false .i64 0), (20, .ints true .i64 1), (21, .ints true .i64 2)], T := played14.loop3.R, dec := fun L => (L.i 0, L.l 0, L.l 1, L.l 2), enc := fun r => mkL [r.1] [] [r.2.1, r.2.2.1, r.2.2.2] [] }
abbrev played14.loop6.R : Type := Int × List Int × List Int × List Int
def played14.loop6.ann : Ann := { nx := 23, slots := [(0, .at (.ptr 0 0)), (1, .at (.frro ⟨[.i64], some .u8, true⟩ 0)), (5, .at (.full 20 false)), (6, .at (.fint .i64 0)), (7, .at (.int .i64 0))], blks := [(0, .cells 4 [.fint .i64 1, .ptr 1 0, .full 22 false, .int .i64 1]), (1, .ints false .i64 0), (20, .ints true .i64 1), (22, .ints true .i64 2)], mov := [20, 22], exId := 2, xslots := [(0, .at (.ptr 0 0)), (5, .at (.full 20 false))], xblks := [(0, .cells 4 [.fint .i64 1, .ptr 1 0, .full 22 false, .int .i64 0]), (1, .ints false .i64 0), (20, .ints true .i64 1), (22, .ints true .i64 2)], T := played14.loop6.R, dec := fun L => (L.i 0, L.l 0, L.l 1, L.l 2), enc := fun r => mkL [r.1] [] [r.2.1, r.2.2.1, r.2.2.2] [] }
def played14.K (N : Nat) : FCfg := { anns := [(3, played14.loop3.ann), (6, played14.loop6.ann)], flt := [8] }
def played14.loop6 (N : Nat) : Nat -> Int -> Int -> List (List Int) -> Int -> Int -> List Int -> List Int -> List Int -> Option played14.loop6.R
 | 0, _, _, _, _, _, _, _, _ => none
 | nn + 1, d, a, l, g, e, b, f, c =>
 (br (decide (g <= 16000))
 (chk ((0 : Int) <= d /\ d < ↑l.length)
 (obind (Rc.new.F N ((l.getD d.toNat ([] : List Int)).tail)) fun r0 =>
 (chk ((0 : Int) <= d /\ d < ↑l.length)
 (obind (Rc.plgain.F N a e b c) fun r1 =>
 (obind (Rc.spreadf.F N g ((l.getD d.toNat ([] : List Int)).headD 0) r1 r0.1 r0.2.1 r0.2.2.1 r0.2.2.2.1 r0.2.2.2.2.1 r0.2.2.2.2.2.1 r0.2.2.2.2.2.2.1 r0.2.2.2.2.2.2.2.1 r0.2.2.2.2.2.2.2.2.1 r0.2.2.2.2.2.2.2.2.2) fun r2 =>
 (br (r2.2.2.2.1 != 0)
 (chkR l l
 (chkI d d
 (chkI a a
 (played14.loop6 N nn d a l (i64.wrap (g + 8000)) e b f c))))
 (chk ((0 : Int) <= d /\ d < ↑l.length)
 (br (decide (↑(l.getD d.toNat ([] : List Int)).tail.length > (1500 : Int)))
 (chkR l l
 (chkI d d
 (chkI a a
 (played14.loop6 N nn d a l (i64.wrap (g + 8000)) e b f c))))
 (chk ((0 : Int) <= d /\ d < ↑l.length)
 (obind (Rc.plplay.F N ((l.getD d.toNat ([] : List Int)).headD 0) r2.1 r2.2.1 r2.2.2.1 a e r2.2.2.2.2.2.2.2.2.2.2.2.2.1 r2.2.2.2.2.2.2.2.2.2.2.2.2.2.2.1 r2.2.2.2.2.2.2.2.2.2.2.2.2.2.2.2.1 r2.2.2.2.2.2.2.2.2.2.2.2.2.2.2.2.2.1 b c r2.2.2.2.2.2.2.2.2.2.2.2.2.2.2.2.2.2) fun r3 =>
 (br (r3.1 == 0)
 (chk (f.length + r3.2.2.2.1.length <= (17592186043904 : Nat))
 (chkI a a
 (some ((r3.2.1, r3.2.2.1, f ++ r3.2.2.2.1, r3.2.2.2.2)))))
 (chkR l l
 (chkI d d
 (chkI a a
 (played14.loop6 N nn d a l (i64.wrap (g + 8000)) r3.2.1 r3.2.2.1 f r3.2.2.2.2)))))))))))))))
 (chkI a a
 (some ((e, b, f, c)))))
def played14.loop6R (N nn : Nat) (f c : Int) (l : List (List Int)) (g d : Int) (a e b : List Int) : Option played14.loop6.R := loopF played14.loop6.ann (mkL [f, c] [] [] [l]) (evCode ((played14.C N).inLoop played14.loop6.ann) (played14.K N) (inlTab (played14.C N) 0) (bodyAt 6 Tryz.f32)) nn (mkL [g, d] [] [a, e, b] [])
theorem played14.loop6_eq (N : Nat) : ∀ nn, played14.loop6R N nn = played14.loop6 N nn := lq fun _ h => by funext; rw [played14.loop6, <- h]; kernel_rfl
def played14.loop3 (N : Nat) : Nat -> Int -> List (List Int) -> Int -> Int -> List Int -> List Int -> List Int -> Option played14.loop3.R
 | 0, _, _, _, _, _, _, _ => none
 | nn + 1, a, l, e, d, b, f, c =>
 (br (decide (e < ↑l.length))
 (obind (played14.loop6 N N e a l (8000) d b f c) fun r0 =>
 (chkR l l
 (chkI a a
 (played14.loop3 N nn a l (i64.wrap (e + 1)) r0.1 r0.2.1 r0.2.2.1 r0.2.2.2))))
 (chkI a a
 (some ((d, b, f, c)))))
def played14.loop3R (N nn : Nat) (c : Int) (l : List (List Int)) (e d : Int) (a f b : List Int) : Option played14.loop3.R := loopF played14.loop3.ann (mkL [c] [] [] [l]) (evCode ((played14.C N).inLoop played14.loop3.ann) (played14.K N) (inlTab (played14.C N) 0) (bodyAt 3 Tryz.f32)) nn (mkL [e, d] [] [a, f, b] [])
theorem played14.loop3_eq (N : Nat) : ∀ nn, played14.loop3R N nn = played14.loop3 N nn
 | 0 => by funext; kernel_rfl
 | nn + 1 => by
  funext; rw [played14.loop3, <- played14.loop3_eq N nn, <- funext (played14.loop6_eq N)]; kernel_rfl
def played14.F (N : Nat) (a d : Int) (b c : List Int) (l : List (List Int)) : Option played14.R :=
 (obind (played14.loop3 N N a l (0) d b (([] : List Int)) c) fun r0 =>
 (chkI a a
 (some ((r0.1, r0.2.1, r0.2.2.1, r0.2.2.2)))))
noncomputable def played14.spec : Eng.Spec := played14.sig.spec (fun N L => played14.F N (L.i 0) (L.i 1) (L.l 0) (L.l 1) (L.r 0)) played14.enc
theorem played14.ok : CallOK Tryz.prog 32 played14.spec := ok2 played14.C played14.K Tryz.f32 played14.dec (fun _ => ⟨new.ok, plgain.ok, spreadf.ok, plplay.ok, trivial⟩) (fun _ => ⟨fun _ _ => ⟨rfl, rfl⟩, fun _ _ => ⟨rfl, rfl⟩, trivial⟩) (by intro N L; show _ = played14.F N (L.i 0) (L.i 1) (L.l 0) (L.l 1) (L.r 0); rw [played14.F, <- funext (played14.loop3_eq N)]; kernel_rfl)
end
end Go.Proofs.Rc
