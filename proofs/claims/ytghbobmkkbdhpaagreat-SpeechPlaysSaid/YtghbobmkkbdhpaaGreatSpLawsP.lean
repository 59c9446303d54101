/-
 Functions of the program: what each comes to, and its contract (written by a program).
 Conditions: none: each contract is proved for every input of its shape.
-/
import Derived.Test.YtghbobmkkbdhpaaGreatEngLoopToEngRow3
import Derived.Laws.Externs
import Derived.Test.YtghbobmkkbdhpaaGreatProg
import Derived.Test.YtghbobmkkbdhpaaGreatSpEFns
set_option linter.unusedVariables false
set_option linter.unusedSimpArgs false
namespace Go.Proofs.Rc
open Go.Eng
set_option maxRecDepth 100000
noncomputable def speechPlays.C (N : Nat) (rt : Int) (ls : List (List Int)) : Cfg := { P := Tryz.prog,N := N,RT := noRT,specs := [(10,awake14.spec),(29,rtalker.spec),(13,new.spec),(30,plgain.spec),(12,spreadf.spec),(16,plplay.spec),(22,own14.spec),(31,rplay.spec),(19,same14.spec),(34,torder.spec),(40,synew.spec),(36,plreset.spec)],inl := [(11,FCfg.none)],hi := 0,mv := [] }
abbrev speechPlays.loop12.R : Type := Int × Int × Int × Bool × List Int × List Int × List Int × List Int × List Int
noncomputable def speechPlays.loop12.ann : Ann := { nx := 24,slots := [(0,.at (.fint .i64 0)),(1,.at (.frro ⟨[.i64],some .u8,true⟩ 0)),(4,.at (.bool 0)),(5,.at (.ptr 1 0)),(7,.at (.ptr 6 0)),(8,.at (.int .i64 0))],blks := [(1,.cells 4 [.fint .i64 1,.ptr 0 0,.full 20 false,.int .i64 1]),(6,.cells 5 [.int .i64 2,.full 21 false,.full 22 false,.full 23 false,.int .i64 3]),(0,.ints false .i64 0),(20,.ints true .i64 1),(21,.ints true .i64 2),(22,.ints true .i64 3),(23,.ints true .i64 4)],mov := [20,21,22,23],exId := 0,xslots := [(5,.at (.ptr 1 0)),(7,.at (.ptr 6 0)),(4,.at (.bool 0))],xblks := [(1,.cells 4 [.fint .i64 1,.ptr 0 0,.full 20 false,.int .i64 0]),(6,.cells 5 [.int .i64 1,.full 21 false,.full 22 false,.full 23 false,.int .i64 2]),(0,.ints false .i64 0),(20,.ints true .i64 1),(21,.ints true .i64 2),(22,.ints true .i64 3),(23,.ints true .i64 4)],T := speechPlays.loop12.R,dec := fun L => (L.i 0,L.i 1,L.i 2,L.b 0,L.l 0,L.l 1,L.l 2,L.l 3,L.l 4),enc := fun r => mkL [r.1,r.2.1,r.2.2.1] [r.2.2.2.1] [r.2.2.2.2.1,r.2.2.2.2.2.1,r.2.2.2.2.2.2.1,r.2.2.2.2.2.2.2.1,r.2.2.2.2.2.2.2.2] [],ret := true }
noncomputable def speechPlays.K (N : Nat) : FCfg := { anns := [(12,speechPlays.loop12.ann)],unr := [],lits := [],lets := [],flt := [9] }
noncomputable def speechPlays.loop12 (N : Nat) (rt : Int) (ls : List (List Int)) : Nat -> Int -> Int -> List (List Int) -> Int -> Int -> Int -> Int -> Bool -> List Int -> List Int -> List Int -> List Int -> List Int -> Option (speechPlays.loop12.R ⊕ Bool)
 | 0,_,_,_,_,_,_,_,_,_,_,_,_,_ => none
 | nn + 1,s0,rate,s1,s8,gain,Rate,Gain,s4,l0,ahead,Rq,O,Ahead =>
 (br (decide (s8 < ↑s1.length))
  (chk ((0 : Int) <= s8 /\ s8 < ↑s1.length)
  (obind (Rc.new.F (N) ((s1.getD s8.toNat ([] : List Int)).tail)) fun r0 =>
   (chk ((0 : Int) <= s8 /\ s8 < ↑s1.length)
   (obind (Rc.plgain.F (N) (rate) (gain) (l0) (ahead)) fun r1 =>
    (obind (Rc.spreadf.F (N) (s0) ((s1.getD s8.toNat ([] : List Int)).headD (0 : Int)) (r1) (r0.fst) (r0.snd.fst) (r0.snd.snd.fst) (r0.snd.snd.snd.fst) (r0.snd.snd.snd.snd.fst) (r0.snd.snd.snd.snd.snd.fst) (r0.snd.snd.snd.snd.snd.snd.fst) (r0.snd.snd.snd.snd.snd.snd.snd.fst) (r0.snd.snd.snd.snd.snd.snd.snd.snd.fst) (r0.snd.snd.snd.snd.snd.snd.snd.snd.snd)) fun r2 =>
    (br (r2.snd.snd.snd.fst != (0 : Int))
     (br (r2.snd.snd.snd.fst == (1 : Int))
     (omap
      (some (true)) .inr)
     (chk ((0 : Int) <= s8 /\ s8 < ↑s1.length)
      (omap
      (some (decide (↑(s1.getD s8.toNat ([] : List Int)).tail.length > (1500 : Int)))) .inr)))
     (chk ((0 : Int) <= s8 /\ s8 < ↑s1.length)
     (br (decide (↑(s1.getD s8.toNat ([] : List Int)).tail.length > (1500 : Int)))
      (br (r2.snd.snd.snd.fst == (1 : Int))
      (omap
       (some (true)) .inr)
      (chk ((0 : Int) <= s8 /\ s8 < ↑s1.length)
       (omap
       (some (decide (↑(s1.getD s8.toNat ([] : List Int)).tail.length > (1500 : Int)))) .inr)))
      (chk ((0 : Int) <= s8 /\ s8 < ↑s1.length)
      (obind (Rc.plplay.F (N) ((s1.getD s8.toNat ([] : List Int)).headD (0 : Int)) (r2.fst) (r2.snd.fst) (r2.snd.snd.fst) (rate) (gain) (r2.snd.snd.snd.snd.snd.snd.snd.snd.snd.snd.snd.snd.fst) (r2.snd.snd.snd.snd.snd.snd.snd.snd.snd.snd.snd.snd.snd.snd.fst) (r2.snd.snd.snd.snd.snd.snd.snd.snd.snd.snd.snd.snd.snd.snd.snd.fst) (r2.snd.snd.snd.snd.snd.snd.snd.snd.snd.snd.snd.snd.snd.snd.snd.snd.fst) (l0) (ahead) (r2.snd.snd.snd.snd.snd.snd.snd.snd.snd.snd.snd.snd.snd.snd.snd.snd.snd)) fun r3 =>
       (br (r3.fst != (0 : Int))
       (omap
        (some (false)) .inr)
       (chk ((0 : Int) <= s8 /\ s8 < ↑s1.length)
        (obind (Rc.own14.F (N) (r2.fst) (r2.snd.fst) (r2.snd.snd.fst) (r2.snd.snd.snd.snd.snd.snd.snd.snd.snd.snd.snd.snd.fst) (r2.snd.snd.snd.snd.snd.snd.snd.snd.snd.snd.snd.snd.snd.snd.fst) (r2.snd.snd.snd.snd.snd.snd.snd.snd.snd.snd.snd.snd.snd.snd.snd.fst) (r2.snd.snd.snd.snd.snd.snd.snd.snd.snd.snd.snd.snd.snd.snd.snd.snd.fst) (r2.snd.snd.snd.snd.snd.snd.snd.snd.snd.snd.snd.snd.snd.snd.snd.snd.snd)) fun r4 =>
        (obind (Rc.rplay.F (N) ((s1.getD s8.toNat ([] : List Int)).headD (0 : Int)) (r4.fst) (r4.snd.fst) (r4.snd.snd.fst) (Rate) (Gain) (r4.snd.snd.snd.fst) (r4.snd.snd.snd.snd.fst) (r4.snd.snd.snd.snd.snd.fst) (r4.snd.snd.snd.snd.snd.snd.fst) (r4.snd.snd.snd.snd.snd.snd.snd.fst) (r4.snd.snd.snd.snd.snd.snd.snd.snd) (Rq) (O) (Ahead)) fun r5 =>
         (obind (Rc.same14.F (N) (r3.snd.snd.snd.fst) (r5.snd.snd.fst)) fun r6 =>
         (br (!r6)
          (omap
          (some (false)) .inr)
          (obind (Rc.plgain.F (N) (rate) (r3.snd.fst) (r3.snd.snd.fst) (r3.snd.snd.snd.snd)) fun r7 =>
          (chkI (r5.snd.fst) (r5.snd.fst)
          (br (r7 != r5.snd.fst)
           (omap
           (some (false)) .inr)
           (chkI (s0) (s0)
           (chkR (s1) (s1)
           (chkI (rate) (rate)
           (speechPlays.loop12 N rt ls (nn) (s0) (rate) (s1) (Go.IntKind.i64.wrap (s8 + (1 : Int))) (r3.snd.fst) (r5.fst) (r5.snd.fst) (s4) (r3.snd.snd.fst) (r3.snd.snd.snd.snd) (r5.snd.snd.snd.fst) (r5.snd.snd.snd.snd.fst) (r5.snd.snd.snd.snd.snd))))))))))))))))))))))))
  (chkI (rate) (rate)
  (some (Sum.inl (gain,Rate,Gain,s4,l0,ahead,Rq,O,Ahead)))))
noncomputable def speechPlays.loop12R (N : Nat) (rt : Int) (ls : List (List Int)) (nn : Nat) (s0 rate : Int) (s1 : List (List Int)) (s8 gain Rate Gain : Int) (s4 : Bool) (l0 ahead Rq O Ahead : List Int) : Option (speechPlays.loop12.R ⊕ Bool) := loopR speechPlays.loop12.ann (mkL [s0,rate] [] [] [s1]) (evCode ((speechPlays.C N rt ls).inLoop speechPlays.loop12.ann) (speechPlays.K N) (inlTab (speechPlays.C N rt ls) 1) (bodyAt 12 Tryz.f5)) (lawKr Tryz.prog Tryz.f5) nn (mkL [s8,gain,Rate,Gain] [s4] [l0,ahead,Rq,O,Ahead] [])
theorem speechPlays.loop12_eq (N : Nat) (rt : Int) (ls : List (List Int)) : ∀ nn,speechPlays.loop12R N rt ls nn = speechPlays.loop12 N rt ls nn
 | 0 => by funext; kernel_rfl
 | nn + 1 => by
  funext; rw [speechPlays.loop12,<- speechPlays.loop12_eq N rt ls nn]; kernel_rfl
noncomputable def speechPlays.F (N : Nat) (rt : Int) (ls : List (List Int)) : Option Bool :=
 (obind (Rc.awake14.F (N)) fun r0 =>
  (br (!r0)
  (some (false))
  (br (decide (↑ls.length > (6 : Int)))
   (some (true))
   (obind (Rc.torder.F (N) (rt)) fun r1 =>
   (br (r1 == (0 : Int))
    (br (rt != (8000 : Int))
    (br (rt != (16000 : Int))
     (some (true))
     (some (false)))
    (some (false)))
    (obind (Rc.synew.F (N)) fun r2 =>
    (obind (Rc.plreset.F (N) (rt) ((0 : Int)) (r2) (([] : List Int))) fun r3 =>
     (br (rt != (8000 : Int))
     (br (rt != (16000 : Int))
      (some (false))
      (obind (Rc.rtalker.F (N) (rt)) fun r4 =>
      (osum (speechPlays.loop12 N rt ls (N) (rt) (rt) (ls) ((0 : Int)) (r3.fst) (r4.fst) (r4.snd.fst) (false) (r3.snd.fst) (r3.snd.snd) (r4.snd.snd.fst) (r4.snd.snd.snd.fst) (r4.snd.snd.snd.snd)) fun r5 =>
       (some (true)))))
     (obind (Rc.rtalker.F (N) (rt)) fun r6 =>
      (osum (speechPlays.loop12 N rt ls (N) (rt) (rt) (ls) ((0 : Int)) (r3.fst) (r6.fst) (r6.snd.fst) (false) (r3.snd.fst) (r3.snd.snd) (r6.snd.snd.fst) (r6.snd.snd.snd.fst) (r6.snd.snd.snd.snd)) fun r7 =>
      (some (true))))))))))))
theorem speechPlays.F_eq (N : Nat) (rt : Int) (ls : List (List Int)) : evLaw (speechPlays.C N rt ls) (speechPlays.K N) 1 Tryz.f5 [.at (.int .i64 rt),.at (.rro ⟨[.i64],some .u8,true⟩ ls)] = speechPlays.F N rt ls := by
 rw [speechPlays.F,<- funext (speechPlays.loop12_eq N rt ls)]; kernel_rfl
theorem speechPlays.cok (N : Nat) (rt : Int) (ls : List (List Int)) : CfgOK (speechPlays.C N rt ls) := ⟨fun _ _ _ _ h => by simp [speechPlays.C,noRT] at h,wide,by
 simp only [speechPlays.C,List.mem_cons,List.not_mem_nil,or_false,forall_eq_or_imp,forall_eq,false_imp_iff,implies_true]
 exact ⟨⟨awake14.ok,by kernel_rfl⟩,⟨rtalker.ok,by kernel_rfl⟩,⟨new.ok,by kernel_rfl⟩,⟨plgain.ok,by kernel_rfl⟩,⟨spreadf.ok,by kernel_rfl⟩,⟨plplay.ok,by kernel_rfl⟩,⟨own14.ok,by kernel_rfl⟩,⟨rplay.ok,by kernel_rfl⟩,⟨same14.ok,by kernel_rfl⟩,⟨torder.ok,by kernel_rfl⟩,⟨synew.ok,by kernel_rfl⟩,⟨plreset.ok,by kernel_rfl⟩⟩,fun g hg => by simp [speechPlays.C] at hg,fun m hm => by simp [speechPlays.C] at hm,fun q hq => by simp [speechPlays.C] at hq⟩
theorem speechPlays.aok (N : Nat) : AnnsOK (speechPlays.K N) := by
 intro q hq
 simp only [speechPlays.K,List.mem_cons,List.not_mem_nil,or_false] at hq
 subst hq
 exact fun _ _ => ⟨rfl,rfl⟩
theorem speechPlays.walk {w : World} {N : Nat} (rt : Int) (ls : List (List Int)) {cargs : Array Value} (ha : All2 (RV noRT (lawE w)) [.at (.int .i64 rt),.at (.rro ⟨[.i64],some .u8,true⟩ ls)] cargs.toList) (h : speechPlays.F N rt ls = some true) :
  Calls Tryz.prog 5 cargs w fun e w' => e = .returned (.bool true) /\ Frm w (fun _ => False) w' :=
 law_sound (C:=speechPlays.C N rt ls) (K:=speechPlays.K N) (d:=1) (fn:=Tryz.f5) (speechPlays.cok N rt ls) (fun q hq => by
   simp only [speechPlays.C,List.mem_cons,List.not_mem_nil,or_false] at hq
   subst hq
   exact ⟨fun q hq => by simp [FCfg.none] at hq,by kernel_rfl⟩) (speechPlays.aok N) (by kernel_rfl) ha ((speechPlays.F_eq N rt ls).trans h)
end Go.Proofs.Rc
