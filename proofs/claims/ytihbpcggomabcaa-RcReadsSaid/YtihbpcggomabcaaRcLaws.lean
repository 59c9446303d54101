/-
  Functions of the program: what each comes to, and its contract (written by a program).
  Conditions: none: each contract is proved for every input of its shape.
-/
import Derived.Test.YtihbpcggomabcaaEngFn
import Derived.Test.YtihbpcggomabcaaProg
import Derived.Test.YtihbpcggomabcaaRcFns
namespace Go.Proofs.Rc
open Go.Eng
set_option maxRecDepth 100000
set_option linter.unusedVariables false
set_option linter.unusedSimpArgs false
structure Act3 where
  op : Int
  n : Int
  m : Int
  t : List Int
def Act3.nil : Act3 := ⟨0, 0, 0, []⟩
def actTabK (l : List Act3) : RoTab := fun tag => match tag with
  | 0 => some ⟨l.length, 4, fun i j => match j with
    | 0 => .int .i64 (l.getD i Act3.nil).op
    | 1 => .int .i64 (l.getD i Act3.nil).n
    | 2 => .int .i64 (l.getD i Act3.nil).m
    | _ => .roi .i64 (l.getD i Act3.nil).t⟩
  | _ => none
theorem actTabK_ok (l : List Act3) : RTok (actTabK l) := by
  intro tag T i j h
  cases tag with
  | zero =>
    simp only [actTabK, Option.some.injEq] at h
    subst h
    match j with
    | 0 => trivial
    | 1 => trivial
    | 2 => trivial
    | j + 3 => trivial
  | succ n => simp [actTabK] at h
noncomputable def awake.sig : Eng.Sig := { args := [], n := 0, pre := [], post := [], m := 0, ret := .at (.bool 0) }
noncomputable def awake.C (N : Nat) : Cfg := { P := Try.prog, N := N, RT := noRT, specs := [(31, new.spec), (34, tell.spec), (32, icdf.spec), (33, symbol.spec), (35, bits.spec)], inl := [], hi := 0, mv := [] }
abbrev awake.R : Type := Bool
def awake.dec (L : Eng.Leaves) : awake.R := (L.b 0)
def awake.enc (r : awake.R) : Eng.Leaves := mkL [] [r] [] []
noncomputable def awake.K (N : Nat) : FCfg := { anns := [], unr := [], lits := [], lets := [] }
noncomputable def awake.F (N : Nat)  : Option awake.R :=
  (obind (Rc.new.F (N) (([] : List Int))) fun r0 =>
   (obind (Rc.tell.F (N) (r0.fst) (r0.snd.fst) (r0.snd.snd.fst) (r0.snd.snd.snd.fst) (r0.snd.snd.snd.snd.fst) (r0.snd.snd.snd.snd.snd.fst) (r0.snd.snd.snd.snd.snd.snd.fst) (r0.snd.snd.snd.snd.snd.snd.snd.fst) (r0.snd.snd.snd.snd.snd.snd.snd.snd.fst) (r0.snd.snd.snd.snd.snd.snd.snd.snd.snd)) fun r1 =>
    (br (r1 == (1 : Int))
     (obind (Rc.new.F (N) ([(0 : Int)])) fun r2 =>
      (obind (Rc.icdf.F (N) ((0 : Int))) fun r3 =>
       (obind (Rc.symbol.F (N) (r2.fst) (r2.snd.fst) (r2.snd.snd.fst) (r2.snd.snd.snd.fst) (r2.snd.snd.snd.snd.fst) (r2.snd.snd.snd.snd.snd.fst) (r2.snd.snd.snd.snd.snd.snd.fst) (r2.snd.snd.snd.snd.snd.snd.snd.fst) (r2.snd.snd.snd.snd.snd.snd.snd.snd.fst) (r3) (r2.snd.snd.snd.snd.snd.snd.snd.snd.snd)) fun r4 =>
        (br (r4.fst == (0 : Int))
         (obind (Rc.new.F (N) ([(255 : Int)])) fun r5 =>
          (obind (Rc.icdf.F (N) ((0 : Int))) fun r6 =>
           (obind (Rc.symbol.F (N) (r5.fst) (r5.snd.fst) (r5.snd.snd.fst) (r5.snd.snd.snd.fst) (r5.snd.snd.snd.snd.fst) (r5.snd.snd.snd.snd.snd.fst) (r5.snd.snd.snd.snd.snd.snd.fst) (r5.snd.snd.snd.snd.snd.snd.snd.fst) (r5.snd.snd.snd.snd.snd.snd.snd.snd.fst) (r6) (r5.snd.snd.snd.snd.snd.snd.snd.snd.snd)) fun r7 =>
            (br (r7.fst == (2 : Int))
             (obind (Rc.new.F (N) ([(255 : Int)])) fun r8 =>
              (obind (Rc.bits.F (N) ((3 : Int)) (r8.fst) (r8.snd.fst) (r8.snd.snd.fst) (r8.snd.snd.snd.fst) (r8.snd.snd.snd.snd.fst) (r8.snd.snd.snd.snd.snd.fst) (r8.snd.snd.snd.snd.snd.snd.fst) (r8.snd.snd.snd.snd.snd.snd.snd.fst) (r8.snd.snd.snd.snd.snd.snd.snd.snd.fst) (r8.snd.snd.snd.snd.snd.snd.snd.snd.snd)) fun r9 =>
               (some (r9.fst == (7 : Int)))))
             (some (false))))))
         (some (false))))))
     (some (false)))))
theorem awake.F_eq (N : Nat) (L : Eng.Leaves) : evSig (awake.C N) (awake.K N) 0 Try.f30 awake.sig L awake.dec = awake.F N  := by
  kernel_rfl
noncomputable def awake.spec : Eng.Spec := awake.sig.spec (fun N L => awake.F N ) awake.enc
theorem awake.cok (N : Nat) : CfgOK (awake.C N) := ⟨fun _ _ _ _ h => by simp [awake.C, noRT] at h, wide, by
  simp only [awake.C, List.mem_cons, List.not_mem_nil, or_false, forall_eq_or_imp, forall_eq, false_imp_iff, implies_true]
  exact ⟨⟨new.ok, by kernel_rfl⟩, ⟨tell.ok, by kernel_rfl⟩, ⟨icdf.ok, by kernel_rfl⟩, ⟨symbol.ok, by kernel_rfl⟩, ⟨bits.ok, by kernel_rfl⟩⟩⟩
theorem awake.aok (N : Nat) : AnnsOK (awake.K N) := by
  intro q hq
  simp only [awake.K, List.mem_cons, List.not_mem_nil, or_false] at hq
theorem awake.ok : CallOK Try.prog 30 awake.spec :=
  callOK_of_sig (fn := Try.f30) (Cf := awake.C) (K := awake.K) (d := 0) (dec := awake.dec) (by kernel_rfl) (fun _ => rfl) awake.cok (fun _ q hq => by simp [awake.C] at hq) awake.aok
    (fun N L r h => (awake.F_eq N L).trans h) (by kernel_rfl) (fun _ => ⟨rfl, rfl⟩) (fun _ _ => ⟨rfl, rfl⟩)

noncomputable def rcKnown.C (N : Nat)  : Cfg := { P := Try.prog, N := N, RT := noRT, specs := [(30, awake.spec), (31, new.spec), (34, tell.spec), (33, symbol.spec), (36, flag.spec), (35, bits.spec), (38, uint.spec), (39, laplace.spec), (40, badp.spec)], inl := [], hi := 0, mv := [] }
noncomputable def rcKnown.K (N : Nat) : FCfg := { anns := [], unr := [], lits := [], lets := [] }
noncomputable def rcKnown.F (N : Nat)  : Option Bool :=
  (obind (Rc.awake.F (N)) fun r0 =>
   (br (!r0)
    (some (false))
    (obind (Rc.new.F (N) ([(1 : Int), (2 : Int), (3 : Int)])) fun r1 =>
     (obind (Rc.tell.F (N) (r1.fst) (r1.snd.fst) (r1.snd.snd.fst) (r1.snd.snd.snd.fst) (r1.snd.snd.snd.snd.fst) (r1.snd.snd.snd.snd.snd.fst) (r1.snd.snd.snd.snd.snd.snd.fst) (r1.snd.snd.snd.snd.snd.snd.snd.fst) (r1.snd.snd.snd.snd.snd.snd.snd.snd.fst) (r1.snd.snd.snd.snd.snd.snd.snd.snd.snd)) fun r2 =>
      (obind (Rc.symbol.F (N) (r1.fst) (r1.snd.fst) (r1.snd.snd.fst) (r1.snd.snd.snd.fst) (r1.snd.snd.snd.snd.fst) (r1.snd.snd.snd.snd.snd.fst) (r1.snd.snd.snd.snd.snd.snd.fst) (r1.snd.snd.snd.snd.snd.snd.snd.fst) (r1.snd.snd.snd.snd.snd.snd.snd.snd.fst) (([] : List Int)) (r1.snd.snd.snd.snd.snd.snd.snd.snd.snd)) fun r3 =>
       (br (r3.fst == (0 : Int))
        (obind (Rc.flag.F (N) ((0 : Int)) (r3.snd.fst) (r3.snd.snd.fst) (r3.snd.snd.snd.fst) (r3.snd.snd.snd.snd.fst) (r1.snd.snd.snd.snd.fst) (r1.snd.snd.snd.snd.snd.fst) (r1.snd.snd.snd.snd.snd.snd.fst) (r3.snd.snd.snd.snd.snd) (r1.snd.snd.snd.snd.snd.snd.snd.snd.fst) (r1.snd.snd.snd.snd.snd.snd.snd.snd.snd)) fun r4 =>
         (br (!r4.snd.snd.snd.snd.snd)
          (obind (Rc.bits.F (N) ((25 : Int)) (r4.fst) (r4.snd.fst) (r4.snd.snd.fst) (r4.snd.snd.snd.fst) (r1.snd.snd.snd.snd.fst) (r1.snd.snd.snd.snd.snd.fst) (r1.snd.snd.snd.snd.snd.snd.fst) (r4.snd.snd.snd.snd.fst) (r1.snd.snd.snd.snd.snd.snd.snd.snd.fst) (r1.snd.snd.snd.snd.snd.snd.snd.snd.snd)) fun r5 =>
           (br (r5.fst == (0 : Int))
            (obind (Rc.uint.F (N) ((0 : Int)) (r4.fst) (r4.snd.fst) (r4.snd.snd.fst) (r4.snd.snd.snd.fst) (r5.snd.fst) (r5.snd.snd.fst) (r5.snd.snd.snd.fst) (r5.snd.snd.snd.snd) (r1.snd.snd.snd.snd.snd.snd.snd.snd.fst) (r1.snd.snd.snd.snd.snd.snd.snd.snd.snd)) fun r6 =>
             (br (r6.fst == (0 : Int))
              (obind (Rc.uint.F (N) ((1 : Int)) (r6.snd.fst) (r6.snd.snd.fst) (r6.snd.snd.snd.fst) (r6.snd.snd.snd.snd.fst) (r6.snd.snd.snd.snd.snd.fst) (r6.snd.snd.snd.snd.snd.snd.fst) (r6.snd.snd.snd.snd.snd.snd.snd.fst) (r6.snd.snd.snd.snd.snd.snd.snd.snd.fst) (r6.snd.snd.snd.snd.snd.snd.snd.snd.snd) (r1.snd.snd.snd.snd.snd.snd.snd.snd.snd)) fun r7 =>
               (br (r7.fst == (0 : Int))
                (obind (Rc.laplace.F (N) ((255 : Int)) ((0 : Int)) (r7.snd.fst) (r7.snd.snd.fst) (r7.snd.snd.snd.fst) (r7.snd.snd.snd.snd.fst) (r7.snd.snd.snd.snd.snd.fst) (r7.snd.snd.snd.snd.snd.snd.fst) (r7.snd.snd.snd.snd.snd.snd.snd.fst) (r7.snd.snd.snd.snd.snd.snd.snd.snd.fst) (r7.snd.snd.snd.snd.snd.snd.snd.snd.snd) (r1.snd.snd.snd.snd.snd.snd.snd.snd.snd)) fun r8 =>
                 (br (r8.fst == (0 : Int))
                  (obind (Rc.tell.F (N) (r8.snd.fst) (r8.snd.snd.fst) (r8.snd.snd.snd.fst) (r8.snd.snd.snd.snd.fst) (r7.snd.snd.snd.snd.snd.fst) (r7.snd.snd.snd.snd.snd.snd.fst) (r7.snd.snd.snd.snd.snd.snd.snd.fst) (r8.snd.snd.snd.snd.snd) (r7.snd.snd.snd.snd.snd.snd.snd.snd.snd) (r1.snd.snd.snd.snd.snd.snd.snd.snd.snd)) fun r9 =>
                   (br (r9 == r2)
                    (obind (Rc.badp.F (N) (r8.snd.fst) (r8.snd.snd.fst) (r8.snd.snd.snd.fst) (r8.snd.snd.snd.snd.fst) (r7.snd.snd.snd.snd.snd.fst) (r7.snd.snd.snd.snd.snd.snd.fst) (r7.snd.snd.snd.snd.snd.snd.snd.fst) (r8.snd.snd.snd.snd.snd) (r7.snd.snd.snd.snd.snd.snd.snd.snd.snd) (r1.snd.snd.snd.snd.snd.snd.snd.snd.snd)) fun r10 =>
                     (some (!r10)))
                    (some (false))))
                  (some (false))))
                (some (false))))
              (some (false))))
            (some (false))))
          (some (false))))
        (some (false))))))))
theorem rcKnown.F_eq (N : Nat)  : evLaw (rcKnown.C N ) (rcKnown.K N) 0 Try.f8 [] = rcKnown.F N  := by
  kernel_rfl
theorem rcKnown.cok (N : Nat)  : CfgOK (rcKnown.C N ) := ⟨fun _ _ _ _ h => by simp [rcKnown.C, noRT] at h, wide, by
  simp only [rcKnown.C, List.mem_cons, List.not_mem_nil, or_false, forall_eq_or_imp, forall_eq, false_imp_iff, implies_true]
  exact ⟨⟨awake.ok, by kernel_rfl⟩, ⟨new.ok, by kernel_rfl⟩, ⟨tell.ok, by kernel_rfl⟩, ⟨symbol.ok, by kernel_rfl⟩, ⟨flag.ok, by kernel_rfl⟩, ⟨bits.ok, by kernel_rfl⟩, ⟨uint.ok, by kernel_rfl⟩, ⟨laplace.ok, by kernel_rfl⟩, ⟨badp.ok, by kernel_rfl⟩⟩⟩
theorem rcKnown.aok (N : Nat) : AnnsOK (rcKnown.K N) := by
  intro q hq
  simp only [rcKnown.K, List.mem_cons, List.not_mem_nil, or_false] at hq
theorem rcKnown.walk {w : World} {N : Nat}  {cargs : Array Value} (ha : All2 (RV noRT (lawE w)) [] cargs.toList) (h : rcKnown.F N  = some true) :
    Calls Try.prog 8 cargs w fun e w' => e = .returned (.bool true) ∧ Frm w (fun _ => False) w' :=
  law_sound (C := rcKnown.C N ) (K := rcKnown.K N) (d := 0) (fn := Try.f8) (rcKnown.cok N ) (fun q hq => by simp [rcKnown.C] at hq) (rcKnown.aok N) (by kernel_rfl) ha ((rcKnown.F_eq N ).trans h)

noncomputable def rcFront.C (N : Nat) (b : List Int) (more : List Int) (l : List Act3) : Cfg := { P := Try.prog, N := N, RT := (actTabK l), specs := [(30, awake.spec), (31, new.spec), (32, icdf.spec), (33, symbol.spec), (34, tell.spec)], inl := [], hi := 0, mv := [] }
abbrev rcFront.loop8.R : Type := Int × Int × Int × Int × Int × Int × Int × Int × Int × Int × Bool
noncomputable def rcFront.loop8.ann : Ann := { nx := 20, slots := [(0, .at (.froi .u8 0)), (2, .at (.ror 0)), (6, .at (.bool 0)), (7, .at (.ptr 0 0)), (8, .at (.ptr 5 0)), (9, .at (.int .i64 0))], blks := [(0, .cells 10 [.full 1 false, .int .u64 1, .int .u64 2, .int .u64 3, .int .i64 4, .fint .i64 0, .fint .u64 1, .fint .i64 2, .int .i64 5, .fbool 0]), (1, .fints false .u8 1), (5, .cells 10 [.full 6 false, .int .u64 6, .int .u64 7, .int .u64 8, .int .i64 9, .fint .i64 3, .fint .u64 4, .fint .i64 5, .int .i64 10, .fbool 1]), (6, .fints false .u8 2)], mov := [], exId := 0, xslots := [(7, .at (.ptr 0 0)), (8, .at (.ptr 5 0)), (6, .at (.bool 0))], xblks := [(0, .cells 10 [.full 1 false, .int .u64 0, .int .u64 1, .int .u64 2, .int .i64 3, .fint .i64 0, .fint .u64 1, .fint .i64 2, .int .i64 4, .fbool 0]), (1, .fints false .u8 1), (5, .cells 10 [.full 6 false, .int .u64 5, .int .u64 6, .int .u64 7, .int .i64 8, .fint .i64 3, .fint .u64 4, .fint .i64 5, .int .i64 9, .fbool 1]), (6, .fints false .u8 2)], T := rcFront.loop8.R, dec := fun L => (L.i 0, L.i 1, L.i 2, L.i 3, L.i 4, L.i 5, L.i 6, L.i 7, L.i 8, L.i 9, L.b 0), enc := fun r => mkL [r.1, r.2.1, r.2.2.1, r.2.2.2.1, r.2.2.2.2.1, r.2.2.2.2.2.1, r.2.2.2.2.2.2.1, r.2.2.2.2.2.2.2.1, r.2.2.2.2.2.2.2.2.1, r.2.2.2.2.2.2.2.2.2.1] [r.2.2.2.2.2.2.2.2.2.2] [] [], ret := true }
noncomputable def rcFront.K (N : Nat) : FCfg := { anns := [(8, rcFront.loop8.ann)], unr := [], lits := [], lets := [] }
noncomputable def rcFront.loop8 (N : Nat) (b : List Int) (more : List Int) (l : List Act3) : Nat → Int → Int → Int → Int → Int → Int → Bool → Bool → List Int → List Int → List Int → Int → Int → Int → Int → Int → Int → Int → Int → Int → Int → Int → Bool → Option (rcFront.loop8.R ⊕ Bool)
  | 0, _, _, _, _, _, _, _, _, _, _, _, _, _, _, _, _, _, _, _, _, _, _, _ => none
  | nn + 1, back, window, waiting, back2, window2, waiting2, bad, bad2, s0, l1, l6, s9, rng, val, last, front, count, rng2, val2, last2, front2, count2, s6 =>
  (br (decide (s9 < ↑l.length))
   (chk ((0 : Int) ≤ s9 ∧ s9 < ↑l.length)
    (obind (Rc.icdf.F (N) (Go.IntKind.i64.wrap ↑(BitVec.ofInt Go.IntKind.i64.bits (l.getD s9.toNat Go.Proofs.Rc.Act3.nil).n &&& BitVec.ofInt Go.IntKind.i64.bits (7 : Int)).toNat)) fun r0 =>
     (obind (Rc.symbol.F (N) (rng) (val) (last) (front) (back) (window) (waiting) (count) (bad) (r0) (l1)) fun r1 =>
      (obind (Rc.symbol.F (N) (rng2) (val2) (last2) (front2) (back2) (window2) (waiting2) (count2) (bad2) (r0) (l6)) fun r2 =>
       (obind (Rc.tell.F (N) (r1.snd.fst) (r1.snd.snd.fst) (r1.snd.snd.snd.fst) (r1.snd.snd.snd.snd.fst) (back) (window) (waiting) (r1.snd.snd.snd.snd.snd) (bad) (l1)) fun r3 =>
        (br (decide (r3 > Go.IntKind.i64.wrap (Go.IntKind.i64.wrap ((8 : Int) * ↑s0.length) - (32 : Int))))
         (omap
          (some (true)) .inr)
         (br (r1.fst != r2.fst)
          (omap
           (some (false)) .inr)
          (chkL (s0) (s0)
          (chkI (back) (back)
          (chkI (window) (window)
          (chkI (waiting) (waiting)
          (chkB (bad) (bad)
          (chkL (l1) (l1)
          (chkI (back2) (back2)
          (chkI (window2) (window2)
          (chkI (waiting2) (waiting2)
          (chkB (bad2) (bad2)
          (chkL (l6) (l6)
          (rcFront.loop8 N b more l (nn) (back) (window) (waiting) (back2) (window2) (waiting2) (bad) (bad2) (s0) (l1) (l6) (Go.IntKind.i64.wrap (s9 + (1 : Int))) (r1.snd.fst) (r1.snd.snd.fst) (r1.snd.snd.snd.fst) (r1.snd.snd.snd.snd.fst) (r1.snd.snd.snd.snd.snd) (r2.snd.fst) (r2.snd.snd.fst) (r2.snd.snd.snd.fst) (r2.snd.snd.snd.snd.fst) (r2.snd.snd.snd.snd.snd) (s6))))))))))))))))))))
   (chkI (back) (back)
   (chkI (window) (window)
   (chkI (waiting) (waiting)
   (chkB (bad) (bad)
   (chkL (l1) (l1)
   (chkI (back2) (back2)
   (chkI (window2) (window2)
   (chkI (waiting2) (waiting2)
   (chkB (bad2) (bad2)
   (chkL (l6) (l6)
   (some (Sum.inl (rng, val, last, front, count, rng2, val2, last2, front2, count2, s6))))))))))))))
noncomputable def rcFront.loop8R (N : Nat) (b : List Int) (more : List Int) (l : List Act3) (nn : Nat) (back : Int) (window : Int) (waiting : Int) (back2 : Int) (window2 : Int) (waiting2 : Int) (bad : Bool) (bad2 : Bool) (s0 : List Int) (l1 : List Int) (l6 : List Int) (s9 : Int) (rng : Int) (val : Int) (last : Int) (front : Int) (count : Int) (rng2 : Int) (val2 : Int) (last2 : Int) (front2 : Int) (count2 : Int) (s6 : Bool) : Option (rcFront.loop8.R ⊕ Bool) := loopR rcFront.loop8.ann (mkL [back, window, waiting, back2, window2, waiting2] [bad, bad2] [s0, l1, l6] []) (evCode ((rcFront.C N b more l).inLoop rcFront.loop8.ann) (rcFront.K N) (inlTab (rcFront.C N b more l) 0) (bodyAt 8 Try.f3)) (lawKr Try.f3) nn (mkL [s9, rng, val, last, front, count, rng2, val2, last2, front2, count2] [s6] [] [])
theorem rcFront.loop8_eq (N : Nat) (b : List Int) (more : List Int) (l : List Act3) : ∀ (nn : Nat) (back : Int) (window : Int) (waiting : Int) (back2 : Int) (window2 : Int) (waiting2 : Int) (bad : Bool) (bad2 : Bool) (s0 : List Int) (l1 : List Int) (l6 : List Int) (s9 : Int) (rng : Int) (val : Int) (last : Int) (front : Int) (count : Int) (rng2 : Int) (val2 : Int) (last2 : Int) (front2 : Int) (count2 : Int) (s6 : Bool), rcFront.loop8R N b more l nn back window waiting back2 window2 waiting2 bad bad2 s0 l1 l6 s9 rng val last front count rng2 val2 last2 front2 count2 s6 = rcFront.loop8 N b more l nn back window waiting back2 window2 waiting2 bad bad2 s0 l1 l6 s9 rng val last front count rng2 val2 last2 front2 count2 s6
  | 0, _, _, _, _, _, _, _, _, _, _, _, _, _, _, _, _, _, _, _, _, _, _, _ => by kernel_rfl
  | nn + 1, back, window, waiting, back2, window2, waiting2, bad, bad2, s0, l1, l6, s9, rng, val, last, front, count, rng2, val2, last2, front2, count2, s6 => by
    have h : rcFront.loop8R N b more l (nn + 1) back window waiting back2 window2 waiting2 bad bad2 s0 l1 l6 s9 rng val last front count rng2 val2 last2 front2 count2 s6 =
  (br (decide (s9 < ↑l.length))
   (chk ((0 : Int) ≤ s9 ∧ s9 < ↑l.length)
    (obind (Rc.icdf.F (N) (Go.IntKind.i64.wrap ↑(BitVec.ofInt Go.IntKind.i64.bits (l.getD s9.toNat Go.Proofs.Rc.Act3.nil).n &&& BitVec.ofInt Go.IntKind.i64.bits (7 : Int)).toNat)) fun r0 =>
     (obind (Rc.symbol.F (N) (rng) (val) (last) (front) (back) (window) (waiting) (count) (bad) (r0) (l1)) fun r1 =>
      (obind (Rc.symbol.F (N) (rng2) (val2) (last2) (front2) (back2) (window2) (waiting2) (count2) (bad2) (r0) (l6)) fun r2 =>
       (obind (Rc.tell.F (N) (r1.snd.fst) (r1.snd.snd.fst) (r1.snd.snd.snd.fst) (r1.snd.snd.snd.snd.fst) (back) (window) (waiting) (r1.snd.snd.snd.snd.snd) (bad) (l1)) fun r3 =>
        (br (decide (r3 > Go.IntKind.i64.wrap (Go.IntKind.i64.wrap ((8 : Int) * ↑s0.length) - (32 : Int))))
         (omap
          (some (true)) .inr)
         (br (r1.fst != r2.fst)
          (omap
           (some (false)) .inr)
          (chkL (s0) (s0)
          (chkI (back) (back)
          (chkI (window) (window)
          (chkI (waiting) (waiting)
          (chkB (bad) (bad)
          (chkL (l1) (l1)
          (chkI (back2) (back2)
          (chkI (window2) (window2)
          (chkI (waiting2) (waiting2)
          (chkB (bad2) (bad2)
          (chkL (l6) (l6)
          (rcFront.loop8R N b more l (nn) (back) (window) (waiting) (back2) (window2) (waiting2) (bad) (bad2) (s0) (l1) (l6) (Go.IntKind.i64.wrap (s9 + (1 : Int))) (r1.snd.fst) (r1.snd.snd.fst) (r1.snd.snd.snd.fst) (r1.snd.snd.snd.snd.fst) (r1.snd.snd.snd.snd.snd) (r2.snd.fst) (r2.snd.snd.fst) (r2.snd.snd.snd.fst) (r2.snd.snd.snd.snd.fst) (r2.snd.snd.snd.snd.snd) (s6))))))))))))))))))))
   (chkI (back) (back)
   (chkI (window) (window)
   (chkI (waiting) (waiting)
   (chkB (bad) (bad)
   (chkL (l1) (l1)
   (chkI (back2) (back2)
   (chkI (window2) (window2)
   (chkI (waiting2) (waiting2)
   (chkB (bad2) (bad2)
   (chkL (l6) (l6)
   (some (Sum.inl (rng, val, last, front, count, rng2, val2, last2, front2, count2, s6)))))))))))))) := by kernel_rfl
    rw [h, rcFront.loop8]
    try simp only [rcFront.loop8_eq N b more l nn]
noncomputable def rcFront.F (N : Nat) (b : List Int) (more : List Int) (l : List Act3) : Option Bool :=
  (obind (Rc.awake.F (N)) fun r0 =>
   (br (!r0)
    (some (false))
    (br (decide (↑b.length > (500 : Int)))
     (some (true))
     (br (decide (↑more.length > (500 : Int)))
      (some (true))
      (br (decide (↑l.length > (50 : Int)))
       (some (true))
       (obind (Rc.new.F (N) (b)) fun r1 =>
        (chk (([] : List Int).length + b.length ≤ (17592186043904 : Nat))
         (chk ((([] : List Int) ++ b).length + more.length ≤ (17592186043904 : Nat))
          (obind (Rc.new.F (N) (([] : List Int) ++ b ++ more)) fun r2 =>
           (osum (rcFront.loop8 N b more l (N) (r1.snd.snd.snd.snd.fst) (r1.snd.snd.snd.snd.snd.fst) (r1.snd.snd.snd.snd.snd.snd.fst) (r2.snd.snd.snd.snd.fst) (r2.snd.snd.snd.snd.snd.fst) (r2.snd.snd.snd.snd.snd.snd.fst) (r1.snd.snd.snd.snd.snd.snd.snd.snd.fst) (r2.snd.snd.snd.snd.snd.snd.snd.snd.fst) (b) (r1.snd.snd.snd.snd.snd.snd.snd.snd.snd) (r2.snd.snd.snd.snd.snd.snd.snd.snd.snd) ((0 : Int)) (r1.fst) (r1.snd.fst) (r1.snd.snd.fst) (r1.snd.snd.snd.fst) (r1.snd.snd.snd.snd.snd.snd.snd.fst) (r2.fst) (r2.snd.fst) (r2.snd.snd.fst) (r2.snd.snd.snd.fst) (r2.snd.snd.snd.snd.snd.snd.snd.fst) (false)) fun r3 =>
            (obind (Rc.tell.F (N) (r3.fst) (r3.snd.fst) (r3.snd.snd.fst) (r3.snd.snd.snd.fst) (r1.snd.snd.snd.snd.fst) (r1.snd.snd.snd.snd.snd.fst) (r1.snd.snd.snd.snd.snd.snd.fst) (r3.snd.snd.snd.snd.fst) (r1.snd.snd.snd.snd.snd.snd.snd.snd.fst) (r1.snd.snd.snd.snd.snd.snd.snd.snd.snd)) fun r4 =>
             (obind (Rc.tell.F (N) (r3.snd.snd.snd.snd.snd.fst) (r3.snd.snd.snd.snd.snd.snd.fst) (r3.snd.snd.snd.snd.snd.snd.snd.fst) (r3.snd.snd.snd.snd.snd.snd.snd.snd.fst) (r2.snd.snd.snd.snd.fst) (r2.snd.snd.snd.snd.snd.fst) (r2.snd.snd.snd.snd.snd.snd.fst) (r3.snd.snd.snd.snd.snd.snd.snd.snd.snd.fst) (r2.snd.snd.snd.snd.snd.snd.snd.snd.fst) (r2.snd.snd.snd.snd.snd.snd.snd.snd.snd)) fun r5 =>
              (some (r4 == r5))))))))))))))
theorem rcFront.F_eq (N : Nat) (b : List Int) (more : List Int) (l : List Act3) : evLaw (rcFront.C N b more l) (rcFront.K N) 0 Try.f3 [.at (.roi .u8 b), .at (.roi .u8 more), .at (.ror 0)] = rcFront.F N b more l := by
  have h : evLaw (rcFront.C N b more l) (rcFront.K N) 0 Try.f3 [.at (.roi .u8 b), .at (.roi .u8 more), .at (.ror 0)] =
  (obind (Rc.awake.F (N)) fun r0 =>
   (br (!r0)
    (some (false))
    (br (decide (↑b.length > (500 : Int)))
     (some (true))
     (br (decide (↑more.length > (500 : Int)))
      (some (true))
      (br (decide (↑l.length > (50 : Int)))
       (some (true))
       (obind (Rc.new.F (N) (b)) fun r1 =>
        (chk (([] : List Int).length + b.length ≤ (17592186043904 : Nat))
         (chk ((([] : List Int) ++ b).length + more.length ≤ (17592186043904 : Nat))
          (obind (Rc.new.F (N) (([] : List Int) ++ b ++ more)) fun r2 =>
           (osum (rcFront.loop8R N b more l (N) (r1.snd.snd.snd.snd.fst) (r1.snd.snd.snd.snd.snd.fst) (r1.snd.snd.snd.snd.snd.snd.fst) (r2.snd.snd.snd.snd.fst) (r2.snd.snd.snd.snd.snd.fst) (r2.snd.snd.snd.snd.snd.snd.fst) (r1.snd.snd.snd.snd.snd.snd.snd.snd.fst) (r2.snd.snd.snd.snd.snd.snd.snd.snd.fst) (b) (r1.snd.snd.snd.snd.snd.snd.snd.snd.snd) (r2.snd.snd.snd.snd.snd.snd.snd.snd.snd) ((0 : Int)) (r1.fst) (r1.snd.fst) (r1.snd.snd.fst) (r1.snd.snd.snd.fst) (r1.snd.snd.snd.snd.snd.snd.snd.fst) (r2.fst) (r2.snd.fst) (r2.snd.snd.fst) (r2.snd.snd.snd.fst) (r2.snd.snd.snd.snd.snd.snd.snd.fst) (false)) fun r3 =>
            (obind (Rc.tell.F (N) (r3.fst) (r3.snd.fst) (r3.snd.snd.fst) (r3.snd.snd.snd.fst) (r1.snd.snd.snd.snd.fst) (r1.snd.snd.snd.snd.snd.fst) (r1.snd.snd.snd.snd.snd.snd.fst) (r3.snd.snd.snd.snd.fst) (r1.snd.snd.snd.snd.snd.snd.snd.snd.fst) (r1.snd.snd.snd.snd.snd.snd.snd.snd.snd)) fun r4 =>
             (obind (Rc.tell.F (N) (r3.snd.snd.snd.snd.snd.fst) (r3.snd.snd.snd.snd.snd.snd.fst) (r3.snd.snd.snd.snd.snd.snd.snd.fst) (r3.snd.snd.snd.snd.snd.snd.snd.snd.fst) (r2.snd.snd.snd.snd.fst) (r2.snd.snd.snd.snd.snd.fst) (r2.snd.snd.snd.snd.snd.snd.fst) (r3.snd.snd.snd.snd.snd.snd.snd.snd.snd.fst) (r2.snd.snd.snd.snd.snd.snd.snd.snd.fst) (r2.snd.snd.snd.snd.snd.snd.snd.snd.snd)) fun r5 =>
              (some (r4 == r5)))))))))))))) := by kernel_rfl
  rw [h, rcFront.F]
  try simp only [rcFront.loop8_eq N b more l]
theorem rcFront.cok (N : Nat) (b : List Int) (more : List Int) (l : List Act3) : CfgOK (rcFront.C N b more l) := ⟨actTabK_ok l, wide, by
  simp only [rcFront.C, List.mem_cons, List.not_mem_nil, or_false, forall_eq_or_imp, forall_eq, false_imp_iff, implies_true]
  exact ⟨⟨awake.ok, by kernel_rfl⟩, ⟨new.ok, by kernel_rfl⟩, ⟨icdf.ok, by kernel_rfl⟩, ⟨symbol.ok, by kernel_rfl⟩, ⟨tell.ok, by kernel_rfl⟩⟩⟩
theorem rcFront.aok (N : Nat) : AnnsOK (rcFront.K N) := by
  intro q hq
  simp only [rcFront.K, List.mem_cons, List.not_mem_nil, or_false] at hq
  subst hq
  exact fun _ _ => ⟨rfl, rfl⟩
theorem rcFront.walk {w : World} {N : Nat} (b : List Int) (more : List Int) (l : List Act3) {cargs : Array Value} (ha : All2 (RV (actTabK l) (lawE w)) [.at (.roi .u8 b), .at (.roi .u8 more), .at (.ror 0)] cargs.toList) (h : rcFront.F N b more l = some true) :
    Calls Try.prog 3 cargs w fun e w' => e = .returned (.bool true) ∧ Frm w (fun _ => False) w' :=
  law_sound (C := rcFront.C N b more l) (K := rcFront.K N) (d := 0) (fn := Try.f3) (rcFront.cok N b more l) (fun q hq => by simp [rcFront.C] at hq) (rcFront.aok N) (by kernel_rfl) ha ((rcFront.F_eq N b more l).trans h)

noncomputable def rcTwins.C (N : Nat) (b : List Int) (l : List Act3) : Cfg := { P := Try.prog, N := N, RT := (actTabK l), specs := [(30, awake.spec), (31, new.spec), (32, icdf.spec), (33, symbol.spec), (35, bits.spec), (34, tell.spec)], inl := [], hi := 0, mv := [] }
abbrev rcTwins.loop9.R : Type := List Int
noncomputable def rcTwins.loop9.ann : Ann := { nx := 20, slots := [(5, .at (.full 1 true)), (8, .at (.int .i64 0))], blks := [(1, .ints true .u8 0)], mov := [], exId := 0, xslots := [(5, .at (.full 1 true))], xblks := [(1, .ints true .u8 0)], T := rcTwins.loop9.R, dec := fun L => (L.l 0), enc := fun r => mkL [] [] [r] [], ret := false }
abbrev rcTwins.loop13.R : Type := Int × Int × Int × Int × Int × Int × Int × Int × Int × Int × Int × Int × Int × Int × Int × Int × Bool
noncomputable def rcTwins.loop13.ann : Ann := { nx := 20, slots := [(1, .at (.ror 0)), (4, .at (.bool 0)), (6, .at (.ptr 2 0)), (7, .at (.ptr 4 0)), (9, .at (.int .i64 0))], blks := [(2, .cells 10 [.full 3 false, .int .u64 1, .int .u64 2, .int .u64 3, .int .i64 4, .int .i64 5, .int .u64 6, .int .i64 7, .int .i64 8, .fbool 0]), (3, .fints false .u8 0), (4, .cells 10 [.full 5 false, .int .u64 9, .int .u64 10, .int .u64 11, .int .i64 12, .int .i64 13, .int .u64 14, .int .i64 15, .int .i64 16, .fbool 1]), (5, .fints false .u8 1)], mov := [], exId := 2, xslots := [(6, .at (.ptr 2 0)), (7, .at (.ptr 4 0)), (4, .at (.bool 0))], xblks := [(2, .cells 10 [.full 3 false, .int .u64 0, .int .u64 1, .int .u64 2, .int .i64 3, .int .i64 4, .int .u64 5, .int .i64 6, .int .i64 7, .fbool 0]), (3, .fints false .u8 0), (4, .cells 10 [.full 5 false, .int .u64 8, .int .u64 9, .int .u64 10, .int .i64 11, .int .i64 12, .int .u64 13, .int .i64 14, .int .i64 15, .fbool 1]), (5, .fints false .u8 1)], T := rcTwins.loop13.R, dec := fun L => (L.i 0, L.i 1, L.i 2, L.i 3, L.i 4, L.i 5, L.i 6, L.i 7, L.i 8, L.i 9, L.i 10, L.i 11, L.i 12, L.i 13, L.i 14, L.i 15, L.b 0), enc := fun r => mkL [r.1, r.2.1, r.2.2.1, r.2.2.2.1, r.2.2.2.2.1, r.2.2.2.2.2.1, r.2.2.2.2.2.2.1, r.2.2.2.2.2.2.2.1, r.2.2.2.2.2.2.2.2.1, r.2.2.2.2.2.2.2.2.2.1, r.2.2.2.2.2.2.2.2.2.2.1, r.2.2.2.2.2.2.2.2.2.2.2.1, r.2.2.2.2.2.2.2.2.2.2.2.2.1, r.2.2.2.2.2.2.2.2.2.2.2.2.2.1, r.2.2.2.2.2.2.2.2.2.2.2.2.2.2.1, r.2.2.2.2.2.2.2.2.2.2.2.2.2.2.2.1] [r.2.2.2.2.2.2.2.2.2.2.2.2.2.2.2.2] [] [], ret := true }
noncomputable def rcTwins.K (N : Nat) : FCfg := { anns := [(9, rcTwins.loop9.ann), (13, rcTwins.loop13.ann)], unr := [], lits := [], lets := [] }
noncomputable def rcTwins.loop13 (N : Nat) (b : List Int) (l : List Act3) : Nat → Bool → Bool → List Int → List Int → Int → Int → Int → Int → Int → Int → Int → Int → Int → Int → Int → Int → Int → Int → Int → Int → Int → Bool → Option (rcTwins.loop13.R ⊕ Bool)
  | 0, _, _, _, _, _, _, _, _, _, _, _, _, _, _, _, _, _, _, _, _, _, _ => none
  | nn + 1, bad, bad2, l3, l5, s9, rng, val, last, front, back, window, waiting, count, rng2, val2, last2, front2, back2, window2, waiting2, count2, s4 =>
  (br (decide (s9 < ↑l.length))
   (chk ((0 : Int) ≤ s9 ∧ s9 < ↑l.length)
    (obind (Rc.icdf.F (N) (Go.IntKind.i64.wrap ↑(BitVec.ofInt Go.IntKind.i64.bits (l.getD s9.toNat Go.Proofs.Rc.Act3.nil).n &&& BitVec.ofInt Go.IntKind.i64.bits (7 : Int)).toNat)) fun r0 =>
     (obind (Rc.symbol.F (N) (rng) (val) (last) (front) (back) (window) (waiting) (count) (bad) (r0) (l3)) fun r1 =>
      (obind (Rc.symbol.F (N) (rng2) (val2) (last2) (front2) (back2) (window2) (waiting2) (count2) (bad2) (r0) (l5)) fun r2 =>
       (br (r1.fst != r2.fst)
        (omap
         (some (false)) .inr)
        (chk ((0 : Int) ≤ s9 ∧ s9 < ↑l.length)
         (obind (Rc.bits.F (N) (Go.IntKind.i64.wrap ↑(BitVec.ofInt Go.IntKind.i64.bits (l.getD s9.toNat Go.Proofs.Rc.Act3.nil).m &&& BitVec.ofInt Go.IntKind.i64.bits (7 : Int)).toNat) (r1.snd.fst) (r1.snd.snd.fst) (r1.snd.snd.snd.fst) (r1.snd.snd.snd.snd.fst) (back) (window) (waiting) (r1.snd.snd.snd.snd.snd) (bad) (l3)) fun r3 =>
          (chk ((0 : Int) ≤ s9 ∧ s9 < ↑l.length)
           (obind (Rc.bits.F (N) (Go.IntKind.i64.wrap ↑(BitVec.ofInt Go.IntKind.i64.bits (l.getD s9.toNat Go.Proofs.Rc.Act3.nil).m &&& BitVec.ofInt Go.IntKind.i64.bits (7 : Int)).toNat) (r2.snd.fst) (r2.snd.snd.fst) (r2.snd.snd.snd.fst) (r2.snd.snd.snd.snd.fst) (back2) (window2) (waiting2) (r2.snd.snd.snd.snd.snd) (bad2) (l5)) fun r4 =>
            (br (r3.fst != r4.fst)
             (omap
              (some (false)) .inr)
             (obind (Rc.tell.F (N) (r1.snd.fst) (r1.snd.snd.fst) (r1.snd.snd.snd.fst) (r1.snd.snd.snd.snd.fst) (r3.snd.fst) (r3.snd.snd.fst) (r3.snd.snd.snd.fst) (r3.snd.snd.snd.snd) (bad) (l3)) fun r5 =>
              (obind (Rc.tell.F (N) (r2.snd.fst) (r2.snd.snd.fst) (r2.snd.snd.snd.fst) (r2.snd.snd.snd.snd.fst) (r4.snd.fst) (r4.snd.snd.fst) (r4.snd.snd.snd.fst) (r4.snd.snd.snd.snd) (bad2) (l5)) fun r6 =>
               (br (r5 != r6)
                (omap
                 (some (false)) .inr)
                (chkB (bad) (bad)
                (chkL (l3) (l3)
                (chkB (bad2) (bad2)
                (chkL (l5) (l5)
                (rcTwins.loop13 N b l (nn) (bad) (bad2) (l3) (l5) (Go.IntKind.i64.wrap (s9 + (1 : Int))) (r1.snd.fst) (r1.snd.snd.fst) (r1.snd.snd.snd.fst) (r1.snd.snd.snd.snd.fst) (r3.snd.fst) (r3.snd.snd.fst) (r3.snd.snd.snd.fst) (r3.snd.snd.snd.snd) (r2.snd.fst) (r2.snd.snd.fst) (r2.snd.snd.snd.fst) (r2.snd.snd.snd.snd.fst) (r4.snd.fst) (r4.snd.snd.fst) (r4.snd.snd.snd.fst) (r4.snd.snd.snd.snd) (s4)))))))))))))))))))
   (chkB (bad) (bad)
   (chkL (l3) (l3)
   (chkB (bad2) (bad2)
   (chkL (l5) (l5)
   (some (Sum.inl (rng, val, last, front, back, window, waiting, count, rng2, val2, last2, front2, back2, window2, waiting2, count2, s4))))))))
noncomputable def rcTwins.loop13R (N : Nat) (b : List Int) (l : List Act3) (nn : Nat) (bad : Bool) (bad2 : Bool) (l3 : List Int) (l5 : List Int) (s9 : Int) (rng : Int) (val : Int) (last : Int) (front : Int) (back : Int) (window : Int) (waiting : Int) (count : Int) (rng2 : Int) (val2 : Int) (last2 : Int) (front2 : Int) (back2 : Int) (window2 : Int) (waiting2 : Int) (count2 : Int) (s4 : Bool) : Option (rcTwins.loop13.R ⊕ Bool) := loopR rcTwins.loop13.ann (mkL [] [bad, bad2] [l3, l5] []) (evCode ((rcTwins.C N b l).inLoop rcTwins.loop13.ann) (rcTwins.K N) (inlTab (rcTwins.C N b l) 0) (bodyAt 13 Try.f4)) (lawKr Try.f4) nn (mkL [s9, rng, val, last, front, back, window, waiting, count, rng2, val2, last2, front2, back2, window2, waiting2, count2] [s4] [] [])
theorem rcTwins.loop13_eq (N : Nat) (b : List Int) (l : List Act3) : ∀ (nn : Nat) (bad : Bool) (bad2 : Bool) (l3 : List Int) (l5 : List Int) (s9 : Int) (rng : Int) (val : Int) (last : Int) (front : Int) (back : Int) (window : Int) (waiting : Int) (count : Int) (rng2 : Int) (val2 : Int) (last2 : Int) (front2 : Int) (back2 : Int) (window2 : Int) (waiting2 : Int) (count2 : Int) (s4 : Bool), rcTwins.loop13R N b l nn bad bad2 l3 l5 s9 rng val last front back window waiting count rng2 val2 last2 front2 back2 window2 waiting2 count2 s4 = rcTwins.loop13 N b l nn bad bad2 l3 l5 s9 rng val last front back window waiting count rng2 val2 last2 front2 back2 window2 waiting2 count2 s4
  | 0, _, _, _, _, _, _, _, _, _, _, _, _, _, _, _, _, _, _, _, _, _, _ => by kernel_rfl
  | nn + 1, bad, bad2, l3, l5, s9, rng, val, last, front, back, window, waiting, count, rng2, val2, last2, front2, back2, window2, waiting2, count2, s4 => by
    have h : rcTwins.loop13R N b l (nn + 1) bad bad2 l3 l5 s9 rng val last front back window waiting count rng2 val2 last2 front2 back2 window2 waiting2 count2 s4 =
  (br (decide (s9 < ↑l.length))
   (chk ((0 : Int) ≤ s9 ∧ s9 < ↑l.length)
    (obind (Rc.icdf.F (N) (Go.IntKind.i64.wrap ↑(BitVec.ofInt Go.IntKind.i64.bits (l.getD s9.toNat Go.Proofs.Rc.Act3.nil).n &&& BitVec.ofInt Go.IntKind.i64.bits (7 : Int)).toNat)) fun r0 =>
     (obind (Rc.symbol.F (N) (rng) (val) (last) (front) (back) (window) (waiting) (count) (bad) (r0) (l3)) fun r1 =>
      (obind (Rc.symbol.F (N) (rng2) (val2) (last2) (front2) (back2) (window2) (waiting2) (count2) (bad2) (r0) (l5)) fun r2 =>
       (br (r1.fst != r2.fst)
        (omap
         (some (false)) .inr)
        (chk ((0 : Int) ≤ s9 ∧ s9 < ↑l.length)
         (obind (Rc.bits.F (N) (Go.IntKind.i64.wrap ↑(BitVec.ofInt Go.IntKind.i64.bits (l.getD s9.toNat Go.Proofs.Rc.Act3.nil).m &&& BitVec.ofInt Go.IntKind.i64.bits (7 : Int)).toNat) (r1.snd.fst) (r1.snd.snd.fst) (r1.snd.snd.snd.fst) (r1.snd.snd.snd.snd.fst) (back) (window) (waiting) (r1.snd.snd.snd.snd.snd) (bad) (l3)) fun r3 =>
          (chk ((0 : Int) ≤ s9 ∧ s9 < ↑l.length)
           (obind (Rc.bits.F (N) (Go.IntKind.i64.wrap ↑(BitVec.ofInt Go.IntKind.i64.bits (l.getD s9.toNat Go.Proofs.Rc.Act3.nil).m &&& BitVec.ofInt Go.IntKind.i64.bits (7 : Int)).toNat) (r2.snd.fst) (r2.snd.snd.fst) (r2.snd.snd.snd.fst) (r2.snd.snd.snd.snd.fst) (back2) (window2) (waiting2) (r2.snd.snd.snd.snd.snd) (bad2) (l5)) fun r4 =>
            (br (r3.fst != r4.fst)
             (omap
              (some (false)) .inr)
             (obind (Rc.tell.F (N) (r1.snd.fst) (r1.snd.snd.fst) (r1.snd.snd.snd.fst) (r1.snd.snd.snd.snd.fst) (r3.snd.fst) (r3.snd.snd.fst) (r3.snd.snd.snd.fst) (r3.snd.snd.snd.snd) (bad) (l3)) fun r5 =>
              (obind (Rc.tell.F (N) (r2.snd.fst) (r2.snd.snd.fst) (r2.snd.snd.snd.fst) (r2.snd.snd.snd.snd.fst) (r4.snd.fst) (r4.snd.snd.fst) (r4.snd.snd.snd.fst) (r4.snd.snd.snd.snd) (bad2) (l5)) fun r6 =>
               (br (r5 != r6)
                (omap
                 (some (false)) .inr)
                (chkB (bad) (bad)
                (chkL (l3) (l3)
                (chkB (bad2) (bad2)
                (chkL (l5) (l5)
                (rcTwins.loop13R N b l (nn) (bad) (bad2) (l3) (l5) (Go.IntKind.i64.wrap (s9 + (1 : Int))) (r1.snd.fst) (r1.snd.snd.fst) (r1.snd.snd.snd.fst) (r1.snd.snd.snd.snd.fst) (r3.snd.fst) (r3.snd.snd.fst) (r3.snd.snd.snd.fst) (r3.snd.snd.snd.snd) (r2.snd.fst) (r2.snd.snd.fst) (r2.snd.snd.snd.fst) (r2.snd.snd.snd.snd.fst) (r4.snd.fst) (r4.snd.snd.fst) (r4.snd.snd.snd.fst) (r4.snd.snd.snd.snd) (s4)))))))))))))))))))
   (chkB (bad) (bad)
   (chkL (l3) (l3)
   (chkB (bad2) (bad2)
   (chkL (l5) (l5)
   (some (Sum.inl (rng, val, last, front, back, window, waiting, count, rng2, val2, last2, front2, back2, window2, waiting2, count2, s4)))))))) := by kernel_rfl
    rw [h, rcTwins.loop13]
    try simp only [rcTwins.loop13_eq N b l nn]
noncomputable def rcTwins.loop9 (N : Nat) (b : List Int) (l : List Act3) : Nat → Int → List Int → Option rcTwins.loop9.R
  | 0, _, _ => none
  | nn + 1, s8, l1 =>
  (br (decide (s8 < ↑l1.length))
   (chk ((0 : Int) ≤ s8 ∧ s8 < ↑l1.length)
    (chk ((0 : Int) ≤ s8 ∧ s8 < ↑l1.length)
     (rcTwins.loop9 N b l (nn) (Go.IntKind.i64.wrap (s8 + (1 : Int))) (l1.set s8.toNat (Go.IntKind.u8.wrap ↑(BitVec.ofInt Go.IntKind.u8.bits (l1.getD s8.toNat (0 : Int)) ^^^ BitVec.ofInt Go.IntKind.u8.bits (255 : Int)).toNat)))))
   (some (l1)))
noncomputable def rcTwins.loop9R (N : Nat) (b : List Int) (l : List Act3) (nn : Nat) (s8 : Int) (l1 : List Int) : Option rcTwins.loop9.R := loopF rcTwins.loop9.ann (mkL [] [] [] []) (evCode ((rcTwins.C N b l).inLoop rcTwins.loop9.ann) (rcTwins.K N) (inlTab (rcTwins.C N b l) 0) (bodyAt 9 Try.f4)) nn (mkL [s8] [] [l1] [])
theorem rcTwins.loop9_eq (N : Nat) (b : List Int) (l : List Act3) : ∀ (nn : Nat) (s8 : Int) (l1 : List Int), rcTwins.loop9R N b l nn s8 l1 = rcTwins.loop9 N b l nn s8 l1
  | 0, _, _ => by kernel_rfl
  | nn + 1, s8, l1 => by
    have h : rcTwins.loop9R N b l (nn + 1) s8 l1 =
  (br (decide (s8 < ↑l1.length))
   (chk ((0 : Int) ≤ s8 ∧ s8 < ↑l1.length)
    (chk ((0 : Int) ≤ s8 ∧ s8 < ↑l1.length)
     (rcTwins.loop9R N b l (nn) (Go.IntKind.i64.wrap (s8 + (1 : Int))) (l1.set s8.toNat (Go.IntKind.u8.wrap ↑(BitVec.ofInt Go.IntKind.u8.bits (l1.getD s8.toNat (0 : Int)) ^^^ BitVec.ofInt Go.IntKind.u8.bits (255 : Int)).toNat)))))
   (some (l1))) := by kernel_rfl
    rw [h, rcTwins.loop9]
    try simp only [rcTwins.loop9_eq N b l nn]
noncomputable def rcTwins.F (N : Nat) (b : List Int) (l : List Act3) : Option Bool :=
  (obind (Rc.awake.F (N)) fun r0 =>
   (br (!r0)
    (some (false))
    (br (decide (↑b.length > (500 : Int)))
     (some (true))
     (br (decide (↑l.length > (60 : Int)))
      (some (true))
      (chk (([] : List Int).length + b.length ≤ (17592186043904 : Nat))
       (obind (Rc.new.F (N) (([] : List Int) ++ b)) fun r1 =>
        (obind (Rc.new.F (N) (b)) fun r2 =>
         (obind (rcTwins.loop9 N b l (N) ((0 : Int)) (([] : List Int) ++ b)) fun r3 =>
          (osum (rcTwins.loop13 N b l (N) (r1.snd.snd.snd.snd.snd.snd.snd.snd.fst) (r2.snd.snd.snd.snd.snd.snd.snd.snd.fst) (r1.snd.snd.snd.snd.snd.snd.snd.snd.snd) (r2.snd.snd.snd.snd.snd.snd.snd.snd.snd) ((0 : Int)) (r1.fst) (r1.snd.fst) (r1.snd.snd.fst) (r1.snd.snd.snd.fst) (r1.snd.snd.snd.snd.fst) (r1.snd.snd.snd.snd.snd.fst) (r1.snd.snd.snd.snd.snd.snd.fst) (r1.snd.snd.snd.snd.snd.snd.snd.fst) (r2.fst) (r2.snd.fst) (r2.snd.snd.fst) (r2.snd.snd.snd.fst) (r2.snd.snd.snd.snd.fst) (r2.snd.snd.snd.snd.snd.fst) (r2.snd.snd.snd.snd.snd.snd.fst) (r2.snd.snd.snd.snd.snd.snd.snd.fst) (false)) fun r4 =>
           (some (true)))))))))))
theorem rcTwins.F_eq (N : Nat) (b : List Int) (l : List Act3) : evLaw (rcTwins.C N b l) (rcTwins.K N) 0 Try.f4 [.at (.roi .u8 b), .at (.ror 0)] = rcTwins.F N b l := by
  have h : evLaw (rcTwins.C N b l) (rcTwins.K N) 0 Try.f4 [.at (.roi .u8 b), .at (.ror 0)] =
  (obind (Rc.awake.F (N)) fun r0 =>
   (br (!r0)
    (some (false))
    (br (decide (↑b.length > (500 : Int)))
     (some (true))
     (br (decide (↑l.length > (60 : Int)))
      (some (true))
      (chk (([] : List Int).length + b.length ≤ (17592186043904 : Nat))
       (obind (Rc.new.F (N) (([] : List Int) ++ b)) fun r1 =>
        (obind (Rc.new.F (N) (b)) fun r2 =>
         (obind (rcTwins.loop9R N b l (N) ((0 : Int)) (([] : List Int) ++ b)) fun r3 =>
          (osum (rcTwins.loop13R N b l (N) (r1.snd.snd.snd.snd.snd.snd.snd.snd.fst) (r2.snd.snd.snd.snd.snd.snd.snd.snd.fst) (r1.snd.snd.snd.snd.snd.snd.snd.snd.snd) (r2.snd.snd.snd.snd.snd.snd.snd.snd.snd) ((0 : Int)) (r1.fst) (r1.snd.fst) (r1.snd.snd.fst) (r1.snd.snd.snd.fst) (r1.snd.snd.snd.snd.fst) (r1.snd.snd.snd.snd.snd.fst) (r1.snd.snd.snd.snd.snd.snd.fst) (r1.snd.snd.snd.snd.snd.snd.snd.fst) (r2.fst) (r2.snd.fst) (r2.snd.snd.fst) (r2.snd.snd.snd.fst) (r2.snd.snd.snd.snd.fst) (r2.snd.snd.snd.snd.snd.fst) (r2.snd.snd.snd.snd.snd.snd.fst) (r2.snd.snd.snd.snd.snd.snd.snd.fst) (false)) fun r4 =>
           (some (true))))))))))) := by kernel_rfl
  rw [h, rcTwins.F]
  try simp only [rcTwins.loop9_eq N b l, rcTwins.loop13_eq N b l]
theorem rcTwins.cok (N : Nat) (b : List Int) (l : List Act3) : CfgOK (rcTwins.C N b l) := ⟨actTabK_ok l, wide, by
  simp only [rcTwins.C, List.mem_cons, List.not_mem_nil, or_false, forall_eq_or_imp, forall_eq, false_imp_iff, implies_true]
  exact ⟨⟨awake.ok, by kernel_rfl⟩, ⟨new.ok, by kernel_rfl⟩, ⟨icdf.ok, by kernel_rfl⟩, ⟨symbol.ok, by kernel_rfl⟩, ⟨bits.ok, by kernel_rfl⟩, ⟨tell.ok, by kernel_rfl⟩⟩⟩
theorem rcTwins.aok (N : Nat) : AnnsOK (rcTwins.K N) := by
  intro q hq
  simp only [rcTwins.K, List.mem_cons, List.not_mem_nil, or_false] at hq
  rcases hq with rfl | rfl
  · exact fun _ _ => ⟨rfl, rfl⟩
  · exact fun _ _ => ⟨rfl, rfl⟩
theorem rcTwins.walk {w : World} {N : Nat} (b : List Int) (l : List Act3) {cargs : Array Value} (ha : All2 (RV (actTabK l) (lawE w)) [.at (.roi .u8 b), .at (.ror 0)] cargs.toList) (h : rcTwins.F N b l = some true) :
    Calls Try.prog 4 cargs w fun e w' => e = .returned (.bool true) ∧ Frm w (fun _ => False) w' :=
  law_sound (C := rcTwins.C N b l) (K := rcTwins.K N) (d := 0) (fn := Try.f4) (rcTwins.cok N b l) (fun q hq => by simp [rcTwins.C] at hq) (rcTwins.aok N) (by kernel_rfl) ha ((rcTwins.F_eq N b l).trans h)

noncomputable def rcRaw.C (N : Nat) (b : List Int) (l : List Int) : Cfg := { P := Try.prog, N := N, RT := noRT, specs := [(30, awake.spec), (31, new.spec), (35, bits.spec), (34, tell.spec)], inl := [], hi := 0, mv := [] }
abbrev rcRaw.loop8.R : Type := Int × Int × Int × Int × Bool
noncomputable def rcRaw.loop8.ann : Ann := { nx := 20, slots := [(0, .at (.froi .u8 0)), (1, .at (.froi .i64 1)), (4, .at (.bool 0)), (5, .at (.ptr 0 0)), (6, .at (.int .i64 0)), (7, .at (.int .i64 1))], blks := [(0, .cells 10 [.full 1 false, .fint .u64 0, .fint .u64 1, .fint .u64 2, .fint .i64 3, .int .i64 2, .int .u64 3, .int .i64 4, .int .i64 5, .fbool 0]), (1, .fints false .u8 2)], mov := [], exId := 0, xslots := [(5, .at (.ptr 0 0)), (4, .at (.bool 0))], xblks := [(0, .cells 10 [.full 1 false, .fint .u64 0, .fint .u64 1, .fint .u64 2, .fint .i64 3, .int .i64 0, .int .u64 1, .int .i64 2, .int .i64 3, .fbool 0]), (1, .fints false .u8 2)], T := rcRaw.loop8.R, dec := fun L => (L.i 0, L.i 1, L.i 2, L.i 3, L.b 0), enc := fun r => mkL [r.1, r.2.1, r.2.2.1, r.2.2.2.1] [r.2.2.2.2] [] [], ret := true }
abbrev rcRaw.loop13.R : Type := Int
noncomputable def rcRaw.loop13.ann : Ann := { nx := 20, slots := [(0, .at (.froi .u8 0)), (6, .at (.fint .i64 0)), (8, .at (.fint .i64 1)), (9, .at (.int .i64 0)), (10, .at (.int .i64 1))], blks := [], mov := [], exId := 2, xslots := [(9, .at (.int .i64 0))], xblks := [], T := rcRaw.loop13.R, dec := fun L => (L.i 0), enc := fun r => mkL [r] [] [] [], ret := false }
noncomputable def rcRaw.K (N : Nat) : FCfg := { anns := [(8, rcRaw.loop8.ann), (13, rcRaw.loop13.ann)], unr := [], lits := [], lets := [] }
noncomputable def rcRaw.loop13 (N : Nat) (b : List Int) (l : List Int) : Nat → Int → Int → List Int → Int → Int → Option rcRaw.loop13.R
  | 0, _, _, _, _, _ => none
  | nn + 1, s6, s8, s0, s9, s10 =>
  (br (decide (s10 < s8))
   (br (decide (Go.IntKind.i64.wrap ((Go.IntKind.i64.wrap (s6 + s10)).tdiv (8 : Int)) < ↑s0.length))
    (chk ((0 : Int) ≤ Go.IntKind.i64.wrap (Go.IntKind.i64.wrap (↑s0.length - (1 : Int)) - Go.IntKind.i64.wrap ((Go.IntKind.i64.wrap (s6 + s10)).tdiv (8 : Int))) ∧ Go.IntKind.i64.wrap (Go.IntKind.i64.wrap (↑s0.length - (1 : Int)) - Go.IntKind.i64.wrap ((Go.IntKind.i64.wrap (s6 + s10)).tdiv (8 : Int))) < ↑s0.length)
     (chk ((0 : Int) ≤ Go.IntKind.u64.wrap ((Go.IntKind.i64.wrap (s6 + s10)).tmod (8 : Int)))
      (chk ((0 : Int) ≤ Go.IntKind.u64.wrap s10)
       (chkL (s0) (s0)
       (chkI (s6) (s6)
       (chkI (s8) (s8)
       (rcRaw.loop13 N b l (nn) (s6) (s8) (s0) (Go.IntKind.i64.wrap ↑(BitVec.ofInt Go.IntKind.i64.bits s9 ||| BitVec.ofInt Go.IntKind.i64.bits (Go.IntKind.i64.wrap (Go.IntKind.i64.wrap (Go.IntKind.u8.wrap ↑(BitVec.ofInt Go.IntKind.u8.bits ((s0.getD (Go.IntKind.i64.wrap (Go.IntKind.i64.wrap (↑s0.length - (1 : Int)) - Go.IntKind.i64.wrap ((Go.IntKind.i64.wrap (s6 + s10)).tdiv (8 : Int)))).toNat (0 : Int)).fdiv ((2 : Int) ^ min (Go.IntKind.u64.wrap ((Go.IntKind.i64.wrap (s6 + s10)).tmod (8 : Int))).toNat Go.IntKind.u8.bits)) &&& BitVec.ofInt Go.IntKind.u8.bits (1 : Int)).toNat) * (2 : Int) ^ min (Go.IntKind.u64.wrap s10).toNat Go.IntKind.i64.bits))).toNat) (Go.IntKind.i64.wrap (s10 + (1 : Int))))))))))
    (chkL (s0) (s0)
    (chkI (s6) (s6)
    (chkI (s8) (s8)
    (rcRaw.loop13 N b l (nn) (s6) (s8) (s0) (s9) (Go.IntKind.i64.wrap (s10 + (1 : Int))))))))
   (some (s9)))
noncomputable def rcRaw.loop13R (N : Nat) (b : List Int) (l : List Int) (nn : Nat) (s6 : Int) (s8 : Int) (s0 : List Int) (s9 : Int) (s10 : Int) : Option rcRaw.loop13.R := loopF rcRaw.loop13.ann (mkL [s6, s8] [] [s0] []) (evCode ((rcRaw.C N b l).inLoop rcRaw.loop13.ann) (rcRaw.K N) (inlTab (rcRaw.C N b l) 0) (bodyAt 13 Try.f5)) nn (mkL [s9, s10] [] [] [])
theorem rcRaw.loop13_eq (N : Nat) (b : List Int) (l : List Int) : ∀ (nn : Nat) (s6 : Int) (s8 : Int) (s0 : List Int) (s9 : Int) (s10 : Int), rcRaw.loop13R N b l nn s6 s8 s0 s9 s10 = rcRaw.loop13 N b l nn s6 s8 s0 s9 s10
  | 0, _, _, _, _, _ => by kernel_rfl
  | nn + 1, s6, s8, s0, s9, s10 => by
    have h : rcRaw.loop13R N b l (nn + 1) s6 s8 s0 s9 s10 =
  (br (decide (s10 < s8))
   (br (decide (Go.IntKind.i64.wrap ((Go.IntKind.i64.wrap (s6 + s10)).tdiv (8 : Int)) < ↑s0.length))
    (chk ((0 : Int) ≤ Go.IntKind.i64.wrap (Go.IntKind.i64.wrap (↑s0.length - (1 : Int)) - Go.IntKind.i64.wrap ((Go.IntKind.i64.wrap (s6 + s10)).tdiv (8 : Int))) ∧ Go.IntKind.i64.wrap (Go.IntKind.i64.wrap (↑s0.length - (1 : Int)) - Go.IntKind.i64.wrap ((Go.IntKind.i64.wrap (s6 + s10)).tdiv (8 : Int))) < ↑s0.length)
     (chk ((0 : Int) ≤ Go.IntKind.u64.wrap ((Go.IntKind.i64.wrap (s6 + s10)).tmod (8 : Int)))
      (chk ((0 : Int) ≤ Go.IntKind.u64.wrap s10)
       (chkL (s0) (s0)
       (chkI (s6) (s6)
       (chkI (s8) (s8)
       (rcRaw.loop13R N b l (nn) (s6) (s8) (s0) (Go.IntKind.i64.wrap ↑(BitVec.ofInt Go.IntKind.i64.bits s9 ||| BitVec.ofInt Go.IntKind.i64.bits (Go.IntKind.i64.wrap (Go.IntKind.i64.wrap (Go.IntKind.u8.wrap ↑(BitVec.ofInt Go.IntKind.u8.bits ((s0.getD (Go.IntKind.i64.wrap (Go.IntKind.i64.wrap (↑s0.length - (1 : Int)) - Go.IntKind.i64.wrap ((Go.IntKind.i64.wrap (s6 + s10)).tdiv (8 : Int)))).toNat (0 : Int)).fdiv ((2 : Int) ^ min (Go.IntKind.u64.wrap ((Go.IntKind.i64.wrap (s6 + s10)).tmod (8 : Int))).toNat Go.IntKind.u8.bits)) &&& BitVec.ofInt Go.IntKind.u8.bits (1 : Int)).toNat) * (2 : Int) ^ min (Go.IntKind.u64.wrap s10).toNat Go.IntKind.i64.bits))).toNat) (Go.IntKind.i64.wrap (s10 + (1 : Int))))))))))
    (chkL (s0) (s0)
    (chkI (s6) (s6)
    (chkI (s8) (s8)
    (rcRaw.loop13R N b l (nn) (s6) (s8) (s0) (s9) (Go.IntKind.i64.wrap (s10 + (1 : Int))))))))
   (some (s9))) := by kernel_rfl
    rw [h, rcRaw.loop13]
    try simp only [rcRaw.loop13_eq N b l nn]
noncomputable def rcRaw.loop8 (N : Nat) (b : List Int) (l : List Int) : Nat → Int → Int → Int → Int → Bool → List Int → List Int → List Int → Int → Int → Int → Int → Int → Int → Bool → Option (rcRaw.loop8.R ⊕ Bool)
  | 0, _, _, _, _, _, _, _, _, _, _, _, _, _, _, _ => none
  | nn + 1, rng, val, last, front, bad, s0, s1, l1, s6, s7, back, window, waiting, count, s4 =>
  (br (decide (s7 < ↑s1.length))
   (chk ((0 : Int) ≤ s7 ∧ s7 < ↑s1.length)
    (obind (rcRaw.loop13 N b l (N) (s6) (Go.IntKind.i64.wrap ↑(BitVec.ofInt Go.IntKind.i64.bits (s1.getD s7.toNat (0 : Int)) &&& BitVec.ofInt Go.IntKind.i64.bits (15 : Int)).toNat) (s0) ((0 : Int)) ((0 : Int))) fun r0 =>
     (obind (Rc.bits.F (N) (Go.IntKind.i64.wrap ↑(BitVec.ofInt Go.IntKind.i64.bits (s1.getD s7.toNat (0 : Int)) &&& BitVec.ofInt Go.IntKind.i64.bits (15 : Int)).toNat) (rng) (val) (last) (front) (back) (window) (waiting) (count) (bad) (l1)) fun r1 =>
      (br (r1.fst != r0)
       (omap
        (some (false)) .inr)
       (obind (Rc.tell.F (N) (rng) (val) (last) (front) (r1.snd.fst) (r1.snd.snd.fst) (r1.snd.snd.snd.fst) (r1.snd.snd.snd.snd) (bad) (l1)) fun r2 =>
        (br (r2 != Go.IntKind.i64.wrap ((1 : Int) + Go.IntKind.i64.wrap (s6 + Go.IntKind.i64.wrap ↑(BitVec.ofInt Go.IntKind.i64.bits (s1.getD s7.toNat (0 : Int)) &&& BitVec.ofInt Go.IntKind.i64.bits (15 : Int)).toNat)))
         (omap
          (some (false)) .inr)
         (chkL (s0) (s0)
         (chkL (s1) (s1)
         (chkI (rng) (rng)
         (chkI (val) (val)
         (chkI (last) (last)
         (chkI (front) (front)
         (chkB (bad) (bad)
         (chkL (l1) (l1)
         (rcRaw.loop8 N b l (nn) (rng) (val) (last) (front) (bad) (s0) (s1) (l1) (Go.IntKind.i64.wrap (s6 + Go.IntKind.i64.wrap ↑(BitVec.ofInt Go.IntKind.i64.bits (s1.getD s7.toNat (0 : Int)) &&& BitVec.ofInt Go.IntKind.i64.bits (15 : Int)).toNat)) (Go.IntKind.i64.wrap (s7 + (1 : Int))) (r1.snd.fst) (r1.snd.snd.fst) (r1.snd.snd.snd.fst) (r1.snd.snd.snd.snd) (s4))))))))))))))))
   (chkI (rng) (rng)
   (chkI (val) (val)
   (chkI (last) (last)
   (chkI (front) (front)
   (chkB (bad) (bad)
   (chkL (l1) (l1)
   (some (Sum.inl (back, window, waiting, count, s4))))))))))
noncomputable def rcRaw.loop8R (N : Nat) (b : List Int) (l : List Int) (nn : Nat) (rng : Int) (val : Int) (last : Int) (front : Int) (bad : Bool) (s0 : List Int) (s1 : List Int) (l1 : List Int) (s6 : Int) (s7 : Int) (back : Int) (window : Int) (waiting : Int) (count : Int) (s4 : Bool) : Option (rcRaw.loop8.R ⊕ Bool) := loopR rcRaw.loop8.ann (mkL [rng, val, last, front] [bad] [s0, s1, l1] []) (evCode ((rcRaw.C N b l).inLoop rcRaw.loop8.ann) (rcRaw.K N) (inlTab (rcRaw.C N b l) 0) (bodyAt 8 Try.f5)) (lawKr Try.f5) nn (mkL [s6, s7, back, window, waiting, count] [s4] [] [])
theorem rcRaw.loop8_eq (N : Nat) (b : List Int) (l : List Int) : ∀ (nn : Nat) (rng : Int) (val : Int) (last : Int) (front : Int) (bad : Bool) (s0 : List Int) (s1 : List Int) (l1 : List Int) (s6 : Int) (s7 : Int) (back : Int) (window : Int) (waiting : Int) (count : Int) (s4 : Bool), rcRaw.loop8R N b l nn rng val last front bad s0 s1 l1 s6 s7 back window waiting count s4 = rcRaw.loop8 N b l nn rng val last front bad s0 s1 l1 s6 s7 back window waiting count s4
  | 0, _, _, _, _, _, _, _, _, _, _, _, _, _, _, _ => by kernel_rfl
  | nn + 1, rng, val, last, front, bad, s0, s1, l1, s6, s7, back, window, waiting, count, s4 => by
    have h : rcRaw.loop8R N b l (nn + 1) rng val last front bad s0 s1 l1 s6 s7 back window waiting count s4 =
  (br (decide (s7 < ↑s1.length))
   (chk ((0 : Int) ≤ s7 ∧ s7 < ↑s1.length)
    (obind (rcRaw.loop13R N b l (N) (s6) (Go.IntKind.i64.wrap ↑(BitVec.ofInt Go.IntKind.i64.bits (s1.getD s7.toNat (0 : Int)) &&& BitVec.ofInt Go.IntKind.i64.bits (15 : Int)).toNat) (s0) ((0 : Int)) ((0 : Int))) fun r0 =>
     (obind (Rc.bits.F (N) (Go.IntKind.i64.wrap ↑(BitVec.ofInt Go.IntKind.i64.bits (s1.getD s7.toNat (0 : Int)) &&& BitVec.ofInt Go.IntKind.i64.bits (15 : Int)).toNat) (rng) (val) (last) (front) (back) (window) (waiting) (count) (bad) (l1)) fun r1 =>
      (br (r1.fst != r0)
       (omap
        (some (false)) .inr)
       (obind (Rc.tell.F (N) (rng) (val) (last) (front) (r1.snd.fst) (r1.snd.snd.fst) (r1.snd.snd.snd.fst) (r1.snd.snd.snd.snd) (bad) (l1)) fun r2 =>
        (br (r2 != Go.IntKind.i64.wrap ((1 : Int) + Go.IntKind.i64.wrap (s6 + Go.IntKind.i64.wrap ↑(BitVec.ofInt Go.IntKind.i64.bits (s1.getD s7.toNat (0 : Int)) &&& BitVec.ofInt Go.IntKind.i64.bits (15 : Int)).toNat)))
         (omap
          (some (false)) .inr)
         (chkL (s0) (s0)
         (chkL (s1) (s1)
         (chkI (rng) (rng)
         (chkI (val) (val)
         (chkI (last) (last)
         (chkI (front) (front)
         (chkB (bad) (bad)
         (chkL (l1) (l1)
         (rcRaw.loop8R N b l (nn) (rng) (val) (last) (front) (bad) (s0) (s1) (l1) (Go.IntKind.i64.wrap (s6 + Go.IntKind.i64.wrap ↑(BitVec.ofInt Go.IntKind.i64.bits (s1.getD s7.toNat (0 : Int)) &&& BitVec.ofInt Go.IntKind.i64.bits (15 : Int)).toNat)) (Go.IntKind.i64.wrap (s7 + (1 : Int))) (r1.snd.fst) (r1.snd.snd.fst) (r1.snd.snd.snd.fst) (r1.snd.snd.snd.snd) (s4))))))))))))))))
   (chkI (rng) (rng)
   (chkI (val) (val)
   (chkI (last) (last)
   (chkI (front) (front)
   (chkB (bad) (bad)
   (chkL (l1) (l1)
   (some (Sum.inl (back, window, waiting, count, s4)))))))))) := by kernel_rfl
    rw [h, rcRaw.loop8]
    try simp only [rcRaw.loop8_eq N b l nn, rcRaw.loop13_eq N b l]
noncomputable def rcRaw.F (N : Nat) (b : List Int) (l : List Int) : Option Bool :=
  (obind (Rc.awake.F (N)) fun r0 =>
   (br (!r0)
    (some (false))
    (br (decide (↑b.length > (200 : Int)))
     (some (true))
     (br (decide (↑l.length > (100 : Int)))
      (some (true))
      (obind (Rc.new.F (N) (b)) fun r1 =>
       (osum (rcRaw.loop8 N b l (N) (r1.fst) (r1.snd.fst) (r1.snd.snd.fst) (r1.snd.snd.snd.fst) (r1.snd.snd.snd.snd.snd.snd.snd.snd.fst) (b) (l) (r1.snd.snd.snd.snd.snd.snd.snd.snd.snd) ((0 : Int)) ((0 : Int)) (r1.snd.snd.snd.snd.fst) (r1.snd.snd.snd.snd.snd.fst) (r1.snd.snd.snd.snd.snd.snd.fst) (r1.snd.snd.snd.snd.snd.snd.snd.fst) (false)) fun r2 =>
        (some (true))))))))
theorem rcRaw.F_eq (N : Nat) (b : List Int) (l : List Int) : evLaw (rcRaw.C N b l) (rcRaw.K N) 0 Try.f5 [.at (.roi .u8 b), .at (.roi .i64 l)] = rcRaw.F N b l := by
  have h : evLaw (rcRaw.C N b l) (rcRaw.K N) 0 Try.f5 [.at (.roi .u8 b), .at (.roi .i64 l)] =
  (obind (Rc.awake.F (N)) fun r0 =>
   (br (!r0)
    (some (false))
    (br (decide (↑b.length > (200 : Int)))
     (some (true))
     (br (decide (↑l.length > (100 : Int)))
      (some (true))
      (obind (Rc.new.F (N) (b)) fun r1 =>
       (osum (rcRaw.loop8R N b l (N) (r1.fst) (r1.snd.fst) (r1.snd.snd.fst) (r1.snd.snd.snd.fst) (r1.snd.snd.snd.snd.snd.snd.snd.snd.fst) (b) (l) (r1.snd.snd.snd.snd.snd.snd.snd.snd.snd) ((0 : Int)) ((0 : Int)) (r1.snd.snd.snd.snd.fst) (r1.snd.snd.snd.snd.snd.fst) (r1.snd.snd.snd.snd.snd.snd.fst) (r1.snd.snd.snd.snd.snd.snd.snd.fst) (false)) fun r2 =>
        (some (true)))))))) := by kernel_rfl
  rw [h, rcRaw.F]
  try simp only [rcRaw.loop8_eq N b l, rcRaw.loop13_eq N b l]
theorem rcRaw.cok (N : Nat) (b : List Int) (l : List Int) : CfgOK (rcRaw.C N b l) := ⟨fun _ _ _ _ h => by simp [rcRaw.C, noRT] at h, wide, by
  simp only [rcRaw.C, List.mem_cons, List.not_mem_nil, or_false, forall_eq_or_imp, forall_eq, false_imp_iff, implies_true]
  exact ⟨⟨awake.ok, by kernel_rfl⟩, ⟨new.ok, by kernel_rfl⟩, ⟨bits.ok, by kernel_rfl⟩, ⟨tell.ok, by kernel_rfl⟩⟩⟩
theorem rcRaw.aok (N : Nat) : AnnsOK (rcRaw.K N) := by
  intro q hq
  simp only [rcRaw.K, List.mem_cons, List.not_mem_nil, or_false] at hq
  rcases hq with rfl | rfl
  · exact fun _ _ => ⟨rfl, rfl⟩
  · exact fun _ _ => ⟨rfl, rfl⟩
theorem rcRaw.walk {w : World} {N : Nat} (b : List Int) (l : List Int) {cargs : Array Value} (ha : All2 (RV noRT (lawE w)) [.at (.roi .u8 b), .at (.roi .i64 l)] cargs.toList) (h : rcRaw.F N b l = some true) :
    Calls Try.prog 5 cargs w fun e w' => e = .returned (.bool true) ∧ Frm w (fun _ => False) w' :=
  law_sound (C := rcRaw.C N b l) (K := rcRaw.K N) (d := 0) (fn := Try.f5) (rcRaw.cok N b l) (fun q hq => by simp [rcRaw.C] at hq) (rcRaw.aok N) (by kernel_rfl) ha ((rcRaw.F_eq N b l).trans h)

noncomputable def rcEnd.C (N : Nat) (b : List Int) (l : List Act3) : Cfg := { P := Try.prog, N := N, RT := (actTabK l), specs := [(30, awake.spec), (31, new.spec), (32, icdf.spec), (33, symbol.spec), (36, flag.spec), (34, tell.spec)], inl := [], hi := 0, mv := [] }
abbrev rcEnd.loop8.R : Type := Int × Int × Int × Int × Int × Int × Int × Int × Int × Int × Bool
noncomputable def rcEnd.loop8.ann : Ann := { nx := 20, slots := [(1, .at (.ror 0)), (4, .at (.bool 0)), (5, .at (.ptr 0 0)), (6, .at (.ptr 5 0)), (7, .at (.int .i64 0))], blks := [(0, .cells 10 [.full 1 false, .int .u64 1, .int .u64 2, .int .u64 3, .int .i64 4, .fint .i64 0, .fint .u64 1, .fint .i64 2, .int .i64 5, .fbool 0]), (1, .fints false .u8 0), (5, .cells 10 [.full 6 false, .int .u64 6, .int .u64 7, .int .u64 8, .int .i64 9, .fint .i64 3, .fint .u64 4, .fint .i64 5, .int .i64 10, .fbool 1]), (6, .fints false .u8 1)], mov := [], exId := 0, xslots := [(5, .at (.ptr 0 0)), (6, .at (.ptr 5 0)), (4, .at (.bool 0))], xblks := [(0, .cells 10 [.full 1 false, .int .u64 0, .int .u64 1, .int .u64 2, .int .i64 3, .fint .i64 0, .fint .u64 1, .fint .i64 2, .int .i64 4, .fbool 0]), (1, .fints false .u8 0), (5, .cells 10 [.full 6 false, .int .u64 5, .int .u64 6, .int .u64 7, .int .i64 8, .fint .i64 3, .fint .u64 4, .fint .i64 5, .int .i64 9, .fbool 1]), (6, .fints false .u8 1)], T := rcEnd.loop8.R, dec := fun L => (L.i 0, L.i 1, L.i 2, L.i 3, L.i 4, L.i 5, L.i 6, L.i 7, L.i 8, L.i 9, L.b 0), enc := fun r => mkL [r.1, r.2.1, r.2.2.1, r.2.2.2.1, r.2.2.2.2.1, r.2.2.2.2.2.1, r.2.2.2.2.2.2.1, r.2.2.2.2.2.2.2.1, r.2.2.2.2.2.2.2.2.1, r.2.2.2.2.2.2.2.2.2.1] [r.2.2.2.2.2.2.2.2.2.2] [] [], ret := true }
noncomputable def rcEnd.K (N : Nat) : FCfg := { anns := [(8, rcEnd.loop8.ann)], unr := [], lits := [], lets := [] }
noncomputable def rcEnd.loop8 (N : Nat) (b : List Int) (l : List Act3) : Nat → Int → Int → Int → Int → Int → Int → Bool → Bool → List Int → List Int → Int → Int → Int → Int → Int → Int → Int → Int → Int → Int → Int → Bool → Option (rcEnd.loop8.R ⊕ Bool)
  | 0, _, _, _, _, _, _, _, _, _, _, _, _, _, _, _, _, _, _, _, _, _, _ => none
  | nn + 1, back, window, waiting, back2, window2, waiting2, bad, bad2, l1, l6, s7, rng, val, last, front, count, rng2, val2, last2, front2, count2, s4 =>
  (br (decide (s7 < ↑l.length))
   (chk ((0 : Int) ≤ s7 ∧ s7 < ↑l.length)
    (obind (Rc.icdf.F (N) (Go.IntKind.i64.wrap ↑(BitVec.ofInt Go.IntKind.i64.bits (l.getD s7.toNat Go.Proofs.Rc.Act3.nil).n &&& BitVec.ofInt Go.IntKind.i64.bits (7 : Int)).toNat)) fun r0 =>
     (obind (Rc.symbol.F (N) (rng) (val) (last) (front) (back) (window) (waiting) (count) (bad) (r0) (l1)) fun r1 =>
      (obind (Rc.symbol.F (N) (rng2) (val2) (last2) (front2) (back2) (window2) (waiting2) (count2) (bad2) (r0) (l6)) fun r2 =>
       (br (r1.fst != r2.fst)
        (omap
         (some (false)) .inr)
        (chk ((0 : Int) ≤ s7 ∧ s7 < ↑l.length)
         (obind (Rc.flag.F (N) (Go.IntKind.i64.wrap ((1 : Int) + Go.IntKind.i64.wrap ↑(BitVec.ofInt Go.IntKind.i64.bits (l.getD s7.toNat Go.Proofs.Rc.Act3.nil).m &&& BitVec.ofInt Go.IntKind.i64.bits (7 : Int)).toNat)) (r1.snd.fst) (r1.snd.snd.fst) (r1.snd.snd.snd.fst) (r1.snd.snd.snd.snd.fst) (back) (window) (waiting) (r1.snd.snd.snd.snd.snd) (bad) (l1)) fun r3 =>
          (chk ((0 : Int) ≤ s7 ∧ s7 < ↑l.length)
           (obind (Rc.flag.F (N) (Go.IntKind.i64.wrap ((1 : Int) + Go.IntKind.i64.wrap ↑(BitVec.ofInt Go.IntKind.i64.bits (l.getD s7.toNat Go.Proofs.Rc.Act3.nil).m &&& BitVec.ofInt Go.IntKind.i64.bits (7 : Int)).toNat)) (r2.snd.fst) (r2.snd.snd.fst) (r2.snd.snd.snd.fst) (r2.snd.snd.snd.snd.fst) (back2) (window2) (waiting2) (r2.snd.snd.snd.snd.snd) (bad2) (l6)) fun r4 =>
            (br (!r3.snd.snd.snd.snd.snd == r4.snd.snd.snd.snd.snd)
             (omap
              (some (false)) .inr)
             (obind (Rc.tell.F (N) (r3.fst) (r3.snd.fst) (r3.snd.snd.fst) (r3.snd.snd.snd.fst) (back) (window) (waiting) (r3.snd.snd.snd.snd.fst) (bad) (l1)) fun r5 =>
              (obind (Rc.tell.F (N) (r4.fst) (r4.snd.fst) (r4.snd.snd.fst) (r4.snd.snd.snd.fst) (back2) (window2) (waiting2) (r4.snd.snd.snd.snd.fst) (bad2) (l6)) fun r6 =>
               (br (r5 != r6)
                (omap
                 (some (false)) .inr)
                (chkI (back) (back)
                (chkI (window) (window)
                (chkI (waiting) (waiting)
                (chkB (bad) (bad)
                (chkL (l1) (l1)
                (chkI (back2) (back2)
                (chkI (window2) (window2)
                (chkI (waiting2) (waiting2)
                (chkB (bad2) (bad2)
                (chkL (l6) (l6)
                (rcEnd.loop8 N b l (nn) (back) (window) (waiting) (back2) (window2) (waiting2) (bad) (bad2) (l1) (l6) (Go.IntKind.i64.wrap (s7 + (1 : Int))) (r3.fst) (r3.snd.fst) (r3.snd.snd.fst) (r3.snd.snd.snd.fst) (r3.snd.snd.snd.snd.fst) (r4.fst) (r4.snd.fst) (r4.snd.snd.fst) (r4.snd.snd.snd.fst) (r4.snd.snd.snd.snd.fst) (s4)))))))))))))))))))))))))
   (chkI (back) (back)
   (chkI (window) (window)
   (chkI (waiting) (waiting)
   (chkB (bad) (bad)
   (chkL (l1) (l1)
   (chkI (back2) (back2)
   (chkI (window2) (window2)
   (chkI (waiting2) (waiting2)
   (chkB (bad2) (bad2)
   (chkL (l6) (l6)
   (some (Sum.inl (rng, val, last, front, count, rng2, val2, last2, front2, count2, s4))))))))))))))
noncomputable def rcEnd.loop8R (N : Nat) (b : List Int) (l : List Act3) (nn : Nat) (back : Int) (window : Int) (waiting : Int) (back2 : Int) (window2 : Int) (waiting2 : Int) (bad : Bool) (bad2 : Bool) (l1 : List Int) (l6 : List Int) (s7 : Int) (rng : Int) (val : Int) (last : Int) (front : Int) (count : Int) (rng2 : Int) (val2 : Int) (last2 : Int) (front2 : Int) (count2 : Int) (s4 : Bool) : Option (rcEnd.loop8.R ⊕ Bool) := loopR rcEnd.loop8.ann (mkL [back, window, waiting, back2, window2, waiting2] [bad, bad2] [l1, l6] []) (evCode ((rcEnd.C N b l).inLoop rcEnd.loop8.ann) (rcEnd.K N) (inlTab (rcEnd.C N b l) 0) (bodyAt 8 Try.f6)) (lawKr Try.f6) nn (mkL [s7, rng, val, last, front, count, rng2, val2, last2, front2, count2] [s4] [] [])
theorem rcEnd.loop8_eq (N : Nat) (b : List Int) (l : List Act3) : ∀ (nn : Nat) (back : Int) (window : Int) (waiting : Int) (back2 : Int) (window2 : Int) (waiting2 : Int) (bad : Bool) (bad2 : Bool) (l1 : List Int) (l6 : List Int) (s7 : Int) (rng : Int) (val : Int) (last : Int) (front : Int) (count : Int) (rng2 : Int) (val2 : Int) (last2 : Int) (front2 : Int) (count2 : Int) (s4 : Bool), rcEnd.loop8R N b l nn back window waiting back2 window2 waiting2 bad bad2 l1 l6 s7 rng val last front count rng2 val2 last2 front2 count2 s4 = rcEnd.loop8 N b l nn back window waiting back2 window2 waiting2 bad bad2 l1 l6 s7 rng val last front count rng2 val2 last2 front2 count2 s4
  | 0, _, _, _, _, _, _, _, _, _, _, _, _, _, _, _, _, _, _, _, _, _, _ => by kernel_rfl
  | nn + 1, back, window, waiting, back2, window2, waiting2, bad, bad2, l1, l6, s7, rng, val, last, front, count, rng2, val2, last2, front2, count2, s4 => by
    have h : rcEnd.loop8R N b l (nn + 1) back window waiting back2 window2 waiting2 bad bad2 l1 l6 s7 rng val last front count rng2 val2 last2 front2 count2 s4 =
  (br (decide (s7 < ↑l.length))
   (chk ((0 : Int) ≤ s7 ∧ s7 < ↑l.length)
    (obind (Rc.icdf.F (N) (Go.IntKind.i64.wrap ↑(BitVec.ofInt Go.IntKind.i64.bits (l.getD s7.toNat Go.Proofs.Rc.Act3.nil).n &&& BitVec.ofInt Go.IntKind.i64.bits (7 : Int)).toNat)) fun r0 =>
     (obind (Rc.symbol.F (N) (rng) (val) (last) (front) (back) (window) (waiting) (count) (bad) (r0) (l1)) fun r1 =>
      (obind (Rc.symbol.F (N) (rng2) (val2) (last2) (front2) (back2) (window2) (waiting2) (count2) (bad2) (r0) (l6)) fun r2 =>
       (br (r1.fst != r2.fst)
        (omap
         (some (false)) .inr)
        (chk ((0 : Int) ≤ s7 ∧ s7 < ↑l.length)
         (obind (Rc.flag.F (N) (Go.IntKind.i64.wrap ((1 : Int) + Go.IntKind.i64.wrap ↑(BitVec.ofInt Go.IntKind.i64.bits (l.getD s7.toNat Go.Proofs.Rc.Act3.nil).m &&& BitVec.ofInt Go.IntKind.i64.bits (7 : Int)).toNat)) (r1.snd.fst) (r1.snd.snd.fst) (r1.snd.snd.snd.fst) (r1.snd.snd.snd.snd.fst) (back) (window) (waiting) (r1.snd.snd.snd.snd.snd) (bad) (l1)) fun r3 =>
          (chk ((0 : Int) ≤ s7 ∧ s7 < ↑l.length)
           (obind (Rc.flag.F (N) (Go.IntKind.i64.wrap ((1 : Int) + Go.IntKind.i64.wrap ↑(BitVec.ofInt Go.IntKind.i64.bits (l.getD s7.toNat Go.Proofs.Rc.Act3.nil).m &&& BitVec.ofInt Go.IntKind.i64.bits (7 : Int)).toNat)) (r2.snd.fst) (r2.snd.snd.fst) (r2.snd.snd.snd.fst) (r2.snd.snd.snd.snd.fst) (back2) (window2) (waiting2) (r2.snd.snd.snd.snd.snd) (bad2) (l6)) fun r4 =>
            (br (!r3.snd.snd.snd.snd.snd == r4.snd.snd.snd.snd.snd)
             (omap
              (some (false)) .inr)
             (obind (Rc.tell.F (N) (r3.fst) (r3.snd.fst) (r3.snd.snd.fst) (r3.snd.snd.snd.fst) (back) (window) (waiting) (r3.snd.snd.snd.snd.fst) (bad) (l1)) fun r5 =>
              (obind (Rc.tell.F (N) (r4.fst) (r4.snd.fst) (r4.snd.snd.fst) (r4.snd.snd.snd.fst) (back2) (window2) (waiting2) (r4.snd.snd.snd.snd.fst) (bad2) (l6)) fun r6 =>
               (br (r5 != r6)
                (omap
                 (some (false)) .inr)
                (chkI (back) (back)
                (chkI (window) (window)
                (chkI (waiting) (waiting)
                (chkB (bad) (bad)
                (chkL (l1) (l1)
                (chkI (back2) (back2)
                (chkI (window2) (window2)
                (chkI (waiting2) (waiting2)
                (chkB (bad2) (bad2)
                (chkL (l6) (l6)
                (rcEnd.loop8R N b l (nn) (back) (window) (waiting) (back2) (window2) (waiting2) (bad) (bad2) (l1) (l6) (Go.IntKind.i64.wrap (s7 + (1 : Int))) (r3.fst) (r3.snd.fst) (r3.snd.snd.fst) (r3.snd.snd.snd.fst) (r3.snd.snd.snd.snd.fst) (r4.fst) (r4.snd.fst) (r4.snd.snd.fst) (r4.snd.snd.snd.fst) (r4.snd.snd.snd.snd.fst) (s4)))))))))))))))))))))))))
   (chkI (back) (back)
   (chkI (window) (window)
   (chkI (waiting) (waiting)
   (chkB (bad) (bad)
   (chkL (l1) (l1)
   (chkI (back2) (back2)
   (chkI (window2) (window2)
   (chkI (waiting2) (waiting2)
   (chkB (bad2) (bad2)
   (chkL (l6) (l6)
   (some (Sum.inl (rng, val, last, front, count, rng2, val2, last2, front2, count2, s4)))))))))))))) := by kernel_rfl
    rw [h, rcEnd.loop8]
    try simp only [rcEnd.loop8_eq N b l nn]
noncomputable def rcEnd.F (N : Nat) (b : List Int) (l : List Act3) : Option Bool :=
  (obind (Rc.awake.F (N)) fun r0 =>
   (br (!r0)
    (some (false))
    (br (decide (↑b.length > (100 : Int)))
     (some (true))
     (br (decide (↑l.length > (60 : Int)))
      (some (true))
      (obind (Rc.new.F (N) (b)) fun r1 =>
       (chk (([] : List Int).length + b.length ≤ (17592186043904 : Nat))
        (chk ((([] : List Int) ++ b).length + Int.toNat (60 : Int) ≤ (17592186043904 : Nat))
         (obind (Rc.new.F (N) (([] : List Int) ++ b ++ List.replicate (Int.toNat (60 : Int)) (0 : Int))) fun r2 =>
          (osum (rcEnd.loop8 N b l (N) (r1.snd.snd.snd.snd.fst) (r1.snd.snd.snd.snd.snd.fst) (r1.snd.snd.snd.snd.snd.snd.fst) (r2.snd.snd.snd.snd.fst) (r2.snd.snd.snd.snd.snd.fst) (r2.snd.snd.snd.snd.snd.snd.fst) (r1.snd.snd.snd.snd.snd.snd.snd.snd.fst) (r2.snd.snd.snd.snd.snd.snd.snd.snd.fst) (r1.snd.snd.snd.snd.snd.snd.snd.snd.snd) (r2.snd.snd.snd.snd.snd.snd.snd.snd.snd) ((0 : Int)) (r1.fst) (r1.snd.fst) (r1.snd.snd.fst) (r1.snd.snd.snd.fst) (r1.snd.snd.snd.snd.snd.snd.snd.fst) (r2.fst) (r2.snd.fst) (r2.snd.snd.fst) (r2.snd.snd.snd.fst) (r2.snd.snd.snd.snd.snd.snd.snd.fst) (false)) fun r3 =>
           (some (true)))))))))))
theorem rcEnd.F_eq (N : Nat) (b : List Int) (l : List Act3) : evLaw (rcEnd.C N b l) (rcEnd.K N) 0 Try.f6 [.at (.roi .u8 b), .at (.ror 0)] = rcEnd.F N b l := by
  have h : evLaw (rcEnd.C N b l) (rcEnd.K N) 0 Try.f6 [.at (.roi .u8 b), .at (.ror 0)] =
  (obind (Rc.awake.F (N)) fun r0 =>
   (br (!r0)
    (some (false))
    (br (decide (↑b.length > (100 : Int)))
     (some (true))
     (br (decide (↑l.length > (60 : Int)))
      (some (true))
      (obind (Rc.new.F (N) (b)) fun r1 =>
       (chk (([] : List Int).length + b.length ≤ (17592186043904 : Nat))
        (chk ((([] : List Int) ++ b).length + Int.toNat (60 : Int) ≤ (17592186043904 : Nat))
         (obind (Rc.new.F (N) (([] : List Int) ++ b ++ List.replicate (Int.toNat (60 : Int)) (0 : Int))) fun r2 =>
          (osum (rcEnd.loop8R N b l (N) (r1.snd.snd.snd.snd.fst) (r1.snd.snd.snd.snd.snd.fst) (r1.snd.snd.snd.snd.snd.snd.fst) (r2.snd.snd.snd.snd.fst) (r2.snd.snd.snd.snd.snd.fst) (r2.snd.snd.snd.snd.snd.snd.fst) (r1.snd.snd.snd.snd.snd.snd.snd.snd.fst) (r2.snd.snd.snd.snd.snd.snd.snd.snd.fst) (r1.snd.snd.snd.snd.snd.snd.snd.snd.snd) (r2.snd.snd.snd.snd.snd.snd.snd.snd.snd) ((0 : Int)) (r1.fst) (r1.snd.fst) (r1.snd.snd.fst) (r1.snd.snd.snd.fst) (r1.snd.snd.snd.snd.snd.snd.snd.fst) (r2.fst) (r2.snd.fst) (r2.snd.snd.fst) (r2.snd.snd.snd.fst) (r2.snd.snd.snd.snd.snd.snd.snd.fst) (false)) fun r3 =>
           (some (true))))))))))) := by kernel_rfl
  rw [h, rcEnd.F]
  try simp only [rcEnd.loop8_eq N b l]
theorem rcEnd.cok (N : Nat) (b : List Int) (l : List Act3) : CfgOK (rcEnd.C N b l) := ⟨actTabK_ok l, wide, by
  simp only [rcEnd.C, List.mem_cons, List.not_mem_nil, or_false, forall_eq_or_imp, forall_eq, false_imp_iff, implies_true]
  exact ⟨⟨awake.ok, by kernel_rfl⟩, ⟨new.ok, by kernel_rfl⟩, ⟨icdf.ok, by kernel_rfl⟩, ⟨symbol.ok, by kernel_rfl⟩, ⟨flag.ok, by kernel_rfl⟩, ⟨tell.ok, by kernel_rfl⟩⟩⟩
theorem rcEnd.aok (N : Nat) : AnnsOK (rcEnd.K N) := by
  intro q hq
  simp only [rcEnd.K, List.mem_cons, List.not_mem_nil, or_false] at hq
  subst hq
  exact fun _ _ => ⟨rfl, rfl⟩
theorem rcEnd.walk {w : World} {N : Nat} (b : List Int) (l : List Act3) {cargs : Array Value} (ha : All2 (RV (actTabK l) (lawE w)) [.at (.roi .u8 b), .at (.ror 0)] cargs.toList) (h : rcEnd.F N b l = some true) :
    Calls Try.prog 6 cargs w fun e w' => e = .returned (.bool true) ∧ Frm w (fun _ => False) w' :=
  law_sound (C := rcEnd.C N b l) (K := rcEnd.K N) (d := 0) (fn := Try.f6) (rcEnd.cok N b l) (fun q hq => by simp [rcEnd.C] at hq) (rcEnd.aok N) (by kernel_rfl) ha ((rcEnd.F_eq N b l).trans h)

noncomputable def rcBounds.C (N : Nat) (b : List Int) (l : List Act3) : Cfg := { P := Try.prog, N := N, RT := (actTabK l), specs := [(30, awake.spec), (31, new.spec), (34, tell.spec), (33, symbol.spec), (37, rgood.spec), (35, bits.spec), (38, uint.spec)], inl := [], hi := 0, mv := [] }
abbrev rcBounds.loop8.R : Type := Int × Int × Int × Int × Int × Int × Int × Int × Bool × Bool
noncomputable def rcBounds.loop8.ann : Ann := { nx := 20, slots := [(1, .at (.ror 0)), (4, .at (.bool 0)), (5, .at (.ptr 0 0)), (6, .at (.int .i64 0)), (7, .at (.int .i64 1))], blks := [(0, .cells 10 [.full 1 false, .int .u64 2, .int .u64 3, .int .u64 4, .int .i64 5, .int .i64 6, .int .u64 7, .int .i64 8, .int .i64 9, .bool 1]), (1, .fints false .u8 0)], mov := [], exId := 0, xslots := [(5, .at (.ptr 0 0)), (4, .at (.bool 0))], xblks := [(0, .cells 10 [.full 1 false, .int .u64 0, .int .u64 1, .int .u64 2, .int .i64 3, .int .i64 4, .int .u64 5, .int .i64 6, .int .i64 7, .bool 1]), (1, .fints false .u8 0)], T := rcBounds.loop8.R, dec := fun L => (L.i 0, L.i 1, L.i 2, L.i 3, L.i 4, L.i 5, L.i 6, L.i 7, L.b 0, L.b 1), enc := fun r => mkL [r.1, r.2.1, r.2.2.1, r.2.2.2.1, r.2.2.2.2.1, r.2.2.2.2.2.1, r.2.2.2.2.2.2.1, r.2.2.2.2.2.2.2.1] [r.2.2.2.2.2.2.2.2.1, r.2.2.2.2.2.2.2.2.2] [] [], ret := true }
noncomputable def rcBounds.K (N : Nat) : FCfg := { anns := [(8, rcBounds.loop8.ann)], unr := [], lits := [], lets := [] }
noncomputable def rcBounds.loop8 (N : Nat) (b : List Int) (l : List Act3) : Nat → List Int → Int → Int → Int → Int → Int → Int → Int → Int → Int → Int → Bool → Bool → Option (rcBounds.loop8.R ⊕ Bool)
  | 0, _, _, _, _, _, _, _, _, _, _, _, _, _ => none
  | nn + 1, l1, s6, s7, rng, val, last, front, back, window, waiting, count, s4, bad =>
  (br (decide (s7 < ↑l.length))
   (chk ((0 : Int) ≤ s7 ∧ s7 < ↑l.length)
    (br ((l.getD s7.toNat Go.Proofs.Rc.Act3.nil).op == (0 : Int))
     (obind (Rc.symbol.F (N) (rng) (val) (last) (front) (back) (window) (waiting) (count) (bad) ((l.getD s7.toNat Go.Proofs.Rc.Act3.nil).t) (l1)) fun r0 =>
      (obind (Rc.rgood.F (N) ((l.getD s7.toNat Go.Proofs.Rc.Act3.nil).t)) fun r1 =>
       (br (r1)
        (br (decide (r0.fst < (0 : Int)))
         (omap
          (some (false)) .inr)
         (br (decide (r0.fst ≥ ↑(l.getD s7.toNat Go.Proofs.Rc.Act3.nil).t.length))
          (omap
           (some (false)) .inr)
          (obind (Rc.tell.F (N) (r0.snd.fst) (r0.snd.snd.fst) (r0.snd.snd.snd.fst) (r0.snd.snd.snd.snd.fst) (back) (window) (waiting) (r0.snd.snd.snd.snd.snd) (bad) (l1)) fun r2 =>
           (br (decide (r2 < s6))
            (omap
             (some (false)) .inr)
            (obind (Rc.tell.F (N) (r0.snd.fst) (r0.snd.snd.fst) (r0.snd.snd.snd.fst) (r0.snd.snd.snd.snd.fst) (back) (window) (waiting) (r0.snd.snd.snd.snd.snd) (bad) (l1)) fun r3 =>
             (chkL (l1) (l1)
             (rcBounds.loop8 N b l (nn) (l1) (r3) (Go.IntKind.i64.wrap (s7 + (1 : Int))) (r0.snd.fst) (r0.snd.snd.fst) (r0.snd.snd.snd.fst) (r0.snd.snd.snd.snd.fst) (back) (window) (waiting) (r0.snd.snd.snd.snd.snd) (s4) (bad))))))))
        (br (decide (r0.fst < (0 : Int)))
         (omap
          (some (false)) .inr)
         (br (decide (r0.fst ≥ (1 : Int)))
          (omap
           (some (false)) .inr)
          (obind (Rc.tell.F (N) (r0.snd.fst) (r0.snd.snd.fst) (r0.snd.snd.snd.fst) (r0.snd.snd.snd.snd.fst) (back) (window) (waiting) (r0.snd.snd.snd.snd.snd) (bad) (l1)) fun r4 =>
           (br (decide (r4 < s6))
            (omap
             (some (false)) .inr)
            (obind (Rc.tell.F (N) (r0.snd.fst) (r0.snd.snd.fst) (r0.snd.snd.snd.fst) (r0.snd.snd.snd.snd.fst) (back) (window) (waiting) (r0.snd.snd.snd.snd.snd) (bad) (l1)) fun r5 =>
             (chkL (l1) (l1)
             (rcBounds.loop8 N b l (nn) (l1) (r5) (Go.IntKind.i64.wrap (s7 + (1 : Int))) (r0.snd.fst) (r0.snd.snd.fst) (r0.snd.snd.snd.fst) (r0.snd.snd.snd.snd.fst) (back) (window) (waiting) (r0.snd.snd.snd.snd.snd) (s4) (bad)))))))))))
     (br ((l.getD s7.toNat Go.Proofs.Rc.Act3.nil).op == (2 : Int))
      (obind (Rc.bits.F (N) ((l.getD s7.toNat Go.Proofs.Rc.Act3.nil).n) (rng) (val) (last) (front) (back) (window) (waiting) (count) (bad) (l1)) fun r6 =>
       (br (decide ((l.getD s7.toNat Go.Proofs.Rc.Act3.nil).n ≥ (0 : Int)))
        (br (decide ((l.getD s7.toNat Go.Proofs.Rc.Act3.nil).n ≤ (24 : Int)))
         (chk ((0 : Int) ≤ Go.IntKind.u64.wrap (l.getD s7.toNat Go.Proofs.Rc.Act3.nil).n)
          (br (decide (r6.fst < (0 : Int)))
           (omap
            (some (false)) .inr)
           (br (decide (r6.fst ≥ Go.IntKind.i64.wrap ((1 : Int) * (2 : Int) ^ min (Go.IntKind.u64.wrap (l.getD s7.toNat Go.Proofs.Rc.Act3.nil).n).toNat Go.IntKind.i64.bits)))
            (omap
             (some (false)) .inr)
            (obind (Rc.tell.F (N) (rng) (val) (last) (front) (r6.snd.fst) (r6.snd.snd.fst) (r6.snd.snd.snd.fst) (r6.snd.snd.snd.snd) (bad) (l1)) fun r7 =>
             (br (decide (r7 < s6))
              (omap
               (some (false)) .inr)
              (obind (Rc.tell.F (N) (rng) (val) (last) (front) (r6.snd.fst) (r6.snd.snd.fst) (r6.snd.snd.snd.fst) (r6.snd.snd.snd.snd) (bad) (l1)) fun r8 =>
               (chkL (l1) (l1)
               (rcBounds.loop8 N b l (nn) (l1) (r8) (Go.IntKind.i64.wrap (s7 + (1 : Int))) (rng) (val) (last) (front) (r6.snd.fst) (r6.snd.snd.fst) (r6.snd.snd.snd.fst) (r6.snd.snd.snd.snd) (s4) (bad)))))))))
         (br (decide (r6.fst < (0 : Int)))
          (omap
           (some (false)) .inr)
          (br (decide (r6.fst ≥ (1 : Int)))
           (omap
            (some (false)) .inr)
           (obind (Rc.tell.F (N) (rng) (val) (last) (front) (r6.snd.fst) (r6.snd.snd.fst) (r6.snd.snd.snd.fst) (r6.snd.snd.snd.snd) (bad) (l1)) fun r9 =>
            (br (decide (r9 < s6))
             (omap
              (some (false)) .inr)
             (obind (Rc.tell.F (N) (rng) (val) (last) (front) (r6.snd.fst) (r6.snd.snd.fst) (r6.snd.snd.snd.fst) (r6.snd.snd.snd.snd) (bad) (l1)) fun r10 =>
              (chkL (l1) (l1)
              (rcBounds.loop8 N b l (nn) (l1) (r10) (Go.IntKind.i64.wrap (s7 + (1 : Int))) (rng) (val) (last) (front) (r6.snd.fst) (r6.snd.snd.fst) (r6.snd.snd.snd.fst) (r6.snd.snd.snd.snd) (s4) (bad)))))))))
        (br (decide (r6.fst < (0 : Int)))
         (omap
          (some (false)) .inr)
         (br (decide (r6.fst ≥ (1 : Int)))
          (omap
           (some (false)) .inr)
          (obind (Rc.tell.F (N) (rng) (val) (last) (front) (r6.snd.fst) (r6.snd.snd.fst) (r6.snd.snd.snd.fst) (r6.snd.snd.snd.snd) (bad) (l1)) fun r11 =>
           (br (decide (r11 < s6))
            (omap
             (some (false)) .inr)
            (obind (Rc.tell.F (N) (rng) (val) (last) (front) (r6.snd.fst) (r6.snd.snd.fst) (r6.snd.snd.snd.fst) (r6.snd.snd.snd.snd) (bad) (l1)) fun r12 =>
             (chkL (l1) (l1)
             (rcBounds.loop8 N b l (nn) (l1) (r12) (Go.IntKind.i64.wrap (s7 + (1 : Int))) (rng) (val) (last) (front) (r6.snd.fst) (r6.snd.snd.fst) (r6.snd.snd.snd.fst) (r6.snd.snd.snd.snd) (s4) (bad))))))))))
      (br ((l.getD s7.toNat Go.Proofs.Rc.Act3.nil).op == (3 : Int))
       (obind (Rc.uint.F (N) ((l.getD s7.toNat Go.Proofs.Rc.Act3.nil).n) (rng) (val) (last) (front) (back) (window) (waiting) (count) (bad) (l1)) fun r13 =>
        (br (decide ((l.getD s7.toNat Go.Proofs.Rc.Act3.nil).n ≥ (1 : Int)))
         (br (decide ((l.getD s7.toNat Go.Proofs.Rc.Act3.nil).n ≤ (4294967295 : Int)))
          (br (decide (r13.fst < (0 : Int)))
           (omap
            (some (false)) .inr)
           (br (decide (r13.fst ≥ (l.getD s7.toNat Go.Proofs.Rc.Act3.nil).n))
            (omap
             (some (false)) .inr)
            (obind (Rc.tell.F (N) (r13.snd.fst) (r13.snd.snd.fst) (r13.snd.snd.snd.fst) (r13.snd.snd.snd.snd.fst) (r13.snd.snd.snd.snd.snd.fst) (r13.snd.snd.snd.snd.snd.snd.fst) (r13.snd.snd.snd.snd.snd.snd.snd.fst) (r13.snd.snd.snd.snd.snd.snd.snd.snd.fst) (r13.snd.snd.snd.snd.snd.snd.snd.snd.snd) (l1)) fun r14 =>
             (br (decide (r14 < s6))
              (omap
               (some (false)) .inr)
              (obind (Rc.tell.F (N) (r13.snd.fst) (r13.snd.snd.fst) (r13.snd.snd.snd.fst) (r13.snd.snd.snd.snd.fst) (r13.snd.snd.snd.snd.snd.fst) (r13.snd.snd.snd.snd.snd.snd.fst) (r13.snd.snd.snd.snd.snd.snd.snd.fst) (r13.snd.snd.snd.snd.snd.snd.snd.snd.fst) (r13.snd.snd.snd.snd.snd.snd.snd.snd.snd) (l1)) fun r15 =>
               (chkL (l1) (l1)
               (rcBounds.loop8 N b l (nn) (l1) (r15) (Go.IntKind.i64.wrap (s7 + (1 : Int))) (r13.snd.fst) (r13.snd.snd.fst) (r13.snd.snd.snd.fst) (r13.snd.snd.snd.snd.fst) (r13.snd.snd.snd.snd.snd.fst) (r13.snd.snd.snd.snd.snd.snd.fst) (r13.snd.snd.snd.snd.snd.snd.snd.fst) (r13.snd.snd.snd.snd.snd.snd.snd.snd.fst) (s4) (r13.snd.snd.snd.snd.snd.snd.snd.snd.snd))))))))
          (br (decide (r13.fst < (0 : Int)))
           (omap
            (some (false)) .inr)
           (br (decide (r13.fst ≥ (1 : Int)))
            (omap
             (some (false)) .inr)
            (obind (Rc.tell.F (N) (r13.snd.fst) (r13.snd.snd.fst) (r13.snd.snd.snd.fst) (r13.snd.snd.snd.snd.fst) (r13.snd.snd.snd.snd.snd.fst) (r13.snd.snd.snd.snd.snd.snd.fst) (r13.snd.snd.snd.snd.snd.snd.snd.fst) (r13.snd.snd.snd.snd.snd.snd.snd.snd.fst) (r13.snd.snd.snd.snd.snd.snd.snd.snd.snd) (l1)) fun r16 =>
             (br (decide (r16 < s6))
              (omap
               (some (false)) .inr)
              (obind (Rc.tell.F (N) (r13.snd.fst) (r13.snd.snd.fst) (r13.snd.snd.snd.fst) (r13.snd.snd.snd.snd.fst) (r13.snd.snd.snd.snd.snd.fst) (r13.snd.snd.snd.snd.snd.snd.fst) (r13.snd.snd.snd.snd.snd.snd.snd.fst) (r13.snd.snd.snd.snd.snd.snd.snd.snd.fst) (r13.snd.snd.snd.snd.snd.snd.snd.snd.snd) (l1)) fun r17 =>
               (chkL (l1) (l1)
               (rcBounds.loop8 N b l (nn) (l1) (r17) (Go.IntKind.i64.wrap (s7 + (1 : Int))) (r13.snd.fst) (r13.snd.snd.fst) (r13.snd.snd.snd.fst) (r13.snd.snd.snd.snd.fst) (r13.snd.snd.snd.snd.snd.fst) (r13.snd.snd.snd.snd.snd.snd.fst) (r13.snd.snd.snd.snd.snd.snd.snd.fst) (r13.snd.snd.snd.snd.snd.snd.snd.snd.fst) (s4) (r13.snd.snd.snd.snd.snd.snd.snd.snd.snd)))))))))
         (br (decide (r13.fst < (0 : Int)))
          (omap
           (some (false)) .inr)
          (br (decide (r13.fst ≥ (1 : Int)))
           (omap
            (some (false)) .inr)
           (obind (Rc.tell.F (N) (r13.snd.fst) (r13.snd.snd.fst) (r13.snd.snd.snd.fst) (r13.snd.snd.snd.snd.fst) (r13.snd.snd.snd.snd.snd.fst) (r13.snd.snd.snd.snd.snd.snd.fst) (r13.snd.snd.snd.snd.snd.snd.snd.fst) (r13.snd.snd.snd.snd.snd.snd.snd.snd.fst) (r13.snd.snd.snd.snd.snd.snd.snd.snd.snd) (l1)) fun r18 =>
            (br (decide (r18 < s6))
             (omap
              (some (false)) .inr)
             (obind (Rc.tell.F (N) (r13.snd.fst) (r13.snd.snd.fst) (r13.snd.snd.snd.fst) (r13.snd.snd.snd.snd.fst) (r13.snd.snd.snd.snd.snd.fst) (r13.snd.snd.snd.snd.snd.snd.fst) (r13.snd.snd.snd.snd.snd.snd.snd.fst) (r13.snd.snd.snd.snd.snd.snd.snd.snd.fst) (r13.snd.snd.snd.snd.snd.snd.snd.snd.snd) (l1)) fun r19 =>
              (chkL (l1) (l1)
              (rcBounds.loop8 N b l (nn) (l1) (r19) (Go.IntKind.i64.wrap (s7 + (1 : Int))) (r13.snd.fst) (r13.snd.snd.fst) (r13.snd.snd.snd.fst) (r13.snd.snd.snd.snd.fst) (r13.snd.snd.snd.snd.snd.fst) (r13.snd.snd.snd.snd.snd.snd.fst) (r13.snd.snd.snd.snd.snd.snd.snd.fst) (r13.snd.snd.snd.snd.snd.snd.snd.snd.fst) (s4) (r13.snd.snd.snd.snd.snd.snd.snd.snd.snd))))))))))
       (obind (Rc.tell.F (N) (rng) (val) (last) (front) (back) (window) (waiting) (count) (bad) (l1)) fun r20 =>
        (br (decide (r20 < s6))
         (omap
          (some (false)) .inr)
         (obind (Rc.tell.F (N) (rng) (val) (last) (front) (back) (window) (waiting) (count) (bad) (l1)) fun r21 =>
          (chkL (l1) (l1)
          (rcBounds.loop8 N b l (nn) (l1) (r21) (Go.IntKind.i64.wrap (s7 + (1 : Int))) (rng) (val) (last) (front) (back) (window) (waiting) (count) (s4) (bad))))))))))
   (chkL (l1) (l1)
   (some (Sum.inl (rng, val, last, front, back, window, waiting, count, s4, bad)))))
noncomputable def rcBounds.loop8R (N : Nat) (b : List Int) (l : List Act3) (nn : Nat) (l1 : List Int) (s6 : Int) (s7 : Int) (rng : Int) (val : Int) (last : Int) (front : Int) (back : Int) (window : Int) (waiting : Int) (count : Int) (s4 : Bool) (bad : Bool) : Option (rcBounds.loop8.R ⊕ Bool) := loopR rcBounds.loop8.ann (mkL [] [] [l1] []) (evCode ((rcBounds.C N b l).inLoop rcBounds.loop8.ann) (rcBounds.K N) (inlTab (rcBounds.C N b l) 0) (bodyAt 8 Try.f7)) (lawKr Try.f7) nn (mkL [s6, s7, rng, val, last, front, back, window, waiting, count] [s4, bad] [] [])
theorem rcBounds.loop8_eq (N : Nat) (b : List Int) (l : List Act3) : ∀ (nn : Nat) (l1 : List Int) (s6 : Int) (s7 : Int) (rng : Int) (val : Int) (last : Int) (front : Int) (back : Int) (window : Int) (waiting : Int) (count : Int) (s4 : Bool) (bad : Bool), rcBounds.loop8R N b l nn l1 s6 s7 rng val last front back window waiting count s4 bad = rcBounds.loop8 N b l nn l1 s6 s7 rng val last front back window waiting count s4 bad
  | 0, _, _, _, _, _, _, _, _, _, _, _, _, _ => by kernel_rfl
  | nn + 1, l1, s6, s7, rng, val, last, front, back, window, waiting, count, s4, bad => by
    have h : rcBounds.loop8R N b l (nn + 1) l1 s6 s7 rng val last front back window waiting count s4 bad =
  (br (decide (s7 < ↑l.length))
   (chk ((0 : Int) ≤ s7 ∧ s7 < ↑l.length)
    (br ((l.getD s7.toNat Go.Proofs.Rc.Act3.nil).op == (0 : Int))
     (obind (Rc.symbol.F (N) (rng) (val) (last) (front) (back) (window) (waiting) (count) (bad) ((l.getD s7.toNat Go.Proofs.Rc.Act3.nil).t) (l1)) fun r0 =>
      (obind (Rc.rgood.F (N) ((l.getD s7.toNat Go.Proofs.Rc.Act3.nil).t)) fun r1 =>
       (br (r1)
        (br (decide (r0.fst < (0 : Int)))
         (omap
          (some (false)) .inr)
         (br (decide (r0.fst ≥ ↑(l.getD s7.toNat Go.Proofs.Rc.Act3.nil).t.length))
          (omap
           (some (false)) .inr)
          (obind (Rc.tell.F (N) (r0.snd.fst) (r0.snd.snd.fst) (r0.snd.snd.snd.fst) (r0.snd.snd.snd.snd.fst) (back) (window) (waiting) (r0.snd.snd.snd.snd.snd) (bad) (l1)) fun r2 =>
           (br (decide (r2 < s6))
            (omap
             (some (false)) .inr)
            (obind (Rc.tell.F (N) (r0.snd.fst) (r0.snd.snd.fst) (r0.snd.snd.snd.fst) (r0.snd.snd.snd.snd.fst) (back) (window) (waiting) (r0.snd.snd.snd.snd.snd) (bad) (l1)) fun r3 =>
             (chkL (l1) (l1)
             (rcBounds.loop8R N b l (nn) (l1) (r3) (Go.IntKind.i64.wrap (s7 + (1 : Int))) (r0.snd.fst) (r0.snd.snd.fst) (r0.snd.snd.snd.fst) (r0.snd.snd.snd.snd.fst) (back) (window) (waiting) (r0.snd.snd.snd.snd.snd) (s4) (bad))))))))
        (br (decide (r0.fst < (0 : Int)))
         (omap
          (some (false)) .inr)
         (br (decide (r0.fst ≥ (1 : Int)))
          (omap
           (some (false)) .inr)
          (obind (Rc.tell.F (N) (r0.snd.fst) (r0.snd.snd.fst) (r0.snd.snd.snd.fst) (r0.snd.snd.snd.snd.fst) (back) (window) (waiting) (r0.snd.snd.snd.snd.snd) (bad) (l1)) fun r4 =>
           (br (decide (r4 < s6))
            (omap
             (some (false)) .inr)
            (obind (Rc.tell.F (N) (r0.snd.fst) (r0.snd.snd.fst) (r0.snd.snd.snd.fst) (r0.snd.snd.snd.snd.fst) (back) (window) (waiting) (r0.snd.snd.snd.snd.snd) (bad) (l1)) fun r5 =>
             (chkL (l1) (l1)
             (rcBounds.loop8R N b l (nn) (l1) (r5) (Go.IntKind.i64.wrap (s7 + (1 : Int))) (r0.snd.fst) (r0.snd.snd.fst) (r0.snd.snd.snd.fst) (r0.snd.snd.snd.snd.fst) (back) (window) (waiting) (r0.snd.snd.snd.snd.snd) (s4) (bad)))))))))))
     (br ((l.getD s7.toNat Go.Proofs.Rc.Act3.nil).op == (2 : Int))
      (obind (Rc.bits.F (N) ((l.getD s7.toNat Go.Proofs.Rc.Act3.nil).n) (rng) (val) (last) (front) (back) (window) (waiting) (count) (bad) (l1)) fun r6 =>
       (br (decide ((l.getD s7.toNat Go.Proofs.Rc.Act3.nil).n ≥ (0 : Int)))
        (br (decide ((l.getD s7.toNat Go.Proofs.Rc.Act3.nil).n ≤ (24 : Int)))
         (chk ((0 : Int) ≤ Go.IntKind.u64.wrap (l.getD s7.toNat Go.Proofs.Rc.Act3.nil).n)
          (br (decide (r6.fst < (0 : Int)))
           (omap
            (some (false)) .inr)
           (br (decide (r6.fst ≥ Go.IntKind.i64.wrap ((1 : Int) * (2 : Int) ^ min (Go.IntKind.u64.wrap (l.getD s7.toNat Go.Proofs.Rc.Act3.nil).n).toNat Go.IntKind.i64.bits)))
            (omap
             (some (false)) .inr)
            (obind (Rc.tell.F (N) (rng) (val) (last) (front) (r6.snd.fst) (r6.snd.snd.fst) (r6.snd.snd.snd.fst) (r6.snd.snd.snd.snd) (bad) (l1)) fun r7 =>
             (br (decide (r7 < s6))
              (omap
               (some (false)) .inr)
              (obind (Rc.tell.F (N) (rng) (val) (last) (front) (r6.snd.fst) (r6.snd.snd.fst) (r6.snd.snd.snd.fst) (r6.snd.snd.snd.snd) (bad) (l1)) fun r8 =>
               (chkL (l1) (l1)
               (rcBounds.loop8R N b l (nn) (l1) (r8) (Go.IntKind.i64.wrap (s7 + (1 : Int))) (rng) (val) (last) (front) (r6.snd.fst) (r6.snd.snd.fst) (r6.snd.snd.snd.fst) (r6.snd.snd.snd.snd) (s4) (bad)))))))))
         (br (decide (r6.fst < (0 : Int)))
          (omap
           (some (false)) .inr)
          (br (decide (r6.fst ≥ (1 : Int)))
           (omap
            (some (false)) .inr)
           (obind (Rc.tell.F (N) (rng) (val) (last) (front) (r6.snd.fst) (r6.snd.snd.fst) (r6.snd.snd.snd.fst) (r6.snd.snd.snd.snd) (bad) (l1)) fun r9 =>
            (br (decide (r9 < s6))
             (omap
              (some (false)) .inr)
             (obind (Rc.tell.F (N) (rng) (val) (last) (front) (r6.snd.fst) (r6.snd.snd.fst) (r6.snd.snd.snd.fst) (r6.snd.snd.snd.snd) (bad) (l1)) fun r10 =>
              (chkL (l1) (l1)
              (rcBounds.loop8R N b l (nn) (l1) (r10) (Go.IntKind.i64.wrap (s7 + (1 : Int))) (rng) (val) (last) (front) (r6.snd.fst) (r6.snd.snd.fst) (r6.snd.snd.snd.fst) (r6.snd.snd.snd.snd) (s4) (bad)))))))))
        (br (decide (r6.fst < (0 : Int)))
         (omap
          (some (false)) .inr)
         (br (decide (r6.fst ≥ (1 : Int)))
          (omap
           (some (false)) .inr)
          (obind (Rc.tell.F (N) (rng) (val) (last) (front) (r6.snd.fst) (r6.snd.snd.fst) (r6.snd.snd.snd.fst) (r6.snd.snd.snd.snd) (bad) (l1)) fun r11 =>
           (br (decide (r11 < s6))
            (omap
             (some (false)) .inr)
            (obind (Rc.tell.F (N) (rng) (val) (last) (front) (r6.snd.fst) (r6.snd.snd.fst) (r6.snd.snd.snd.fst) (r6.snd.snd.snd.snd) (bad) (l1)) fun r12 =>
             (chkL (l1) (l1)
             (rcBounds.loop8R N b l (nn) (l1) (r12) (Go.IntKind.i64.wrap (s7 + (1 : Int))) (rng) (val) (last) (front) (r6.snd.fst) (r6.snd.snd.fst) (r6.snd.snd.snd.fst) (r6.snd.snd.snd.snd) (s4) (bad))))))))))
      (br ((l.getD s7.toNat Go.Proofs.Rc.Act3.nil).op == (3 : Int))
       (obind (Rc.uint.F (N) ((l.getD s7.toNat Go.Proofs.Rc.Act3.nil).n) (rng) (val) (last) (front) (back) (window) (waiting) (count) (bad) (l1)) fun r13 =>
        (br (decide ((l.getD s7.toNat Go.Proofs.Rc.Act3.nil).n ≥ (1 : Int)))
         (br (decide ((l.getD s7.toNat Go.Proofs.Rc.Act3.nil).n ≤ (4294967295 : Int)))
          (br (decide (r13.fst < (0 : Int)))
           (omap
            (some (false)) .inr)
           (br (decide (r13.fst ≥ (l.getD s7.toNat Go.Proofs.Rc.Act3.nil).n))
            (omap
             (some (false)) .inr)
            (obind (Rc.tell.F (N) (r13.snd.fst) (r13.snd.snd.fst) (r13.snd.snd.snd.fst) (r13.snd.snd.snd.snd.fst) (r13.snd.snd.snd.snd.snd.fst) (r13.snd.snd.snd.snd.snd.snd.fst) (r13.snd.snd.snd.snd.snd.snd.snd.fst) (r13.snd.snd.snd.snd.snd.snd.snd.snd.fst) (r13.snd.snd.snd.snd.snd.snd.snd.snd.snd) (l1)) fun r14 =>
             (br (decide (r14 < s6))
              (omap
               (some (false)) .inr)
              (obind (Rc.tell.F (N) (r13.snd.fst) (r13.snd.snd.fst) (r13.snd.snd.snd.fst) (r13.snd.snd.snd.snd.fst) (r13.snd.snd.snd.snd.snd.fst) (r13.snd.snd.snd.snd.snd.snd.fst) (r13.snd.snd.snd.snd.snd.snd.snd.fst) (r13.snd.snd.snd.snd.snd.snd.snd.snd.fst) (r13.snd.snd.snd.snd.snd.snd.snd.snd.snd) (l1)) fun r15 =>
               (chkL (l1) (l1)
               (rcBounds.loop8R N b l (nn) (l1) (r15) (Go.IntKind.i64.wrap (s7 + (1 : Int))) (r13.snd.fst) (r13.snd.snd.fst) (r13.snd.snd.snd.fst) (r13.snd.snd.snd.snd.fst) (r13.snd.snd.snd.snd.snd.fst) (r13.snd.snd.snd.snd.snd.snd.fst) (r13.snd.snd.snd.snd.snd.snd.snd.fst) (r13.snd.snd.snd.snd.snd.snd.snd.snd.fst) (s4) (r13.snd.snd.snd.snd.snd.snd.snd.snd.snd))))))))
          (br (decide (r13.fst < (0 : Int)))
           (omap
            (some (false)) .inr)
           (br (decide (r13.fst ≥ (1 : Int)))
            (omap
             (some (false)) .inr)
            (obind (Rc.tell.F (N) (r13.snd.fst) (r13.snd.snd.fst) (r13.snd.snd.snd.fst) (r13.snd.snd.snd.snd.fst) (r13.snd.snd.snd.snd.snd.fst) (r13.snd.snd.snd.snd.snd.snd.fst) (r13.snd.snd.snd.snd.snd.snd.snd.fst) (r13.snd.snd.snd.snd.snd.snd.snd.snd.fst) (r13.snd.snd.snd.snd.snd.snd.snd.snd.snd) (l1)) fun r16 =>
             (br (decide (r16 < s6))
              (omap
               (some (false)) .inr)
              (obind (Rc.tell.F (N) (r13.snd.fst) (r13.snd.snd.fst) (r13.snd.snd.snd.fst) (r13.snd.snd.snd.snd.fst) (r13.snd.snd.snd.snd.snd.fst) (r13.snd.snd.snd.snd.snd.snd.fst) (r13.snd.snd.snd.snd.snd.snd.snd.fst) (r13.snd.snd.snd.snd.snd.snd.snd.snd.fst) (r13.snd.snd.snd.snd.snd.snd.snd.snd.snd) (l1)) fun r17 =>
               (chkL (l1) (l1)
               (rcBounds.loop8R N b l (nn) (l1) (r17) (Go.IntKind.i64.wrap (s7 + (1 : Int))) (r13.snd.fst) (r13.snd.snd.fst) (r13.snd.snd.snd.fst) (r13.snd.snd.snd.snd.fst) (r13.snd.snd.snd.snd.snd.fst) (r13.snd.snd.snd.snd.snd.snd.fst) (r13.snd.snd.snd.snd.snd.snd.snd.fst) (r13.snd.snd.snd.snd.snd.snd.snd.snd.fst) (s4) (r13.snd.snd.snd.snd.snd.snd.snd.snd.snd)))))))))
         (br (decide (r13.fst < (0 : Int)))
          (omap
           (some (false)) .inr)
          (br (decide (r13.fst ≥ (1 : Int)))
           (omap
            (some (false)) .inr)
           (obind (Rc.tell.F (N) (r13.snd.fst) (r13.snd.snd.fst) (r13.snd.snd.snd.fst) (r13.snd.snd.snd.snd.fst) (r13.snd.snd.snd.snd.snd.fst) (r13.snd.snd.snd.snd.snd.snd.fst) (r13.snd.snd.snd.snd.snd.snd.snd.fst) (r13.snd.snd.snd.snd.snd.snd.snd.snd.fst) (r13.snd.snd.snd.snd.snd.snd.snd.snd.snd) (l1)) fun r18 =>
            (br (decide (r18 < s6))
             (omap
              (some (false)) .inr)
             (obind (Rc.tell.F (N) (r13.snd.fst) (r13.snd.snd.fst) (r13.snd.snd.snd.fst) (r13.snd.snd.snd.snd.fst) (r13.snd.snd.snd.snd.snd.fst) (r13.snd.snd.snd.snd.snd.snd.fst) (r13.snd.snd.snd.snd.snd.snd.snd.fst) (r13.snd.snd.snd.snd.snd.snd.snd.snd.fst) (r13.snd.snd.snd.snd.snd.snd.snd.snd.snd) (l1)) fun r19 =>
              (chkL (l1) (l1)
              (rcBounds.loop8R N b l (nn) (l1) (r19) (Go.IntKind.i64.wrap (s7 + (1 : Int))) (r13.snd.fst) (r13.snd.snd.fst) (r13.snd.snd.snd.fst) (r13.snd.snd.snd.snd.fst) (r13.snd.snd.snd.snd.snd.fst) (r13.snd.snd.snd.snd.snd.snd.fst) (r13.snd.snd.snd.snd.snd.snd.snd.fst) (r13.snd.snd.snd.snd.snd.snd.snd.snd.fst) (s4) (r13.snd.snd.snd.snd.snd.snd.snd.snd.snd))))))))))
       (obind (Rc.tell.F (N) (rng) (val) (last) (front) (back) (window) (waiting) (count) (bad) (l1)) fun r20 =>
        (br (decide (r20 < s6))
         (omap
          (some (false)) .inr)
         (obind (Rc.tell.F (N) (rng) (val) (last) (front) (back) (window) (waiting) (count) (bad) (l1)) fun r21 =>
          (chkL (l1) (l1)
          (rcBounds.loop8R N b l (nn) (l1) (r21) (Go.IntKind.i64.wrap (s7 + (1 : Int))) (rng) (val) (last) (front) (back) (window) (waiting) (count) (s4) (bad))))))))))
   (chkL (l1) (l1)
   (some (Sum.inl (rng, val, last, front, back, window, waiting, count, s4, bad))))) := by kernel_rfl
    rw [h, rcBounds.loop8]
    try simp only [rcBounds.loop8_eq N b l nn]
noncomputable def rcBounds.F (N : Nat) (b : List Int) (l : List Act3) : Option Bool :=
  (obind (Rc.awake.F (N)) fun r0 =>
   (br (!r0)
    (some (false))
    (br (decide (↑b.length > (2000 : Int)))
     (some (true))
     (br (decide (↑l.length > (100 : Int)))
      (some (true))
      (obind (Rc.new.F (N) (b)) fun r1 =>
       (obind (Rc.tell.F (N) (r1.fst) (r1.snd.fst) (r1.snd.snd.fst) (r1.snd.snd.snd.fst) (r1.snd.snd.snd.snd.fst) (r1.snd.snd.snd.snd.snd.fst) (r1.snd.snd.snd.snd.snd.snd.fst) (r1.snd.snd.snd.snd.snd.snd.snd.fst) (r1.snd.snd.snd.snd.snd.snd.snd.snd.fst) (r1.snd.snd.snd.snd.snd.snd.snd.snd.snd)) fun r2 =>
        (osum (rcBounds.loop8 N b l (N) (r1.snd.snd.snd.snd.snd.snd.snd.snd.snd) (r2) ((0 : Int)) (r1.fst) (r1.snd.fst) (r1.snd.snd.fst) (r1.snd.snd.snd.fst) (r1.snd.snd.snd.snd.fst) (r1.snd.snd.snd.snd.snd.fst) (r1.snd.snd.snd.snd.snd.snd.fst) (r1.snd.snd.snd.snd.snd.snd.snd.fst) (false) (r1.snd.snd.snd.snd.snd.snd.snd.snd.fst)) fun r3 =>
         (some (true)))))))))
theorem rcBounds.F_eq (N : Nat) (b : List Int) (l : List Act3) : evLaw (rcBounds.C N b l) (rcBounds.K N) 0 Try.f7 [.at (.roi .u8 b), .at (.ror 0)] = rcBounds.F N b l := by
  have h : evLaw (rcBounds.C N b l) (rcBounds.K N) 0 Try.f7 [.at (.roi .u8 b), .at (.ror 0)] =
  (obind (Rc.awake.F (N)) fun r0 =>
   (br (!r0)
    (some (false))
    (br (decide (↑b.length > (2000 : Int)))
     (some (true))
     (br (decide (↑l.length > (100 : Int)))
      (some (true))
      (obind (Rc.new.F (N) (b)) fun r1 =>
       (obind (Rc.tell.F (N) (r1.fst) (r1.snd.fst) (r1.snd.snd.fst) (r1.snd.snd.snd.fst) (r1.snd.snd.snd.snd.fst) (r1.snd.snd.snd.snd.snd.fst) (r1.snd.snd.snd.snd.snd.snd.fst) (r1.snd.snd.snd.snd.snd.snd.snd.fst) (r1.snd.snd.snd.snd.snd.snd.snd.snd.fst) (r1.snd.snd.snd.snd.snd.snd.snd.snd.snd)) fun r2 =>
        (osum (rcBounds.loop8R N b l (N) (r1.snd.snd.snd.snd.snd.snd.snd.snd.snd) (r2) ((0 : Int)) (r1.fst) (r1.snd.fst) (r1.snd.snd.fst) (r1.snd.snd.snd.fst) (r1.snd.snd.snd.snd.fst) (r1.snd.snd.snd.snd.snd.fst) (r1.snd.snd.snd.snd.snd.snd.fst) (r1.snd.snd.snd.snd.snd.snd.snd.fst) (false) (r1.snd.snd.snd.snd.snd.snd.snd.snd.fst)) fun r3 =>
         (some (true))))))))) := by kernel_rfl
  rw [h, rcBounds.F]
  try simp only [rcBounds.loop8_eq N b l]
theorem rcBounds.cok (N : Nat) (b : List Int) (l : List Act3) : CfgOK (rcBounds.C N b l) := ⟨actTabK_ok l, wide, by
  simp only [rcBounds.C, List.mem_cons, List.not_mem_nil, or_false, forall_eq_or_imp, forall_eq, false_imp_iff, implies_true]
  exact ⟨⟨awake.ok, by kernel_rfl⟩, ⟨new.ok, by kernel_rfl⟩, ⟨tell.ok, by kernel_rfl⟩, ⟨symbol.ok, by kernel_rfl⟩, ⟨rgood.ok, by kernel_rfl⟩, ⟨bits.ok, by kernel_rfl⟩, ⟨uint.ok, by kernel_rfl⟩⟩⟩
theorem rcBounds.aok (N : Nat) : AnnsOK (rcBounds.K N) := by
  intro q hq
  simp only [rcBounds.K, List.mem_cons, List.not_mem_nil, or_false] at hq
  subst hq
  exact fun _ _ => ⟨rfl, rfl⟩
theorem rcBounds.walk {w : World} {N : Nat} (b : List Int) (l : List Act3) {cargs : Array Value} (ha : All2 (RV (actTabK l) (lawE w)) [.at (.roi .u8 b), .at (.ror 0)] cargs.toList) (h : rcBounds.F N b l = some true) :
    Calls Try.prog 7 cargs w fun e w' => e = .returned (.bool true) ∧ Frm w (fun _ => False) w' :=
  law_sound (C := rcBounds.C N b l) (K := rcBounds.K N) (d := 0) (fn := Try.f7) (rcBounds.cok N b l) (fun q hq => by simp [rcBounds.C] at hq) (rcBounds.aok N) (by kernel_rfl) ha ((rcBounds.F_eq N b l).trans h)

noncomputable def rcReads.C (N : Nat) (b : List Int) (l : List Act3) : Cfg := { P := Try.prog, N := N, RT := (actTabK l), specs := [(30, awake.spec), (31, new.spec), (41, rnew.spec), (33, symbol.spec), (42, rsymbol.spec), (36, flag.spec), (43, rflag.spec), (35, bits.spec), (44, rbits.spec), (38, uint.spec), (45, ruint.spec), (39, laplace.spec), (46, rlaplace.spec), (32, icdf.spec), (34, tell.spec), (47, rtell.spec), (40, badp.spec), (48, rbad.spec)], inl := [], hi := 0, mv := [] }
abbrev rcReads.loop8.R : Type := Int × Int × Int × Int × Int × Int × Int × Int × Int × Int × Int × Int × Int × Int × Int × Int × Int × Bool × Bool × Bool
noncomputable def rcReads.loop8.ann : Ann := { nx := 20, slots := [(1, .at (.ror 0)), (4, .at (.bool 0)), (5, .at (.ptr 2 0)), (6, .at (.ptr 4 0)), (7, .at (.int .i64 0))], blks := [(2, .cells 10 [.full 3 false, .int .u64 1, .int .u64 2, .int .u64 3, .int .i64 4, .int .i64 5, .int .u64 6, .int .i64 7, .int .i64 8, .bool 1]), (3, .fints false .u8 0), (4, .cells 11 [.froi .u8 1, .int .u64 9, .int .u64 10, .int .i64 11, .int .i64 12, .int .i64 13, .int .u64 14, .int .i64 15, .int .i64 16, .bool 2, .int .u64 17])], mov := [], exId := 0, xslots := [(5, .at (.ptr 2 0)), (6, .at (.ptr 4 0)), (4, .at (.bool 0))], xblks := [(2, .cells 10 [.full 3 false, .int .u64 0, .int .u64 1, .int .u64 2, .int .i64 3, .int .i64 4, .int .u64 5, .int .i64 6, .int .i64 7, .bool 1]), (3, .fints false .u8 0), (4, .cells 11 [.froi .u8 1, .int .u64 8, .int .u64 9, .int .i64 10, .int .i64 11, .int .i64 12, .int .u64 13, .int .i64 14, .int .i64 15, .bool 2, .int .u64 16])], T := rcReads.loop8.R, dec := fun L => (L.i 0, L.i 1, L.i 2, L.i 3, L.i 4, L.i 5, L.i 6, L.i 7, L.i 8, L.i 9, L.i 10, L.i 11, L.i 12, L.i 13, L.i 14, L.i 15, L.i 16, L.b 0, L.b 1, L.b 2), enc := fun r => mkL [r.1, r.2.1, r.2.2.1, r.2.2.2.1, r.2.2.2.2.1, r.2.2.2.2.2.1, r.2.2.2.2.2.2.1, r.2.2.2.2.2.2.2.1, r.2.2.2.2.2.2.2.2.1, r.2.2.2.2.2.2.2.2.2.1, r.2.2.2.2.2.2.2.2.2.2.1, r.2.2.2.2.2.2.2.2.2.2.2.1, r.2.2.2.2.2.2.2.2.2.2.2.2.1, r.2.2.2.2.2.2.2.2.2.2.2.2.2.1, r.2.2.2.2.2.2.2.2.2.2.2.2.2.2.1, r.2.2.2.2.2.2.2.2.2.2.2.2.2.2.2.1, r.2.2.2.2.2.2.2.2.2.2.2.2.2.2.2.2.1] [r.2.2.2.2.2.2.2.2.2.2.2.2.2.2.2.2.2.1, r.2.2.2.2.2.2.2.2.2.2.2.2.2.2.2.2.2.2.1, r.2.2.2.2.2.2.2.2.2.2.2.2.2.2.2.2.2.2.2] [] [], ret := true }
noncomputable def rcReads.K (N : Nat) : FCfg := { anns := [(8, rcReads.loop8.ann)], unr := [], lits := [], lets := [] }
noncomputable def rcReads.loop8 (N : Nat) (b : List Int) (l : List Act3) : Nat → List Int → List Int → Int → Int → Int → Int → Int → Int → Int → Int → Int → Int → Int → Int → Int → Int → Int → Int → Int → Int → Bool → Bool → Bool → Option (rcReads.loop8.R ⊕ Bool)
  | 0, _, _, _, _, _, _, _, _, _, _, _, _, _, _, _, _, _, _, _, _, _, _, _ => none
  | nn + 1, l3, rb, s7, rng, val, last, front, back, window, waiting, count, r_rng, r_val, r_last, r_front, r_back, r_wait, r_waiting, r_count, r_e, s4, bad, r_bad =>
  (br (decide (s7 < ↑l.length))
   (chk ((0 : Int) ≤ s7 ∧ s7 < ↑l.length)
    (br ((l.getD s7.toNat Go.Proofs.Rc.Act3.nil).op == (0 : Int))
     (chk (([] : List Int).length + (l.getD s7.toNat Go.Proofs.Rc.Act3.nil).t.length ≤ (17592186043904 : Nat))
      (obind (Rc.symbol.F (N) (rng) (val) (last) (front) (back) (window) (waiting) (count) (bad) (([] : List Int) ++ (l.getD s7.toNat Go.Proofs.Rc.Act3.nil).t) (l3)) fun r0 =>
       (obind (Rc.rsymbol.F (N) (r_rng) (r_val) (r_last) (r_front) (r_back) (r_wait) (r_waiting) (r_count) (r_e) (r_bad) ((l.getD s7.toNat Go.Proofs.Rc.Act3.nil).t) (rb)) fun r1 =>
        (chkL ((l.getD s7.toNat Go.Proofs.Rc.Act3.nil).t) ((l.getD s7.toNat Go.Proofs.Rc.Act3.nil).t)
        (chkL ((l.getD s7.toNat Go.Proofs.Rc.Act3.nil).t) ((l.getD s7.toNat Go.Proofs.Rc.Act3.nil).t)
        (chkL ((l.getD s7.toNat Go.Proofs.Rc.Act3.nil).t) ((l.getD s7.toNat Go.Proofs.Rc.Act3.nil).t)
        (chkL ((l.getD s7.toNat Go.Proofs.Rc.Act3.nil).t) ((l.getD s7.toNat Go.Proofs.Rc.Act3.nil).t)
        (br (!r0.fst == r1.fst)
         (omap
          (some (false)) .inr)
         (obind (Rc.tell.F (N) (r0.snd.fst) (r0.snd.snd.fst) (r0.snd.snd.snd.fst) (r0.snd.snd.snd.snd.fst) (back) (window) (waiting) (r0.snd.snd.snd.snd.snd) (bad) (l3)) fun r2 =>
          (obind (Rc.rtell.F (N) (r1.snd.fst) (r1.snd.snd.fst) (r1.snd.snd.snd.fst) (r1.snd.snd.snd.snd.fst) (r_back) (r_wait) (r_waiting) (r1.snd.snd.snd.snd.snd.fst) (r1.snd.snd.snd.snd.snd.snd) (r_bad) (rb)) fun r3 =>
           (br (r2 != r3)
            (omap
             (some (false)) .inr)
            (obind (Rc.badp.F (N) (r0.snd.fst) (r0.snd.snd.fst) (r0.snd.snd.snd.fst) (r0.snd.snd.snd.snd.fst) (back) (window) (waiting) (r0.snd.snd.snd.snd.snd) (bad) (l3)) fun r4 =>
             (obind (Rc.rbad.F (N) (r1.snd.fst) (r1.snd.snd.fst) (r1.snd.snd.snd.fst) (r1.snd.snd.snd.snd.fst) (r_back) (r_wait) (r_waiting) (r1.snd.snd.snd.snd.snd.fst) (r1.snd.snd.snd.snd.snd.snd) (r_bad) (rb)) fun r5 =>
              (br (!r4 == r5)
               (omap
                (some (false)) .inr)
               (chkL (l3) (l3)
               (chkL (rb) (rb)
               (rcReads.loop8 N b l (nn) (l3) (rb) (Go.IntKind.i64.wrap (s7 + (1 : Int))) (r0.snd.fst) (r0.snd.snd.fst) (r0.snd.snd.snd.fst) (r0.snd.snd.snd.snd.fst) (back) (window) (waiting) (r0.snd.snd.snd.snd.snd) (r1.snd.fst) (r1.snd.snd.fst) (r1.snd.snd.snd.fst) (r1.snd.snd.snd.snd.fst) (r_back) (r_wait) (r_waiting) (r1.snd.snd.snd.snd.snd.fst) (r1.snd.snd.snd.snd.snd.snd) (s4) (bad) (r_bad))))))))))))))))))
     (br ((l.getD s7.toNat Go.Proofs.Rc.Act3.nil).op == (1 : Int))
      (obind (Rc.flag.F (N) ((l.getD s7.toNat Go.Proofs.Rc.Act3.nil).n) (rng) (val) (last) (front) (back) (window) (waiting) (count) (bad) (l3)) fun r6 =>
       (obind (Rc.rflag.F (N) ((l.getD s7.toNat Go.Proofs.Rc.Act3.nil).n) (r_rng) (r_val) (r_last) (r_front) (r_back) (r_wait) (r_waiting) (r_count) (r_e) (r_bad) (rb)) fun r7 =>
        (chkI ((l.getD s7.toNat Go.Proofs.Rc.Act3.nil).n) ((l.getD s7.toNat Go.Proofs.Rc.Act3.nil).n)
        (br (!r6.snd.snd.snd.snd.snd == r7.snd.snd.snd.snd.snd)
         (omap
          (some (false)) .inr)
         (obind (Rc.tell.F (N) (r6.fst) (r6.snd.fst) (r6.snd.snd.fst) (r6.snd.snd.snd.fst) (back) (window) (waiting) (r6.snd.snd.snd.snd.fst) (bad) (l3)) fun r8 =>
          (obind (Rc.rtell.F (N) (r7.fst) (r7.snd.fst) (r7.snd.snd.fst) (r7.snd.snd.snd.fst) (r_back) (r_wait) (r_waiting) (r7.snd.snd.snd.snd.fst) (r_e) (r_bad) (rb)) fun r9 =>
           (br (r8 != r9)
            (omap
             (some (false)) .inr)
            (obind (Rc.badp.F (N) (r6.fst) (r6.snd.fst) (r6.snd.snd.fst) (r6.snd.snd.snd.fst) (back) (window) (waiting) (r6.snd.snd.snd.snd.fst) (bad) (l3)) fun r10 =>
             (obind (Rc.rbad.F (N) (r7.fst) (r7.snd.fst) (r7.snd.snd.fst) (r7.snd.snd.snd.fst) (r_back) (r_wait) (r_waiting) (r7.snd.snd.snd.snd.fst) (r_e) (r_bad) (rb)) fun r11 =>
              (br (!r10 == r11)
               (omap
                (some (false)) .inr)
               (chkL (l3) (l3)
               (chkL (rb) (rb)
               (rcReads.loop8 N b l (nn) (l3) (rb) (Go.IntKind.i64.wrap (s7 + (1 : Int))) (r6.fst) (r6.snd.fst) (r6.snd.snd.fst) (r6.snd.snd.snd.fst) (back) (window) (waiting) (r6.snd.snd.snd.snd.fst) (r7.fst) (r7.snd.fst) (r7.snd.snd.fst) (r7.snd.snd.snd.fst) (r_back) (r_wait) (r_waiting) (r7.snd.snd.snd.snd.fst) (r_e) (s4) (bad) (r_bad))))))))))))))
      (br ((l.getD s7.toNat Go.Proofs.Rc.Act3.nil).op == (2 : Int))
       (obind (Rc.bits.F (N) ((l.getD s7.toNat Go.Proofs.Rc.Act3.nil).n) (rng) (val) (last) (front) (back) (window) (waiting) (count) (bad) (l3)) fun r12 =>
        (obind (Rc.rbits.F (N) ((l.getD s7.toNat Go.Proofs.Rc.Act3.nil).n) (r_rng) (r_val) (r_last) (r_front) (r_back) (r_wait) (r_waiting) (r_count) (r_e) (r_bad) (rb)) fun r13 =>
         (chkI ((l.getD s7.toNat Go.Proofs.Rc.Act3.nil).n) ((l.getD s7.toNat Go.Proofs.Rc.Act3.nil).n)
         (br (!r12.fst == r13.fst)
          (omap
           (some (false)) .inr)
          (obind (Rc.tell.F (N) (rng) (val) (last) (front) (r12.snd.fst) (r12.snd.snd.fst) (r12.snd.snd.snd.fst) (r12.snd.snd.snd.snd) (bad) (l3)) fun r14 =>
           (obind (Rc.rtell.F (N) (r_rng) (r_val) (r_last) (r_front) (r13.snd.fst) (r13.snd.snd.fst) (r13.snd.snd.snd.fst) (r13.snd.snd.snd.snd) (r_e) (r_bad) (rb)) fun r15 =>
            (br (r14 != r15)
             (omap
              (some (false)) .inr)
             (obind (Rc.badp.F (N) (rng) (val) (last) (front) (r12.snd.fst) (r12.snd.snd.fst) (r12.snd.snd.snd.fst) (r12.snd.snd.snd.snd) (bad) (l3)) fun r16 =>
              (obind (Rc.rbad.F (N) (r_rng) (r_val) (r_last) (r_front) (r13.snd.fst) (r13.snd.snd.fst) (r13.snd.snd.snd.fst) (r13.snd.snd.snd.snd) (r_e) (r_bad) (rb)) fun r17 =>
               (br (!r16 == r17)
                (omap
                 (some (false)) .inr)
                (chkL (l3) (l3)
                (chkL (rb) (rb)
                (rcReads.loop8 N b l (nn) (l3) (rb) (Go.IntKind.i64.wrap (s7 + (1 : Int))) (rng) (val) (last) (front) (r12.snd.fst) (r12.snd.snd.fst) (r12.snd.snd.snd.fst) (r12.snd.snd.snd.snd) (r_rng) (r_val) (r_last) (r_front) (r13.snd.fst) (r13.snd.snd.fst) (r13.snd.snd.snd.fst) (r13.snd.snd.snd.snd) (r_e) (s4) (bad) (r_bad))))))))))))))
       (br ((l.getD s7.toNat Go.Proofs.Rc.Act3.nil).op == (3 : Int))
        (obind (Rc.uint.F (N) ((l.getD s7.toNat Go.Proofs.Rc.Act3.nil).n) (rng) (val) (last) (front) (back) (window) (waiting) (count) (bad) (l3)) fun r18 =>
         (obind (Rc.ruint.F (N) ((l.getD s7.toNat Go.Proofs.Rc.Act3.nil).n) (r_rng) (r_val) (r_last) (r_front) (r_back) (r_wait) (r_waiting) (r_count) (r_e) (r_bad) (rb)) fun r19 =>
          (chkI ((l.getD s7.toNat Go.Proofs.Rc.Act3.nil).n) ((l.getD s7.toNat Go.Proofs.Rc.Act3.nil).n)
          (br (!r18.fst == r19.fst)
           (omap
            (some (false)) .inr)
           (obind (Rc.tell.F (N) (r18.snd.fst) (r18.snd.snd.fst) (r18.snd.snd.snd.fst) (r18.snd.snd.snd.snd.fst) (r18.snd.snd.snd.snd.snd.fst) (r18.snd.snd.snd.snd.snd.snd.fst) (r18.snd.snd.snd.snd.snd.snd.snd.fst) (r18.snd.snd.snd.snd.snd.snd.snd.snd.fst) (r18.snd.snd.snd.snd.snd.snd.snd.snd.snd) (l3)) fun r20 =>
            (obind (Rc.rtell.F (N) (r19.snd.fst) (r19.snd.snd.fst) (r19.snd.snd.snd.fst) (r19.snd.snd.snd.snd.fst) (r19.snd.snd.snd.snd.snd.fst) (r19.snd.snd.snd.snd.snd.snd.fst) (r19.snd.snd.snd.snd.snd.snd.snd.fst) (r19.snd.snd.snd.snd.snd.snd.snd.snd.fst) (r19.snd.snd.snd.snd.snd.snd.snd.snd.snd.fst) (r19.snd.snd.snd.snd.snd.snd.snd.snd.snd.snd) (rb)) fun r21 =>
             (br (r20 != r21)
              (omap
               (some (false)) .inr)
              (obind (Rc.badp.F (N) (r18.snd.fst) (r18.snd.snd.fst) (r18.snd.snd.snd.fst) (r18.snd.snd.snd.snd.fst) (r18.snd.snd.snd.snd.snd.fst) (r18.snd.snd.snd.snd.snd.snd.fst) (r18.snd.snd.snd.snd.snd.snd.snd.fst) (r18.snd.snd.snd.snd.snd.snd.snd.snd.fst) (r18.snd.snd.snd.snd.snd.snd.snd.snd.snd) (l3)) fun r22 =>
               (obind (Rc.rbad.F (N) (r19.snd.fst) (r19.snd.snd.fst) (r19.snd.snd.snd.fst) (r19.snd.snd.snd.snd.fst) (r19.snd.snd.snd.snd.snd.fst) (r19.snd.snd.snd.snd.snd.snd.fst) (r19.snd.snd.snd.snd.snd.snd.snd.fst) (r19.snd.snd.snd.snd.snd.snd.snd.snd.fst) (r19.snd.snd.snd.snd.snd.snd.snd.snd.snd.fst) (r19.snd.snd.snd.snd.snd.snd.snd.snd.snd.snd) (rb)) fun r23 =>
                (br (!r22 == r23)
                 (omap
                  (some (false)) .inr)
                 (chkL (l3) (l3)
                 (chkL (rb) (rb)
                 (rcReads.loop8 N b l (nn) (l3) (rb) (Go.IntKind.i64.wrap (s7 + (1 : Int))) (r18.snd.fst) (r18.snd.snd.fst) (r18.snd.snd.snd.fst) (r18.snd.snd.snd.snd.fst) (r18.snd.snd.snd.snd.snd.fst) (r18.snd.snd.snd.snd.snd.snd.fst) (r18.snd.snd.snd.snd.snd.snd.snd.fst) (r18.snd.snd.snd.snd.snd.snd.snd.snd.fst) (r19.snd.fst) (r19.snd.snd.fst) (r19.snd.snd.snd.fst) (r19.snd.snd.snd.snd.fst) (r19.snd.snd.snd.snd.snd.fst) (r19.snd.snd.snd.snd.snd.snd.fst) (r19.snd.snd.snd.snd.snd.snd.snd.fst) (r19.snd.snd.snd.snd.snd.snd.snd.snd.fst) (r19.snd.snd.snd.snd.snd.snd.snd.snd.snd.fst) (s4) (r18.snd.snd.snd.snd.snd.snd.snd.snd.snd) (r19.snd.snd.snd.snd.snd.snd.snd.snd.snd.snd))))))))))))))
        (br ((l.getD s7.toNat Go.Proofs.Rc.Act3.nil).op == (4 : Int))
         (obind (Rc.laplace.F (N) ((l.getD s7.toNat Go.Proofs.Rc.Act3.nil).n) ((l.getD s7.toNat Go.Proofs.Rc.Act3.nil).m) (rng) (val) (last) (front) (back) (window) (waiting) (count) (bad) (l3)) fun r24 =>
          (obind (Rc.rlaplace.F (N) ((l.getD s7.toNat Go.Proofs.Rc.Act3.nil).n) ((l.getD s7.toNat Go.Proofs.Rc.Act3.nil).m) (r_rng) (r_val) (r_last) (r_front) (r_back) (r_wait) (r_waiting) (r_count) (r_e) (r_bad) (rb)) fun r25 =>
           (chkI ((l.getD s7.toNat Go.Proofs.Rc.Act3.nil).m) ((l.getD s7.toNat Go.Proofs.Rc.Act3.nil).m)
           (chkI ((l.getD s7.toNat Go.Proofs.Rc.Act3.nil).n) ((l.getD s7.toNat Go.Proofs.Rc.Act3.nil).n)
           (br (!r24.fst == r25.fst)
            (omap
             (some (false)) .inr)
            (obind (Rc.tell.F (N) (r24.snd.fst) (r24.snd.snd.fst) (r24.snd.snd.snd.fst) (r24.snd.snd.snd.snd.fst) (back) (window) (waiting) (r24.snd.snd.snd.snd.snd) (bad) (l3)) fun r26 =>
             (obind (Rc.rtell.F (N) (r25.snd.fst) (r25.snd.snd.fst) (r25.snd.snd.snd.fst) (r25.snd.snd.snd.snd.fst) (r_back) (r_wait) (r_waiting) (r25.snd.snd.snd.snd.snd.fst) (r25.snd.snd.snd.snd.snd.snd) (r_bad) (rb)) fun r27 =>
              (br (r26 != r27)
               (omap
                (some (false)) .inr)
               (obind (Rc.badp.F (N) (r24.snd.fst) (r24.snd.snd.fst) (r24.snd.snd.snd.fst) (r24.snd.snd.snd.snd.fst) (back) (window) (waiting) (r24.snd.snd.snd.snd.snd) (bad) (l3)) fun r28 =>
                (obind (Rc.rbad.F (N) (r25.snd.fst) (r25.snd.snd.fst) (r25.snd.snd.snd.fst) (r25.snd.snd.snd.snd.fst) (r_back) (r_wait) (r_waiting) (r25.snd.snd.snd.snd.snd.fst) (r25.snd.snd.snd.snd.snd.snd) (r_bad) (rb)) fun r29 =>
                 (br (!r28 == r29)
                  (omap
                   (some (false)) .inr)
                  (chkL (l3) (l3)
                  (chkL (rb) (rb)
                  (rcReads.loop8 N b l (nn) (l3) (rb) (Go.IntKind.i64.wrap (s7 + (1 : Int))) (r24.snd.fst) (r24.snd.snd.fst) (r24.snd.snd.snd.fst) (r24.snd.snd.snd.snd.fst) (back) (window) (waiting) (r24.snd.snd.snd.snd.snd) (r25.snd.fst) (r25.snd.snd.fst) (r25.snd.snd.snd.fst) (r25.snd.snd.snd.snd.fst) (r_back) (r_wait) (r_waiting) (r25.snd.snd.snd.snd.snd.fst) (r25.snd.snd.snd.snd.snd.snd) (s4) (bad) (r_bad)))))))))))))))
         (obind (Rc.icdf.F (N) ((l.getD s7.toNat Go.Proofs.Rc.Act3.nil).n)) fun r30 =>
          (obind (Rc.symbol.F (N) (rng) (val) (last) (front) (back) (window) (waiting) (count) (bad) (r30) (l3)) fun r31 =>
           (obind (Rc.rsymbol.F (N) (r_rng) (r_val) (r_last) (r_front) (r_back) (r_wait) (r_waiting) (r_count) (r_e) (r_bad) (r30) (rb)) fun r32 =>
            (br (!r31.fst == r32.fst)
             (omap
              (some (false)) .inr)
             (obind (Rc.tell.F (N) (r31.snd.fst) (r31.snd.snd.fst) (r31.snd.snd.snd.fst) (r31.snd.snd.snd.snd.fst) (back) (window) (waiting) (r31.snd.snd.snd.snd.snd) (bad) (l3)) fun r33 =>
              (obind (Rc.rtell.F (N) (r32.snd.fst) (r32.snd.snd.fst) (r32.snd.snd.snd.fst) (r32.snd.snd.snd.snd.fst) (r_back) (r_wait) (r_waiting) (r32.snd.snd.snd.snd.snd.fst) (r32.snd.snd.snd.snd.snd.snd) (r_bad) (rb)) fun r34 =>
               (br (r33 != r34)
                (omap
                 (some (false)) .inr)
                (obind (Rc.badp.F (N) (r31.snd.fst) (r31.snd.snd.fst) (r31.snd.snd.snd.fst) (r31.snd.snd.snd.snd.fst) (back) (window) (waiting) (r31.snd.snd.snd.snd.snd) (bad) (l3)) fun r35 =>
                 (obind (Rc.rbad.F (N) (r32.snd.fst) (r32.snd.snd.fst) (r32.snd.snd.snd.fst) (r32.snd.snd.snd.snd.fst) (r_back) (r_wait) (r_waiting) (r32.snd.snd.snd.snd.snd.fst) (r32.snd.snd.snd.snd.snd.snd) (r_bad) (rb)) fun r36 =>
                  (br (!r35 == r36)
                   (omap
                    (some (false)) .inr)
                   (chkL (l3) (l3)
                   (chkL (rb) (rb)
                   (rcReads.loop8 N b l (nn) (l3) (rb) (Go.IntKind.i64.wrap (s7 + (1 : Int))) (r31.snd.fst) (r31.snd.snd.fst) (r31.snd.snd.snd.fst) (r31.snd.snd.snd.snd.fst) (back) (window) (waiting) (r31.snd.snd.snd.snd.snd) (r32.snd.fst) (r32.snd.snd.fst) (r32.snd.snd.snd.fst) (r32.snd.snd.snd.snd.fst) (r_back) (r_wait) (r_waiting) (r32.snd.snd.snd.snd.snd.fst) (r32.snd.snd.snd.snd.snd.snd) (s4) (bad) (r_bad))))))))))))))))))))
   (chkL (l3) (l3)
   (chkL (rb) (rb)
   (some (Sum.inl (rng, val, last, front, back, window, waiting, count, r_rng, r_val, r_last, r_front, r_back, r_wait, r_waiting, r_count, r_e, s4, bad, r_bad))))))
noncomputable def rcReads.loop8R (N : Nat) (b : List Int) (l : List Act3) (nn : Nat) (l3 : List Int) (rb : List Int) (s7 : Int) (rng : Int) (val : Int) (last : Int) (front : Int) (back : Int) (window : Int) (waiting : Int) (count : Int) (r_rng : Int) (r_val : Int) (r_last : Int) (r_front : Int) (r_back : Int) (r_wait : Int) (r_waiting : Int) (r_count : Int) (r_e : Int) (s4 : Bool) (bad : Bool) (r_bad : Bool) : Option (rcReads.loop8.R ⊕ Bool) := loopR rcReads.loop8.ann (mkL [] [] [l3, rb] []) (evCode ((rcReads.C N b l).inLoop rcReads.loop8.ann) (rcReads.K N) (inlTab (rcReads.C N b l) 0) (bodyAt 8 Try.f9)) (lawKr Try.f9) nn (mkL [s7, rng, val, last, front, back, window, waiting, count, r_rng, r_val, r_last, r_front, r_back, r_wait, r_waiting, r_count, r_e] [s4, bad, r_bad] [] [])
theorem rcReads.loop8_eq (N : Nat) (b : List Int) (l : List Act3) : ∀ (nn : Nat) (l3 : List Int) (rb : List Int) (s7 : Int) (rng : Int) (val : Int) (last : Int) (front : Int) (back : Int) (window : Int) (waiting : Int) (count : Int) (r_rng : Int) (r_val : Int) (r_last : Int) (r_front : Int) (r_back : Int) (r_wait : Int) (r_waiting : Int) (r_count : Int) (r_e : Int) (s4 : Bool) (bad : Bool) (r_bad : Bool), rcReads.loop8R N b l nn l3 rb s7 rng val last front back window waiting count r_rng r_val r_last r_front r_back r_wait r_waiting r_count r_e s4 bad r_bad = rcReads.loop8 N b l nn l3 rb s7 rng val last front back window waiting count r_rng r_val r_last r_front r_back r_wait r_waiting r_count r_e s4 bad r_bad
  | 0, _, _, _, _, _, _, _, _, _, _, _, _, _, _, _, _, _, _, _, _, _, _, _ => by kernel_rfl
  | nn + 1, l3, rb, s7, rng, val, last, front, back, window, waiting, count, r_rng, r_val, r_last, r_front, r_back, r_wait, r_waiting, r_count, r_e, s4, bad, r_bad => by
    have h : rcReads.loop8R N b l (nn + 1) l3 rb s7 rng val last front back window waiting count r_rng r_val r_last r_front r_back r_wait r_waiting r_count r_e s4 bad r_bad =
  (br (decide (s7 < ↑l.length))
   (chk ((0 : Int) ≤ s7 ∧ s7 < ↑l.length)
    (br ((l.getD s7.toNat Go.Proofs.Rc.Act3.nil).op == (0 : Int))
     (chk (([] : List Int).length + (l.getD s7.toNat Go.Proofs.Rc.Act3.nil).t.length ≤ (17592186043904 : Nat))
      (obind (Rc.symbol.F (N) (rng) (val) (last) (front) (back) (window) (waiting) (count) (bad) (([] : List Int) ++ (l.getD s7.toNat Go.Proofs.Rc.Act3.nil).t) (l3)) fun r0 =>
       (obind (Rc.rsymbol.F (N) (r_rng) (r_val) (r_last) (r_front) (r_back) (r_wait) (r_waiting) (r_count) (r_e) (r_bad) ((l.getD s7.toNat Go.Proofs.Rc.Act3.nil).t) (rb)) fun r1 =>
        (chkL ((l.getD s7.toNat Go.Proofs.Rc.Act3.nil).t) ((l.getD s7.toNat Go.Proofs.Rc.Act3.nil).t)
        (chkL ((l.getD s7.toNat Go.Proofs.Rc.Act3.nil).t) ((l.getD s7.toNat Go.Proofs.Rc.Act3.nil).t)
        (chkL ((l.getD s7.toNat Go.Proofs.Rc.Act3.nil).t) ((l.getD s7.toNat Go.Proofs.Rc.Act3.nil).t)
        (chkL ((l.getD s7.toNat Go.Proofs.Rc.Act3.nil).t) ((l.getD s7.toNat Go.Proofs.Rc.Act3.nil).t)
        (br (!r0.fst == r1.fst)
         (omap
          (some (false)) .inr)
         (obind (Rc.tell.F (N) (r0.snd.fst) (r0.snd.snd.fst) (r0.snd.snd.snd.fst) (r0.snd.snd.snd.snd.fst) (back) (window) (waiting) (r0.snd.snd.snd.snd.snd) (bad) (l3)) fun r2 =>
          (obind (Rc.rtell.F (N) (r1.snd.fst) (r1.snd.snd.fst) (r1.snd.snd.snd.fst) (r1.snd.snd.snd.snd.fst) (r_back) (r_wait) (r_waiting) (r1.snd.snd.snd.snd.snd.fst) (r1.snd.snd.snd.snd.snd.snd) (r_bad) (rb)) fun r3 =>
           (br (r2 != r3)
            (omap
             (some (false)) .inr)
            (obind (Rc.badp.F (N) (r0.snd.fst) (r0.snd.snd.fst) (r0.snd.snd.snd.fst) (r0.snd.snd.snd.snd.fst) (back) (window) (waiting) (r0.snd.snd.snd.snd.snd) (bad) (l3)) fun r4 =>
             (obind (Rc.rbad.F (N) (r1.snd.fst) (r1.snd.snd.fst) (r1.snd.snd.snd.fst) (r1.snd.snd.snd.snd.fst) (r_back) (r_wait) (r_waiting) (r1.snd.snd.snd.snd.snd.fst) (r1.snd.snd.snd.snd.snd.snd) (r_bad) (rb)) fun r5 =>
              (br (!r4 == r5)
               (omap
                (some (false)) .inr)
               (chkL (l3) (l3)
               (chkL (rb) (rb)
               (rcReads.loop8R N b l (nn) (l3) (rb) (Go.IntKind.i64.wrap (s7 + (1 : Int))) (r0.snd.fst) (r0.snd.snd.fst) (r0.snd.snd.snd.fst) (r0.snd.snd.snd.snd.fst) (back) (window) (waiting) (r0.snd.snd.snd.snd.snd) (r1.snd.fst) (r1.snd.snd.fst) (r1.snd.snd.snd.fst) (r1.snd.snd.snd.snd.fst) (r_back) (r_wait) (r_waiting) (r1.snd.snd.snd.snd.snd.fst) (r1.snd.snd.snd.snd.snd.snd) (s4) (bad) (r_bad))))))))))))))))))
     (br ((l.getD s7.toNat Go.Proofs.Rc.Act3.nil).op == (1 : Int))
      (obind (Rc.flag.F (N) ((l.getD s7.toNat Go.Proofs.Rc.Act3.nil).n) (rng) (val) (last) (front) (back) (window) (waiting) (count) (bad) (l3)) fun r6 =>
       (obind (Rc.rflag.F (N) ((l.getD s7.toNat Go.Proofs.Rc.Act3.nil).n) (r_rng) (r_val) (r_last) (r_front) (r_back) (r_wait) (r_waiting) (r_count) (r_e) (r_bad) (rb)) fun r7 =>
        (chkI ((l.getD s7.toNat Go.Proofs.Rc.Act3.nil).n) ((l.getD s7.toNat Go.Proofs.Rc.Act3.nil).n)
        (br (!r6.snd.snd.snd.snd.snd == r7.snd.snd.snd.snd.snd)
         (omap
          (some (false)) .inr)
         (obind (Rc.tell.F (N) (r6.fst) (r6.snd.fst) (r6.snd.snd.fst) (r6.snd.snd.snd.fst) (back) (window) (waiting) (r6.snd.snd.snd.snd.fst) (bad) (l3)) fun r8 =>
          (obind (Rc.rtell.F (N) (r7.fst) (r7.snd.fst) (r7.snd.snd.fst) (r7.snd.snd.snd.fst) (r_back) (r_wait) (r_waiting) (r7.snd.snd.snd.snd.fst) (r_e) (r_bad) (rb)) fun r9 =>
           (br (r8 != r9)
            (omap
             (some (false)) .inr)
            (obind (Rc.badp.F (N) (r6.fst) (r6.snd.fst) (r6.snd.snd.fst) (r6.snd.snd.snd.fst) (back) (window) (waiting) (r6.snd.snd.snd.snd.fst) (bad) (l3)) fun r10 =>
             (obind (Rc.rbad.F (N) (r7.fst) (r7.snd.fst) (r7.snd.snd.fst) (r7.snd.snd.snd.fst) (r_back) (r_wait) (r_waiting) (r7.snd.snd.snd.snd.fst) (r_e) (r_bad) (rb)) fun r11 =>
              (br (!r10 == r11)
               (omap
                (some (false)) .inr)
               (chkL (l3) (l3)
               (chkL (rb) (rb)
               (rcReads.loop8R N b l (nn) (l3) (rb) (Go.IntKind.i64.wrap (s7 + (1 : Int))) (r6.fst) (r6.snd.fst) (r6.snd.snd.fst) (r6.snd.snd.snd.fst) (back) (window) (waiting) (r6.snd.snd.snd.snd.fst) (r7.fst) (r7.snd.fst) (r7.snd.snd.fst) (r7.snd.snd.snd.fst) (r_back) (r_wait) (r_waiting) (r7.snd.snd.snd.snd.fst) (r_e) (s4) (bad) (r_bad))))))))))))))
      (br ((l.getD s7.toNat Go.Proofs.Rc.Act3.nil).op == (2 : Int))
       (obind (Rc.bits.F (N) ((l.getD s7.toNat Go.Proofs.Rc.Act3.nil).n) (rng) (val) (last) (front) (back) (window) (waiting) (count) (bad) (l3)) fun r12 =>
        (obind (Rc.rbits.F (N) ((l.getD s7.toNat Go.Proofs.Rc.Act3.nil).n) (r_rng) (r_val) (r_last) (r_front) (r_back) (r_wait) (r_waiting) (r_count) (r_e) (r_bad) (rb)) fun r13 =>
         (chkI ((l.getD s7.toNat Go.Proofs.Rc.Act3.nil).n) ((l.getD s7.toNat Go.Proofs.Rc.Act3.nil).n)
         (br (!r12.fst == r13.fst)
          (omap
           (some (false)) .inr)
          (obind (Rc.tell.F (N) (rng) (val) (last) (front) (r12.snd.fst) (r12.snd.snd.fst) (r12.snd.snd.snd.fst) (r12.snd.snd.snd.snd) (bad) (l3)) fun r14 =>
           (obind (Rc.rtell.F (N) (r_rng) (r_val) (r_last) (r_front) (r13.snd.fst) (r13.snd.snd.fst) (r13.snd.snd.snd.fst) (r13.snd.snd.snd.snd) (r_e) (r_bad) (rb)) fun r15 =>
            (br (r14 != r15)
             (omap
              (some (false)) .inr)
             (obind (Rc.badp.F (N) (rng) (val) (last) (front) (r12.snd.fst) (r12.snd.snd.fst) (r12.snd.snd.snd.fst) (r12.snd.snd.snd.snd) (bad) (l3)) fun r16 =>
              (obind (Rc.rbad.F (N) (r_rng) (r_val) (r_last) (r_front) (r13.snd.fst) (r13.snd.snd.fst) (r13.snd.snd.snd.fst) (r13.snd.snd.snd.snd) (r_e) (r_bad) (rb)) fun r17 =>
               (br (!r16 == r17)
                (omap
                 (some (false)) .inr)
                (chkL (l3) (l3)
                (chkL (rb) (rb)
                (rcReads.loop8R N b l (nn) (l3) (rb) (Go.IntKind.i64.wrap (s7 + (1 : Int))) (rng) (val) (last) (front) (r12.snd.fst) (r12.snd.snd.fst) (r12.snd.snd.snd.fst) (r12.snd.snd.snd.snd) (r_rng) (r_val) (r_last) (r_front) (r13.snd.fst) (r13.snd.snd.fst) (r13.snd.snd.snd.fst) (r13.snd.snd.snd.snd) (r_e) (s4) (bad) (r_bad))))))))))))))
       (br ((l.getD s7.toNat Go.Proofs.Rc.Act3.nil).op == (3 : Int))
        (obind (Rc.uint.F (N) ((l.getD s7.toNat Go.Proofs.Rc.Act3.nil).n) (rng) (val) (last) (front) (back) (window) (waiting) (count) (bad) (l3)) fun r18 =>
         (obind (Rc.ruint.F (N) ((l.getD s7.toNat Go.Proofs.Rc.Act3.nil).n) (r_rng) (r_val) (r_last) (r_front) (r_back) (r_wait) (r_waiting) (r_count) (r_e) (r_bad) (rb)) fun r19 =>
          (chkI ((l.getD s7.toNat Go.Proofs.Rc.Act3.nil).n) ((l.getD s7.toNat Go.Proofs.Rc.Act3.nil).n)
          (br (!r18.fst == r19.fst)
           (omap
            (some (false)) .inr)
           (obind (Rc.tell.F (N) (r18.snd.fst) (r18.snd.snd.fst) (r18.snd.snd.snd.fst) (r18.snd.snd.snd.snd.fst) (r18.snd.snd.snd.snd.snd.fst) (r18.snd.snd.snd.snd.snd.snd.fst) (r18.snd.snd.snd.snd.snd.snd.snd.fst) (r18.snd.snd.snd.snd.snd.snd.snd.snd.fst) (r18.snd.snd.snd.snd.snd.snd.snd.snd.snd) (l3)) fun r20 =>
            (obind (Rc.rtell.F (N) (r19.snd.fst) (r19.snd.snd.fst) (r19.snd.snd.snd.fst) (r19.snd.snd.snd.snd.fst) (r19.snd.snd.snd.snd.snd.fst) (r19.snd.snd.snd.snd.snd.snd.fst) (r19.snd.snd.snd.snd.snd.snd.snd.fst) (r19.snd.snd.snd.snd.snd.snd.snd.snd.fst) (r19.snd.snd.snd.snd.snd.snd.snd.snd.snd.fst) (r19.snd.snd.snd.snd.snd.snd.snd.snd.snd.snd) (rb)) fun r21 =>
             (br (r20 != r21)
              (omap
               (some (false)) .inr)
              (obind (Rc.badp.F (N) (r18.snd.fst) (r18.snd.snd.fst) (r18.snd.snd.snd.fst) (r18.snd.snd.snd.snd.fst) (r18.snd.snd.snd.snd.snd.fst) (r18.snd.snd.snd.snd.snd.snd.fst) (r18.snd.snd.snd.snd.snd.snd.snd.fst) (r18.snd.snd.snd.snd.snd.snd.snd.snd.fst) (r18.snd.snd.snd.snd.snd.snd.snd.snd.snd) (l3)) fun r22 =>
               (obind (Rc.rbad.F (N) (r19.snd.fst) (r19.snd.snd.fst) (r19.snd.snd.snd.fst) (r19.snd.snd.snd.snd.fst) (r19.snd.snd.snd.snd.snd.fst) (r19.snd.snd.snd.snd.snd.snd.fst) (r19.snd.snd.snd.snd.snd.snd.snd.fst) (r19.snd.snd.snd.snd.snd.snd.snd.snd.fst) (r19.snd.snd.snd.snd.snd.snd.snd.snd.snd.fst) (r19.snd.snd.snd.snd.snd.snd.snd.snd.snd.snd) (rb)) fun r23 =>
                (br (!r22 == r23)
                 (omap
                  (some (false)) .inr)
                 (chkL (l3) (l3)
                 (chkL (rb) (rb)
                 (rcReads.loop8R N b l (nn) (l3) (rb) (Go.IntKind.i64.wrap (s7 + (1 : Int))) (r18.snd.fst) (r18.snd.snd.fst) (r18.snd.snd.snd.fst) (r18.snd.snd.snd.snd.fst) (r18.snd.snd.snd.snd.snd.fst) (r18.snd.snd.snd.snd.snd.snd.fst) (r18.snd.snd.snd.snd.snd.snd.snd.fst) (r18.snd.snd.snd.snd.snd.snd.snd.snd.fst) (r19.snd.fst) (r19.snd.snd.fst) (r19.snd.snd.snd.fst) (r19.snd.snd.snd.snd.fst) (r19.snd.snd.snd.snd.snd.fst) (r19.snd.snd.snd.snd.snd.snd.fst) (r19.snd.snd.snd.snd.snd.snd.snd.fst) (r19.snd.snd.snd.snd.snd.snd.snd.snd.fst) (r19.snd.snd.snd.snd.snd.snd.snd.snd.snd.fst) (s4) (r18.snd.snd.snd.snd.snd.snd.snd.snd.snd) (r19.snd.snd.snd.snd.snd.snd.snd.snd.snd.snd))))))))))))))
        (br ((l.getD s7.toNat Go.Proofs.Rc.Act3.nil).op == (4 : Int))
         (obind (Rc.laplace.F (N) ((l.getD s7.toNat Go.Proofs.Rc.Act3.nil).n) ((l.getD s7.toNat Go.Proofs.Rc.Act3.nil).m) (rng) (val) (last) (front) (back) (window) (waiting) (count) (bad) (l3)) fun r24 =>
          (obind (Rc.rlaplace.F (N) ((l.getD s7.toNat Go.Proofs.Rc.Act3.nil).n) ((l.getD s7.toNat Go.Proofs.Rc.Act3.nil).m) (r_rng) (r_val) (r_last) (r_front) (r_back) (r_wait) (r_waiting) (r_count) (r_e) (r_bad) (rb)) fun r25 =>
           (chkI ((l.getD s7.toNat Go.Proofs.Rc.Act3.nil).m) ((l.getD s7.toNat Go.Proofs.Rc.Act3.nil).m)
           (chkI ((l.getD s7.toNat Go.Proofs.Rc.Act3.nil).n) ((l.getD s7.toNat Go.Proofs.Rc.Act3.nil).n)
           (br (!r24.fst == r25.fst)
            (omap
             (some (false)) .inr)
            (obind (Rc.tell.F (N) (r24.snd.fst) (r24.snd.snd.fst) (r24.snd.snd.snd.fst) (r24.snd.snd.snd.snd.fst) (back) (window) (waiting) (r24.snd.snd.snd.snd.snd) (bad) (l3)) fun r26 =>
             (obind (Rc.rtell.F (N) (r25.snd.fst) (r25.snd.snd.fst) (r25.snd.snd.snd.fst) (r25.snd.snd.snd.snd.fst) (r_back) (r_wait) (r_waiting) (r25.snd.snd.snd.snd.snd.fst) (r25.snd.snd.snd.snd.snd.snd) (r_bad) (rb)) fun r27 =>
              (br (r26 != r27)
               (omap
                (some (false)) .inr)
               (obind (Rc.badp.F (N) (r24.snd.fst) (r24.snd.snd.fst) (r24.snd.snd.snd.fst) (r24.snd.snd.snd.snd.fst) (back) (window) (waiting) (r24.snd.snd.snd.snd.snd) (bad) (l3)) fun r28 =>
                (obind (Rc.rbad.F (N) (r25.snd.fst) (r25.snd.snd.fst) (r25.snd.snd.snd.fst) (r25.snd.snd.snd.snd.fst) (r_back) (r_wait) (r_waiting) (r25.snd.snd.snd.snd.snd.fst) (r25.snd.snd.snd.snd.snd.snd) (r_bad) (rb)) fun r29 =>
                 (br (!r28 == r29)
                  (omap
                   (some (false)) .inr)
                  (chkL (l3) (l3)
                  (chkL (rb) (rb)
                  (rcReads.loop8R N b l (nn) (l3) (rb) (Go.IntKind.i64.wrap (s7 + (1 : Int))) (r24.snd.fst) (r24.snd.snd.fst) (r24.snd.snd.snd.fst) (r24.snd.snd.snd.snd.fst) (back) (window) (waiting) (r24.snd.snd.snd.snd.snd) (r25.snd.fst) (r25.snd.snd.fst) (r25.snd.snd.snd.fst) (r25.snd.snd.snd.snd.fst) (r_back) (r_wait) (r_waiting) (r25.snd.snd.snd.snd.snd.fst) (r25.snd.snd.snd.snd.snd.snd) (s4) (bad) (r_bad)))))))))))))))
         (obind (Rc.icdf.F (N) ((l.getD s7.toNat Go.Proofs.Rc.Act3.nil).n)) fun r30 =>
          (obind (Rc.symbol.F (N) (rng) (val) (last) (front) (back) (window) (waiting) (count) (bad) (r30) (l3)) fun r31 =>
           (obind (Rc.rsymbol.F (N) (r_rng) (r_val) (r_last) (r_front) (r_back) (r_wait) (r_waiting) (r_count) (r_e) (r_bad) (r30) (rb)) fun r32 =>
            (br (!r31.fst == r32.fst)
             (omap
              (some (false)) .inr)
             (obind (Rc.tell.F (N) (r31.snd.fst) (r31.snd.snd.fst) (r31.snd.snd.snd.fst) (r31.snd.snd.snd.snd.fst) (back) (window) (waiting) (r31.snd.snd.snd.snd.snd) (bad) (l3)) fun r33 =>
              (obind (Rc.rtell.F (N) (r32.snd.fst) (r32.snd.snd.fst) (r32.snd.snd.snd.fst) (r32.snd.snd.snd.snd.fst) (r_back) (r_wait) (r_waiting) (r32.snd.snd.snd.snd.snd.fst) (r32.snd.snd.snd.snd.snd.snd) (r_bad) (rb)) fun r34 =>
               (br (r33 != r34)
                (omap
                 (some (false)) .inr)
                (obind (Rc.badp.F (N) (r31.snd.fst) (r31.snd.snd.fst) (r31.snd.snd.snd.fst) (r31.snd.snd.snd.snd.fst) (back) (window) (waiting) (r31.snd.snd.snd.snd.snd) (bad) (l3)) fun r35 =>
                 (obind (Rc.rbad.F (N) (r32.snd.fst) (r32.snd.snd.fst) (r32.snd.snd.snd.fst) (r32.snd.snd.snd.snd.fst) (r_back) (r_wait) (r_waiting) (r32.snd.snd.snd.snd.snd.fst) (r32.snd.snd.snd.snd.snd.snd) (r_bad) (rb)) fun r36 =>
                  (br (!r35 == r36)
                   (omap
                    (some (false)) .inr)
                   (chkL (l3) (l3)
                   (chkL (rb) (rb)
                   (rcReads.loop8R N b l (nn) (l3) (rb) (Go.IntKind.i64.wrap (s7 + (1 : Int))) (r31.snd.fst) (r31.snd.snd.fst) (r31.snd.snd.snd.fst) (r31.snd.snd.snd.snd.fst) (back) (window) (waiting) (r31.snd.snd.snd.snd.snd) (r32.snd.fst) (r32.snd.snd.fst) (r32.snd.snd.snd.fst) (r32.snd.snd.snd.snd.fst) (r_back) (r_wait) (r_waiting) (r32.snd.snd.snd.snd.snd.fst) (r32.snd.snd.snd.snd.snd.snd) (s4) (bad) (r_bad))))))))))))))))))))
   (chkL (l3) (l3)
   (chkL (rb) (rb)
   (some (Sum.inl (rng, val, last, front, back, window, waiting, count, r_rng, r_val, r_last, r_front, r_back, r_wait, r_waiting, r_count, r_e, s4, bad, r_bad)))))) := by kernel_rfl
    rw [h, rcReads.loop8]
    try simp only [rcReads.loop8_eq N b l nn]
noncomputable def rcReads.F (N : Nat) (b : List Int) (l : List Act3) : Option Bool :=
  (obind (Rc.awake.F (N)) fun r0 =>
   (br (!r0)
    (some (false))
    (br (decide (↑b.length > (2000 : Int)))
     (some (true))
     (br (decide (↑l.length > (100 : Int)))
      (some (true))
      (chk (([] : List Int).length + b.length ≤ (17592186043904 : Nat))
       (obind (Rc.new.F (N) (([] : List Int) ++ b)) fun r1 =>
        (obind (Rc.rnew.F (N) (b)) fun r2 =>
         (osum (rcReads.loop8 N b l (N) (r1.snd.snd.snd.snd.snd.snd.snd.snd.snd) (r2.snd.snd.snd.snd.snd.snd.snd.snd.snd.snd) ((0 : Int)) (r1.fst) (r1.snd.fst) (r1.snd.snd.fst) (r1.snd.snd.snd.fst) (r1.snd.snd.snd.snd.fst) (r1.snd.snd.snd.snd.snd.fst) (r1.snd.snd.snd.snd.snd.snd.fst) (r1.snd.snd.snd.snd.snd.snd.snd.fst) (r2.fst) (r2.snd.fst) (r2.snd.snd.fst) (r2.snd.snd.snd.fst) (r2.snd.snd.snd.snd.fst) (r2.snd.snd.snd.snd.snd.fst) (r2.snd.snd.snd.snd.snd.snd.fst) (r2.snd.snd.snd.snd.snd.snd.snd.fst) (r2.snd.snd.snd.snd.snd.snd.snd.snd.fst) (false) (r1.snd.snd.snd.snd.snd.snd.snd.snd.fst) (r2.snd.snd.snd.snd.snd.snd.snd.snd.snd.fst)) fun r3 =>
          (some (true))))))))))
theorem rcReads.F_eq (N : Nat) (b : List Int) (l : List Act3) : evLaw (rcReads.C N b l) (rcReads.K N) 0 Try.f9 [.at (.roi .u8 b), .at (.ror 0)] = rcReads.F N b l := by
  have h : evLaw (rcReads.C N b l) (rcReads.K N) 0 Try.f9 [.at (.roi .u8 b), .at (.ror 0)] =
  (obind (Rc.awake.F (N)) fun r0 =>
   (br (!r0)
    (some (false))
    (br (decide (↑b.length > (2000 : Int)))
     (some (true))
     (br (decide (↑l.length > (100 : Int)))
      (some (true))
      (chk (([] : List Int).length + b.length ≤ (17592186043904 : Nat))
       (obind (Rc.new.F (N) (([] : List Int) ++ b)) fun r1 =>
        (obind (Rc.rnew.F (N) (b)) fun r2 =>
         (osum (rcReads.loop8R N b l (N) (r1.snd.snd.snd.snd.snd.snd.snd.snd.snd) (r2.snd.snd.snd.snd.snd.snd.snd.snd.snd.snd) ((0 : Int)) (r1.fst) (r1.snd.fst) (r1.snd.snd.fst) (r1.snd.snd.snd.fst) (r1.snd.snd.snd.snd.fst) (r1.snd.snd.snd.snd.snd.fst) (r1.snd.snd.snd.snd.snd.snd.fst) (r1.snd.snd.snd.snd.snd.snd.snd.fst) (r2.fst) (r2.snd.fst) (r2.snd.snd.fst) (r2.snd.snd.snd.fst) (r2.snd.snd.snd.snd.fst) (r2.snd.snd.snd.snd.snd.fst) (r2.snd.snd.snd.snd.snd.snd.fst) (r2.snd.snd.snd.snd.snd.snd.snd.fst) (r2.snd.snd.snd.snd.snd.snd.snd.snd.fst) (false) (r1.snd.snd.snd.snd.snd.snd.snd.snd.fst) (r2.snd.snd.snd.snd.snd.snd.snd.snd.snd.fst)) fun r3 =>
          (some (true)))))))))) := by kernel_rfl
  rw [h, rcReads.F]
  try simp only [rcReads.loop8_eq N b l]
theorem rcReads.cok (N : Nat) (b : List Int) (l : List Act3) : CfgOK (rcReads.C N b l) := ⟨actTabK_ok l, wide, by
  simp only [rcReads.C, List.mem_cons, List.not_mem_nil, or_false, forall_eq_or_imp, forall_eq, false_imp_iff, implies_true]
  exact ⟨⟨awake.ok, by kernel_rfl⟩, ⟨new.ok, by kernel_rfl⟩, ⟨rnew.ok, by kernel_rfl⟩, ⟨symbol.ok, by kernel_rfl⟩, ⟨rsymbol.ok, by kernel_rfl⟩, ⟨flag.ok, by kernel_rfl⟩, ⟨rflag.ok, by kernel_rfl⟩, ⟨bits.ok, by kernel_rfl⟩, ⟨rbits.ok, by kernel_rfl⟩, ⟨uint.ok, by kernel_rfl⟩, ⟨ruint.ok, by kernel_rfl⟩, ⟨laplace.ok, by kernel_rfl⟩, ⟨rlaplace.ok, by kernel_rfl⟩, ⟨icdf.ok, by kernel_rfl⟩, ⟨tell.ok, by kernel_rfl⟩, ⟨rtell.ok, by kernel_rfl⟩, ⟨badp.ok, by kernel_rfl⟩, ⟨rbad.ok, by kernel_rfl⟩⟩⟩
theorem rcReads.aok (N : Nat) : AnnsOK (rcReads.K N) := by
  intro q hq
  simp only [rcReads.K, List.mem_cons, List.not_mem_nil, or_false] at hq
  subst hq
  exact fun _ _ => ⟨rfl, rfl⟩
theorem rcReads.walk {w : World} {N : Nat} (b : List Int) (l : List Act3) {cargs : Array Value} (ha : All2 (RV (actTabK l) (lawE w)) [.at (.roi .u8 b), .at (.ror 0)] cargs.toList) (h : rcReads.F N b l = some true) :
    Calls Try.prog 9 cargs w fun e w' => e = .returned (.bool true) ∧ Frm w (fun _ => False) w' :=
  law_sound (C := rcReads.C N b l) (K := rcReads.K N) (d := 0) (fn := Try.f9) (rcReads.cok N b l) (fun q hq => by simp [rcReads.C] at hq) (rcReads.aok N) (by kernel_rfl) ha ((rcReads.F_eq N b l).trans h)

end Go.Proofs.Rc
