/-
  Functions of the program: what each comes to, and its contract (written by a program).
  Conditions: none: each contract is proved for every input of its shape.
-/
import Derived.Test.YtgimkkepagcpkaaEngFn
import Derived.Laws.Externs
import Derived.Test.YtgimkkepagcpkaaProg
import Derived.Test.YtgimkkepagcpkaaPvqFns
namespace Go.Proofs.Rc
open Go.Eng
set_option maxRecDepth 100000
set_option linter.unusedVariables false
set_option linter.unusedSimpArgs false
noncomputable def pvqBack.C (N : Nat) (y : List Int) (b : List Int) (n : Int) (k : Int) : Cfg := { P := Try.prog, N := N, RT := noRT, specs := [(44, awake17.spec), (26, enew.spec), (51, pwrite.spec), (54, qsum.spec), (53, qmost.spec), (28, etell.spec), (29, edone.spec), (34, rnew.spec), (52, qcount.spec), (60, ruint.spec), (57, qvector.spec), (56, same17.spec), (30, new.spec), (47, pread.spec), (61, tell.spec), (37, rtell.spec)], inl := [], hi := 0, mv := [] }
noncomputable def pvqBack.K (N : Nat) : FCfg := { anns := [], unr := [], lits := [], lets := [], frz := [56] }
noncomputable def pvqBack.F (N : Nat) (y : List Int) (b : List Int) (n : Int) (k : Int) : Option Bool :=
  (obind (Rc.awake17.F (N)) fun r0 =>
   (br (!r0)
    (some (false))
    (br (decide (↑b.length > (200 : Int)))
     (some (true))
     (br (decide (↑y.length > (100 : Int)))
      (some (true))
      (obind (Rc.enew.F (N)) fun r1 =>
      (chk (([] : List Int).length + y.length ≤ (17592186043904 : Nat))
      (obind (Rc.pwrite.F (N) (r1.fst) (r1.snd.fst) (r1.snd.snd.fst) (r1.snd.snd.snd.fst) (([] : List Int) ++ y) (r1.snd.snd.snd.snd.fst) (r1.snd.snd.snd.snd.snd)) fun r2 =>
      (obind (Rc.qsum.F (N) (y)) fun r3 =>
      (br (decide (r3 < (0 : Int)))
      (br (r2.fst != (1 : Int))
      (some (false))
      (obind (Rc.etell.F (N) (r2.snd.fst) (r2.snd.snd.fst) (r2.snd.snd.snd.fst) (r2.snd.snd.snd.snd.fst) (r2.snd.snd.snd.snd.snd.fst) (r2.snd.snd.snd.snd.snd.snd)) fun r4 =>
      (br (r4 != (1 : Int))
      (some (false))
      (obind (Rc.new.F (N) (b)) fun r5 =>
      (obind (Rc.pread.F (N) (n) (k) (r5.fst) (r5.snd.fst) (r5.snd.snd.fst) (r5.snd.snd.snd.fst) (r5.snd.snd.snd.snd.fst) (r5.snd.snd.snd.snd.snd.fst) (r5.snd.snd.snd.snd.snd.snd.fst) (r5.snd.snd.snd.snd.snd.snd.snd.fst) (r5.snd.snd.snd.snd.snd.snd.snd.snd.fst) (r5.snd.snd.snd.snd.snd.snd.snd.snd.snd)) fun r6 =>
      (br (decide (n < (1 : Int)))
      (br (r6.fst == (1 : Int))
      (br (↑r6.snd.snd.snd.snd.snd.snd.snd.snd.snd.snd.length == (0 : Int))
      (obind (Rc.tell.F (N) (r6.snd.fst) (r6.snd.snd.fst) (r6.snd.snd.snd.fst) (r6.snd.snd.snd.snd.fst) (r6.snd.snd.snd.snd.snd.fst) (r6.snd.snd.snd.snd.snd.snd.fst) (r6.snd.snd.snd.snd.snd.snd.snd.fst) (r6.snd.snd.snd.snd.snd.snd.snd.snd.fst) (r6.snd.snd.snd.snd.snd.snd.snd.snd.snd.fst) (r5.snd.snd.snd.snd.snd.snd.snd.snd.snd)) fun r7 =>
      (some (r7 == (1 : Int))))
      (some (false)))
      (some (false)))
      (br (decide (n > (16 : Int)))
      (br (r6.fst == (1 : Int))
      (br (↑r6.snd.snd.snd.snd.snd.snd.snd.snd.snd.snd.length == (0 : Int))
      (obind (Rc.tell.F (N) (r6.snd.fst) (r6.snd.snd.fst) (r6.snd.snd.snd.fst) (r6.snd.snd.snd.snd.fst) (r6.snd.snd.snd.snd.snd.fst) (r6.snd.snd.snd.snd.snd.snd.fst) (r6.snd.snd.snd.snd.snd.snd.snd.fst) (r6.snd.snd.snd.snd.snd.snd.snd.snd.fst) (r6.snd.snd.snd.snd.snd.snd.snd.snd.snd.fst) (r5.snd.snd.snd.snd.snd.snd.snd.snd.snd)) fun r8 =>
      (some (r8 == (1 : Int))))
      (some (false)))
      (some (false)))
      (br (decide (k < (0 : Int)))
      (br (r6.fst == (1 : Int))
      (br (↑r6.snd.snd.snd.snd.snd.snd.snd.snd.snd.snd.length == (0 : Int))
      (obind (Rc.tell.F (N) (r6.snd.fst) (r6.snd.snd.fst) (r6.snd.snd.snd.fst) (r6.snd.snd.snd.snd.fst) (r6.snd.snd.snd.snd.snd.fst) (r6.snd.snd.snd.snd.snd.snd.fst) (r6.snd.snd.snd.snd.snd.snd.snd.fst) (r6.snd.snd.snd.snd.snd.snd.snd.snd.fst) (r6.snd.snd.snd.snd.snd.snd.snd.snd.snd.fst) (r5.snd.snd.snd.snd.snd.snd.snd.snd.snd)) fun r9 =>
      (some (r9 == (1 : Int))))
      (some (false)))
      (some (false)))
      (obind (Rc.qmost.F (N) (n)) fun r10 =>
      (br (decide (k > r10))
      (br (r6.fst == (1 : Int))
      (br (↑r6.snd.snd.snd.snd.snd.snd.snd.snd.snd.snd.length == (0 : Int))
      (obind (Rc.tell.F (N) (r6.snd.fst) (r6.snd.snd.fst) (r6.snd.snd.snd.fst) (r6.snd.snd.snd.snd.fst) (r6.snd.snd.snd.snd.snd.fst) (r6.snd.snd.snd.snd.snd.snd.fst) (r6.snd.snd.snd.snd.snd.snd.snd.fst) (r6.snd.snd.snd.snd.snd.snd.snd.snd.fst) (r6.snd.snd.snd.snd.snd.snd.snd.snd.snd.fst) (r5.snd.snd.snd.snd.snd.snd.snd.snd.snd)) fun r11 =>
      (some (r11 == (1 : Int))))
      (some (false)))
      (some (false)))
      (obind (Rc.rnew.F (N) (b)) fun r12 =>
      (br (r6.fst == (0 : Int))
      (obind (Rc.qcount.F (N) (n) (k)) fun r13 =>
      (obind (Rc.ruint.F (N) (r13) (r12.fst) (r12.snd.fst) (r12.snd.snd.fst) (r12.snd.snd.snd.fst) (r12.snd.snd.snd.snd.fst) (r12.snd.snd.snd.snd.snd.fst) (r12.snd.snd.snd.snd.snd.snd.fst) (r12.snd.snd.snd.snd.snd.snd.snd.fst) (r12.snd.snd.snd.snd.snd.snd.snd.snd.fst) (r12.snd.snd.snd.snd.snd.snd.snd.snd.snd.fst) (r12.snd.snd.snd.snd.snd.snd.snd.snd.snd.snd)) fun r14 =>
      (obind (Rc.qvector.F (N) (n) (k) (r14.fst)) fun r15 =>
      (obind (Rc.same17.F (N) (r6.snd.snd.snd.snd.snd.snd.snd.snd.snd.snd) (r15)) fun r16 =>
      (br (r16)
      (obind (Rc.tell.F (N) (r6.snd.fst) (r6.snd.snd.fst) (r6.snd.snd.snd.fst) (r6.snd.snd.snd.snd.fst) (r6.snd.snd.snd.snd.snd.fst) (r6.snd.snd.snd.snd.snd.snd.fst) (r6.snd.snd.snd.snd.snd.snd.snd.fst) (r6.snd.snd.snd.snd.snd.snd.snd.snd.fst) (r6.snd.snd.snd.snd.snd.snd.snd.snd.snd.fst) (r5.snd.snd.snd.snd.snd.snd.snd.snd.snd)) fun r17 =>
      (obind (Rc.rtell.F (N) (r14.snd.fst) (r14.snd.snd.fst) (r14.snd.snd.snd.fst) (r14.snd.snd.snd.snd.fst) (r14.snd.snd.snd.snd.snd.fst) (r14.snd.snd.snd.snd.snd.snd.fst) (r14.snd.snd.snd.snd.snd.snd.snd.fst) (r14.snd.snd.snd.snd.snd.snd.snd.snd.fst) (r14.snd.snd.snd.snd.snd.snd.snd.snd.snd.fst) (r14.snd.snd.snd.snd.snd.snd.snd.snd.snd.snd) (r12.snd.snd.snd.snd.snd.snd.snd.snd.snd.snd)) fun r18 =>
      (some (r17 == r18))))
      (some (false)))))))
      (some (false))))))))))))))
      (obind (Rc.qmost.F (N) (↑y.length)) fun r19 =>
      (br (decide (r3 > r19))
      (br (r2.fst != (1 : Int))
      (some (false))
      (obind (Rc.etell.F (N) (r2.snd.fst) (r2.snd.snd.fst) (r2.snd.snd.snd.fst) (r2.snd.snd.snd.snd.fst) (r2.snd.snd.snd.snd.snd.fst) (r2.snd.snd.snd.snd.snd.snd)) fun r20 =>
      (br (r20 != (1 : Int))
      (some (false))
      (obind (Rc.new.F (N) (b)) fun r21 =>
      (obind (Rc.pread.F (N) (n) (k) (r21.fst) (r21.snd.fst) (r21.snd.snd.fst) (r21.snd.snd.snd.fst) (r21.snd.snd.snd.snd.fst) (r21.snd.snd.snd.snd.snd.fst) (r21.snd.snd.snd.snd.snd.snd.fst) (r21.snd.snd.snd.snd.snd.snd.snd.fst) (r21.snd.snd.snd.snd.snd.snd.snd.snd.fst) (r21.snd.snd.snd.snd.snd.snd.snd.snd.snd)) fun r22 =>
      (br (decide (n < (1 : Int)))
      (br (r22.fst == (1 : Int))
      (br (↑r22.snd.snd.snd.snd.snd.snd.snd.snd.snd.snd.length == (0 : Int))
      (obind (Rc.tell.F (N) (r22.snd.fst) (r22.snd.snd.fst) (r22.snd.snd.snd.fst) (r22.snd.snd.snd.snd.fst) (r22.snd.snd.snd.snd.snd.fst) (r22.snd.snd.snd.snd.snd.snd.fst) (r22.snd.snd.snd.snd.snd.snd.snd.fst) (r22.snd.snd.snd.snd.snd.snd.snd.snd.fst) (r22.snd.snd.snd.snd.snd.snd.snd.snd.snd.fst) (r21.snd.snd.snd.snd.snd.snd.snd.snd.snd)) fun r23 =>
      (some (r23 == (1 : Int))))
      (some (false)))
      (some (false)))
      (br (decide (n > (16 : Int)))
      (br (r22.fst == (1 : Int))
      (br (↑r22.snd.snd.snd.snd.snd.snd.snd.snd.snd.snd.length == (0 : Int))
      (obind (Rc.tell.F (N) (r22.snd.fst) (r22.snd.snd.fst) (r22.snd.snd.snd.fst) (r22.snd.snd.snd.snd.fst) (r22.snd.snd.snd.snd.snd.fst) (r22.snd.snd.snd.snd.snd.snd.fst) (r22.snd.snd.snd.snd.snd.snd.snd.fst) (r22.snd.snd.snd.snd.snd.snd.snd.snd.fst) (r22.snd.snd.snd.snd.snd.snd.snd.snd.snd.fst) (r21.snd.snd.snd.snd.snd.snd.snd.snd.snd)) fun r24 =>
      (some (r24 == (1 : Int))))
      (some (false)))
      (some (false)))
      (br (decide (k < (0 : Int)))
      (br (r22.fst == (1 : Int))
      (br (↑r22.snd.snd.snd.snd.snd.snd.snd.snd.snd.snd.length == (0 : Int))
      (obind (Rc.tell.F (N) (r22.snd.fst) (r22.snd.snd.fst) (r22.snd.snd.snd.fst) (r22.snd.snd.snd.snd.fst) (r22.snd.snd.snd.snd.snd.fst) (r22.snd.snd.snd.snd.snd.snd.fst) (r22.snd.snd.snd.snd.snd.snd.snd.fst) (r22.snd.snd.snd.snd.snd.snd.snd.snd.fst) (r22.snd.snd.snd.snd.snd.snd.snd.snd.snd.fst) (r21.snd.snd.snd.snd.snd.snd.snd.snd.snd)) fun r25 =>
      (some (r25 == (1 : Int))))
      (some (false)))
      (some (false)))
      (obind (Rc.qmost.F (N) (n)) fun r26 =>
      (br (decide (k > r26))
      (br (r22.fst == (1 : Int))
      (br (↑r22.snd.snd.snd.snd.snd.snd.snd.snd.snd.snd.length == (0 : Int))
      (obind (Rc.tell.F (N) (r22.snd.fst) (r22.snd.snd.fst) (r22.snd.snd.snd.fst) (r22.snd.snd.snd.snd.fst) (r22.snd.snd.snd.snd.snd.fst) (r22.snd.snd.snd.snd.snd.snd.fst) (r22.snd.snd.snd.snd.snd.snd.snd.fst) (r22.snd.snd.snd.snd.snd.snd.snd.snd.fst) (r22.snd.snd.snd.snd.snd.snd.snd.snd.snd.fst) (r21.snd.snd.snd.snd.snd.snd.snd.snd.snd)) fun r27 =>
      (some (r27 == (1 : Int))))
      (some (false)))
      (some (false)))
      (obind (Rc.rnew.F (N) (b)) fun r28 =>
      (br (r22.fst == (0 : Int))
      (obind (Rc.qcount.F (N) (n) (k)) fun r29 =>
      (obind (Rc.ruint.F (N) (r29) (r28.fst) (r28.snd.fst) (r28.snd.snd.fst) (r28.snd.snd.snd.fst) (r28.snd.snd.snd.snd.fst) (r28.snd.snd.snd.snd.snd.fst) (r28.snd.snd.snd.snd.snd.snd.fst) (r28.snd.snd.snd.snd.snd.snd.snd.fst) (r28.snd.snd.snd.snd.snd.snd.snd.snd.fst) (r28.snd.snd.snd.snd.snd.snd.snd.snd.snd.fst) (r28.snd.snd.snd.snd.snd.snd.snd.snd.snd.snd)) fun r30 =>
      (obind (Rc.qvector.F (N) (n) (k) (r30.fst)) fun r31 =>
      (obind (Rc.same17.F (N) (r22.snd.snd.snd.snd.snd.snd.snd.snd.snd.snd) (r31)) fun r32 =>
      (br (r32)
      (obind (Rc.tell.F (N) (r22.snd.fst) (r22.snd.snd.fst) (r22.snd.snd.snd.fst) (r22.snd.snd.snd.snd.fst) (r22.snd.snd.snd.snd.snd.fst) (r22.snd.snd.snd.snd.snd.snd.fst) (r22.snd.snd.snd.snd.snd.snd.snd.fst) (r22.snd.snd.snd.snd.snd.snd.snd.snd.fst) (r22.snd.snd.snd.snd.snd.snd.snd.snd.snd.fst) (r21.snd.snd.snd.snd.snd.snd.snd.snd.snd)) fun r33 =>
      (obind (Rc.rtell.F (N) (r30.snd.fst) (r30.snd.snd.fst) (r30.snd.snd.snd.fst) (r30.snd.snd.snd.snd.fst) (r30.snd.snd.snd.snd.snd.fst) (r30.snd.snd.snd.snd.snd.snd.fst) (r30.snd.snd.snd.snd.snd.snd.snd.fst) (r30.snd.snd.snd.snd.snd.snd.snd.snd.fst) (r30.snd.snd.snd.snd.snd.snd.snd.snd.snd.fst) (r30.snd.snd.snd.snd.snd.snd.snd.snd.snd.snd) (r28.snd.snd.snd.snd.snd.snd.snd.snd.snd.snd)) fun r34 =>
      (some (r33 == r34))))
      (some (false)))))))
      (some (false))))))))))))))
      (obind (Rc.edone.F (N) ((20 : Int)) (r2.snd.fst) (r2.snd.snd.fst) (r2.snd.snd.snd.fst) (r2.snd.snd.snd.snd.fst) (r2.snd.snd.snd.snd.snd.fst) (r2.snd.snd.snd.snd.snd.snd)) fun r35 =>
      (br (r2.fst != (0 : Int))
      (some (false))
      (br (r35.fst != (0 : Int))
      (some (false))
      (obind (Rc.rnew.F (N) (r35.snd)) fun r36 =>
      (obind (Rc.qcount.F (N) (↑y.length) (r3)) fun r37 =>
      (obind (Rc.ruint.F (N) (r37) (r36.fst) (r36.snd.fst) (r36.snd.snd.fst) (r36.snd.snd.snd.fst) (r36.snd.snd.snd.snd.fst) (r36.snd.snd.snd.snd.snd.fst) (r36.snd.snd.snd.snd.snd.snd.fst) (r36.snd.snd.snd.snd.snd.snd.snd.fst) (r36.snd.snd.snd.snd.snd.snd.snd.snd.fst) (r36.snd.snd.snd.snd.snd.snd.snd.snd.snd.fst) (r36.snd.snd.snd.snd.snd.snd.snd.snd.snd.snd)) fun r38 =>
      (obind (Rc.qvector.F (N) (↑y.length) (r3) (r38.fst)) fun r39 =>
      (obind (Rc.same17.F (N) (r39) (y)) fun r40 =>
      (br (!r40)
      (some (false))
      (obind (Rc.new.F (N) (b)) fun r41 =>
      (obind (Rc.pread.F (N) (n) (k) (r41.fst) (r41.snd.fst) (r41.snd.snd.fst) (r41.snd.snd.snd.fst) (r41.snd.snd.snd.snd.fst) (r41.snd.snd.snd.snd.snd.fst) (r41.snd.snd.snd.snd.snd.snd.fst) (r41.snd.snd.snd.snd.snd.snd.snd.fst) (r41.snd.snd.snd.snd.snd.snd.snd.snd.fst) (r41.snd.snd.snd.snd.snd.snd.snd.snd.snd)) fun r42 =>
      (br (decide (n < (1 : Int)))
      (br (r42.fst == (1 : Int))
      (br (↑r42.snd.snd.snd.snd.snd.snd.snd.snd.snd.snd.length == (0 : Int))
      (obind (Rc.tell.F (N) (r42.snd.fst) (r42.snd.snd.fst) (r42.snd.snd.snd.fst) (r42.snd.snd.snd.snd.fst) (r42.snd.snd.snd.snd.snd.fst) (r42.snd.snd.snd.snd.snd.snd.fst) (r42.snd.snd.snd.snd.snd.snd.snd.fst) (r42.snd.snd.snd.snd.snd.snd.snd.snd.fst) (r42.snd.snd.snd.snd.snd.snd.snd.snd.snd.fst) (r41.snd.snd.snd.snd.snd.snd.snd.snd.snd)) fun r43 =>
      (some (r43 == (1 : Int))))
      (some (false)))
      (some (false)))
      (br (decide (n > (16 : Int)))
      (br (r42.fst == (1 : Int))
      (br (↑r42.snd.snd.snd.snd.snd.snd.snd.snd.snd.snd.length == (0 : Int))
      (obind (Rc.tell.F (N) (r42.snd.fst) (r42.snd.snd.fst) (r42.snd.snd.snd.fst) (r42.snd.snd.snd.snd.fst) (r42.snd.snd.snd.snd.snd.fst) (r42.snd.snd.snd.snd.snd.snd.fst) (r42.snd.snd.snd.snd.snd.snd.snd.fst) (r42.snd.snd.snd.snd.snd.snd.snd.snd.fst) (r42.snd.snd.snd.snd.snd.snd.snd.snd.snd.fst) (r41.snd.snd.snd.snd.snd.snd.snd.snd.snd)) fun r44 =>
      (some (r44 == (1 : Int))))
      (some (false)))
      (some (false)))
      (br (decide (k < (0 : Int)))
      (br (r42.fst == (1 : Int))
      (br (↑r42.snd.snd.snd.snd.snd.snd.snd.snd.snd.snd.length == (0 : Int))
      (obind (Rc.tell.F (N) (r42.snd.fst) (r42.snd.snd.fst) (r42.snd.snd.snd.fst) (r42.snd.snd.snd.snd.fst) (r42.snd.snd.snd.snd.snd.fst) (r42.snd.snd.snd.snd.snd.snd.fst) (r42.snd.snd.snd.snd.snd.snd.snd.fst) (r42.snd.snd.snd.snd.snd.snd.snd.snd.fst) (r42.snd.snd.snd.snd.snd.snd.snd.snd.snd.fst) (r41.snd.snd.snd.snd.snd.snd.snd.snd.snd)) fun r45 =>
      (some (r45 == (1 : Int))))
      (some (false)))
      (some (false)))
      (obind (Rc.qmost.F (N) (n)) fun r46 =>
      (br (decide (k > r46))
      (br (r42.fst == (1 : Int))
      (br (↑r42.snd.snd.snd.snd.snd.snd.snd.snd.snd.snd.length == (0 : Int))
      (obind (Rc.tell.F (N) (r42.snd.fst) (r42.snd.snd.fst) (r42.snd.snd.snd.fst) (r42.snd.snd.snd.snd.fst) (r42.snd.snd.snd.snd.snd.fst) (r42.snd.snd.snd.snd.snd.snd.fst) (r42.snd.snd.snd.snd.snd.snd.snd.fst) (r42.snd.snd.snd.snd.snd.snd.snd.snd.fst) (r42.snd.snd.snd.snd.snd.snd.snd.snd.snd.fst) (r41.snd.snd.snd.snd.snd.snd.snd.snd.snd)) fun r47 =>
      (some (r47 == (1 : Int))))
      (some (false)))
      (some (false)))
      (obind (Rc.rnew.F (N) (b)) fun r48 =>
      (br (r42.fst == (0 : Int))
      (obind (Rc.qcount.F (N) (n) (k)) fun r49 =>
      (obind (Rc.ruint.F (N) (r49) (r48.fst) (r48.snd.fst) (r48.snd.snd.fst) (r48.snd.snd.snd.fst) (r48.snd.snd.snd.snd.fst) (r48.snd.snd.snd.snd.snd.fst) (r48.snd.snd.snd.snd.snd.snd.fst) (r48.snd.snd.snd.snd.snd.snd.snd.fst) (r48.snd.snd.snd.snd.snd.snd.snd.snd.fst) (r48.snd.snd.snd.snd.snd.snd.snd.snd.snd.fst) (r48.snd.snd.snd.snd.snd.snd.snd.snd.snd.snd)) fun r50 =>
      (obind (Rc.qvector.F (N) (n) (k) (r50.fst)) fun r51 =>
      (obind (Rc.same17.F (N) (r42.snd.snd.snd.snd.snd.snd.snd.snd.snd.snd) (r51)) fun r52 =>
      (br (r52)
      (obind (Rc.tell.F (N) (r42.snd.fst) (r42.snd.snd.fst) (r42.snd.snd.snd.fst) (r42.snd.snd.snd.snd.fst) (r42.snd.snd.snd.snd.snd.fst) (r42.snd.snd.snd.snd.snd.snd.fst) (r42.snd.snd.snd.snd.snd.snd.snd.fst) (r42.snd.snd.snd.snd.snd.snd.snd.snd.fst) (r42.snd.snd.snd.snd.snd.snd.snd.snd.snd.fst) (r41.snd.snd.snd.snd.snd.snd.snd.snd.snd)) fun r53 =>
      (obind (Rc.rtell.F (N) (r50.snd.fst) (r50.snd.snd.fst) (r50.snd.snd.snd.fst) (r50.snd.snd.snd.snd.fst) (r50.snd.snd.snd.snd.snd.fst) (r50.snd.snd.snd.snd.snd.snd.fst) (r50.snd.snd.snd.snd.snd.snd.snd.fst) (r50.snd.snd.snd.snd.snd.snd.snd.snd.fst) (r50.snd.snd.snd.snd.snd.snd.snd.snd.snd.fst) (r50.snd.snd.snd.snd.snd.snd.snd.snd.snd.snd) (r48.snd.snd.snd.snd.snd.snd.snd.snd.snd.snd)) fun r54 =>
      (some (r53 == r54))))
      (some (false)))))))
      (some (false)))))))))))))))))))))))))))))))
theorem pvqBack.F_eq (N : Nat) (y : List Int) (b : List Int) (n : Int) (k : Int) : evLaw (pvqBack.C N y b n k) (pvqBack.K N) 0 Try.f18 [.at (.roi .i64 y), .at (.roi .u8 b), .at (.int .i64 n), .at (.int .i64 k)] = pvqBack.F N y b n k := by
  kernel_rfl
theorem pvqBack.cok (N : Nat) (y : List Int) (b : List Int) (n : Int) (k : Int) : CfgOK (pvqBack.C N y b n k) := ⟨fun _ _ _ _ h => by simp [pvqBack.C, noRT] at h, wide, by
  simp only [pvqBack.C, List.mem_cons, List.not_mem_nil, or_false, forall_eq_or_imp, forall_eq, false_imp_iff, implies_true]
  exact ⟨⟨awake17.ok, by kernel_rfl⟩, ⟨enew.ok, by kernel_rfl⟩, ⟨pwrite.ok, by kernel_rfl⟩, ⟨qsum.ok, by kernel_rfl⟩, ⟨qmost.ok, by kernel_rfl⟩, ⟨etell.ok, by kernel_rfl⟩, ⟨edone.ok, by kernel_rfl⟩, ⟨rnew.ok, by kernel_rfl⟩, ⟨qcount.ok, by kernel_rfl⟩, ⟨ruint.ok, by kernel_rfl⟩, ⟨qvector.ok, by kernel_rfl⟩, ⟨same17.ok, by kernel_rfl⟩, ⟨new.ok, by kernel_rfl⟩, ⟨pread.ok, by kernel_rfl⟩, ⟨tell.ok, by kernel_rfl⟩, ⟨rtell.ok, by kernel_rfl⟩⟩, fun g hg => by simp [pvqBack.C] at hg⟩
theorem pvqBack.aok (N : Nat) : AnnsOK (pvqBack.K N) := by
  intro q hq
  simp only [pvqBack.K, List.mem_cons, List.not_mem_nil, or_false] at hq
theorem pvqBack.walk {w : World} {N : Nat} (y : List Int) (b : List Int) (n : Int) (k : Int) {cargs : Array Value} (ha : All2 (RV noRT (lawE w)) [.at (.roi .i64 y), .at (.roi .u8 b), .at (.int .i64 n), .at (.int .i64 k)] cargs.toList) (h : pvqBack.F N y b n k = some true) :
    Calls Try.prog 18 cargs w fun e w' => e = .returned (.bool true) ∧ Frm w (fun _ => False) w' :=
  law_sound (C := pvqBack.C N y b n k) (K := pvqBack.K N) (d := 0) (fn := Try.f18) (pvqBack.cok N y b n k) (fun q hq => by simp [pvqBack.C] at hq) (pvqBack.aok N) (by kernel_rfl) ha ((pvqBack.F_eq N y b n k).trans h)
end Go.Proofs.Rc
