/-
  Functions of the program: what each comes to, and its contract (written by a program).
  Conditions: none: each contract is proved for every input of its shape.
-/
import Derived.Test.YtgimkkepagcpkaaEngFn
import Derived.Laws.Externs
import Derived.Test.YtgimkkepagcpkaaProg
import Derived.Test.YtgimkkepagcpkaaPvqFns
namespace Go.Proofs.Rc
open Go.Eng
set_option maxRecDepth 100000
set_option linter.unusedVariables false
set_option linter.unusedSimpArgs false
noncomputable def pvqKnown.C (N : Nat)  : Cfg := { P := Try.prog, N := N, RT := noRT, specs := [(44, awake17.spec), (45, pindex.spec), (46, pvector.spec), (30, new.spec), (47, pread.spec), (48, pnear.spec), (49, pcount.spec), (50, pmost.spec), (26, enew.spec), (51, pwrite.spec)], inl := [], hi := 0, mv := [] }
noncomputable def pvqKnown.K (N : Nat) : FCfg := { anns := [], unr := [], lits := [], lets := [] }
noncomputable def pvqKnown.F (N : Nat)  : Option Bool :=
  (obind (Rc.awake17.F (N)) fun r0 =>
   (br (!r0)
    (some (false))
    (obind (Rc.pindex.F (N) (([] : List Int))) fun r1 =>
     (obind (Rc.pindex.F (N) ([(65 : Int)])) fun r2 =>
      (obind (Rc.pvector.F (N) ((17 : Int)) ((1 : Int)) ((0 : Int))) fun r3 =>
      (obind (Rc.pvector.F (N) ((2 : Int)) ((1 : Int)) ((4 : Int))) fun r4 =>
      (obind (Rc.new.F (N) (([] : List Int))) fun r5 =>
      (obind (Rc.pread.F (N) ((2 : Int)) ((65 : Int)) (r5.fst) (r5.snd.fst) (r5.snd.snd.fst) (r5.snd.snd.snd.fst) (r5.snd.snd.snd.snd.fst) (r5.snd.snd.snd.snd.snd.fst) (r5.snd.snd.snd.snd.snd.snd.fst) (r5.snd.snd.snd.snd.snd.snd.snd.fst) (r5.snd.snd.snd.snd.snd.snd.snd.snd.fst) (r5.snd.snd.snd.snd.snd.snd.snd.snd.snd)) fun r6 =>
      (obind (Rc.pnear.F (N) ((1 : Int)) (([] : List Int))) fun r7 =>
      (br (r1.snd.snd == (1 : Int))
      (br (r2.snd.snd == (1 : Int))
      (br (r3.fst == (1 : Int))
      (br (r4.fst == (1 : Int))
      (br (r6.fst == (1 : Int))
      (br (r7.fst == (1 : Int))
      (obind (Rc.pcount.F (N) ((0 : Int)) ((0 : Int))) fun r8 =>
      (br (r8 == (0 : Int))
      (obind (Rc.pcount.F (N) ((3 : Int)) ((0 : Int))) fun r9 =>
      (br (r9 == (1 : Int))
      (obind (Rc.pmost.F (N) ((17 : Int))) fun r10 =>
      (br (r10 == (0 : Int))
      (obind (Rc.enew.F (N)) fun r11 =>
      (obind (Rc.pwrite.F (N) (r11.fst) (r11.snd.fst) (r11.snd.snd.fst) (r11.snd.snd.snd.fst) (([] : List Int)) (r11.snd.snd.snd.snd.fst) (r11.snd.snd.snd.snd.snd)) fun r12 =>
      (br (r12.fst == (1 : Int))
      (obind (Rc.pcount.F (N) ((16 : Int)) ((64 : Int))) fun r13 =>
      (some (r13 == (4294967296 : Int))))
      (some (false)))))
      (some (false))))
      (some (false))))
      (some (false))))
      (some (false)))
      (some (false)))
      (some (false)))
      (some (false)))
      (some (false)))
      (some (false))))))))))))
theorem pvqKnown.F_eq (N : Nat)  : evLaw (pvqKnown.C N ) (pvqKnown.K N) 0 Try.f10 [] = pvqKnown.F N  := by
  kernel_rfl
theorem pvqKnown.cok (N : Nat)  : CfgOK (pvqKnown.C N ) := ⟨fun _ _ _ _ h => by simp [pvqKnown.C, noRT] at h, wide, by
  simp only [pvqKnown.C, List.mem_cons, List.not_mem_nil, or_false, forall_eq_or_imp, forall_eq, false_imp_iff, implies_true]
  exact ⟨⟨awake17.ok, by kernel_rfl⟩, ⟨pindex.ok, by kernel_rfl⟩, ⟨pvector.ok, by kernel_rfl⟩, ⟨new.ok, by kernel_rfl⟩, ⟨pread.ok, by kernel_rfl⟩, ⟨pnear.ok, by kernel_rfl⟩, ⟨pcount.ok, by kernel_rfl⟩, ⟨pmost.ok, by kernel_rfl⟩, ⟨enew.ok, by kernel_rfl⟩, ⟨pwrite.ok, by kernel_rfl⟩⟩, fun g hg => by simp [pvqKnown.C] at hg⟩
theorem pvqKnown.aok (N : Nat) : AnnsOK (pvqKnown.K N) := by
  intro q hq
  simp only [pvqKnown.K, List.mem_cons, List.not_mem_nil, or_false] at hq
theorem pvqKnown.walk {w : World} {N : Nat}  {cargs : Array Value} (ha : All2 (RV noRT (lawE w)) [] cargs.toList) (h : pvqKnown.F N  = some true) :
    Calls Try.prog 10 cargs w fun e w' => e = .returned (.bool true) ∧ Frm w (fun _ => False) w' :=
  law_sound (C := pvqKnown.C N ) (K := pvqKnown.K N) (d := 0) (fn := Try.f10) (pvqKnown.cok N ) (fun q hq => by simp [pvqKnown.C] at hq) (pvqKnown.aok N) (by kernel_rfl) ha ((pvqKnown.F_eq N ).trans h)

noncomputable def pvqCounts.C (N : Nat) (n : Int) (k : Int) : Cfg := { P := Try.prog, N := N, RT := noRT, specs := [(44, awake17.spec), (49, pcount.spec), (52, qcount.spec), (50, pmost.spec), (53, qmost.spec)], inl := [], hi := 0, mv := [] }
noncomputable def pvqCounts.K (N : Nat) : FCfg := { anns := [], unr := [], lits := [], lets := [] }
noncomputable def pvqCounts.F (N : Nat) (n : Int) (k : Int) : Option Bool :=
  (obind (Rc.awake17.F (N)) fun r0 =>
   (br (!r0)
    (some (false))
    (obind (Rc.pcount.F (N) (n) (k)) fun r1 =>
     (obind (Rc.qcount.F (N) (n) (k)) fun r2 =>
      (br (r1 == r2)
      (obind (Rc.pmost.F (N) (n)) fun r3 =>
      (obind (Rc.qmost.F (N) (n)) fun r4 =>
      (some (r3 == r4))))
      (some (false)))))))
theorem pvqCounts.F_eq (N : Nat) (n : Int) (k : Int) : evLaw (pvqCounts.C N n k) (pvqCounts.K N) 0 Try.f11 [.at (.int .i64 n), .at (.int .i64 k)] = pvqCounts.F N n k := by
  kernel_rfl
theorem pvqCounts.cok (N : Nat) (n : Int) (k : Int) : CfgOK (pvqCounts.C N n k) := ⟨fun _ _ _ _ h => by simp [pvqCounts.C, noRT] at h, wide, by
  simp only [pvqCounts.C, List.mem_cons, List.not_mem_nil, or_false, forall_eq_or_imp, forall_eq, false_imp_iff, implies_true]
  exact ⟨⟨awake17.ok, by kernel_rfl⟩, ⟨pcount.ok, by kernel_rfl⟩, ⟨qcount.ok, by kernel_rfl⟩, ⟨pmost.ok, by kernel_rfl⟩, ⟨qmost.ok, by kernel_rfl⟩⟩, fun g hg => by simp [pvqCounts.C] at hg⟩
theorem pvqCounts.aok (N : Nat) : AnnsOK (pvqCounts.K N) := by
  intro q hq
  simp only [pvqCounts.K, List.mem_cons, List.not_mem_nil, or_false] at hq
theorem pvqCounts.walk {w : World} {N : Nat} (n : Int) (k : Int) {cargs : Array Value} (ha : All2 (RV noRT (lawE w)) [.at (.int .i64 n), .at (.int .i64 k)] cargs.toList) (h : pvqCounts.F N n k = some true) :
    Calls Try.prog 11 cargs w fun e w' => e = .returned (.bool true) ∧ Frm w (fun _ => False) w' :=
  law_sound (C := pvqCounts.C N n k) (K := pvqCounts.K N) (d := 0) (fn := Try.f11) (pvqCounts.cok N n k) (fun q hq => by simp [pvqCounts.C] at hq) (pvqCounts.aok N) (by kernel_rfl) ha ((pvqCounts.F_eq N n k).trans h)

noncomputable def pvqNumbers.C (N : Nat) (y : List Int) (n : Int) (k : Int) (i : Int) : Cfg := { P := Try.prog, N := N, RT := noRT, specs := [(44, awake17.spec), (54, qsum.spec), (45, pindex.spec), (53, qmost.spec), (46, pvector.spec), (55, qindex.spec), (56, same17.spec), (52, qcount.spec), (57, qvector.spec)], inl := [], hi := 0, mv := [] }
noncomputable def pvqNumbers.K (N : Nat) : FCfg := { anns := [], unr := [], lits := [], lets := [] }
noncomputable def pvqNumbers.F (N : Nat) (y : List Int) (n : Int) (k : Int) (i : Int) : Option Bool :=
  (obind (Rc.awake17.F (N)) fun r0 =>
   (br (!r0)
    (some (false))
    (br (decide (↑y.length > (100 : Int)))
     (some (true))
     (obind (Rc.qsum.F (N) (y)) fun r1 =>
      (chk (([] : List Int).length + y.length ≤ (17592186043904 : Nat))
      (obind (Rc.pindex.F (N) (([] : List Int) ++ y)) fun r2 =>
      (br (decide (r1 < (0 : Int)))
      (br (r2.snd.snd != (1 : Int))
      (some (false))
      (br (r2.fst != (0 : Int))
      (some (false))
      (br (r2.snd.fst != (0 : Int))
      (some (false))
      (obind (Rc.pvector.F (N) (n) (k) (i)) fun r3 =>
      (br (decide (n < (1 : Int)))
      (br (r3.fst == (1 : Int))
      (some (↑r3.snd.length == (0 : Int)))
      (some (false)))
      (br (decide (n > (16 : Int)))
      (br (r3.fst == (1 : Int))
      (some (↑r3.snd.length == (0 : Int)))
      (some (false)))
      (br (decide (k < (0 : Int)))
      (br (r3.fst == (1 : Int))
      (some (↑r3.snd.length == (0 : Int)))
      (some (false)))
      (obind (Rc.qmost.F (N) (n)) fun r4 =>
      (br (decide (k > r4))
      (br (r3.fst == (1 : Int))
      (some (↑r3.snd.length == (0 : Int)))
      (some (false)))
      (br (decide (i < (0 : Int)))
      (br (r3.fst == (1 : Int))
      (some (↑r3.snd.length == (0 : Int)))
      (some (false)))
      (obind (Rc.qcount.F (N) (n) (k)) fun r5 =>
      (br (decide (i ≥ r5))
      (br (r3.fst == (1 : Int))
      (some (↑r3.snd.length == (0 : Int)))
      (some (false)))
      (obind (Rc.pindex.F (N) (r3.snd)) fun r6 =>
      (br (r3.fst == (0 : Int))
      (obind (Rc.qvector.F (N) (n) (k) (i)) fun r7 =>
      (obind (Rc.same17.F (N) (r3.snd) (r7)) fun r8 =>
      (br (r8)
      (br (r6.snd.snd == (0 : Int))
      (br (r6.fst == k)
      (some (r6.snd.fst == i))
      (some (false)))
      (some (false)))
      (some (false)))))
      (some (false))))))))))))))))
      (obind (Rc.qmost.F (N) (↑y.length)) fun r9 =>
      (br (decide (r1 > r9))
      (br (r2.snd.snd != (1 : Int))
      (some (false))
      (br (r2.fst != (0 : Int))
      (some (false))
      (br (r2.snd.fst != (0 : Int))
      (some (false))
      (obind (Rc.pvector.F (N) (n) (k) (i)) fun r10 =>
      (br (decide (n < (1 : Int)))
      (br (r10.fst == (1 : Int))
      (some (↑r10.snd.length == (0 : Int)))
      (some (false)))
      (br (decide (n > (16 : Int)))
      (br (r10.fst == (1 : Int))
      (some (↑r10.snd.length == (0 : Int)))
      (some (false)))
      (br (decide (k < (0 : Int)))
      (br (r10.fst == (1 : Int))
      (some (↑r10.snd.length == (0 : Int)))
      (some (false)))
      (obind (Rc.qmost.F (N) (n)) fun r11 =>
      (br (decide (k > r11))
      (br (r10.fst == (1 : Int))
      (some (↑r10.snd.length == (0 : Int)))
      (some (false)))
      (br (decide (i < (0 : Int)))
      (br (r10.fst == (1 : Int))
      (some (↑r10.snd.length == (0 : Int)))
      (some (false)))
      (obind (Rc.qcount.F (N) (n) (k)) fun r12 =>
      (br (decide (i ≥ r12))
      (br (r10.fst == (1 : Int))
      (some (↑r10.snd.length == (0 : Int)))
      (some (false)))
      (obind (Rc.pindex.F (N) (r10.snd)) fun r13 =>
      (br (r10.fst == (0 : Int))
      (obind (Rc.qvector.F (N) (n) (k) (i)) fun r14 =>
      (obind (Rc.same17.F (N) (r10.snd) (r14)) fun r15 =>
      (br (r15)
      (br (r13.snd.snd == (0 : Int))
      (br (r13.fst == k)
      (some (r13.snd.fst == i))
      (some (false)))
      (some (false)))
      (some (false)))))
      (some (false))))))))))))))))
      (obind (Rc.pvector.F (N) (↑y.length) (r2.fst) (r2.snd.fst)) fun r16 =>
      (br (r2.snd.snd != (0 : Int))
      (some (false))
      (br (r2.fst != r1)
      (some (false))
      (obind (Rc.qindex.F (N) (y)) fun r17 =>
      (br (r2.snd.fst != r17)
      (some (false))
      (br (r16.fst != (0 : Int))
      (some (false))
      (obind (Rc.same17.F (N) (r16.snd) (y)) fun r18 =>
      (br (!r18)
      (some (false))
      (obind (Rc.pvector.F (N) (n) (k) (i)) fun r19 =>
      (br (decide (n < (1 : Int)))
      (br (r19.fst == (1 : Int))
      (some (↑r19.snd.length == (0 : Int)))
      (some (false)))
      (br (decide (n > (16 : Int)))
      (br (r19.fst == (1 : Int))
      (some (↑r19.snd.length == (0 : Int)))
      (some (false)))
      (br (decide (k < (0 : Int)))
      (br (r19.fst == (1 : Int))
      (some (↑r19.snd.length == (0 : Int)))
      (some (false)))
      (obind (Rc.qmost.F (N) (n)) fun r20 =>
      (br (decide (k > r20))
      (br (r19.fst == (1 : Int))
      (some (↑r19.snd.length == (0 : Int)))
      (some (false)))
      (br (decide (i < (0 : Int)))
      (br (r19.fst == (1 : Int))
      (some (↑r19.snd.length == (0 : Int)))
      (some (false)))
      (obind (Rc.qcount.F (N) (n) (k)) fun r21 =>
      (br (decide (i ≥ r21))
      (br (r19.fst == (1 : Int))
      (some (↑r19.snd.length == (0 : Int)))
      (some (false)))
      (obind (Rc.pindex.F (N) (r19.snd)) fun r22 =>
      (br (r19.fst == (0 : Int))
      (obind (Rc.qvector.F (N) (n) (k) (i)) fun r23 =>
      (obind (Rc.same17.F (N) (r19.snd) (r23)) fun r24 =>
      (br (r24)
      (br (r22.snd.snd == (0 : Int))
      (br (r22.fst == k)
      (some (r22.snd.fst == i))
      (some (false)))
      (some (false)))
      (some (false)))))
      (some (false))))))))))))))))))))))))))))))
theorem pvqNumbers.F_eq (N : Nat) (y : List Int) (n : Int) (k : Int) (i : Int) : evLaw (pvqNumbers.C N y n k i) (pvqNumbers.K N) 0 Try.f12 [.at (.roi .i64 y), .at (.int .i64 n), .at (.int .i64 k), .at (.int .i64 i)] = pvqNumbers.F N y n k i := by
  kernel_rfl
theorem pvqNumbers.cok (N : Nat) (y : List Int) (n : Int) (k : Int) (i : Int) : CfgOK (pvqNumbers.C N y n k i) := ⟨fun _ _ _ _ h => by simp [pvqNumbers.C, noRT] at h, wide, by
  simp only [pvqNumbers.C, List.mem_cons, List.not_mem_nil, or_false, forall_eq_or_imp, forall_eq, false_imp_iff, implies_true]
  exact ⟨⟨awake17.ok, by kernel_rfl⟩, ⟨qsum.ok, by kernel_rfl⟩, ⟨pindex.ok, by kernel_rfl⟩, ⟨qmost.ok, by kernel_rfl⟩, ⟨pvector.ok, by kernel_rfl⟩, ⟨qindex.ok, by kernel_rfl⟩, ⟨same17.ok, by kernel_rfl⟩, ⟨qcount.ok, by kernel_rfl⟩, ⟨qvector.ok, by kernel_rfl⟩⟩, fun g hg => by simp [pvqNumbers.C] at hg⟩
theorem pvqNumbers.aok (N : Nat) : AnnsOK (pvqNumbers.K N) := by
  intro q hq
  simp only [pvqNumbers.K, List.mem_cons, List.not_mem_nil, or_false] at hq
theorem pvqNumbers.walk {w : World} {N : Nat} (y : List Int) (n : Int) (k : Int) (i : Int) {cargs : Array Value} (ha : All2 (RV noRT (lawE w)) [.at (.roi .i64 y), .at (.int .i64 n), .at (.int .i64 k), .at (.int .i64 i)] cargs.toList) (h : pvqNumbers.F N y n k i = some true) :
    Calls Try.prog 12 cargs w fun e w' => e = .returned (.bool true) ∧ Frm w (fun _ => False) w' :=
  law_sound (C := pvqNumbers.C N y n k i) (K := pvqNumbers.K N) (d := 0) (fn := Try.f12) (pvqNumbers.cok N y n k i) (fun q hq => by simp [pvqNumbers.C] at hq) (pvqNumbers.aok N) (by kernel_rfl) ha ((pvqNumbers.F_eq N y n k i).trans h)

noncomputable def pvqOrder.C (N : Nat) (n : Int) (k : Int) (a : Int) (b : Int) : Cfg := { P := Try.prog, N := N, RT := noRT, specs := [(44, awake17.spec), (46, pvector.spec), (58, rank.spec)], inl := [], hi := 0, mv := [] }
abbrev pvqOrder.loop8.R : Type := Bool
noncomputable def pvqOrder.loop8.ann : Ann := { nx := 20, slots := [(0, .at (.fint .i64 0)), (8, .at (.bool 0)), (9, .at (.full 0 false)), (11, .at (.full 1 false)), (13, .at (.int .i64 0))], blks := [(0, .fints true .i64 0), (1, .fints true .i64 1)], mov := [], exId := 0, xslots := [(9, .at (.full 0 false)), (11, .at (.full 1 false)), (8, .at (.bool 0))], xblks := [(0, .fints true .i64 0), (1, .fints true .i64 1)], T := pvqOrder.loop8.R, dec := fun L => (L.b 0), enc := fun r => mkL [] [r] [] [], ret := true }
noncomputable def pvqOrder.K (N : Nat) : FCfg := { anns := [(8, pvqOrder.loop8.ann)], unr := [], lits := [], lets := [] }
noncomputable def pvqOrder.loop8 (N : Nat) (n : Int) (k : Int) (a : Int) (b : Int) : Nat → Int → List Int → List Int → Int → Bool → Option (pvqOrder.loop8.R ⊕ Bool)
  | 0, _, _, _, _, _ => none
  | nn + 1, s0, l0, l1, s13, s8 =>
  (br (decide (s13 < s0))
   (chk ((0 : Int) ≤ s13 ∧ s13 < ↑l0.length)
    (obind (Rc.rank.F (N) (l0.getD s13.toNat (0 : Int))) fun r0 =>
     (chk ((0 : Int) ≤ s13 ∧ s13 < ↑l1.length)
      (obind (Rc.rank.F (N) (l1.getD s13.toNat (0 : Int))) fun r1 =>
      (br (r0 != r1)
      (omap
      (some (decide (r0 < r1))) .inr)
      (chkI (s0) (s0)
      (chkL (l0) (l0)
      (chkL (l1) (l1)
      (pvqOrder.loop8 N n k a b (nn) (s0) (l0) (l1) (IntKind.i64.wrap (s13 + (1 : Int))) (s8))))))))))
   (chkL (l0) (l0)
   (chkL (l1) (l1)
   (some (Sum.inl s8)))))
noncomputable def pvqOrder.loop8R (N : Nat) (n : Int) (k : Int) (a : Int) (b : Int) (nn : Nat) (s0 : Int) (l0 : List Int) (l1 : List Int) (s13 : Int) (s8 : Bool) : Option (pvqOrder.loop8.R ⊕ Bool) := loopR pvqOrder.loop8.ann (mkL [s0] [] [l0, l1] []) (evCode ((pvqOrder.C N n k a b).inLoop pvqOrder.loop8.ann) (pvqOrder.K N) (inlTab (pvqOrder.C N n k a b) 0) (bodyAt 8 Try.f13)) (lawKr Try.prog Try.f13) nn (mkL [s13] [s8] [] [])
theorem pvqOrder.loop8_eq (N : Nat) (n : Int) (k : Int) (a : Int) (b : Int) : ∀ (nn : Nat) (s0 : Int) (l0 : List Int) (l1 : List Int) (s13 : Int) (s8 : Bool), pvqOrder.loop8R N n k a b nn s0 l0 l1 s13 s8 = pvqOrder.loop8 N n k a b nn s0 l0 l1 s13 s8
  | 0, _, _, _, _, _ => by kernel_rfl
  | nn + 1, s0, l0, l1, s13, s8 => by
    have h : pvqOrder.loop8R N n k a b (nn + 1) s0 l0 l1 s13 s8 =
  (br (decide (s13 < s0))
   (chk ((0 : Int) ≤ s13 ∧ s13 < ↑l0.length)
    (obind (Rc.rank.F (N) (l0.getD s13.toNat (0 : Int))) fun r0 =>
     (chk ((0 : Int) ≤ s13 ∧ s13 < ↑l1.length)
      (obind (Rc.rank.F (N) (l1.getD s13.toNat (0 : Int))) fun r1 =>
      (br (r0 != r1)
      (omap
      (some (decide (r0 < r1))) .inr)
      (chkI (s0) (s0)
      (chkL (l0) (l0)
      (chkL (l1) (l1)
      (pvqOrder.loop8R N n k a b (nn) (s0) (l0) (l1) (IntKind.i64.wrap (s13 + (1 : Int))) (s8))))))))))
   (chkL (l0) (l0)
   (chkL (l1) (l1)
   (some (Sum.inl s8))))) := by kernel_rfl
    rw [h, pvqOrder.loop8]
    try simp only [pvqOrder.loop8_eq N n k a b nn]
noncomputable def pvqOrder.F (N : Nat) (n : Int) (k : Int) (a : Int) (b : Int) : Option Bool :=
  (obind (Rc.awake17.F (N)) fun r0 =>
   (br (!r0)
    (some (false))
    (obind (Rc.pvector.F (N) (n) (k) (a)) fun r1 =>
     (obind (Rc.pvector.F (N) (n) (k) (b)) fun r2 =>
      (br (r1.fst != (0 : Int))
      (some (true))
      (br (r2.fst != (0 : Int))
      (some (true))
      (br (decide (a ≥ b))
      (some (true))
      (osum (pvqOrder.loop8 N n k a b (N) (n) (r1.snd) (r2.snd) ((0 : Int)) (false)) fun r3 =>
      (some (false))))))))))
theorem pvqOrder.F_eq (N : Nat) (n : Int) (k : Int) (a : Int) (b : Int) : evLaw (pvqOrder.C N n k a b) (pvqOrder.K N) 0 Try.f13 [.at (.int .i64 n), .at (.int .i64 k), .at (.int .i64 a), .at (.int .i64 b)] = pvqOrder.F N n k a b := by
  have h : evLaw (pvqOrder.C N n k a b) (pvqOrder.K N) 0 Try.f13 [.at (.int .i64 n), .at (.int .i64 k), .at (.int .i64 a), .at (.int .i64 b)] =
  (obind (Rc.awake17.F (N)) fun r0 =>
   (br (!r0)
    (some (false))
    (obind (Rc.pvector.F (N) (n) (k) (a)) fun r1 =>
     (obind (Rc.pvector.F (N) (n) (k) (b)) fun r2 =>
      (br (r1.fst != (0 : Int))
      (some (true))
      (br (r2.fst != (0 : Int))
      (some (true))
      (br (decide (a ≥ b))
      (some (true))
      (osum (pvqOrder.loop8R N n k a b (N) (n) (r1.snd) (r2.snd) ((0 : Int)) (false)) fun r3 =>
      (some (false)))))))))) := by kernel_rfl
  rw [h, pvqOrder.F]
  try simp only [pvqOrder.loop8_eq N n k a b]
theorem pvqOrder.cok (N : Nat) (n : Int) (k : Int) (a : Int) (b : Int) : CfgOK (pvqOrder.C N n k a b) := ⟨fun _ _ _ _ h => by simp [pvqOrder.C, noRT] at h, wide, by
  simp only [pvqOrder.C, List.mem_cons, List.not_mem_nil, or_false, forall_eq_or_imp, forall_eq, false_imp_iff, implies_true]
  exact ⟨⟨awake17.ok, by kernel_rfl⟩, ⟨pvector.ok, by kernel_rfl⟩, ⟨rank.ok, by kernel_rfl⟩⟩, fun g hg => by simp [pvqOrder.C] at hg⟩
theorem pvqOrder.aok (N : Nat) : AnnsOK (pvqOrder.K N) := by
  intro q hq
  simp only [pvqOrder.K, List.mem_cons, List.not_mem_nil, or_false] at hq
  subst hq
  exact fun _ _ => ⟨rfl, rfl⟩
theorem pvqOrder.walk {w : World} {N : Nat} (n : Int) (k : Int) (a : Int) (b : Int) {cargs : Array Value} (ha : All2 (RV noRT (lawE w)) [.at (.int .i64 n), .at (.int .i64 k), .at (.int .i64 a), .at (.int .i64 b)] cargs.toList) (h : pvqOrder.F N n k a b = some true) :
    Calls Try.prog 13 cargs w fun e w' => e = .returned (.bool true) ∧ Frm w (fun _ => False) w' :=
  law_sound (C := pvqOrder.C N n k a b) (K := pvqOrder.K N) (d := 0) (fn := Try.f13) (pvqOrder.cok N n k a b) (fun q hq => by simp [pvqOrder.C] at hq) (pvqOrder.aok N) (by kernel_rfl) ha ((pvqOrder.F_eq N n k a b).trans h)

noncomputable def pvqBack.C (N : Nat) (y : List Int) (b : List Int) (n : Int) (k : Int) : Cfg := { P := Try.prog, N := N, RT := noRT, specs := [(44, awake17.spec), (26, enew.spec), (51, pwrite.spec), (54, qsum.spec), (53, qmost.spec), (28, etell.spec), (29, edone.spec), (34, rnew.spec), (52, qcount.spec), (60, ruint.spec), (57, qvector.spec), (56, same17.spec), (30, new.spec), (47, pread.spec), (61, tell.spec), (37, rtell.spec)], inl := [], hi := 0, mv := [] }
noncomputable def pvqBack.K (N : Nat) : FCfg := { anns := [], unr := [], lits := [], lets := [], frz := [56] }
noncomputable def pvqBack.F (N : Nat) (y : List Int) (b : List Int) (n : Int) (k : Int) : Option Bool :=
  (obind (Rc.awake17.F (N)) fun r0 =>
   (br (!r0)
    (some (false))
    (br (decide (↑b.length > (200 : Int)))
     (some (true))
     (br (decide (↑y.length > (100 : Int)))
      (some (true))
      (obind (Rc.enew.F (N)) fun r1 =>
      (chk (([] : List Int).length + y.length ≤ (17592186043904 : Nat))
      (obind (Rc.pwrite.F (N) (r1.fst) (r1.snd.fst) (r1.snd.snd.fst) (r1.snd.snd.snd.fst) (([] : List Int) ++ y) (r1.snd.snd.snd.snd.fst) (r1.snd.snd.snd.snd.snd)) fun r2 =>
      (obind (Rc.qsum.F (N) (y)) fun r3 =>
      (br (decide (r3 < (0 : Int)))
      (br (r2.fst != (1 : Int))
      (some (false))
      (obind (Rc.etell.F (N) (r2.snd.fst) (r2.snd.snd.fst) (r2.snd.snd.snd.fst) (r2.snd.snd.snd.snd.fst) (r2.snd.snd.snd.snd.snd.fst) (r2.snd.snd.snd.snd.snd.snd)) fun r4 =>
      (br (r4 != (1 : Int))
      (some (false))
      (obind (Rc.new.F (N) (b)) fun r5 =>
      (obind (Rc.pread.F (N) (n) (k) (r5.fst) (r5.snd.fst) (r5.snd.snd.fst) (r5.snd.snd.snd.fst) (r5.snd.snd.snd.snd.fst) (r5.snd.snd.snd.snd.snd.fst) (r5.snd.snd.snd.snd.snd.snd.fst) (r5.snd.snd.snd.snd.snd.snd.snd.fst) (r5.snd.snd.snd.snd.snd.snd.snd.snd.fst) (r5.snd.snd.snd.snd.snd.snd.snd.snd.snd)) fun r6 =>
      (br (decide (n < (1 : Int)))
      (br (r6.fst == (1 : Int))
      (br (↑r6.snd.snd.snd.snd.snd.snd.snd.snd.snd.snd.length == (0 : Int))
      (obind (Rc.tell.F (N) (r6.snd.fst) (r6.snd.snd.fst) (r6.snd.snd.snd.fst) (r6.snd.snd.snd.snd.fst) (r6.snd.snd.snd.snd.snd.fst) (r6.snd.snd.snd.snd.snd.snd.fst) (r6.snd.snd.snd.snd.snd.snd.snd.fst) (r6.snd.snd.snd.snd.snd.snd.snd.snd.fst) (r6.snd.snd.snd.snd.snd.snd.snd.snd.snd.fst) (r5.snd.snd.snd.snd.snd.snd.snd.snd.snd)) fun r7 =>
      (some (r7 == (1 : Int))))
      (some (false)))
      (some (false)))
      (br (decide (n > (16 : Int)))
      (br (r6.fst == (1 : Int))
      (br (↑r6.snd.snd.snd.snd.snd.snd.snd.snd.snd.snd.length == (0 : Int))
      (obind (Rc.tell.F (N) (r6.snd.fst) (r6.snd.snd.fst) (r6.snd.snd.snd.fst) (r6.snd.snd.snd.snd.fst) (r6.snd.snd.snd.snd.snd.fst) (r6.snd.snd.snd.snd.snd.snd.fst) (r6.snd.snd.snd.snd.snd.snd.snd.fst) (r6.snd.snd.snd.snd.snd.snd.snd.snd.fst) (r6.snd.snd.snd.snd.snd.snd.snd.snd.snd.fst) (r5.snd.snd.snd.snd.snd.snd.snd.snd.snd)) fun r8 =>
      (some (r8 == (1 : Int))))
      (some (false)))
      (some (false)))
      (br (decide (k < (0 : Int)))
      (br (r6.fst == (1 : Int))
      (br (↑r6.snd.snd.snd.snd.snd.snd.snd.snd.snd.snd.length == (0 : Int))
      (obind (Rc.tell.F (N) (r6.snd.fst) (r6.snd.snd.fst) (r6.snd.snd.snd.fst) (r6.snd.snd.snd.snd.fst) (r6.snd.snd.snd.snd.snd.fst) (r6.snd.snd.snd.snd.snd.snd.fst) (r6.snd.snd.snd.snd.snd.snd.snd.fst) (r6.snd.snd.snd.snd.snd.snd.snd.snd.fst) (r6.snd.snd.snd.snd.snd.snd.snd.snd.snd.fst) (r5.snd.snd.snd.snd.snd.snd.snd.snd.snd)) fun r9 =>
      (some (r9 == (1 : Int))))
      (some (false)))
      (some (false)))
      (obind (Rc.qmost.F (N) (n)) fun r10 =>
      (br (decide (k > r10))
      (br (r6.fst == (1 : Int))
      (br (↑r6.snd.snd.snd.snd.snd.snd.snd.snd.snd.snd.length == (0 : Int))
      (obind (Rc.tell.F (N) (r6.snd.fst) (r6.snd.snd.fst) (r6.snd.snd.snd.fst) (r6.snd.snd.snd.snd.fst) (r6.snd.snd.snd.snd.snd.fst) (r6.snd.snd.snd.snd.snd.snd.fst) (r6.snd.snd.snd.snd.snd.snd.snd.fst) (r6.snd.snd.snd.snd.snd.snd.snd.snd.fst) (r6.snd.snd.snd.snd.snd.snd.snd.snd.snd.fst) (r5.snd.snd.snd.snd.snd.snd.snd.snd.snd)) fun r11 =>
      (some (r11 == (1 : Int))))
      (some (false)))
      (some (false)))
      (obind (Rc.rnew.F (N) (b)) fun r12 =>
      (br (r6.fst == (0 : Int))
      (obind (Rc.qcount.F (N) (n) (k)) fun r13 =>
      (obind (Rc.ruint.F (N) (r13) (r12.fst) (r12.snd.fst) (r12.snd.snd.fst) (r12.snd.snd.snd.fst) (r12.snd.snd.snd.snd.fst) (r12.snd.snd.snd.snd.snd.fst) (r12.snd.snd.snd.snd.snd.snd.fst) (r12.snd.snd.snd.snd.snd.snd.snd.fst) (r12.snd.snd.snd.snd.snd.snd.snd.snd.fst) (r12.snd.snd.snd.snd.snd.snd.snd.snd.snd.fst) (r12.snd.snd.snd.snd.snd.snd.snd.snd.snd.snd)) fun r14 =>
      (obind (Rc.qvector.F (N) (n) (k) (r14.fst)) fun r15 =>
      (obind (Rc.same17.F (N) (r6.snd.snd.snd.snd.snd.snd.snd.snd.snd.snd) (r15)) fun r16 =>
      (br (r16)
      (obind (Rc.tell.F (N) (r6.snd.fst) (r6.snd.snd.fst) (r6.snd.snd.snd.fst) (r6.snd.snd.snd.snd.fst) (r6.snd.snd.snd.snd.snd.fst) (r6.snd.snd.snd.snd.snd.snd.fst) (r6.snd.snd.snd.snd.snd.snd.snd.fst) (r6.snd.snd.snd.snd.snd.snd.snd.snd.fst) (r6.snd.snd.snd.snd.snd.snd.snd.snd.snd.fst) (r5.snd.snd.snd.snd.snd.snd.snd.snd.snd)) fun r17 =>
      (obind (Rc.rtell.F (N) (r14.snd.fst) (r14.snd.snd.fst) (r14.snd.snd.snd.fst) (r14.snd.snd.snd.snd.fst) (r14.snd.snd.snd.snd.snd.fst) (r14.snd.snd.snd.snd.snd.snd.fst) (r14.snd.snd.snd.snd.snd.snd.snd.fst) (r14.snd.snd.snd.snd.snd.snd.snd.snd.fst) (r14.snd.snd.snd.snd.snd.snd.snd.snd.snd.fst) (r14.snd.snd.snd.snd.snd.snd.snd.snd.snd.snd) (r12.snd.snd.snd.snd.snd.snd.snd.snd.snd.snd)) fun r18 =>
      (some (r17 == r18))))
      (some (false)))))))
      (some (false))))))))))))))
      (obind (Rc.qmost.F (N) (↑y.length)) fun r19 =>
      (br (decide (r3 > r19))
      (br (r2.fst != (1 : Int))
      (some (false))
      (obind (Rc.etell.F (N) (r2.snd.fst) (r2.snd.snd.fst) (r2.snd.snd.snd.fst) (r2.snd.snd.snd.snd.fst) (r2.snd.snd.snd.snd.snd.fst) (r2.snd.snd.snd.snd.snd.snd)) fun r20 =>
      (br (r20 != (1 : Int))
      (some (false))
      (obind (Rc.new.F (N) (b)) fun r21 =>
      (obind (Rc.pread.F (N) (n) (k) (r21.fst) (r21.snd.fst) (r21.snd.snd.fst) (r21.snd.snd.snd.fst) (r21.snd.snd.snd.snd.fst) (r21.snd.snd.snd.snd.snd.fst) (r21.snd.snd.snd.snd.snd.snd.fst) (r21.snd.snd.snd.snd.snd.snd.snd.fst) (r21.snd.snd.snd.snd.snd.snd.snd.snd.fst) (r21.snd.snd.snd.snd.snd.snd.snd.snd.snd)) fun r22 =>
      (br (decide (n < (1 : Int)))
      (br (r22.fst == (1 : Int))
      (br (↑r22.snd.snd.snd.snd.snd.snd.snd.snd.snd.snd.length == (0 : Int))
      (obind (Rc.tell.F (N) (r22.snd.fst) (r22.snd.snd.fst) (r22.snd.snd.snd.fst) (r22.snd.snd.snd.snd.fst) (r22.snd.snd.snd.snd.snd.fst) (r22.snd.snd.snd.snd.snd.snd.fst) (r22.snd.snd.snd.snd.snd.snd.snd.fst) (r22.snd.snd.snd.snd.snd.snd.snd.snd.fst) (r22.snd.snd.snd.snd.snd.snd.snd.snd.snd.fst) (r21.snd.snd.snd.snd.snd.snd.snd.snd.snd)) fun r23 =>
      (some (r23 == (1 : Int))))
      (some (false)))
      (some (false)))
      (br (decide (n > (16 : Int)))
      (br (r22.fst == (1 : Int))
      (br (↑r22.snd.snd.snd.snd.snd.snd.snd.snd.snd.snd.length == (0 : Int))
      (obind (Rc.tell.F (N) (r22.snd.fst) (r22.snd.snd.fst) (r22.snd.snd.snd.fst) (r22.snd.snd.snd.snd.fst) (r22.snd.snd.snd.snd.snd.fst) (r22.snd.snd.snd.snd.snd.snd.fst) (r22.snd.snd.snd.snd.snd.snd.snd.fst) (r22.snd.snd.snd.snd.snd.snd.snd.snd.fst) (r22.snd.snd.snd.snd.snd.snd.snd.snd.snd.fst) (r21.snd.snd.snd.snd.snd.snd.snd.snd.snd)) fun r24 =>
      (some (r24 == (1 : Int))))
      (some (false)))
      (some (false)))
      (br (decide (k < (0 : Int)))
      (br (r22.fst == (1 : Int))
      (br (↑r22.snd.snd.snd.snd.snd.snd.snd.snd.snd.snd.length == (0 : Int))
      (obind (Rc.tell.F (N) (r22.snd.fst) (r22.snd.snd.fst) (r22.snd.snd.snd.fst) (r22.snd.snd.snd.snd.fst) (r22.snd.snd.snd.snd.snd.fst) (r22.snd.snd.snd.snd.snd.snd.fst) (r22.snd.snd.snd.snd.snd.snd.snd.fst) (r22.snd.snd.snd.snd.snd.snd.snd.snd.fst) (r22.snd.snd.snd.snd.snd.snd.snd.snd.snd.fst) (r21.snd.snd.snd.snd.snd.snd.snd.snd.snd)) fun r25 =>
      (some (r25 == (1 : Int))))
      (some (false)))
      (some (false)))
      (obind (Rc.qmost.F (N) (n)) fun r26 =>
      (br (decide (k > r26))
      (br (r22.fst == (1 : Int))
      (br (↑r22.snd.snd.snd.snd.snd.snd.snd.snd.snd.snd.length == (0 : Int))
      (obind (Rc.tell.F (N) (r22.snd.fst) (r22.snd.snd.fst) (r22.snd.snd.snd.fst) (r22.snd.snd.snd.snd.fst) (r22.snd.snd.snd.snd.snd.fst) (r22.snd.snd.snd.snd.snd.snd.fst) (r22.snd.snd.snd.snd.snd.snd.snd.fst) (r22.snd.snd.snd.snd.snd.snd.snd.snd.fst) (r22.snd.snd.snd.snd.snd.snd.snd.snd.snd.fst) (r21.snd.snd.snd.snd.snd.snd.snd.snd.snd)) fun r27 =>
      (some (r27 == (1 : Int))))
      (some (false)))
      (some (false)))
      (obind (Rc.rnew.F (N) (b)) fun r28 =>
      (br (r22.fst == (0 : Int))
      (obind (Rc.qcount.F (N) (n) (k)) fun r29 =>
      (obind (Rc.ruint.F (N) (r29) (r28.fst) (r28.snd.fst) (r28.snd.snd.fst) (r28.snd.snd.snd.fst) (r28.snd.snd.snd.snd.fst) (r28.snd.snd.snd.snd.snd.fst) (r28.snd.snd.snd.snd.snd.snd.fst) (r28.snd.snd.snd.snd.snd.snd.snd.fst) (r28.snd.snd.snd.snd.snd.snd.snd.snd.fst) (r28.snd.snd.snd.snd.snd.snd.snd.snd.snd.fst) (r28.snd.snd.snd.snd.snd.snd.snd.snd.snd.snd)) fun r30 =>
      (obind (Rc.qvector.F (N) (n) (k) (r30.fst)) fun r31 =>
      (obind (Rc.same17.F (N) (r22.snd.snd.snd.snd.snd.snd.snd.snd.snd.snd) (r31)) fun r32 =>
      (br (r32)
      (obind (Rc.tell.F (N) (r22.snd.fst) (r22.snd.snd.fst) (r22.snd.snd.snd.fst) (r22.snd.snd.snd.snd.fst) (r22.snd.snd.snd.snd.snd.fst) (r22.snd.snd.snd.snd.snd.snd.fst) (r22.snd.snd.snd.snd.snd.snd.snd.fst) (r22.snd.snd.snd.snd.snd.snd.snd.snd.fst) (r22.snd.snd.snd.snd.snd.snd.snd.snd.snd.fst) (r21.snd.snd.snd.snd.snd.snd.snd.snd.snd)) fun r33 =>
      (obind (Rc.rtell.F (N) (r30.snd.fst) (r30.snd.snd.fst) (r30.snd.snd.snd.fst) (r30.snd.snd.snd.snd.fst) (r30.snd.snd.snd.snd.snd.fst) (r30.snd.snd.snd.snd.snd.snd.fst) (r30.snd.snd.snd.snd.snd.snd.snd.fst) (r30.snd.snd.snd.snd.snd.snd.snd.snd.fst) (r30.snd.snd.snd.snd.snd.snd.snd.snd.snd.fst) (r30.snd.snd.snd.snd.snd.snd.snd.snd.snd.snd) (r28.snd.snd.snd.snd.snd.snd.snd.snd.snd.snd)) fun r34 =>
      (some (r33 == r34))))
      (some (false)))))))
      (some (false))))))))))))))
      (obind (Rc.edone.F (N) ((20 : Int)) (r2.snd.fst) (r2.snd.snd.fst) (r2.snd.snd.snd.fst) (r2.snd.snd.snd.snd.fst) (r2.snd.snd.snd.snd.snd.fst) (r2.snd.snd.snd.snd.snd.snd)) fun r35 =>
      (br (r2.fst != (0 : Int))
      (some (false))
      (br (r35.fst != (0 : Int))
      (some (false))
      (obind (Rc.rnew.F (N) (r35.snd)) fun r36 =>
      (obind (Rc.qcount.F (N) (↑y.length) (r3)) fun r37 =>
      (obind (Rc.ruint.F (N) (r37) (r36.fst) (r36.snd.fst) (r36.snd.snd.fst) (r36.snd.snd.snd.fst) (r36.snd.snd.snd.snd.fst) (r36.snd.snd.snd.snd.snd.fst) (r36.snd.snd.snd.snd.snd.snd.fst) (r36.snd.snd.snd.snd.snd.snd.snd.fst) (r36.snd.snd.snd.snd.snd.snd.snd.snd.fst) (r36.snd.snd.snd.snd.snd.snd.snd.snd.snd.fst) (r36.snd.snd.snd.snd.snd.snd.snd.snd.snd.snd)) fun r38 =>
      (obind (Rc.qvector.F (N) (↑y.length) (r3) (r38.fst)) fun r39 =>
      (obind (Rc.same17.F (N) (r39) (y)) fun r40 =>
      (br (!r40)
      (some (false))
      (obind (Rc.new.F (N) (b)) fun r41 =>
      (obind (Rc.pread.F (N) (n) (k) (r41.fst) (r41.snd.fst) (r41.snd.snd.fst) (r41.snd.snd.snd.fst) (r41.snd.snd.snd.snd.fst) (r41.snd.snd.snd.snd.snd.fst) (r41.snd.snd.snd.snd.snd.snd.fst) (r41.snd.snd.snd.snd.snd.snd.snd.fst) (r41.snd.snd.snd.snd.snd.snd.snd.snd.fst) (r41.snd.snd.snd.snd.snd.snd.snd.snd.snd)) fun r42 =>
      (br (decide (n < (1 : Int)))
      (br (r42.fst == (1 : Int))
      (br (↑r42.snd.snd.snd.snd.snd.snd.snd.snd.snd.snd.length == (0 : Int))
      (obind (Rc.tell.F (N) (r42.snd.fst) (r42.snd.snd.fst) (r42.snd.snd.snd.fst) (r42.snd.snd.snd.snd.fst) (r42.snd.snd.snd.snd.snd.fst) (r42.snd.snd.snd.snd.snd.snd.fst) (r42.snd.snd.snd.snd.snd.snd.snd.fst) (r42.snd.snd.snd.snd.snd.snd.snd.snd.fst) (r42.snd.snd.snd.snd.snd.snd.snd.snd.snd.fst) (r41.snd.snd.snd.snd.snd.snd.snd.snd.snd)) fun r43 =>
      (some (r43 == (1 : Int))))
      (some (false)))
      (some (false)))
      (br (decide (n > (16 : Int)))
      (br (r42.fst == (1 : Int))
      (br (↑r42.snd.snd.snd.snd.snd.snd.snd.snd.snd.snd.length == (0 : Int))
      (obind (Rc.tell.F (N) (r42.snd.fst) (r42.snd.snd.fst) (r42.snd.snd.snd.fst) (r42.snd.snd.snd.snd.fst) (r42.snd.snd.snd.snd.snd.fst) (r42.snd.snd.snd.snd.snd.snd.fst) (r42.snd.snd.snd.snd.snd.snd.snd.fst) (r42.snd.snd.snd.snd.snd.snd.snd.snd.fst) (r42.snd.snd.snd.snd.snd.snd.snd.snd.snd.fst) (r41.snd.snd.snd.snd.snd.snd.snd.snd.snd)) fun r44 =>
      (some (r44 == (1 : Int))))
      (some (false)))
      (some (false)))
      (br (decide (k < (0 : Int)))
      (br (r42.fst == (1 : Int))
      (br (↑r42.snd.snd.snd.snd.snd.snd.snd.snd.snd.snd.length == (0 : Int))
      (obind (Rc.tell.F (N) (r42.snd.fst) (r42.snd.snd.fst) (r42.snd.snd.snd.fst) (r42.snd.snd.snd.snd.fst) (r42.snd.snd.snd.snd.snd.fst) (r42.snd.snd.snd.snd.snd.snd.fst) (r42.snd.snd.snd.snd.snd.snd.snd.fst) (r42.snd.snd.snd.snd.snd.snd.snd.snd.fst) (r42.snd.snd.snd.snd.snd.snd.snd.snd.snd.fst) (r41.snd.snd.snd.snd.snd.snd.snd.snd.snd)) fun r45 =>
      (some (r45 == (1 : Int))))
      (some (false)))
      (some (false)))
      (obind (Rc.qmost.F (N) (n)) fun r46 =>
      (br (decide (k > r46))
      (br (r42.fst == (1 : Int))
      (br (↑r42.snd.snd.snd.snd.snd.snd.snd.snd.snd.snd.length == (0 : Int))
      (obind (Rc.tell.F (N) (r42.snd.fst) (r42.snd.snd.fst) (r42.snd.snd.snd.fst) (r42.snd.snd.snd.snd.fst) (r42.snd.snd.snd.snd.snd.fst) (r42.snd.snd.snd.snd.snd.snd.fst) (r42.snd.snd.snd.snd.snd.snd.snd.fst) (r42.snd.snd.snd.snd.snd.snd.snd.snd.fst) (r42.snd.snd.snd.snd.snd.snd.snd.snd.snd.fst) (r41.snd.snd.snd.snd.snd.snd.snd.snd.snd)) fun r47 =>
      (some (r47 == (1 : Int))))
      (some (false)))
      (some (false)))
      (obind (Rc.rnew.F (N) (b)) fun r48 =>
      (br (r42.fst == (0 : Int))
      (obind (Rc.qcount.F (N) (n) (k)) fun r49 =>
      (obind (Rc.ruint.F (N) (r49) (r48.fst) (r48.snd.fst) (r48.snd.snd.fst) (r48.snd.snd.snd.fst) (r48.snd.snd.snd.snd.fst) (r48.snd.snd.snd.snd.snd.fst) (r48.snd.snd.snd.snd.snd.snd.fst) (r48.snd.snd.snd.snd.snd.snd.snd.fst) (r48.snd.snd.snd.snd.snd.snd.snd.snd.fst) (r48.snd.snd.snd.snd.snd.snd.snd.snd.snd.fst) (r48.snd.snd.snd.snd.snd.snd.snd.snd.snd.snd)) fun r50 =>
      (obind (Rc.qvector.F (N) (n) (k) (r50.fst)) fun r51 =>
      (obind (Rc.same17.F (N) (r42.snd.snd.snd.snd.snd.snd.snd.snd.snd.snd) (r51)) fun r52 =>
      (br (r52)
      (obind (Rc.tell.F (N) (r42.snd.fst) (r42.snd.snd.fst) (r42.snd.snd.snd.fst) (r42.snd.snd.snd.snd.fst) (r42.snd.snd.snd.snd.snd.fst) (r42.snd.snd.snd.snd.snd.snd.fst) (r42.snd.snd.snd.snd.snd.snd.snd.fst) (r42.snd.snd.snd.snd.snd.snd.snd.snd.fst) (r42.snd.snd.snd.snd.snd.snd.snd.snd.snd.fst) (r41.snd.snd.snd.snd.snd.snd.snd.snd.snd)) fun r53 =>
      (obind (Rc.rtell.F (N) (r50.snd.fst) (r50.snd.snd.fst) (r50.snd.snd.snd.fst) (r50.snd.snd.snd.snd.fst) (r50.snd.snd.snd.snd.snd.fst) (r50.snd.snd.snd.snd.snd.snd.fst) (r50.snd.snd.snd.snd.snd.snd.snd.fst) (r50.snd.snd.snd.snd.snd.snd.snd.snd.fst) (r50.snd.snd.snd.snd.snd.snd.snd.snd.snd.fst) (r50.snd.snd.snd.snd.snd.snd.snd.snd.snd.snd) (r48.snd.snd.snd.snd.snd.snd.snd.snd.snd.snd)) fun r54 =>
      (some (r53 == r54))))
      (some (false)))))))
      (some (false)))))))))))))))))))))))))))))))
theorem pvqBack.F_eq (N : Nat) (y : List Int) (b : List Int) (n : Int) (k : Int) : evLaw (pvqBack.C N y b n k) (pvqBack.K N) 0 Try.f18 [.at (.roi .i64 y), .at (.roi .u8 b), .at (.int .i64 n), .at (.int .i64 k)] = pvqBack.F N y b n k := by
  kernel_rfl
theorem pvqBack.cok (N : Nat) (y : List Int) (b : List Int) (n : Int) (k : Int) : CfgOK (pvqBack.C N y b n k) := ⟨fun _ _ _ _ h => by simp [pvqBack.C, noRT] at h, wide, by
  simp only [pvqBack.C, List.mem_cons, List.not_mem_nil, or_false, forall_eq_or_imp, forall_eq, false_imp_iff, implies_true]
  exact ⟨⟨awake17.ok, by kernel_rfl⟩, ⟨enew.ok, by kernel_rfl⟩, ⟨pwrite.ok, by kernel_rfl⟩, ⟨qsum.ok, by kernel_rfl⟩, ⟨qmost.ok, by kernel_rfl⟩, ⟨etell.ok, by kernel_rfl⟩, ⟨edone.ok, by kernel_rfl⟩, ⟨rnew.ok, by kernel_rfl⟩, ⟨qcount.ok, by kernel_rfl⟩, ⟨ruint.ok, by kernel_rfl⟩, ⟨qvector.ok, by kernel_rfl⟩, ⟨same17.ok, by kernel_rfl⟩, ⟨new.ok, by kernel_rfl⟩, ⟨pread.ok, by kernel_rfl⟩, ⟨tell.ok, by kernel_rfl⟩, ⟨rtell.ok, by kernel_rfl⟩⟩, fun g hg => by simp [pvqBack.C] at hg⟩
theorem pvqBack.aok (N : Nat) : AnnsOK (pvqBack.K N) := by
  intro q hq
  simp only [pvqBack.K, List.mem_cons, List.not_mem_nil, or_false] at hq
theorem pvqBack.walk {w : World} {N : Nat} (y : List Int) (b : List Int) (n : Int) (k : Int) {cargs : Array Value} (ha : All2 (RV noRT (lawE w)) [.at (.roi .i64 y), .at (.roi .u8 b), .at (.int .i64 n), .at (.int .i64 k)] cargs.toList) (h : pvqBack.F N y b n k = some true) :
    Calls Try.prog 18 cargs w fun e w' => e = .returned (.bool true) ∧ Frm w (fun _ => False) w' :=
  law_sound (C := pvqBack.C N y b n k) (K := pvqBack.K N) (d := 0) (fn := Try.f18) (pvqBack.cok N y b n k) (fun q hq => by simp [pvqBack.C] at hq) (pvqBack.aok N) (by kernel_rfl) ha ((pvqBack.F_eq N y b n k).trans h)

noncomputable def pvqNear.C (N : Nat) (x : List Int) (k : Int) : Cfg := { P := Try.prog, N := N, RT := noRT, specs := [(44, awake17.spec), (48, pnear.spec), (53, qmost.spec), (59, qnear.spec), (56, same17.spec), (54, qsum.spec)], inl := [], hi := 0, mv := [] }
abbrev pvqNear.loop11.R : Type := Bool
noncomputable def pvqNear.loop11.ann : Ann := { nx := 20, slots := [(0, .at (.froi .i64 0)), (4, .at (.bool 0)), (5, .at (.full 2 false)), (7, .at (.int .i64 0))], blks := [(2, .fints true .i64 1)], mov := [], exId := 0, xslots := [(5, .at (.full 2 false)), (4, .at (.bool 0))], xblks := [(2, .fints true .i64 1)], T := pvqNear.loop11.R, dec := fun L => (L.b 0), enc := fun r => mkL [] [r] [] [], ret := true }
noncomputable def pvqNear.K (N : Nat) : FCfg := { anns := [(11, pvqNear.loop11.ann)], unr := [], lits := [], lets := [] }
noncomputable def pvqNear.loop11 (N : Nat) (x : List Int) (k : Int) : Nat → List Int → List Int → Int → Bool → Option (pvqNear.loop11.R ⊕ Bool)
  | 0, _, _, _, _ => none
  | nn + 1, s0, l2, s7, s4 =>
  (br (decide (s7 < ↑l2.length))
   (chk ((0 : Int) ≤ s7 ∧ s7 < ↑l2.length)
    (br (decide (l2.getD s7.toNat (0 : Int) > (0 : Int)))
     (chk ((0 : Int) ≤ s7 ∧ s7 < ↑s0.length)
      (br (decide (s0.getD s7.toNat (0 : Int) < (0 : Int)))
      (omap
      (some (false)) .inr)
      (chk ((0 : Int) ≤ s7 ∧ s7 < ↑l2.length)
      (br (decide (l2.getD s7.toNat (0 : Int) < (0 : Int)))
      (chk ((0 : Int) ≤ s7 ∧ s7 < ↑s0.length)
      (br (decide (s0.getD s7.toNat (0 : Int) ≥ (0 : Int)))
      (omap
      (some (false)) .inr)
      (chkL (s0) (s0)
      (chkL (l2) (l2)
      (pvqNear.loop11 N x k (nn) (s0) (l2) (IntKind.i64.wrap (s7 + (1 : Int))) (s4))))))
      (chkL (s0) (s0)
      (chkL (l2) (l2)
      (pvqNear.loop11 N x k (nn) (s0) (l2) (IntKind.i64.wrap (s7 + (1 : Int))) (s4))))))))
     (chk ((0 : Int) ≤ s7 ∧ s7 < ↑l2.length)
      (br (decide (l2.getD s7.toNat (0 : Int) < (0 : Int)))
      (chk ((0 : Int) ≤ s7 ∧ s7 < ↑s0.length)
      (br (decide (s0.getD s7.toNat (0 : Int) ≥ (0 : Int)))
      (omap
      (some (false)) .inr)
      (chkL (s0) (s0)
      (chkL (l2) (l2)
      (pvqNear.loop11 N x k (nn) (s0) (l2) (IntKind.i64.wrap (s7 + (1 : Int))) (s4))))))
      (chkL (s0) (s0)
      (chkL (l2) (l2)
      (pvqNear.loop11 N x k (nn) (s0) (l2) (IntKind.i64.wrap (s7 + (1 : Int))) (s4))))))))
   (chkL (l2) (l2)
   (some (Sum.inl s4))))
noncomputable def pvqNear.loop11R (N : Nat) (x : List Int) (k : Int) (nn : Nat) (s0 : List Int) (l2 : List Int) (s7 : Int) (s4 : Bool) : Option (pvqNear.loop11.R ⊕ Bool) := loopR pvqNear.loop11.ann (mkL [] [] [s0, l2] []) (evCode ((pvqNear.C N x k).inLoop pvqNear.loop11.ann) (pvqNear.K N) (inlTab (pvqNear.C N x k) 0) (bodyAt 11 Try.f14)) (lawKr Try.prog Try.f14) nn (mkL [s7] [s4] [] [])
theorem pvqNear.loop11_eq (N : Nat) (x : List Int) (k : Int) : ∀ (nn : Nat) (s0 : List Int) (l2 : List Int) (s7 : Int) (s4 : Bool), pvqNear.loop11R N x k nn s0 l2 s7 s4 = pvqNear.loop11 N x k nn s0 l2 s7 s4
  | 0, _, _, _, _ => by kernel_rfl
  | nn + 1, s0, l2, s7, s4 => by
    have h : pvqNear.loop11R N x k (nn + 1) s0 l2 s7 s4 =
  (br (decide (s7 < ↑l2.length))
   (chk ((0 : Int) ≤ s7 ∧ s7 < ↑l2.length)
    (br (decide (l2.getD s7.toNat (0 : Int) > (0 : Int)))
     (chk ((0 : Int) ≤ s7 ∧ s7 < ↑s0.length)
      (br (decide (s0.getD s7.toNat (0 : Int) < (0 : Int)))
      (omap
      (some (false)) .inr)
      (chk ((0 : Int) ≤ s7 ∧ s7 < ↑l2.length)
      (br (decide (l2.getD s7.toNat (0 : Int) < (0 : Int)))
      (chk ((0 : Int) ≤ s7 ∧ s7 < ↑s0.length)
      (br (decide (s0.getD s7.toNat (0 : Int) ≥ (0 : Int)))
      (omap
      (some (false)) .inr)
      (chkL (s0) (s0)
      (chkL (l2) (l2)
      (pvqNear.loop11R N x k (nn) (s0) (l2) (IntKind.i64.wrap (s7 + (1 : Int))) (s4))))))
      (chkL (s0) (s0)
      (chkL (l2) (l2)
      (pvqNear.loop11R N x k (nn) (s0) (l2) (IntKind.i64.wrap (s7 + (1 : Int))) (s4))))))))
     (chk ((0 : Int) ≤ s7 ∧ s7 < ↑l2.length)
      (br (decide (l2.getD s7.toNat (0 : Int) < (0 : Int)))
      (chk ((0 : Int) ≤ s7 ∧ s7 < ↑s0.length)
      (br (decide (s0.getD s7.toNat (0 : Int) ≥ (0 : Int)))
      (omap
      (some (false)) .inr)
      (chkL (s0) (s0)
      (chkL (l2) (l2)
      (pvqNear.loop11R N x k (nn) (s0) (l2) (IntKind.i64.wrap (s7 + (1 : Int))) (s4))))))
      (chkL (s0) (s0)
      (chkL (l2) (l2)
      (pvqNear.loop11R N x k (nn) (s0) (l2) (IntKind.i64.wrap (s7 + (1 : Int))) (s4))))))))
   (chkL (l2) (l2)
   (some (Sum.inl s4)))) := by kernel_rfl
    rw [h, pvqNear.loop11]
    try simp only [pvqNear.loop11_eq N x k nn]
noncomputable def pvqNear.F (N : Nat) (x : List Int) (k : Int) : Option Bool :=
  (obind (Rc.awake17.F (N)) fun r0 =>
   (br (!r0)
    (some (false))
    (br (decide (↑x.length > (100 : Int)))
     (some (true))
     (chk (([] : List Int).length + x.length ≤ (17592186043904 : Nat))
      (obind (Rc.pnear.F (N) (k) (([] : List Int) ++ x)) fun r1 =>
      (br (decide (↑x.length < (1 : Int)))
      (br (r1.fst == (1 : Int))
      (some (↑r1.snd.length == (0 : Int)))
      (some (false)))
      (br (decide (↑x.length > (16 : Int)))
      (br (r1.fst == (1 : Int))
      (some (↑r1.snd.length == (0 : Int)))
      (some (false)))
      (br (decide (k < (0 : Int)))
      (br (r1.fst == (1 : Int))
      (some (↑r1.snd.length == (0 : Int)))
      (some (false)))
      (obind (Rc.qmost.F (N) (↑x.length)) fun r2 =>
      (br (decide (k > r2))
      (br (r1.fst == (1 : Int))
      (some (↑r1.snd.length == (0 : Int)))
      (some (false)))
      (br (r1.fst != (0 : Int))
      (some (false))
      (obind (Rc.qnear.F (N) (k) (x)) fun r3 =>
      (obind (Rc.same17.F (N) (r1.snd) (r3)) fun r4 =>
      (br (!r4)
      (some (false))
      (obind (Rc.qsum.F (N) (r1.snd)) fun r5 =>
      (br (r5 != k)
      (some (false))
      (osum (pvqNear.loop11 N x k (N) (x) (r1.snd) ((0 : Int)) (false)) fun r6 =>
      (some (true)))))))))))))))))))
theorem pvqNear.F_eq (N : Nat) (x : List Int) (k : Int) : evLaw (pvqNear.C N x k) (pvqNear.K N) 0 Try.f14 [.at (.roi .i64 x), .at (.int .i64 k)] = pvqNear.F N x k := by
  have h : evLaw (pvqNear.C N x k) (pvqNear.K N) 0 Try.f14 [.at (.roi .i64 x), .at (.int .i64 k)] =
  (obind (Rc.awake17.F (N)) fun r0 =>
   (br (!r0)
    (some (false))
    (br (decide (↑x.length > (100 : Int)))
     (some (true))
     (chk (([] : List Int).length + x.length ≤ (17592186043904 : Nat))
      (obind (Rc.pnear.F (N) (k) (([] : List Int) ++ x)) fun r1 =>
      (br (decide (↑x.length < (1 : Int)))
      (br (r1.fst == (1 : Int))
      (some (↑r1.snd.length == (0 : Int)))
      (some (false)))
      (br (decide (↑x.length > (16 : Int)))
      (br (r1.fst == (1 : Int))
      (some (↑r1.snd.length == (0 : Int)))
      (some (false)))
      (br (decide (k < (0 : Int)))
      (br (r1.fst == (1 : Int))
      (some (↑r1.snd.length == (0 : Int)))
      (some (false)))
      (obind (Rc.qmost.F (N) (↑x.length)) fun r2 =>
      (br (decide (k > r2))
      (br (r1.fst == (1 : Int))
      (some (↑r1.snd.length == (0 : Int)))
      (some (false)))
      (br (r1.fst != (0 : Int))
      (some (false))
      (obind (Rc.qnear.F (N) (k) (x)) fun r3 =>
      (obind (Rc.same17.F (N) (r1.snd) (r3)) fun r4 =>
      (br (!r4)
      (some (false))
      (obind (Rc.qsum.F (N) (r1.snd)) fun r5 =>
      (br (r5 != k)
      (some (false))
      (osum (pvqNear.loop11R N x k (N) (x) (r1.snd) ((0 : Int)) (false)) fun r6 =>
      (some (true))))))))))))))))))) := by kernel_rfl
  rw [h, pvqNear.F]
  try simp only [pvqNear.loop11_eq N x k]
theorem pvqNear.cok (N : Nat) (x : List Int) (k : Int) : CfgOK (pvqNear.C N x k) := ⟨fun _ _ _ _ h => by simp [pvqNear.C, noRT] at h, wide, by
  simp only [pvqNear.C, List.mem_cons, List.not_mem_nil, or_false, forall_eq_or_imp, forall_eq, false_imp_iff, implies_true]
  exact ⟨⟨awake17.ok, by kernel_rfl⟩, ⟨pnear.ok, by kernel_rfl⟩, ⟨qmost.ok, by kernel_rfl⟩, ⟨qnear.ok, by kernel_rfl⟩, ⟨same17.ok, by kernel_rfl⟩, ⟨qsum.ok, by kernel_rfl⟩⟩, fun g hg => by simp [pvqNear.C] at hg⟩
theorem pvqNear.aok (N : Nat) : AnnsOK (pvqNear.K N) := by
  intro q hq
  simp only [pvqNear.K, List.mem_cons, List.not_mem_nil, or_false] at hq
  subst hq
  exact fun _ _ => ⟨rfl, rfl⟩
theorem pvqNear.walk {w : World} {N : Nat} (x : List Int) (k : Int) {cargs : Array Value} (ha : All2 (RV noRT (lawE w)) [.at (.roi .i64 x), .at (.int .i64 k)] cargs.toList) (h : pvqNear.F N x k = some true) :
    Calls Try.prog 14 cargs w fun e w' => e = .returned (.bool true) ∧ Frm w (fun _ => False) w' :=
  law_sound (C := pvqNear.C N x k) (K := pvqNear.K N) (d := 0) (fn := Try.f14) (pvqNear.cok N x k) (fun q hq => by simp [pvqNear.C] at hq) (pvqNear.aok N) (by kernel_rfl) ha ((pvqNear.F_eq N x k).trans h)

noncomputable def pvqSums.C (N : Nat) (n : Int) (k : Int) : Cfg := { P := Try.prog, N := N, RT := noRT, specs := [(44, awake17.spec), (49, pcount.spec)], inl := [], hi := 0, mv := [] }
noncomputable def pvqSums.K (N : Nat) : FCfg := { anns := [], unr := [], lits := [], lets := [] }
noncomputable def pvqSums.F (N : Nat) (n : Int) (k : Int) : Option Bool :=
  (obind (Rc.awake17.F (N)) fun r0 =>
   (br (!r0)
    (some (false))
    (br (decide (n < (2 : Int)))
     (some (true))
     (br (decide (n > (16 : Int)))
      (some (true))
      (br (decide (k < (1 : Int)))
      (some (true))
      (br (decide (k > (64 : Int)))
      (some (true))
      (obind (Rc.pcount.F (N) (n) (k)) fun r1 =>
      (obind (Rc.pcount.F (N) (IntKind.i64.wrap (n - (1 : Int))) (k)) fun r2 =>
      (obind (Rc.pcount.F (N) (n) (IntKind.i64.wrap (k - (1 : Int)))) fun r3 =>
      (obind (Rc.pcount.F (N) (IntKind.i64.wrap (n - (1 : Int))) (IntKind.i64.wrap (k - (1 : Int)))) fun r4 =>
      (br (decide (r1 < (4294967296 : Int)))
      (br (r1 == IntKind.i64.wrap (IntKind.i64.wrap (r2 + r3) + r4))
      (obind (Rc.pcount.F (N) (n) (IntKind.i64.wrap (k - (1 : Int)))) fun r5 =>
      (some (decide (r1 > r5))))
      (some (false)))
      (some (decide (IntKind.i64.wrap (IntKind.i64.wrap (r2 + r3) + r4) ≥ (4294967296 : Int)))))))))))))))
theorem pvqSums.F_eq (N : Nat) (n : Int) (k : Int) : evLaw (pvqSums.C N n k) (pvqSums.K N) 0 Try.f15 [.at (.int .i64 n), .at (.int .i64 k)] = pvqSums.F N n k := by
  kernel_rfl
theorem pvqSums.cok (N : Nat) (n : Int) (k : Int) : CfgOK (pvqSums.C N n k) := ⟨fun _ _ _ _ h => by simp [pvqSums.C, noRT] at h, wide, by
  simp only [pvqSums.C, List.mem_cons, List.not_mem_nil, or_false, forall_eq_or_imp, forall_eq, false_imp_iff, implies_true]
  exact ⟨⟨awake17.ok, by kernel_rfl⟩, ⟨pcount.ok, by kernel_rfl⟩⟩, fun g hg => by simp [pvqSums.C] at hg⟩
theorem pvqSums.aok (N : Nat) : AnnsOK (pvqSums.K N) := by
  intro q hq
  simp only [pvqSums.K, List.mem_cons, List.not_mem_nil, or_false] at hq
theorem pvqSums.walk {w : World} {N : Nat} (n : Int) (k : Int) {cargs : Array Value} (ha : All2 (RV noRT (lawE w)) [.at (.int .i64 n), .at (.int .i64 k)] cargs.toList) (h : pvqSums.F N n k = some true) :
    Calls Try.prog 15 cargs w fun e w' => e = .returned (.bool true) ∧ Frm w (fun _ => False) w' :=
  law_sound (C := pvqSums.C N n k) (K := pvqSums.K N) (d := 0) (fn := Try.f15) (pvqSums.cok N n k) (fun q hq => by simp [pvqSums.C] at hq) (pvqSums.aok N) (by kernel_rfl) ha ((pvqSums.F_eq N n k).trans h)

noncomputable def pvqExact.C (N : Nat) (n : Int) (k : Int) (i : Int) (f : Int) : Cfg := { P := Try.prog, N := N, RT := noRT, specs := [(44, awake17.spec), (46, pvector.spec), (48, pnear.spec), (56, same17.spec)], inl := [], hi := 0, mv := [] }
abbrev pvqExact.loop8.R : Type := List Int
noncomputable def pvqExact.loop8.ann : Ann := { nx := 21, slots := [(0, .at (.fint .i64 0)), (3, .at (.fint .i64 1)), (9, .at (.full 0 false)), (11, .at (.full 20 false)), (12, .at (.int .i64 0))], blks := [(0, .fints true .i64 0), (20, .ints true .i64 0)], mov := [20], exId := 0, xslots := [(9, .at (.full 0 false)), (11, .at (.full 20 false))], xblks := [(0, .fints true .i64 0), (20, .ints true .i64 0)], T := pvqExact.loop8.R, dec := fun L => (L.l 0), enc := fun r => mkL [] [] [r] [], ret := false }
noncomputable def pvqExact.K (N : Nat) : FCfg := { anns := [(8, pvqExact.loop8.ann)], unr := [], lits := [], lets := [] }
noncomputable def pvqExact.loop8 (N : Nat) (n : Int) (k : Int) (i : Int) (f : Int) : Nat → Int → Int → List Int → Int → List Int → Option pvqExact.loop8.R
  | 0, _, _, _, _, _ => none
  | nn + 1, s0, s3, l0, s12, s11 =>
  (br (decide (s12 < s0))
   (chk ((0 : Int) ≤ s12 ∧ s12 < ↑l0.length)
    (chk (s11.length + [IntKind.i64.wrap (s3 * l0.getD s12.toNat (0 : Int))].length ≤ (17592186043904 : Nat))
     (chkI (s0) (s0)
     (chkI (s3) (s3)
     (chkL (l0) (l0)
     (pvqExact.loop8 N n k i f (nn) (s0) (s3) (l0) (IntKind.i64.wrap (s12 + (1 : Int))) (s11 ++ [IntKind.i64.wrap (s3 * l0.getD s12.toNat (0 : Int))])))))))
   (chkL (l0) (l0)
   (some (s11))))
noncomputable def pvqExact.loop8R (N : Nat) (n : Int) (k : Int) (i : Int) (f : Int) (nn : Nat) (s0 : Int) (s3 : Int) (l0 : List Int) (s12 : Int) (s11 : List Int) : Option pvqExact.loop8.R := loopF pvqExact.loop8.ann (mkL [s0, s3] [] [l0] []) (evCode ((pvqExact.C N n k i f).inLoop pvqExact.loop8.ann) (pvqExact.K N) (inlTab (pvqExact.C N n k i f) 0) (bodyAt 8 Try.f16)) nn (mkL [s12] [] [s11] [])
theorem pvqExact.loop8_eq (N : Nat) (n : Int) (k : Int) (i : Int) (f : Int) : ∀ (nn : Nat) (s0 : Int) (s3 : Int) (l0 : List Int) (s12 : Int) (s11 : List Int), pvqExact.loop8R N n k i f nn s0 s3 l0 s12 s11 = pvqExact.loop8 N n k i f nn s0 s3 l0 s12 s11
  | 0, _, _, _, _, _ => by kernel_rfl
  | nn + 1, s0, s3, l0, s12, s11 => by
    have h : pvqExact.loop8R N n k i f (nn + 1) s0 s3 l0 s12 s11 =
  (br (decide (s12 < s0))
   (chk ((0 : Int) ≤ s12 ∧ s12 < ↑l0.length)
    (chk (s11.length + [IntKind.i64.wrap (s3 * l0.getD s12.toNat (0 : Int))].length ≤ (17592186043904 : Nat))
     (chkI (s0) (s0)
     (chkI (s3) (s3)
     (chkL (l0) (l0)
     (pvqExact.loop8R N n k i f (nn) (s0) (s3) (l0) (IntKind.i64.wrap (s12 + (1 : Int))) (s11 ++ [IntKind.i64.wrap (s3 * l0.getD s12.toNat (0 : Int))])))))))
   (chkL (l0) (l0)
   (some (s11)))) := by kernel_rfl
    rw [h, pvqExact.loop8]
    try simp only [pvqExact.loop8_eq N n k i f nn]
noncomputable def pvqExact.F (N : Nat) (n : Int) (k : Int) (i : Int) (f : Int) : Option Bool :=
  (obind (Rc.awake17.F (N)) fun r0 =>
   (br (!r0)
    (some (false))
    (obind (Rc.pvector.F (N) (n) (k) (i)) fun r1 =>
     (br (r1.fst != (0 : Int))
      (some (true))
      (br (decide (f < (1 : Int)))
      (some (true))
      (br (decide (f > (131072 : Int)))
      (some (true))
      (br (k == (0 : Int))
      (some (true))
      (obind (pvqExact.loop8 N n k i f (N) (n) (f) (r1.snd) ((0 : Int)) (([] : List Int))) fun r2 =>
      (obind (Rc.pnear.F (N) (k) (r2)) fun r3 =>
      (br (r3.fst == (0 : Int))
      (obind (Rc.same17.F (N) (r3.snd) (r1.snd)) fun r4 =>
      (some (r4)))
      (some (false))))))))))))
theorem pvqExact.F_eq (N : Nat) (n : Int) (k : Int) (i : Int) (f : Int) : evLaw (pvqExact.C N n k i f) (pvqExact.K N) 0 Try.f16 [.at (.int .i64 n), .at (.int .i64 k), .at (.int .i64 i), .at (.int .i64 f)] = pvqExact.F N n k i f := by
  have h : evLaw (pvqExact.C N n k i f) (pvqExact.K N) 0 Try.f16 [.at (.int .i64 n), .at (.int .i64 k), .at (.int .i64 i), .at (.int .i64 f)] =
  (obind (Rc.awake17.F (N)) fun r0 =>
   (br (!r0)
    (some (false))
    (obind (Rc.pvector.F (N) (n) (k) (i)) fun r1 =>
     (br (r1.fst != (0 : Int))
      (some (true))
      (br (decide (f < (1 : Int)))
      (some (true))
      (br (decide (f > (131072 : Int)))
      (some (true))
      (br (k == (0 : Int))
      (some (true))
      (obind (pvqExact.loop8R N n k i f (N) (n) (f) (r1.snd) ((0 : Int)) (([] : List Int))) fun r2 =>
      (obind (Rc.pnear.F (N) (k) (r2)) fun r3 =>
      (br (r3.fst == (0 : Int))
      (obind (Rc.same17.F (N) (r3.snd) (r1.snd)) fun r4 =>
      (some (r4)))
      (some (false)))))))))))) := by kernel_rfl
  rw [h, pvqExact.F]
  try simp only [pvqExact.loop8_eq N n k i f]
theorem pvqExact.cok (N : Nat) (n : Int) (k : Int) (i : Int) (f : Int) : CfgOK (pvqExact.C N n k i f) := ⟨fun _ _ _ _ h => by simp [pvqExact.C, noRT] at h, wide, by
  simp only [pvqExact.C, List.mem_cons, List.not_mem_nil, or_false, forall_eq_or_imp, forall_eq, false_imp_iff, implies_true]
  exact ⟨⟨awake17.ok, by kernel_rfl⟩, ⟨pvector.ok, by kernel_rfl⟩, ⟨pnear.ok, by kernel_rfl⟩, ⟨same17.ok, by kernel_rfl⟩⟩, fun g hg => by simp [pvqExact.C] at hg⟩
theorem pvqExact.aok (N : Nat) : AnnsOK (pvqExact.K N) := by
  intro q hq
  simp only [pvqExact.K, List.mem_cons, List.not_mem_nil, or_false] at hq
  subst hq
  exact fun _ _ => ⟨rfl, rfl⟩
theorem pvqExact.walk {w : World} {N : Nat} (n : Int) (k : Int) (i : Int) (f : Int) {cargs : Array Value} (ha : All2 (RV noRT (lawE w)) [.at (.int .i64 n), .at (.int .i64 k), .at (.int .i64 i), .at (.int .i64 f)] cargs.toList) (h : pvqExact.F N n k i f = some true) :
    Calls Try.prog 16 cargs w fun e w' => e = .returned (.bool true) ∧ Frm w (fun _ => False) w' :=
  law_sound (C := pvqExact.C N n k i f) (K := pvqExact.K N) (d := 0) (fn := Try.f16) (pvqExact.cok N n k i f) (fun q hq => by simp [pvqExact.C] at hq) (pvqExact.aok N) (by kernel_rfl) ha ((pvqExact.F_eq N n k i f).trans h)

noncomputable def pvqFirst.C (N : Nat) (n : Int) (k : Int) : Cfg := { P := Try.prog, N := N, RT := noRT, specs := [(44, awake17.spec), (50, pmost.spec), (49, pcount.spec), (46, pvector.spec), (56, same17.spec)], inl := [], hi := 0, mv := [] }
noncomputable def pvqFirst.K (N : Nat) : FCfg := { anns := [], unr := [], lits := [], lets := [] }
noncomputable def pvqFirst.F (N : Nat) (n : Int) (k : Int) : Option Bool :=
  (obind (Rc.awake17.F (N)) fun r0 =>
   (br (!r0)
    (some (false))
    (br (decide (n < (1 : Int)))
     (some (true))
     (br (decide (n > (16 : Int)))
      (some (true))
      (br (decide (k < (0 : Int)))
      (some (true))
      (obind (Rc.pmost.F (N) (n)) fun r1 =>
      (br (decide (k > r1))
      (some (true))
      (obind (Rc.pcount.F (N) (n) (k)) fun r2 =>
      (obind (Rc.pvector.F (N) (n) (k) ((0 : Int))) fun r3 =>
      (obind (Rc.pvector.F (N) (n) (k) (IntKind.i64.wrap (r2 - (1 : Int)))) fun r4 =>
      (br (r3.fst != (0 : Int))
      (some (false))
      (br (r4.fst != (0 : Int))
      (some (false))
      (chk ((0 : Int) ≤ n ∧ n ≤ n ∧ n ≤ ↑(17592186043904 : Nat))
      (chk ((0 : Int) ≤ n ∧ n ≤ n ∧ n ≤ ↑(17592186043904 : Nat))
      (chk ((0 : Int) ≤ IntKind.i64.wrap (n - (1 : Int)) ∧ IntKind.i64.wrap (n - (1 : Int)) < ↑(List.replicate n.toNat (0 : Int)).length)
      (chk ((0 : Int) ≤ (0 : Int) ∧ (0 : Int) < ↑(List.replicate n.toNat (0 : Int)).length)
      (obind (Rc.same17.F (N) (r3.snd) ((List.replicate n.toNat (0 : Int)).set (IntKind.i64.wrap (n - (1 : Int))).toNat k)) fun r5 =>
      (br (r5)
      (obind (Rc.same17.F (N) (r4.snd) ((List.replicate n.toNat (0 : Int)).set (Int.toNat (0 : Int)) (IntKind.i64.wrap ((0 : Int) - k)))) fun r6 =>
      (br (r6)
      (br (decide (k > (0 : Int)))
      (some (true))
      (some (r2 == (1 : Int))))
      (some (false))))
      (some (false))))))))))))))))))))
theorem pvqFirst.F_eq (N : Nat) (n : Int) (k : Int) : evLaw (pvqFirst.C N n k) (pvqFirst.K N) 0 Try.f17 [.at (.int .i64 n), .at (.int .i64 k)] = pvqFirst.F N n k := by
  kernel_rfl
theorem pvqFirst.cok (N : Nat) (n : Int) (k : Int) : CfgOK (pvqFirst.C N n k) := ⟨fun _ _ _ _ h => by simp [pvqFirst.C, noRT] at h, wide, by
  simp only [pvqFirst.C, List.mem_cons, List.not_mem_nil, or_false, forall_eq_or_imp, forall_eq, false_imp_iff, implies_true]
  exact ⟨⟨awake17.ok, by kernel_rfl⟩, ⟨pmost.ok, by kernel_rfl⟩, ⟨pcount.ok, by kernel_rfl⟩, ⟨pvector.ok, by kernel_rfl⟩, ⟨same17.ok, by kernel_rfl⟩⟩, fun g hg => by simp [pvqFirst.C] at hg⟩
theorem pvqFirst.aok (N : Nat) : AnnsOK (pvqFirst.K N) := by
  intro q hq
  simp only [pvqFirst.K, List.mem_cons, List.not_mem_nil, or_false] at hq
theorem pvqFirst.walk {w : World} {N : Nat} (n : Int) (k : Int) {cargs : Array Value} (ha : All2 (RV noRT (lawE w)) [.at (.int .i64 n), .at (.int .i64 k)] cargs.toList) (h : pvqFirst.F N n k = some true) :
    Calls Try.prog 17 cargs w fun e w' => e = .returned (.bool true) ∧ Frm w (fun _ => False) w' :=
  law_sound (C := pvqFirst.C N n k) (K := pvqFirst.K N) (d := 0) (fn := Try.f17) (pvqFirst.cok N n k) (fun q hq => by simp [pvqFirst.C] at hq) (pvqFirst.aok N) (by kernel_rfl) ha ((pvqFirst.F_eq N n k).trans h)

end Go.Proofs.Rc
