/-
  Functions of the program: what each comes to, and its contract (written by a program).
  Conditions: none: each contract is proved for every input of its shape.
-/
import Derived.Test.YtlbdcahecabfkaaEngFn
import Derived.Laws.Externs
import Derived.Test.YtlbdcahecabfkaaProg
import Derived.Test.YtlbdcahecabfkaaRencFns
namespace Go.Proofs.Rc
open Go.Eng
set_option maxRecDepth 100000
set_option linter.unusedVariables false
set_option linter.unusedSimpArgs false
structure Act4 where
  op : Int
  v : Int
  n : Int
  m : Int
  t : List Int
def Act4.nil : Act4 := ⟨0, 0, 0, 0, []⟩
def actTabK (l : List Act4) : RoTab := fun tag => match tag with
  | 0 => some ⟨l.length, 5, fun i j => match j with
    | 0 => .int .i64 (l.getD i Act4.nil).op
    | 1 => .int .i64 (l.getD i Act4.nil).v
    | 2 => .int .i64 (l.getD i Act4.nil).n
    | 3 => .int .i64 (l.getD i Act4.nil).m
    | _ => .roi .i64 (l.getD i Act4.nil).t⟩
  | _ => none
def actTab2K (a b : List Act4) : RoTab := fun tag => match tag with
  | 0 => actTabK a 0
  | 1 => actTabK b 0
  | _ => none
theorem actTabK_ok (l : List Act4) : RTok (actTabK l) := by
  intro tag T i j h
  cases tag with
  | zero =>
    simp only [actTabK, Option.some.injEq] at h
    subst h
    match j with
    | 0 => trivial
    | 1 => trivial
    | 2 => trivial
    | 3 => trivial
    | j + 4 => trivial
  | succ n => simp [actTabK] at h
theorem actTab2K_ok (a b : List Act4) : RTok (actTab2K a b) := by
  intro tag T i j h
  match tag with
  | 0 => exact actTabK_ok a 0 T i j h
  | 1 => exact actTabK_ok b 0 T i j h
  | n + 2 => simp [actTab2K] at h
noncomputable def awake4.sig : Eng.Sig := { args := [], n := 0, pre := [], post := [], m := 0, ret := .at (.bool 0) }
noncomputable def awake4.C (N : Nat) : Cfg := { P := Try.prog, N := N, RT := noRT, specs := [(25, enew.spec), (49, icdf.spec), (77, esymbol.spec), (78, ebits.spec), (29, edone.spec), (41, new.spec), (79, symbol.spec), (80, bits.spec), (51, tell.spec), (26, etell.spec), (81, eflag.spec), (82, euint.spec)], inl := [], hi := 0, mv := [] }
abbrev awake4.R : Type := Bool
def awake4.dec (L : Eng.Leaves) : awake4.R := (L.b 0)
def awake4.enc (r : awake4.R) : Eng.Leaves := mkL [] [r] [] []
noncomputable def awake4.K (N : Nat) : FCfg := { anns := [], unr := [], lits := [], lets := [] }
noncomputable def awake4.F (N : Nat)  : Option awake4.R :=
  (obind (Rc.enew.F (N)) fun r0 =>
   (obind (Rc.icdf.F (N) ((0 : Int))) fun r1 =>
    (obind (Rc.esymbol.F (N) ((1 : Int)) (r0.fst) (r0.snd.fst) (r0.snd.snd.fst) (r0.snd.snd.snd.fst) (r1) (r0.snd.snd.snd.snd.fst) (r0.snd.snd.snd.snd.snd)) fun r2 =>
     (obind (Rc.ebits.F (N) ((5 : Int)) ((3 : Int)) (r2.snd.fst) (r2.snd.snd.fst) (r2.snd.snd.snd.fst) (r2.snd.snd.snd.snd.fst) (r2.snd.snd.snd.snd.snd.snd) (r2.snd.snd.snd.snd.snd.fst)) fun r3 =>
      (obind (Rc.edone.F (N) ((4 : Int)) (r2.snd.fst) (r2.snd.snd.fst) (r3.snd.fst) (r3.snd.snd.fst) (r2.snd.snd.snd.snd.snd.snd) (r3.snd.snd.snd)) fun r4 =>
      (br (r2.fst != (0 : Int))
      (some (false))
      (br (r3.fst != (0 : Int))
      (some (false))
      (br (r4.fst != (0 : Int))
      (some (false))
      (br (↑r4.snd.length != (4 : Int))
      (some (false))
      (obind (Rc.new.F (N) (r4.snd)) fun r5 =>
      (obind (Rc.icdf.F (N) ((0 : Int))) fun r6 =>
      (obind (Rc.symbol.F (N) (r5.fst) (r5.snd.fst) (r5.snd.snd.fst) (r5.snd.snd.snd.fst) (r5.snd.snd.snd.snd.fst) (r5.snd.snd.snd.snd.snd.fst) (r5.snd.snd.snd.snd.snd.snd.fst) (r5.snd.snd.snd.snd.snd.snd.snd.fst) (r5.snd.snd.snd.snd.snd.snd.snd.snd.fst) (r6) (r5.snd.snd.snd.snd.snd.snd.snd.snd.snd)) fun r7 =>
      (br (r7.fst == (1 : Int))
      (obind (Rc.bits.F (N) ((3 : Int)) (r7.snd.fst) (r7.snd.snd.fst) (r7.snd.snd.snd.fst) (r7.snd.snd.snd.snd.fst) (r5.snd.snd.snd.snd.fst) (r5.snd.snd.snd.snd.snd.fst) (r5.snd.snd.snd.snd.snd.snd.fst) (r7.snd.snd.snd.snd.snd) (r5.snd.snd.snd.snd.snd.snd.snd.snd.fst) (r5.snd.snd.snd.snd.snd.snd.snd.snd.snd)) fun r8 =>
      (br (r8.fst == (5 : Int))
      (obind (Rc.tell.F (N) (r7.snd.fst) (r7.snd.snd.fst) (r7.snd.snd.snd.fst) (r7.snd.snd.snd.snd.fst) (r8.snd.fst) (r8.snd.snd.fst) (r8.snd.snd.snd.fst) (r8.snd.snd.snd.snd) (r5.snd.snd.snd.snd.snd.snd.snd.snd.fst) (r5.snd.snd.snd.snd.snd.snd.snd.snd.snd)) fun r9 =>
      (obind (Rc.etell.F (N) (r2.snd.fst) (r2.snd.snd.fst) (r3.snd.fst) (r3.snd.snd.fst) (r2.snd.snd.snd.snd.snd.snd) (r3.snd.snd.snd)) fun r10 =>
      (br (r9 == r10)
      (obind (Rc.eflag.F (N) ((2 : Int)) (r2.snd.fst) (r2.snd.snd.fst) (r3.snd.fst) (r3.snd.snd.fst) (true) (r2.snd.snd.snd.snd.snd.snd) (r3.snd.snd.snd)) fun r11 =>
      (br (r11.fst == (0 : Int))
      (obind (Rc.euint.F (N) ((3 : Int)) ((5 : Int)) (r11.snd.fst) (r11.snd.snd.fst) (r11.snd.snd.snd.fst) (r11.snd.snd.snd.snd.fst) (r11.snd.snd.snd.snd.snd.snd) (r11.snd.snd.snd.snd.snd.fst)) fun r12 =>
      (some (r12.fst == (0 : Int))))
      (some (false))))
      (some (false)))))
      (some (false))))
      (some (false)))))))))))))))
theorem awake4.F_eq (N : Nat) (L : Eng.Leaves) : evSig (awake4.C N) (awake4.K N) 0 Try.f24 awake4.sig L awake4.dec = awake4.F N  := by
  kernel_rfl
noncomputable def awake4.spec : Eng.Spec := awake4.sig.spec (fun N L => awake4.F N ) awake4.enc
theorem awake4.cok (N : Nat) : CfgOK (awake4.C N) := ⟨fun _ _ _ _ h => by simp [awake4.C, noRT] at h, wide, by
  simp only [awake4.C, List.mem_cons, List.not_mem_nil, or_false, forall_eq_or_imp, forall_eq, false_imp_iff, implies_true]
  exact ⟨⟨enew.ok, by kernel_rfl⟩, ⟨icdf.ok, by kernel_rfl⟩, ⟨esymbol.ok, by kernel_rfl⟩, ⟨ebits.ok, by kernel_rfl⟩, ⟨edone.ok, by kernel_rfl⟩, ⟨new.ok, by kernel_rfl⟩, ⟨symbol.ok, by kernel_rfl⟩, ⟨bits.ok, by kernel_rfl⟩, ⟨tell.ok, by kernel_rfl⟩, ⟨etell.ok, by kernel_rfl⟩, ⟨eflag.ok, by kernel_rfl⟩, ⟨euint.ok, by kernel_rfl⟩⟩, fun g hg => by simp [awake4.C] at hg, fun m hm => by simp [awake4.C] at hm, fun q hq => by simp [awake4.C] at hq⟩
theorem awake4.aok (N : Nat) : AnnsOK (awake4.K N) := by
  intro q hq
  simp only [awake4.K, List.mem_cons, List.not_mem_nil, or_false] at hq
theorem awake4.ok : CallOK Try.prog 24 awake4.spec :=
  callOK_of_sig (fn := Try.f24) (Cf := awake4.C) (K := awake4.K) (d := 0) (dec := awake4.dec) (by kernel_rfl) (fun _ => rfl) awake4.cok (fun _ q hq => by simp [awake4.C] at hq) awake4.aok
    (fun N L r h => (awake4.F_eq N L).trans h) (by kernel_rfl) (fun _ => ⟨rfl, rfl⟩) (fun _ _ => ⟨rfl, rfl⟩)

noncomputable def written.sig : Eng.Sig := { args := [.at (.ptr 0 0), .agg [.int .i64 0, .int .i64 1, .int .i64 2, .int .i64 3, .roi .i64 0]], n := 3, pre := [(0, .cells 6 [.full 1 false, .int .u64 4, .int .u64 5, .full 2 false, .int .i64 6, .int .i64 7]), (1, .ints true .u8 1), (2, .ints true .u8 2)], post := [(0, .cells 6 [.full 3 false, .int .u64 2, .int .u64 3, .full 4 false, .int .i64 4, .int .i64 5]), (1, .dead), (2, .dead), (3, .ints true .u8 0), (4, .ints true .u8 1)], m := 2, ret := .tup [(false, [.int .i64 0]), (false, [.int .i64 1])] }
noncomputable def written.C (N : Nat) : Cfg := { P := Try.prog, N := N, RT := noRT, specs := [(77, esymbol.spec), (81, eflag.spec), (78, ebits.spec), (82, euint.spec), (84, elaplace.spec), (49, icdf.spec)], inl := [], hi := 3, mv := [] }
abbrev written.R : Type := Int × Int × Int × Int × Int × Int × List Int × List Int
def written.dec (L : Eng.Leaves) : written.R := (L.i 0, L.i 1, L.i 2, L.i 3, L.i 4, L.i 5, L.l 0, L.l 1)
def written.enc (r : written.R) : Eng.Leaves := mkL [r.1, r.2.1, r.2.2.1, r.2.2.2.1, r.2.2.2.2.1, r.2.2.2.2.2.1] [] [r.2.2.2.2.2.2.1, r.2.2.2.2.2.2.2] []
noncomputable def written.K (N : Nat) : FCfg := { anns := [], unr := [], lits := [], lets := [] }
noncomputable def written.F (N : Nat) (x_Op : Int) (x_V : Int) (x_N : Int) (x_M : Int) (val : Int) (rng : Int) (rawBits : Int) (count : Int) (x_T : List Int) (told : List Int) (raw : List Int) : Option written.R :=
  (br (x_Op == (0 : Int))
   (chk (([] : List Int).length + x_T.length ≤ (17592186043904 : Nat))
    (obind (Rc.esymbol.F (N) (x_V) (val) (rng) (rawBits) (count) (([] : List Int) ++ x_T) (told) (raw)) fun r0 =>
     (chkL (x_T) (x_T)
     (chkI (x_V) (x_V)
     (chkI (x_V) (x_V)
     (chkI (x_V) (x_V)
     (chkI (x_V) (x_V)
     (chkI (x_V) (x_V)
     (some ((x_V, r0.fst, r0.snd.fst, r0.snd.snd.fst, r0.snd.snd.snd.fst, r0.snd.snd.snd.snd.fst, r0.snd.snd.snd.snd.snd.snd, r0.snd.snd.snd.snd.snd.fst)))))))))))
   (br (x_Op == (1 : Int))
    (obind (Rc.eflag.F (N) (x_N) (val) (rng) (rawBits) (count) (IntKind.i64.wrap ↑(BitVec.ofInt IntKind.i64.bits x_V &&& BitVec.ofInt IntKind.i64.bits (1 : Int)).toNat == (1 : Int)) (told) (raw)) fun r1 =>
     (chkI (x_V) (x_V)
     (some ((IntKind.i64.wrap ↑(BitVec.ofInt IntKind.i64.bits x_V &&& BitVec.ofInt IntKind.i64.bits (1 : Int)).toNat, r1.fst, r1.snd.fst, r1.snd.snd.fst, r1.snd.snd.snd.fst, r1.snd.snd.snd.snd.fst, r1.snd.snd.snd.snd.snd.snd, r1.snd.snd.snd.snd.snd.fst)))))
    (br (x_Op == (2 : Int))
     (obind (Rc.ebits.F (N) (x_V) (x_N) (val) (rng) (rawBits) (count) (told) (raw)) fun r2 =>
      (chkI (x_V) (x_V)
      (some ((x_V, r2.fst, val, rng, r2.snd.fst, r2.snd.snd.fst, told, r2.snd.snd.snd)))))
     (br (x_Op == (3 : Int))
      (obind (Rc.euint.F (N) (x_V) (x_N) (val) (rng) (rawBits) (count) (told) (raw)) fun r3 =>
      (chkI (x_V) (x_V)
      (some ((x_V, r3.fst, r3.snd.fst, r3.snd.snd.fst, r3.snd.snd.snd.fst, r3.snd.snd.snd.snd.fst, r3.snd.snd.snd.snd.snd.fst, r3.snd.snd.snd.snd.snd.snd)))))
      (br (x_Op == (4 : Int))
      (obind (Rc.elaplace.F (N) (x_V) (x_N) (x_M) (val) (rng) (rawBits) (count) (told) (raw)) fun r4 =>
      (some ((r4.fst, r4.snd.fst, r4.snd.snd.fst, r4.snd.snd.snd.fst, r4.snd.snd.snd.snd.fst, r4.snd.snd.snd.snd.snd.fst, r4.snd.snd.snd.snd.snd.snd.snd, r4.snd.snd.snd.snd.snd.snd.fst))))
      (obind (Rc.icdf.F (N) (x_N)) fun r5 =>
      (obind (Rc.esymbol.F (N) (x_V) (val) (rng) (rawBits) (count) (r5) (told) (raw)) fun r6 =>
      (chkI (x_V) (x_V)
      (chkI (x_V) (x_V)
      (chkI (x_V) (x_V)
      (some ((x_V, r6.fst, r6.snd.fst, r6.snd.snd.fst, r6.snd.snd.snd.fst, r6.snd.snd.snd.snd.fst, r6.snd.snd.snd.snd.snd.snd, r6.snd.snd.snd.snd.snd.fst)))))))))))))
theorem written.F_eq (N : Nat) (L : Eng.Leaves) : evSig (written.C N) (written.K N) 0 Try.f27 written.sig L written.dec = written.F N (L.i 0) (L.i 1) (L.i 2) (L.i 3) (L.i 4) (L.i 5) (L.i 6) (L.i 7) (L.l 0) (L.l 1) (L.l 2) := by
  kernel_rfl
noncomputable def written.spec : Eng.Spec := written.sig.spec (fun N L => written.F N (L.i 0) (L.i 1) (L.i 2) (L.i 3) (L.i 4) (L.i 5) (L.i 6) (L.i 7) (L.l 0) (L.l 1) (L.l 2)) written.enc
theorem written.cok (N : Nat) : CfgOK (written.C N) := ⟨fun _ _ _ _ h => by simp [written.C, noRT] at h, wide, by
  simp only [written.C, List.mem_cons, List.not_mem_nil, or_false, forall_eq_or_imp, forall_eq, false_imp_iff, implies_true]
  exact ⟨⟨esymbol.ok, by kernel_rfl⟩, ⟨eflag.ok, by kernel_rfl⟩, ⟨ebits.ok, by kernel_rfl⟩, ⟨euint.ok, by kernel_rfl⟩, ⟨elaplace.ok, by kernel_rfl⟩, ⟨icdf.ok, by kernel_rfl⟩⟩, fun g hg => by simp [written.C] at hg, fun m hm => by simp [written.C] at hm, fun q hq => by simp [written.C] at hq⟩
theorem written.aok (N : Nat) : AnnsOK (written.K N) := by
  intro q hq
  simp only [written.K, List.mem_cons, List.not_mem_nil, or_false] at hq
theorem written.ok : CallOK Try.prog 27 written.spec :=
  callOK_of_sig (fn := Try.f27) (Cf := written.C) (K := written.K) (d := 0) (dec := written.dec) (by kernel_rfl) (fun _ => rfl) written.cok (fun _ q hq => by simp [written.C] at hq) written.aok
    (fun N L r h => (written.F_eq N L).trans h) (by kernel_rfl) (fun _ => ⟨rfl, rfl⟩) (fun _ _ => ⟨rfl, rfl⟩)

noncomputable def mayw.sig : Eng.Sig := { args := [.agg [.int .i64 0, .int .i64 1, .int .i64 2, .int .i64 3, .roi .i64 0]], n := 0, pre := [], post := [], m := 0, ret := .at (.bool 0) }
noncomputable def mayw.C (N : Nat) : Cfg := { P := Try.prog, N := N, RT := noRT, specs := [(85, rgood.spec), (49, icdf.spec)], inl := [], hi := 0, mv := [] }
abbrev mayw.R : Type := Bool
def mayw.dec (L : Eng.Leaves) : mayw.R := (L.b 0)
def mayw.enc (r : mayw.R) : Eng.Leaves := mkL [] [r] [] []
noncomputable def mayw.K (N : Nat) : FCfg := { anns := [], unr := [], lits := [], lets := [] }
noncomputable def mayw.F (N : Nat) (x_Op : Int) (x_V : Int) (x_N : Int) (x_M : Int) (x_T : List Int) : Option mayw.R :=
  (br (x_Op == (0 : Int))
   (obind (Rc.rgood.F (N) (x_T)) fun r0 =>
    (br (r0)
     (br (decide (x_V ≥ (0 : Int)))
      (some (decide (x_V < ↑x_T.length)))
      (some (false)))
     (some (false))))
   (br (x_Op == (1 : Int))
    (br (decide (x_N ≥ (1 : Int)))
     (some (decide (x_N ≤ (15 : Int))))
     (some (false)))
    (br (x_Op == (2 : Int))
     (br (decide (x_N ≥ (0 : Int)))
      (br (decide (x_N ≤ (24 : Int)))
      (br (decide (x_V ≥ (0 : Int)))
      (chk ((0 : Int) ≤ IntKind.u64.wrap x_N)
      (some (decide (x_V < IntKind.i64.wrap ((1 : Int) * (2 : Int) ^ min (IntKind.u64.wrap x_N).toNat IntKind.i64.bits)))))
      (some (false)))
      (some (false)))
      (some (false)))
     (br (x_Op == (3 : Int))
      (br (decide (x_N ≥ (1 : Int)))
      (br (decide (x_N ≤ (4294967295 : Int)))
      (br (decide (x_V ≥ (0 : Int)))
      (some (decide (x_V < x_N)))
      (some (false)))
      (some (false)))
      (some (false)))
      (br (x_Op == (4 : Int))
      (br (decide (x_N ≥ (256 : Int)))
      (br (decide (x_N ≤ (28000 : Int)))
      (br (decide (x_M ≥ (0 : Int)))
      (some (decide (x_M ≤ (16000 : Int))))
      (some (false)))
      (some (false)))
      (some (false)))
      (br (decide (x_N ≥ (0 : Int)))
      (br (decide (x_N ≤ (8 : Int)))
      (br (decide (x_V ≥ (0 : Int)))
      (obind (Rc.icdf.F (N) (x_N)) fun r1 =>
      (chkI (x_V) (x_V)
      (some (decide (x_V < ↑r1.length)))))
      (some (false)))
      (some (false)))
      (some (false))))))))
theorem mayw.F_eq (N : Nat) (L : Eng.Leaves) : evSig (mayw.C N) (mayw.K N) 0 Try.f28 mayw.sig L mayw.dec = mayw.F N (L.i 0) (L.i 1) (L.i 2) (L.i 3) (L.l 0) := by
  kernel_rfl
noncomputable def mayw.spec : Eng.Spec := mayw.sig.spec (fun N L => mayw.F N (L.i 0) (L.i 1) (L.i 2) (L.i 3) (L.l 0)) mayw.enc
theorem mayw.cok (N : Nat) : CfgOK (mayw.C N) := ⟨fun _ _ _ _ h => by simp [mayw.C, noRT] at h, wide, by
  simp only [mayw.C, List.mem_cons, List.not_mem_nil, or_false, forall_eq_or_imp, forall_eq, false_imp_iff, implies_true]
  exact ⟨⟨rgood.ok, by kernel_rfl⟩, ⟨icdf.ok, by kernel_rfl⟩⟩, fun g hg => by simp [mayw.C] at hg, fun m hm => by simp [mayw.C] at hm, fun q hq => by simp [mayw.C] at hq⟩
theorem mayw.aok (N : Nat) : AnnsOK (mayw.K N) := by
  intro q hq
  simp only [mayw.K, List.mem_cons, List.not_mem_nil, or_false] at hq
theorem mayw.ok : CallOK Try.prog 28 mayw.spec :=
  callOK_of_sig (fn := Try.f28) (Cf := mayw.C) (K := mayw.K) (d := 0) (dec := mayw.dec) (by kernel_rfl) (fun _ => rfl) mayw.cok (fun _ q hq => by simp [mayw.C] at hq) mayw.aok
    (fun N L r h => (mayw.F_eq N L).trans h) (by kernel_rfl) (fun _ => ⟨rfl, rfl⟩) (fun _ _ => ⟨rfl, rfl⟩)

noncomputable def rreads.sig : Eng.Sig := { args := [.at (.ptr 0 0), .agg [.int .i64 0, .int .i64 1, .int .i64 2, .int .i64 3, .roi .i64 0], .at (.int .i64 4)], n := 1, pre := [(0, .cells 11 [.roi .u8 1, .int .u64 5, .int .u64 6, .int .i64 7, .int .i64 8, .int .i64 9, .int .u64 10, .int .i64 11, .int .i64 12, .bool 0, .int .u64 13])], post := [(0, .cells 11 [.froi .u8 1, .int .u64 0, .int .u64 1, .int .i64 2, .int .i64 3, .int .i64 4, .int .u64 5, .int .i64 6, .int .i64 7, .bool 1, .int .u64 8])], m := 0, ret := .at (.bool 0) }
noncomputable def rreads.C (N : Nat) : Cfg := { P := Try.prog, N := N, RT := noRT, specs := [(48, rsymbol.spec), (93, rflag.spec), (94, rbits.spec), (50, ruint.spec), (95, rlaplace.spec), (49, icdf.spec)], inl := [], hi := 1, mv := [] }
abbrev rreads.R : Type := Int × Int × Int × Int × Int × Int × Int × Int × Int × Bool × Bool
def rreads.dec (L : Eng.Leaves) : rreads.R := (L.i 0, L.i 1, L.i 2, L.i 3, L.i 4, L.i 5, L.i 6, L.i 7, L.i 8, L.b 0, L.b 1)
def rreads.enc (r : rreads.R) : Eng.Leaves := mkL [r.1, r.2.1, r.2.2.1, r.2.2.2.1, r.2.2.2.2.1, r.2.2.2.2.2.1, r.2.2.2.2.2.2.1, r.2.2.2.2.2.2.2.1, r.2.2.2.2.2.2.2.2.1] [r.2.2.2.2.2.2.2.2.2.1, r.2.2.2.2.2.2.2.2.2.2] [] []
noncomputable def rreads.K (N : Nat) : FCfg := { anns := [], unr := [], lits := [], lets := [] }
noncomputable def rreads.F (N : Nat) (x_Op : Int) (x_V : Int) (x_N : Int) (x_M : Int) (v : Int) (rng : Int) (val : Int) (last : Int) (front : Int) (back : Int) (wait : Int) (waiting : Int) (count : Int) (eq : Int) (bad : Bool) (x_T : List Int) (b : List Int) : Option rreads.R :=
  (br (x_Op == (0 : Int))
   (obind (Rc.rsymbol.F (N) (rng) (val) (last) (front) (back) (wait) (waiting) (count) (eq) (bad) (x_T) (b)) fun r0 =>
    (chkL (b) (b)
    (some ((r0.snd.fst, r0.snd.snd.fst, r0.snd.snd.snd.fst, r0.snd.snd.snd.snd.fst, back, wait, waiting, r0.snd.snd.snd.snd.snd.fst, r0.snd.snd.snd.snd.snd.snd, r0.fst == v, bad)))))
   (br (x_Op == (1 : Int))
    (obind (Rc.rflag.F (N) (x_N) (rng) (val) (last) (front) (back) (wait) (waiting) (count) (eq) (bad) (b)) fun r1 =>
     (chkL (b) (b)
     (some ((r1.fst, r1.snd.fst, r1.snd.snd.fst, r1.snd.snd.snd.fst, back, wait, waiting, r1.snd.snd.snd.snd.fst, eq, r1.snd.snd.snd.snd.snd == (v == (1 : Int)), bad)))))
    (br (x_Op == (2 : Int))
     (obind (Rc.rbits.F (N) (x_N) (rng) (val) (last) (front) (back) (wait) (waiting) (count) (eq) (bad) (b)) fun r2 =>
      (chkL (b) (b)
      (some ((rng, val, last, front, r2.snd.fst, r2.snd.snd.fst, r2.snd.snd.snd.fst, r2.snd.snd.snd.snd, eq, r2.fst == v, bad)))))
     (br (x_Op == (3 : Int))
      (obind (Rc.ruint.F (N) (x_N) (rng) (val) (last) (front) (back) (wait) (waiting) (count) (eq) (bad) (b)) fun r3 =>
      (chkL (b) (b)
      (some ((r3.snd.fst, r3.snd.snd.fst, r3.snd.snd.snd.fst, r3.snd.snd.snd.snd.fst, r3.snd.snd.snd.snd.snd.fst, r3.snd.snd.snd.snd.snd.snd.fst, r3.snd.snd.snd.snd.snd.snd.snd.fst, r3.snd.snd.snd.snd.snd.snd.snd.snd.fst, r3.snd.snd.snd.snd.snd.snd.snd.snd.snd.fst, r3.fst == v, r3.snd.snd.snd.snd.snd.snd.snd.snd.snd.snd)))))
      (br (x_Op == (4 : Int))
      (obind (Rc.rlaplace.F (N) (x_N) (x_M) (rng) (val) (last) (front) (back) (wait) (waiting) (count) (eq) (bad) (b)) fun r4 =>
      (chkL (b) (b)
      (some ((r4.snd.fst, r4.snd.snd.fst, r4.snd.snd.snd.fst, r4.snd.snd.snd.snd.fst, back, wait, waiting, r4.snd.snd.snd.snd.snd.fst, r4.snd.snd.snd.snd.snd.snd, r4.fst == v, bad)))))
      (obind (Rc.icdf.F (N) (x_N)) fun r5 =>
      (obind (Rc.rsymbol.F (N) (rng) (val) (last) (front) (back) (wait) (waiting) (count) (eq) (bad) (r5) (b)) fun r6 =>
      (chkL (b) (b)
      (some ((r6.snd.fst, r6.snd.snd.fst, r6.snd.snd.snd.fst, r6.snd.snd.snd.snd.fst, back, wait, waiting, r6.snd.snd.snd.snd.snd.fst, r6.snd.snd.snd.snd.snd.snd, r6.fst == v, bad)))))))))))
theorem rreads.F_eq (N : Nat) (L : Eng.Leaves) : evSig (rreads.C N) (rreads.K N) 0 Try.f31 rreads.sig L rreads.dec = rreads.F N (L.i 0) (L.i 1) (L.i 2) (L.i 3) (L.i 4) (L.i 5) (L.i 6) (L.i 7) (L.i 8) (L.i 9) (L.i 10) (L.i 11) (L.i 12) (L.i 13) (L.b 0) (L.l 0) (L.l 1) := by
  kernel_rfl
noncomputable def rreads.spec : Eng.Spec := rreads.sig.spec (fun N L => rreads.F N (L.i 0) (L.i 1) (L.i 2) (L.i 3) (L.i 4) (L.i 5) (L.i 6) (L.i 7) (L.i 8) (L.i 9) (L.i 10) (L.i 11) (L.i 12) (L.i 13) (L.b 0) (L.l 0) (L.l 1)) rreads.enc
theorem rreads.cok (N : Nat) : CfgOK (rreads.C N) := ⟨fun _ _ _ _ h => by simp [rreads.C, noRT] at h, wide, by
  simp only [rreads.C, List.mem_cons, List.not_mem_nil, or_false, forall_eq_or_imp, forall_eq, false_imp_iff, implies_true]
  exact ⟨⟨rsymbol.ok, by kernel_rfl⟩, ⟨rflag.ok, by kernel_rfl⟩, ⟨rbits.ok, by kernel_rfl⟩, ⟨ruint.ok, by kernel_rfl⟩, ⟨rlaplace.ok, by kernel_rfl⟩, ⟨icdf.ok, by kernel_rfl⟩⟩, fun g hg => by simp [rreads.C] at hg, fun m hm => by simp [rreads.C] at hm, fun q hq => by simp [rreads.C] at hq⟩
theorem rreads.aok (N : Nat) : AnnsOK (rreads.K N) := by
  intro q hq
  simp only [rreads.K, List.mem_cons, List.not_mem_nil, or_false] at hq
theorem rreads.ok : CallOK Try.prog 31 rreads.spec :=
  callOK_of_sig (fn := Try.f31) (Cf := rreads.C) (K := rreads.K) (d := 0) (dec := rreads.dec) (by kernel_rfl) (fun _ => rfl) rreads.cok (fun _ q hq => by simp [rreads.C] at hq) rreads.aok
    (fun N L r h => (rreads.F_eq N L).trans h) (by kernel_rfl) (fun _ => ⟨rfl, rfl⟩) (fun _ _ => ⟨rfl, rfl⟩)

noncomputable def rencCopies.C (N : Nat) (a : List Act4) (b : List Act4) : Cfg := { P := Try.prog, N := N, RT := (actTab2K a b), specs := [(24, awake4.spec), (25, enew.spec), (27, written.spec), (34, ecopy.spec), (29, edone.spec), (26, etell.spec)], inl := [], hi := 0, mv := [] }
abbrev rencCopies.loop8.R : Type := Int × Int × Int × Int × Int × Int × Int × Int × List Int × List Int × List Int × List Int
noncomputable def rencCopies.loop8.ann : Ann := { nx := 24, slots := [(0, .at (.ror 0)), (5, .at (.ptr 0 0)), (6, .at (.ptr 3 0)), (7, .at (.int .i64 0))], blks := [(0, .cells 6 [.full 20 false, .int .u64 1, .int .u64 2, .full 21 false, .int .i64 3, .int .i64 4]), (3, .cells 6 [.full 22 false, .int .u64 5, .int .u64 6, .full 23 false, .int .i64 7, .int .i64 8]), (20, .ints true .u8 0), (21, .ints true .u8 1), (22, .ints true .u8 2), (23, .ints true .u8 3)], mov := [20, 21, 22, 23], exId := 0, xslots := [(5, .at (.ptr 0 0)), (6, .at (.ptr 3 0))], xblks := [(0, .cells 6 [.full 20 false, .int .u64 0, .int .u64 1, .full 21 false, .int .i64 2, .int .i64 3]), (3, .cells 6 [.full 22 false, .int .u64 4, .int .u64 5, .full 23 false, .int .i64 6, .int .i64 7]), (20, .ints true .u8 0), (21, .ints true .u8 1), (22, .ints true .u8 2), (23, .ints true .u8 3)], T := rencCopies.loop8.R, dec := fun L => (L.i 0, L.i 1, L.i 2, L.i 3, L.i 4, L.i 5, L.i 6, L.i 7, L.l 0, L.l 1, L.l 2, L.l 3), enc := fun r => mkL [r.1, r.2.1, r.2.2.1, r.2.2.2.1, r.2.2.2.2.1, r.2.2.2.2.2.1, r.2.2.2.2.2.2.1, r.2.2.2.2.2.2.2.1] [] [r.2.2.2.2.2.2.2.2.1, r.2.2.2.2.2.2.2.2.2.1, r.2.2.2.2.2.2.2.2.2.2.1, r.2.2.2.2.2.2.2.2.2.2.2] [], ret := false }
abbrev rencCopies.loop14.R : Type := Int × Int × Int × Int × List Int × List Int
noncomputable def rencCopies.loop14.ann : Ann := { nx := 32, slots := [(1, .at (.ror 1)), (8, .at (.ptr 24 0)), (9, .at (.int .i64 0))], blks := [(24, .cells 6 [.full 30 false, .int .u64 1, .int .u64 2, .full 31 false, .int .i64 3, .int .i64 4]), (30, .ints true .u8 0), (31, .ints true .u8 1)], mov := [30, 31], exId := 2, xslots := [(8, .at (.ptr 24 0))], xblks := [(24, .cells 6 [.full 30 false, .int .u64 0, .int .u64 1, .full 31 false, .int .i64 2, .int .i64 3]), (30, .ints true .u8 0), (31, .ints true .u8 1)], T := rencCopies.loop14.R, dec := fun L => (L.i 0, L.i 1, L.i 2, L.i 3, L.l 0, L.l 1), enc := fun r => mkL [r.1, r.2.1, r.2.2.1, r.2.2.2.1] [] [r.2.2.2.2.1, r.2.2.2.2.2] [], ret := false }
noncomputable def rencCopies.K (N : Nat) : FCfg := { anns := [(8, rencCopies.loop8.ann), (14, rencCopies.loop14.ann)], unr := [], lits := [], lets := [], frz := [10, 12] }
noncomputable def rencCopies.loop14 (N : Nat) (a : List Act4) (b : List Act4) : Nat → Int → Int → Int → Int → Int → List Int → List Int → Option rencCopies.loop14.R
  | 0, _, _, _, _, _, _, _ => none
  | nn + 1, s9, val, rng, rawBits, count, told, raw =>
  (br (decide (s9 < ↑b.length))
   (chk ((0 : Int) ≤ s9 ∧ s9 < ↑b.length)
    (obind (Rc.written.F (N) ((b.getD s9.toNat Go.Proofs.Rc.Act4.nil).op) ((b.getD s9.toNat Go.Proofs.Rc.Act4.nil).v) ((b.getD s9.toNat Go.Proofs.Rc.Act4.nil).n) ((b.getD s9.toNat Go.Proofs.Rc.Act4.nil).m) (val) (rng) (rawBits) (count) ((b.getD s9.toNat Go.Proofs.Rc.Act4.nil).t) (told) (raw)) fun r0 =>
     (rencCopies.loop14 N a b (nn) (IntKind.i64.wrap (s9 + (1 : Int))) (r0.snd.snd.fst) (r0.snd.snd.snd.fst) (r0.snd.snd.snd.snd.fst) (r0.snd.snd.snd.snd.snd.fst) (r0.snd.snd.snd.snd.snd.snd.fst) (r0.snd.snd.snd.snd.snd.snd.snd))))
   (some ((val, rng, rawBits, count, told, raw))))
noncomputable def rencCopies.loop14R (N : Nat) (a : List Act4) (b : List Act4) (nn : Nat) (s9 : Int) (val : Int) (rng : Int) (rawBits : Int) (count : Int) (told : List Int) (raw : List Int) : Option rencCopies.loop14.R := loopF rencCopies.loop14.ann (mkL [] [] [] []) (evCode ((rencCopies.C N a b).inLoop rencCopies.loop14.ann) (rencCopies.K N) (inlTab (rencCopies.C N a b) 0) (bodyAt 14 Try.f5)) nn (mkL [s9, val, rng, rawBits, count] [] [told, raw] [])
theorem rencCopies.loop14_eq (N : Nat) (a : List Act4) (b : List Act4) : ∀ (nn : Nat) (s9 : Int) (val : Int) (rng : Int) (rawBits : Int) (count : Int) (told : List Int) (raw : List Int), rencCopies.loop14R N a b nn s9 val rng rawBits count told raw = rencCopies.loop14 N a b nn s9 val rng rawBits count told raw
  | 0, _, _, _, _, _, _, _ => by kernel_rfl
  | nn + 1, s9, val, rng, rawBits, count, told, raw => by
    have h : rencCopies.loop14R N a b (nn + 1) s9 val rng rawBits count told raw =
  (br (decide (s9 < ↑b.length))
   (chk ((0 : Int) ≤ s9 ∧ s9 < ↑b.length)
    (obind (Rc.written.F (N) ((b.getD s9.toNat Go.Proofs.Rc.Act4.nil).op) ((b.getD s9.toNat Go.Proofs.Rc.Act4.nil).v) ((b.getD s9.toNat Go.Proofs.Rc.Act4.nil).n) ((b.getD s9.toNat Go.Proofs.Rc.Act4.nil).m) (val) (rng) (rawBits) (count) ((b.getD s9.toNat Go.Proofs.Rc.Act4.nil).t) (told) (raw)) fun r0 =>
     (rencCopies.loop14R N a b (nn) (IntKind.i64.wrap (s9 + (1 : Int))) (r0.snd.snd.fst) (r0.snd.snd.snd.fst) (r0.snd.snd.snd.snd.fst) (r0.snd.snd.snd.snd.snd.fst) (r0.snd.snd.snd.snd.snd.snd.fst) (r0.snd.snd.snd.snd.snd.snd.snd))))
   (some ((val, rng, rawBits, count, told, raw)))) := by kernel_rfl
    rw [h, rencCopies.loop14]
    try simp only [rencCopies.loop14_eq N a b nn]
noncomputable def rencCopies.loop8 (N : Nat) (a : List Act4) (b : List Act4) : Nat → Int → Int → Int → Int → Int → Int → Int → Int → Int → List Int → List Int → List Int → List Int → Option rencCopies.loop8.R
  | 0, _, _, _, _, _, _, _, _, _, _, _, _, _ => none
  | nn + 1, s7, val, rng, rawBits, count, valB, rngB, rawBitsB, countB, told, raw, toldB, rawB =>
  (br (decide (s7 < ↑a.length))
   (chk ((0 : Int) ≤ s7 ∧ s7 < ↑a.length)
    (obind (Rc.written.F (N) ((a.getD s7.toNat Go.Proofs.Rc.Act4.nil).op) ((a.getD s7.toNat Go.Proofs.Rc.Act4.nil).v) ((a.getD s7.toNat Go.Proofs.Rc.Act4.nil).n) ((a.getD s7.toNat Go.Proofs.Rc.Act4.nil).m) (val) (rng) (rawBits) (count) ((a.getD s7.toNat Go.Proofs.Rc.Act4.nil).t) (told) (raw)) fun r0 =>
     (chk ((0 : Int) ≤ s7 ∧ s7 < ↑a.length)
      (obind (Rc.written.F (N) ((a.getD s7.toNat Go.Proofs.Rc.Act4.nil).op) ((a.getD s7.toNat Go.Proofs.Rc.Act4.nil).v) ((a.getD s7.toNat Go.Proofs.Rc.Act4.nil).n) ((a.getD s7.toNat Go.Proofs.Rc.Act4.nil).m) (valB) (rngB) (rawBitsB) (countB) ((a.getD s7.toNat Go.Proofs.Rc.Act4.nil).t) (toldB) (rawB)) fun r1 =>
      (rencCopies.loop8 N a b (nn) (IntKind.i64.wrap (s7 + (1 : Int))) (r0.snd.snd.fst) (r0.snd.snd.snd.fst) (r0.snd.snd.snd.snd.fst) (r0.snd.snd.snd.snd.snd.fst) (r1.snd.snd.fst) (r1.snd.snd.snd.fst) (r1.snd.snd.snd.snd.fst) (r1.snd.snd.snd.snd.snd.fst) (r0.snd.snd.snd.snd.snd.snd.fst) (r0.snd.snd.snd.snd.snd.snd.snd) (r1.snd.snd.snd.snd.snd.snd.fst) (r1.snd.snd.snd.snd.snd.snd.snd))))))
   (some ((val, rng, rawBits, count, valB, rngB, rawBitsB, countB, told, raw, toldB, rawB))))
noncomputable def rencCopies.loop8R (N : Nat) (a : List Act4) (b : List Act4) (nn : Nat) (s7 : Int) (val : Int) (rng : Int) (rawBits : Int) (count : Int) (valB : Int) (rngB : Int) (rawBitsB : Int) (countB : Int) (told : List Int) (raw : List Int) (toldB : List Int) (rawB : List Int) : Option rencCopies.loop8.R := loopF rencCopies.loop8.ann (mkL [] [] [] []) (evCode ((rencCopies.C N a b).inLoop rencCopies.loop8.ann) (rencCopies.K N) (inlTab (rencCopies.C N a b) 0) (bodyAt 8 Try.f5)) nn (mkL [s7, val, rng, rawBits, count, valB, rngB, rawBitsB, countB] [] [told, raw, toldB, rawB] [])
theorem rencCopies.loop8_eq (N : Nat) (a : List Act4) (b : List Act4) : ∀ (nn : Nat) (s7 : Int) (val : Int) (rng : Int) (rawBits : Int) (count : Int) (valB : Int) (rngB : Int) (rawBitsB : Int) (countB : Int) (told : List Int) (raw : List Int) (toldB : List Int) (rawB : List Int), rencCopies.loop8R N a b nn s7 val rng rawBits count valB rngB rawBitsB countB told raw toldB rawB = rencCopies.loop8 N a b nn s7 val rng rawBits count valB rngB rawBitsB countB told raw toldB rawB
  | 0, _, _, _, _, _, _, _, _, _, _, _, _, _ => by kernel_rfl
  | nn + 1, s7, val, rng, rawBits, count, valB, rngB, rawBitsB, countB, told, raw, toldB, rawB => by
    have h : rencCopies.loop8R N a b (nn + 1) s7 val rng rawBits count valB rngB rawBitsB countB told raw toldB rawB =
  (br (decide (s7 < ↑a.length))
   (chk ((0 : Int) ≤ s7 ∧ s7 < ↑a.length)
    (obind (Rc.written.F (N) ((a.getD s7.toNat Go.Proofs.Rc.Act4.nil).op) ((a.getD s7.toNat Go.Proofs.Rc.Act4.nil).v) ((a.getD s7.toNat Go.Proofs.Rc.Act4.nil).n) ((a.getD s7.toNat Go.Proofs.Rc.Act4.nil).m) (val) (rng) (rawBits) (count) ((a.getD s7.toNat Go.Proofs.Rc.Act4.nil).t) (told) (raw)) fun r0 =>
     (chk ((0 : Int) ≤ s7 ∧ s7 < ↑a.length)
      (obind (Rc.written.F (N) ((a.getD s7.toNat Go.Proofs.Rc.Act4.nil).op) ((a.getD s7.toNat Go.Proofs.Rc.Act4.nil).v) ((a.getD s7.toNat Go.Proofs.Rc.Act4.nil).n) ((a.getD s7.toNat Go.Proofs.Rc.Act4.nil).m) (valB) (rngB) (rawBitsB) (countB) ((a.getD s7.toNat Go.Proofs.Rc.Act4.nil).t) (toldB) (rawB)) fun r1 =>
      (rencCopies.loop8R N a b (nn) (IntKind.i64.wrap (s7 + (1 : Int))) (r0.snd.snd.fst) (r0.snd.snd.snd.fst) (r0.snd.snd.snd.snd.fst) (r0.snd.snd.snd.snd.snd.fst) (r1.snd.snd.fst) (r1.snd.snd.snd.fst) (r1.snd.snd.snd.snd.fst) (r1.snd.snd.snd.snd.snd.fst) (r0.snd.snd.snd.snd.snd.snd.fst) (r0.snd.snd.snd.snd.snd.snd.snd) (r1.snd.snd.snd.snd.snd.snd.fst) (r1.snd.snd.snd.snd.snd.snd.snd))))))
   (some ((val, rng, rawBits, count, valB, rngB, rawBitsB, countB, told, raw, toldB, rawB)))) := by kernel_rfl
    rw [h, rencCopies.loop8]
    try simp only [rencCopies.loop8_eq N a b nn]
noncomputable def rencCopies.F (N : Nat) (a : List Act4) (b : List Act4) : Option Bool :=
  (obind (Rc.awake4.F (N)) fun r0 =>
   (br (!r0)
    (some (false))
    (br (decide (↑a.length > (50 : Int)))
     (some (true))
     (br (decide (↑b.length > (50 : Int)))
      (some (true))
      (obind (Rc.enew.F (N)) fun r1 =>
      (obind (Rc.enew.F (N)) fun r2 =>
      (obind (rencCopies.loop8 N a b (N) ((0 : Int)) (r1.fst) (r1.snd.fst) (r1.snd.snd.fst) (r1.snd.snd.snd.fst) (r2.fst) (r2.snd.fst) (r2.snd.snd.fst) (r2.snd.snd.snd.fst) (r1.snd.snd.snd.snd.fst) (r1.snd.snd.snd.snd.snd) (r2.snd.snd.snd.snd.fst) (r2.snd.snd.snd.snd.snd)) fun r3 =>
      (obind (Rc.ecopy.F (N) (r3.fst) (r3.snd.fst) (r3.snd.snd.fst) (r3.snd.snd.snd.fst) (r3.snd.snd.snd.snd.snd.snd.snd.snd.fst) (r3.snd.snd.snd.snd.snd.snd.snd.snd.snd.fst)) fun r4 =>
      (obind (rencCopies.loop14 N a b (N) ((0 : Int)) (r4.fst) (r4.snd.fst) (r4.snd.snd.fst) (r4.snd.snd.snd.fst) (r4.snd.snd.snd.snd.fst) (r4.snd.snd.snd.snd.snd)) fun r5 =>
      (obind (Rc.edone.F (N) ((10 : Int)) (r3.fst) (r3.snd.fst) (r3.snd.snd.fst) (r3.snd.snd.snd.fst) (r3.snd.snd.snd.snd.snd.snd.snd.snd.fst) (r3.snd.snd.snd.snd.snd.snd.snd.snd.snd.fst)) fun r6 =>
      (obind (Rc.edone.F (N) ((500 : Int)) (r3.fst) (r3.snd.fst) (r3.snd.snd.fst) (r3.snd.snd.snd.fst) (r3.snd.snd.snd.snd.snd.snd.snd.snd.fst) (r3.snd.snd.snd.snd.snd.snd.snd.snd.snd.fst)) fun r7 =>
      (obind (Rc.edone.F (N) ((500 : Int)) (r3.snd.snd.snd.snd.fst) (r3.snd.snd.snd.snd.snd.fst) (r3.snd.snd.snd.snd.snd.snd.fst) (r3.snd.snd.snd.snd.snd.snd.snd.fst) (r3.snd.snd.snd.snd.snd.snd.snd.snd.snd.snd.fst) (r3.snd.snd.snd.snd.snd.snd.snd.snd.snd.snd.snd)) fun r8 =>
      (br (r7.fst == r8.fst)
      (br ((Go.strOfNums r7.snd).toList == (Go.strOfNums r8.snd).toList)
      (obind (Rc.etell.F (N) (r3.fst) (r3.snd.fst) (r3.snd.snd.fst) (r3.snd.snd.snd.fst) (r3.snd.snd.snd.snd.snd.snd.snd.snd.fst) (r3.snd.snd.snd.snd.snd.snd.snd.snd.snd.fst)) fun r9 =>
      (obind (Rc.etell.F (N) (r3.snd.snd.snd.snd.fst) (r3.snd.snd.snd.snd.snd.fst) (r3.snd.snd.snd.snd.snd.snd.fst) (r3.snd.snd.snd.snd.snd.snd.snd.fst) (r3.snd.snd.snd.snd.snd.snd.snd.snd.snd.snd.fst) (r3.snd.snd.snd.snd.snd.snd.snd.snd.snd.snd.snd)) fun r10 =>
      (some (r9 == r10))))
      (some (false)))
      (some (false)))))))))))))))
theorem rencCopies.F_eq (N : Nat) (a : List Act4) (b : List Act4) : evLaw (rencCopies.C N a b) (rencCopies.K N) 0 Try.f5 [.at (.ror 0), .at (.ror 1)] = rencCopies.F N a b := by
  have h : evLaw (rencCopies.C N a b) (rencCopies.K N) 0 Try.f5 [.at (.ror 0), .at (.ror 1)] =
  (obind (Rc.awake4.F (N)) fun r0 =>
   (br (!r0)
    (some (false))
    (br (decide (↑a.length > (50 : Int)))
     (some (true))
     (br (decide (↑b.length > (50 : Int)))
      (some (true))
      (obind (Rc.enew.F (N)) fun r1 =>
      (obind (Rc.enew.F (N)) fun r2 =>
      (obind (rencCopies.loop8R N a b (N) ((0 : Int)) (r1.fst) (r1.snd.fst) (r1.snd.snd.fst) (r1.snd.snd.snd.fst) (r2.fst) (r2.snd.fst) (r2.snd.snd.fst) (r2.snd.snd.snd.fst) (r1.snd.snd.snd.snd.fst) (r1.snd.snd.snd.snd.snd) (r2.snd.snd.snd.snd.fst) (r2.snd.snd.snd.snd.snd)) fun r3 =>
      (obind (Rc.ecopy.F (N) (r3.fst) (r3.snd.fst) (r3.snd.snd.fst) (r3.snd.snd.snd.fst) (r3.snd.snd.snd.snd.snd.snd.snd.snd.fst) (r3.snd.snd.snd.snd.snd.snd.snd.snd.snd.fst)) fun r4 =>
      (obind (rencCopies.loop14R N a b (N) ((0 : Int)) (r4.fst) (r4.snd.fst) (r4.snd.snd.fst) (r4.snd.snd.snd.fst) (r4.snd.snd.snd.snd.fst) (r4.snd.snd.snd.snd.snd)) fun r5 =>
      (obind (Rc.edone.F (N) ((10 : Int)) (r3.fst) (r3.snd.fst) (r3.snd.snd.fst) (r3.snd.snd.snd.fst) (r3.snd.snd.snd.snd.snd.snd.snd.snd.fst) (r3.snd.snd.snd.snd.snd.snd.snd.snd.snd.fst)) fun r6 =>
      (obind (Rc.edone.F (N) ((500 : Int)) (r3.fst) (r3.snd.fst) (r3.snd.snd.fst) (r3.snd.snd.snd.fst) (r3.snd.snd.snd.snd.snd.snd.snd.snd.fst) (r3.snd.snd.snd.snd.snd.snd.snd.snd.snd.fst)) fun r7 =>
      (obind (Rc.edone.F (N) ((500 : Int)) (r3.snd.snd.snd.snd.fst) (r3.snd.snd.snd.snd.snd.fst) (r3.snd.snd.snd.snd.snd.snd.fst) (r3.snd.snd.snd.snd.snd.snd.snd.fst) (r3.snd.snd.snd.snd.snd.snd.snd.snd.snd.snd.fst) (r3.snd.snd.snd.snd.snd.snd.snd.snd.snd.snd.snd)) fun r8 =>
      (br (r7.fst == r8.fst)
      (br ((Go.strOfNums r7.snd).toList == (Go.strOfNums r8.snd).toList)
      (obind (Rc.etell.F (N) (r3.fst) (r3.snd.fst) (r3.snd.snd.fst) (r3.snd.snd.snd.fst) (r3.snd.snd.snd.snd.snd.snd.snd.snd.fst) (r3.snd.snd.snd.snd.snd.snd.snd.snd.snd.fst)) fun r9 =>
      (obind (Rc.etell.F (N) (r3.snd.snd.snd.snd.fst) (r3.snd.snd.snd.snd.snd.fst) (r3.snd.snd.snd.snd.snd.snd.fst) (r3.snd.snd.snd.snd.snd.snd.snd.fst) (r3.snd.snd.snd.snd.snd.snd.snd.snd.snd.snd.fst) (r3.snd.snd.snd.snd.snd.snd.snd.snd.snd.snd.snd)) fun r10 =>
      (some (r9 == r10))))
      (some (false)))
      (some (false))))))))))))))) := by kernel_rfl
  rw [h, rencCopies.F]
  try simp only [rencCopies.loop8_eq N a b, rencCopies.loop14_eq N a b]
theorem rencCopies.cok (N : Nat) (a : List Act4) (b : List Act4) : CfgOK (rencCopies.C N a b) := ⟨actTab2K_ok a b, wide, by
  simp only [rencCopies.C, List.mem_cons, List.not_mem_nil, or_false, forall_eq_or_imp, forall_eq, false_imp_iff, implies_true]
  exact ⟨⟨awake4.ok, by kernel_rfl⟩, ⟨enew.ok, by kernel_rfl⟩, ⟨written.ok, by kernel_rfl⟩, ⟨ecopy.ok, by kernel_rfl⟩, ⟨edone.ok, by kernel_rfl⟩, ⟨etell.ok, by kernel_rfl⟩⟩, fun g hg => by simp [rencCopies.C] at hg, fun m hm => by simp [rencCopies.C] at hm, fun q hq => by simp [rencCopies.C] at hq⟩
theorem rencCopies.aok (N : Nat) : AnnsOK (rencCopies.K N) := by
  intro q hq
  simp only [rencCopies.K, List.mem_cons, List.not_mem_nil, or_false] at hq
  rcases hq with rfl | rfl
  · exact fun _ _ => ⟨rfl, rfl⟩
  · exact fun _ _ => ⟨rfl, rfl⟩
theorem rencCopies.walk {w : World} {N : Nat} (a : List Act4) (b : List Act4) {cargs : Array Value} (ha : All2 (RV (actTab2K a b) (lawE w)) [.at (.ror 0), .at (.ror 1)] cargs.toList) (h : rencCopies.F N a b = some true) :
    Calls Try.prog 5 cargs w fun e w' => e = .returned (.bool true) ∧ Frm w (fun _ => False) w' :=
  law_sound (C := rencCopies.C N a b) (K := rencCopies.K N) (d := 0) (fn := Try.f5) (rencCopies.cok N a b) (fun q hq => by simp [rencCopies.C] at hq) (rencCopies.aok N) (by kernel_rfl) ha ((rencCopies.F_eq N a b).trans h)

noncomputable def rencBack.C (N : Nat) (l : List Act4) (bytes : Int) : Cfg := { P := Try.prog, N := N, RT := (actTabK l), specs := [(24, awake4.spec), (25, enew.spec), (26, etell.spec), (27, written.spec), (28, mayw.spec), (29, edone.spec), (30, rnew.spec), (31, rreads.spec), (32, rbad.spec), (33, rtell.spec)], inl := [], hi := 0, mv := [] }
abbrev rencBack.loop11.R : Type := Int × Int × Int × Int × Bool × List Int × List Int × List Int × List (List Int)
noncomputable def rencBack.loop11.ann : Ann := { nx := 23, slots := [(0, .at (.ror 0)), (4, .at (.bool 0)), (5, .at (.ptr 0 0)), (6, .at (.full 20 false)), (7, .at (.full 3 false)), (8, .at (.int .i64 0))], blks := [(0, .cells 6 [.full 21 false, .int .u64 1, .int .u64 2, .full 22 false, .int .i64 3, .int .i64 4]), (3, .recs true ⟨[.i64, .i64, .i64, .i64], some .i64⟩ 0), (20, .ints true .i64 0), (21, .ints true .u8 1), (22, .ints true .u8 2)], mov := [20, 3, 21, 22], exId := 0, xslots := [(5, .at (.ptr 0 0)), (4, .at (.bool 0)), (6, .at (.full 20 false)), (7, .at (.full 3 false))], xblks := [(0, .cells 6 [.full 21 false, .int .u64 0, .int .u64 1, .full 22 false, .int .i64 2, .int .i64 3]), (3, .recs true ⟨[.i64, .i64, .i64, .i64], some .i64⟩ 0), (20, .ints true .i64 0), (21, .ints true .u8 1), (22, .ints true .u8 2)], T := rencBack.loop11.R, dec := fun L => (L.i 0, L.i 1, L.i 2, L.i 3, L.b 0, L.l 0, L.l 1, L.l 2, L.r 0), enc := fun r => mkL [r.1, r.2.1, r.2.2.1, r.2.2.2.1] [r.2.2.2.2.1] [r.2.2.2.2.2.1, r.2.2.2.2.2.2.1, r.2.2.2.2.2.2.2.1] [r.2.2.2.2.2.2.2.2], ret := true }
abbrev rencBack.loop29.R : Type := Int × Int × Int × Int × Int × Int × Int × Int × Int × Bool × Bool
noncomputable def rencBack.loop29.ann : Ann := { nx := 31, slots := [(4, .at (.bool 0)), (6, .at (.full 20 false)), (7, .at (.full 3 false)), (14, .at (.ptr 30 0)), (15, .at (.int .i64 0))], blks := [(3, .frecs true ⟨[.i64, .i64, .i64, .i64], some .i64⟩ 0), (20, .fints true .i64 0), (30, .cells 11 [.froi .u8 1, .int .u64 1, .int .u64 2, .int .i64 3, .int .i64 4, .int .i64 5, .int .u64 6, .int .i64 7, .int .i64 8, .bool 1, .int .u64 9])], mov := [], exId := 2, xslots := [(6, .at (.full 20 false)), (7, .at (.full 3 false)), (14, .at (.ptr 30 0)), (4, .at (.bool 0))], xblks := [(3, .frecs true ⟨[.i64, .i64, .i64, .i64], some .i64⟩ 0), (20, .fints true .i64 0), (30, .cells 11 [.froi .u8 1, .int .u64 0, .int .u64 1, .int .i64 2, .int .i64 3, .int .i64 4, .int .u64 5, .int .i64 6, .int .i64 7, .bool 1, .int .u64 8])], T := rencBack.loop29.R, dec := fun L => (L.i 0, L.i 1, L.i 2, L.i 3, L.i 4, L.i 5, L.i 6, L.i 7, L.i 8, L.b 0, L.b 1), enc := fun r => mkL [r.1, r.2.1, r.2.2.1, r.2.2.2.1, r.2.2.2.2.1, r.2.2.2.2.2.1, r.2.2.2.2.2.2.1, r.2.2.2.2.2.2.2.1, r.2.2.2.2.2.2.2.2.1] [r.2.2.2.2.2.2.2.2.2.1, r.2.2.2.2.2.2.2.2.2.2] [] [], ret := true }
noncomputable def rencBack.K (N : Nat) : FCfg := { anns := [(11, rencBack.loop11.ann), (29, rencBack.loop29.ann)], unr := [], lits := [], lets := [], frz := [12], emps := [(7, ⟨[.i64, .i64, .i64, .i64], some .i64⟩)] }
noncomputable def rencBack.loop29 (N : Nat) (l : List Act4) (bytes : Int) : Nat → List Int → List Int → List (List Int) → Int → Int → Int → Int → Int → Int → Int → Int → Int → Int → Bool → Bool → Option (rencBack.loop29.R ⊕ Bool)
  | 0, _, _, _, _, _, _, _, _, _, _, _, _, _, _, _ => none
  | nn + 1, l20, rb, l3, s15, r_rng, r_val, r_last, r_front, r_back, r_wait, r_waiting, r_count, r_e, s4, r_bad =>
  (br (decide (s15 < ↑l3.length))
   (chk ((0 : Int) ≤ s15 ∧ s15 < ↑l3.length)
    (chk ((0 : Int) ≤ s15 ∧ s15 < ↑l20.length)
     (obind (Rc.rreads.F (N) ((l3.getD s15.toNat ([] : List Int)).headD (0 : Int)) ((l3.getD s15.toNat ([] : List Int)).tail.headD (0 : Int)) ((l3.getD s15.toNat ([] : List Int)).tail.tail.headD (0 : Int)) ((l3.getD s15.toNat ([] : List Int)).tail.tail.tail.headD (0 : Int)) (l20.getD s15.toNat (0 : Int)) (r_rng) (r_val) (r_last) (r_front) (r_back) (r_wait) (r_waiting) (r_count) (r_e) (r_bad) ((l3.getD s15.toNat ([] : List Int)).tail.tail.tail.tail) (rb)) fun r0 =>
      (br (!r0.snd.snd.snd.snd.snd.snd.snd.snd.snd.fst)
      (omap
      (some (false)) .inr)
      (obind (Rc.rbad.F (N) (r0.fst) (r0.snd.fst) (r0.snd.snd.fst) (r0.snd.snd.snd.fst) (r0.snd.snd.snd.snd.fst) (r0.snd.snd.snd.snd.snd.fst) (r0.snd.snd.snd.snd.snd.snd.fst) (r0.snd.snd.snd.snd.snd.snd.snd.fst) (r0.snd.snd.snd.snd.snd.snd.snd.snd.fst) (r0.snd.snd.snd.snd.snd.snd.snd.snd.snd.snd) (rb)) fun r1 =>
      (br (r1)
      (omap
      (some (false)) .inr)
      (chkR (l3) (l3)
      (chkL (l20) (l20)
      (chkL (rb) (rb)
      (rencBack.loop29 N l bytes (nn) (l20) (rb) (l3) (IntKind.i64.wrap (s15 + (1 : Int))) (r0.fst) (r0.snd.fst) (r0.snd.snd.fst) (r0.snd.snd.snd.fst) (r0.snd.snd.snd.snd.fst) (r0.snd.snd.snd.snd.snd.fst) (r0.snd.snd.snd.snd.snd.snd.fst) (r0.snd.snd.snd.snd.snd.snd.snd.fst) (r0.snd.snd.snd.snd.snd.snd.snd.snd.fst) (s4) (r0.snd.snd.snd.snd.snd.snd.snd.snd.snd.snd)))))))))))
   (chkR (l3) (l3)
   (chkL (l20) (l20)
   (chkL (rb) (rb)
   (some (Sum.inl (r_rng, r_val, r_last, r_front, r_back, r_wait, r_waiting, r_count, r_e, s4, r_bad)))))))
noncomputable def rencBack.loop29R (N : Nat) (l : List Act4) (bytes : Int) (nn : Nat) (l20 : List Int) (rb : List Int) (l3 : List (List Int)) (s15 : Int) (r_rng : Int) (r_val : Int) (r_last : Int) (r_front : Int) (r_back : Int) (r_wait : Int) (r_waiting : Int) (r_count : Int) (r_e : Int) (s4 : Bool) (r_bad : Bool) : Option (rencBack.loop29.R ⊕ Bool) := loopR rencBack.loop29.ann (mkL [] [] [l20, rb] [l3]) (evCode ((rencBack.C N l bytes).inLoop rencBack.loop29.ann) (rencBack.K N) (inlTab (rencBack.C N l bytes) 0) (bodyAt 29 Try.f3)) (lawKr Try.prog Try.f3) nn (mkL [s15, r_rng, r_val, r_last, r_front, r_back, r_wait, r_waiting, r_count, r_e] [s4, r_bad] [] [])
theorem rencBack.loop29_eq (N : Nat) (l : List Act4) (bytes : Int) : ∀ (nn : Nat) (l20 : List Int) (rb : List Int) (l3 : List (List Int)) (s15 : Int) (r_rng : Int) (r_val : Int) (r_last : Int) (r_front : Int) (r_back : Int) (r_wait : Int) (r_waiting : Int) (r_count : Int) (r_e : Int) (s4 : Bool) (r_bad : Bool), rencBack.loop29R N l bytes nn l20 rb l3 s15 r_rng r_val r_last r_front r_back r_wait r_waiting r_count r_e s4 r_bad = rencBack.loop29 N l bytes nn l20 rb l3 s15 r_rng r_val r_last r_front r_back r_wait r_waiting r_count r_e s4 r_bad
  | 0, _, _, _, _, _, _, _, _, _, _, _, _, _, _, _ => by kernel_rfl
  | nn + 1, l20, rb, l3, s15, r_rng, r_val, r_last, r_front, r_back, r_wait, r_waiting, r_count, r_e, s4, r_bad => by
    have h : rencBack.loop29R N l bytes (nn + 1) l20 rb l3 s15 r_rng r_val r_last r_front r_back r_wait r_waiting r_count r_e s4 r_bad =
  (br (decide (s15 < ↑l3.length))
   (chk ((0 : Int) ≤ s15 ∧ s15 < ↑l3.length)
    (chk ((0 : Int) ≤ s15 ∧ s15 < ↑l20.length)
     (obind (Rc.rreads.F (N) ((l3.getD s15.toNat ([] : List Int)).headD (0 : Int)) ((l3.getD s15.toNat ([] : List Int)).tail.headD (0 : Int)) ((l3.getD s15.toNat ([] : List Int)).tail.tail.headD (0 : Int)) ((l3.getD s15.toNat ([] : List Int)).tail.tail.tail.headD (0 : Int)) (l20.getD s15.toNat (0 : Int)) (r_rng) (r_val) (r_last) (r_front) (r_back) (r_wait) (r_waiting) (r_count) (r_e) (r_bad) ((l3.getD s15.toNat ([] : List Int)).tail.tail.tail.tail) (rb)) fun r0 =>
      (br (!r0.snd.snd.snd.snd.snd.snd.snd.snd.snd.fst)
      (omap
      (some (false)) .inr)
      (obind (Rc.rbad.F (N) (r0.fst) (r0.snd.fst) (r0.snd.snd.fst) (r0.snd.snd.snd.fst) (r0.snd.snd.snd.snd.fst) (r0.snd.snd.snd.snd.snd.fst) (r0.snd.snd.snd.snd.snd.snd.fst) (r0.snd.snd.snd.snd.snd.snd.snd.fst) (r0.snd.snd.snd.snd.snd.snd.snd.snd.fst) (r0.snd.snd.snd.snd.snd.snd.snd.snd.snd.snd) (rb)) fun r1 =>
      (br (r1)
      (omap
      (some (false)) .inr)
      (chkR (l3) (l3)
      (chkL (l20) (l20)
      (chkL (rb) (rb)
      (rencBack.loop29R N l bytes (nn) (l20) (rb) (l3) (IntKind.i64.wrap (s15 + (1 : Int))) (r0.fst) (r0.snd.fst) (r0.snd.snd.fst) (r0.snd.snd.snd.fst) (r0.snd.snd.snd.snd.fst) (r0.snd.snd.snd.snd.snd.fst) (r0.snd.snd.snd.snd.snd.snd.fst) (r0.snd.snd.snd.snd.snd.snd.snd.fst) (r0.snd.snd.snd.snd.snd.snd.snd.snd.fst) (s4) (r0.snd.snd.snd.snd.snd.snd.snd.snd.snd.snd)))))))))))
   (chkR (l3) (l3)
   (chkL (l20) (l20)
   (chkL (rb) (rb)
   (some (Sum.inl (r_rng, r_val, r_last, r_front, r_back, r_wait, r_waiting, r_count, r_e, s4, r_bad))))))) := by kernel_rfl
    rw [h, rencBack.loop29]
    try simp only [rencBack.loop29_eq N l bytes nn]
noncomputable def rencBack.loop11 (N : Nat) (l : List Act4) (bytes : Int) : Nat → Int → Int → Int → Int → Int → Bool → List Int → List Int → List Int → List (List Int) → Option (rencBack.loop11.R ⊕ Bool)
  | 0, _, _, _, _, _, _, _, _, _, _ => none
  | nn + 1, s8, val, rng, rawBits, count, s4, s6, told, raw, l3 =>
  (br (decide (s8 < ↑l.length))
   (obind (Rc.etell.F (N) (val) (rng) (rawBits) (count) (told) (raw)) fun r0 =>
    (chk ((0 : Int) ≤ s8 ∧ s8 < ↑l.length)
     (obind (Rc.written.F (N) ((l.getD s8.toNat Go.Proofs.Rc.Act4.nil).op) ((l.getD s8.toNat Go.Proofs.Rc.Act4.nil).v) ((l.getD s8.toNat Go.Proofs.Rc.Act4.nil).n) ((l.getD s8.toNat Go.Proofs.Rc.Act4.nil).m) (val) (rng) (rawBits) (count) ((l.getD s8.toNat Go.Proofs.Rc.Act4.nil).t) (told) (raw)) fun r1 =>
      (chk ((0 : Int) ≤ s8 ∧ s8 < ↑l.length)
      (obind (Rc.mayw.F (N) ((l.getD s8.toNat Go.Proofs.Rc.Act4.nil).op) ((l.getD s8.toNat Go.Proofs.Rc.Act4.nil).v) ((l.getD s8.toNat Go.Proofs.Rc.Act4.nil).n) ((l.getD s8.toNat Go.Proofs.Rc.Act4.nil).m) ((l.getD s8.toNat Go.Proofs.Rc.Act4.nil).t)) fun r2 =>
      (br (!r2)
      (br (r1.snd.fst != (1 : Int))
      (omap
      (some (false)) .inr)
      (obind (Rc.etell.F (N) (r1.snd.snd.fst) (r1.snd.snd.snd.fst) (r1.snd.snd.snd.snd.fst) (r1.snd.snd.snd.snd.snd.fst) (r1.snd.snd.snd.snd.snd.snd.fst) (r1.snd.snd.snd.snd.snd.snd.snd)) fun r3 =>
      (br (r3 != r0)
      (omap
      (some (false)) .inr)
      (rencBack.loop11 N l bytes (nn) (IntKind.i64.wrap (s8 + (1 : Int))) (r1.snd.snd.fst) (r1.snd.snd.snd.fst) (r1.snd.snd.snd.snd.fst) (r1.snd.snd.snd.snd.snd.fst) (s4) (s6) (r1.snd.snd.snd.snd.snd.snd.fst) (r1.snd.snd.snd.snd.snd.snd.snd) (l3)))))
      (br (r1.snd.fst != (0 : Int))
      (omap
      (some (false)) .inr)
      (obind (Rc.etell.F (N) (r1.snd.snd.fst) (r1.snd.snd.snd.fst) (r1.snd.snd.snd.snd.fst) (r1.snd.snd.snd.snd.snd.fst) (r1.snd.snd.snd.snd.snd.snd.fst) (r1.snd.snd.snd.snd.snd.snd.snd)) fun r4 =>
      (br (decide (r4 < r0))
      (omap
      (some (false)) .inr)
      (chk (s6.length + [r1.fst].length ≤ (17592186043904 : Nat))
      (chk ((0 : Int) ≤ s8 ∧ s8 < ↑l.length)
      (chk (l3.length + (1 : Nat) ≤ (1000000 : Nat))
      (rencBack.loop11 N l bytes (nn) (IntKind.i64.wrap (s8 + (1 : Int))) (r1.snd.snd.fst) (r1.snd.snd.snd.fst) (r1.snd.snd.snd.snd.fst) (r1.snd.snd.snd.snd.snd.fst) (s4) (s6 ++ [r1.fst]) (r1.snd.snd.snd.snd.snd.snd.fst) (r1.snd.snd.snd.snd.snd.snd.snd) (l3 ++ [(l.getD s8.toNat Go.Proofs.Rc.Act4.nil).op :: (l.getD s8.toNat Go.Proofs.Rc.Act4.nil).v :: (l.getD s8.toNat Go.Proofs.Rc.Act4.nil).n :: (l.getD s8.toNat Go.Proofs.Rc.Act4.nil).m :: (l.getD s8.toNat Go.Proofs.Rc.Act4.nil).t]))))))))))))))
   (some (Sum.inl (val, rng, rawBits, count, s4, s6, told, raw, l3))))
noncomputable def rencBack.loop11R (N : Nat) (l : List Act4) (bytes : Int) (nn : Nat) (s8 : Int) (val : Int) (rng : Int) (rawBits : Int) (count : Int) (s4 : Bool) (s6 : List Int) (told : List Int) (raw : List Int) (l3 : List (List Int)) : Option (rencBack.loop11.R ⊕ Bool) := loopR rencBack.loop11.ann (mkL [] [] [] []) (evCode ((rencBack.C N l bytes).inLoop rencBack.loop11.ann) (rencBack.K N) (inlTab (rencBack.C N l bytes) 0) (bodyAt 11 Try.f3)) (lawKr Try.prog Try.f3) nn (mkL [s8, val, rng, rawBits, count] [s4] [s6, told, raw] [l3])
theorem rencBack.loop11_eq (N : Nat) (l : List Act4) (bytes : Int) : ∀ (nn : Nat) (s8 : Int) (val : Int) (rng : Int) (rawBits : Int) (count : Int) (s4 : Bool) (s6 : List Int) (told : List Int) (raw : List Int) (l3 : List (List Int)), rencBack.loop11R N l bytes nn s8 val rng rawBits count s4 s6 told raw l3 = rencBack.loop11 N l bytes nn s8 val rng rawBits count s4 s6 told raw l3
  | 0, _, _, _, _, _, _, _, _, _, _ => by kernel_rfl
  | nn + 1, s8, val, rng, rawBits, count, s4, s6, told, raw, l3 => by
    have h : rencBack.loop11R N l bytes (nn + 1) s8 val rng rawBits count s4 s6 told raw l3 =
  (br (decide (s8 < ↑l.length))
   (obind (Rc.etell.F (N) (val) (rng) (rawBits) (count) (told) (raw)) fun r0 =>
    (chk ((0 : Int) ≤ s8 ∧ s8 < ↑l.length)
     (obind (Rc.written.F (N) ((l.getD s8.toNat Go.Proofs.Rc.Act4.nil).op) ((l.getD s8.toNat Go.Proofs.Rc.Act4.nil).v) ((l.getD s8.toNat Go.Proofs.Rc.Act4.nil).n) ((l.getD s8.toNat Go.Proofs.Rc.Act4.nil).m) (val) (rng) (rawBits) (count) ((l.getD s8.toNat Go.Proofs.Rc.Act4.nil).t) (told) (raw)) fun r1 =>
      (chk ((0 : Int) ≤ s8 ∧ s8 < ↑l.length)
      (obind (Rc.mayw.F (N) ((l.getD s8.toNat Go.Proofs.Rc.Act4.nil).op) ((l.getD s8.toNat Go.Proofs.Rc.Act4.nil).v) ((l.getD s8.toNat Go.Proofs.Rc.Act4.nil).n) ((l.getD s8.toNat Go.Proofs.Rc.Act4.nil).m) ((l.getD s8.toNat Go.Proofs.Rc.Act4.nil).t)) fun r2 =>
      (br (!r2)
      (br (r1.snd.fst != (1 : Int))
      (omap
      (some (false)) .inr)
      (obind (Rc.etell.F (N) (r1.snd.snd.fst) (r1.snd.snd.snd.fst) (r1.snd.snd.snd.snd.fst) (r1.snd.snd.snd.snd.snd.fst) (r1.snd.snd.snd.snd.snd.snd.fst) (r1.snd.snd.snd.snd.snd.snd.snd)) fun r3 =>
      (br (r3 != r0)
      (omap
      (some (false)) .inr)
      (rencBack.loop11R N l bytes (nn) (IntKind.i64.wrap (s8 + (1 : Int))) (r1.snd.snd.fst) (r1.snd.snd.snd.fst) (r1.snd.snd.snd.snd.fst) (r1.snd.snd.snd.snd.snd.fst) (s4) (s6) (r1.snd.snd.snd.snd.snd.snd.fst) (r1.snd.snd.snd.snd.snd.snd.snd) (l3)))))
      (br (r1.snd.fst != (0 : Int))
      (omap
      (some (false)) .inr)
      (obind (Rc.etell.F (N) (r1.snd.snd.fst) (r1.snd.snd.snd.fst) (r1.snd.snd.snd.snd.fst) (r1.snd.snd.snd.snd.snd.fst) (r1.snd.snd.snd.snd.snd.snd.fst) (r1.snd.snd.snd.snd.snd.snd.snd)) fun r4 =>
      (br (decide (r4 < r0))
      (omap
      (some (false)) .inr)
      (chk (s6.length + [r1.fst].length ≤ (17592186043904 : Nat))
      (chk ((0 : Int) ≤ s8 ∧ s8 < ↑l.length)
      (chk (l3.length + (1 : Nat) ≤ (1000000 : Nat))
      (rencBack.loop11R N l bytes (nn) (IntKind.i64.wrap (s8 + (1 : Int))) (r1.snd.snd.fst) (r1.snd.snd.snd.fst) (r1.snd.snd.snd.snd.fst) (r1.snd.snd.snd.snd.snd.fst) (s4) (s6 ++ [r1.fst]) (r1.snd.snd.snd.snd.snd.snd.fst) (r1.snd.snd.snd.snd.snd.snd.snd) (l3 ++ [(l.getD s8.toNat Go.Proofs.Rc.Act4.nil).op :: (l.getD s8.toNat Go.Proofs.Rc.Act4.nil).v :: (l.getD s8.toNat Go.Proofs.Rc.Act4.nil).n :: (l.getD s8.toNat Go.Proofs.Rc.Act4.nil).m :: (l.getD s8.toNat Go.Proofs.Rc.Act4.nil).t]))))))))))))))
   (some (Sum.inl (val, rng, rawBits, count, s4, s6, told, raw, l3)))) := by kernel_rfl
    rw [h, rencBack.loop11]
    try simp only [rencBack.loop11_eq N l bytes nn]
noncomputable def rencBack.F (N : Nat) (l : List Act4) (bytes : Int) : Option Bool :=
  (obind (Rc.awake4.F (N)) fun r0 =>
   (br (!r0)
    (some (false))
    (br (decide (↑l.length > (100 : Int)))
     (some (true))
     (br (decide (bytes < (0 : Int)))
      (some (true))
      (br (decide (bytes > (1275 : Int)))
      (some (true))
      (obind (Rc.enew.F (N)) fun r1 =>
      (osum (rencBack.loop11 N l bytes (N) ((0 : Int)) (r1.fst) (r1.snd.fst) (r1.snd.snd.fst) (r1.snd.snd.snd.fst) (false) (([] : List Int)) (r1.snd.snd.snd.snd.fst) (r1.snd.snd.snd.snd.snd) (([] : List (List Int)))) fun r2 =>
      (obind (Rc.edone.F (N) (bytes) (r2.fst) (r2.snd.fst) (r2.snd.snd.fst) (r2.snd.snd.snd.fst) (r2.snd.snd.snd.snd.snd.snd.fst) (r2.snd.snd.snd.snd.snd.snd.snd.fst)) fun r3 =>
      (obind (Rc.etell.F (N) (r2.fst) (r2.snd.fst) (r2.snd.snd.fst) (r2.snd.snd.snd.fst) (r2.snd.snd.snd.snd.snd.snd.fst) (r2.snd.snd.snd.snd.snd.snd.snd.fst)) fun r4 =>
      (br (decide (r4 > IntKind.i64.wrap ((8 : Int) * bytes)))
      (br (r3.fst == (2 : Int))
      (some (↑r3.snd.length == (0 : Int)))
      (some (false)))
      (br (r3.fst != (0 : Int))
      (some (false))
      (br (↑r3.snd.length != bytes)
      (some (false))
      (obind (Rc.rnew.F (N) (r3.snd)) fun r5 =>
      (osum (rencBack.loop29 N l bytes (N) (r2.snd.snd.snd.snd.snd.fst) (r5.snd.snd.snd.snd.snd.snd.snd.snd.snd.snd) (r2.snd.snd.snd.snd.snd.snd.snd.snd) ((0 : Int)) (r5.fst) (r5.snd.fst) (r5.snd.snd.fst) (r5.snd.snd.snd.fst) (r5.snd.snd.snd.snd.fst) (r5.snd.snd.snd.snd.snd.fst) (r5.snd.snd.snd.snd.snd.snd.fst) (r5.snd.snd.snd.snd.snd.snd.snd.fst) (r5.snd.snd.snd.snd.snd.snd.snd.snd.fst) (r2.snd.snd.snd.snd.fst) (r5.snd.snd.snd.snd.snd.snd.snd.snd.snd.fst)) fun r6 =>
      (obind (Rc.rtell.F (N) (r6.fst) (r6.snd.fst) (r6.snd.snd.fst) (r6.snd.snd.snd.fst) (r6.snd.snd.snd.snd.fst) (r6.snd.snd.snd.snd.snd.fst) (r6.snd.snd.snd.snd.snd.snd.fst) (r6.snd.snd.snd.snd.snd.snd.snd.fst) (r6.snd.snd.snd.snd.snd.snd.snd.snd.fst) (r6.snd.snd.snd.snd.snd.snd.snd.snd.snd.snd) (r5.snd.snd.snd.snd.snd.snd.snd.snd.snd.snd)) fun r7 =>
      (obind (Rc.etell.F (N) (r2.fst) (r2.snd.fst) (r2.snd.snd.fst) (r2.snd.snd.snd.fst) (r2.snd.snd.snd.snd.snd.snd.fst) (r2.snd.snd.snd.snd.snd.snd.snd.fst)) fun r8 =>
      (some (r7 == r8))))))))))))))))))
theorem rencBack.F_eq (N : Nat) (l : List Act4) (bytes : Int) : evLaw (rencBack.C N l bytes) (rencBack.K N) 0 Try.f3 [.at (.ror 0), .at (.int .i64 bytes)] = rencBack.F N l bytes := by
  have h : evLaw (rencBack.C N l bytes) (rencBack.K N) 0 Try.f3 [.at (.ror 0), .at (.int .i64 bytes)] =
  (obind (Rc.awake4.F (N)) fun r0 =>
   (br (!r0)
    (some (false))
    (br (decide (↑l.length > (100 : Int)))
     (some (true))
     (br (decide (bytes < (0 : Int)))
      (some (true))
      (br (decide (bytes > (1275 : Int)))
      (some (true))
      (obind (Rc.enew.F (N)) fun r1 =>
      (osum (rencBack.loop11R N l bytes (N) ((0 : Int)) (r1.fst) (r1.snd.fst) (r1.snd.snd.fst) (r1.snd.snd.snd.fst) (false) (([] : List Int)) (r1.snd.snd.snd.snd.fst) (r1.snd.snd.snd.snd.snd) (([] : List (List Int)))) fun r2 =>
      (obind (Rc.edone.F (N) (bytes) (r2.fst) (r2.snd.fst) (r2.snd.snd.fst) (r2.snd.snd.snd.fst) (r2.snd.snd.snd.snd.snd.snd.fst) (r2.snd.snd.snd.snd.snd.snd.snd.fst)) fun r3 =>
      (obind (Rc.etell.F (N) (r2.fst) (r2.snd.fst) (r2.snd.snd.fst) (r2.snd.snd.snd.fst) (r2.snd.snd.snd.snd.snd.snd.fst) (r2.snd.snd.snd.snd.snd.snd.snd.fst)) fun r4 =>
      (br (decide (r4 > IntKind.i64.wrap ((8 : Int) * bytes)))
      (br (r3.fst == (2 : Int))
      (some (↑r3.snd.length == (0 : Int)))
      (some (false)))
      (br (r3.fst != (0 : Int))
      (some (false))
      (br (↑r3.snd.length != bytes)
      (some (false))
      (obind (Rc.rnew.F (N) (r3.snd)) fun r5 =>
      (osum (rencBack.loop29R N l bytes (N) (r2.snd.snd.snd.snd.snd.fst) (r5.snd.snd.snd.snd.snd.snd.snd.snd.snd.snd) (r2.snd.snd.snd.snd.snd.snd.snd.snd) ((0 : Int)) (r5.fst) (r5.snd.fst) (r5.snd.snd.fst) (r5.snd.snd.snd.fst) (r5.snd.snd.snd.snd.fst) (r5.snd.snd.snd.snd.snd.fst) (r5.snd.snd.snd.snd.snd.snd.fst) (r5.snd.snd.snd.snd.snd.snd.snd.fst) (r5.snd.snd.snd.snd.snd.snd.snd.snd.fst) (r2.snd.snd.snd.snd.fst) (r5.snd.snd.snd.snd.snd.snd.snd.snd.snd.fst)) fun r6 =>
      (obind (Rc.rtell.F (N) (r6.fst) (r6.snd.fst) (r6.snd.snd.fst) (r6.snd.snd.snd.fst) (r6.snd.snd.snd.snd.fst) (r6.snd.snd.snd.snd.snd.fst) (r6.snd.snd.snd.snd.snd.snd.fst) (r6.snd.snd.snd.snd.snd.snd.snd.fst) (r6.snd.snd.snd.snd.snd.snd.snd.snd.fst) (r6.snd.snd.snd.snd.snd.snd.snd.snd.snd.snd) (r5.snd.snd.snd.snd.snd.snd.snd.snd.snd.snd)) fun r7 =>
      (obind (Rc.etell.F (N) (r2.fst) (r2.snd.fst) (r2.snd.snd.fst) (r2.snd.snd.snd.fst) (r2.snd.snd.snd.snd.snd.snd.fst) (r2.snd.snd.snd.snd.snd.snd.snd.fst)) fun r8 =>
      (some (r7 == r8)))))))))))))))))) := by kernel_rfl
  rw [h, rencBack.F]
  try simp only [rencBack.loop11_eq N l bytes, rencBack.loop29_eq N l bytes]
theorem rencBack.cok (N : Nat) (l : List Act4) (bytes : Int) : CfgOK (rencBack.C N l bytes) := ⟨actTabK_ok l, wide, by
  simp only [rencBack.C, List.mem_cons, List.not_mem_nil, or_false, forall_eq_or_imp, forall_eq, false_imp_iff, implies_true]
  exact ⟨⟨awake4.ok, by kernel_rfl⟩, ⟨enew.ok, by kernel_rfl⟩, ⟨etell.ok, by kernel_rfl⟩, ⟨written.ok, by kernel_rfl⟩, ⟨mayw.ok, by kernel_rfl⟩, ⟨edone.ok, by kernel_rfl⟩, ⟨rnew.ok, by kernel_rfl⟩, ⟨rreads.ok, by kernel_rfl⟩, ⟨rbad.ok, by kernel_rfl⟩, ⟨rtell.ok, by kernel_rfl⟩⟩, fun g hg => by simp [rencBack.C] at hg, fun m hm => by simp [rencBack.C] at hm, fun q hq => by simp [rencBack.C] at hq⟩
theorem rencBack.aok (N : Nat) : AnnsOK (rencBack.K N) := by
  intro q hq
  simp only [rencBack.K, List.mem_cons, List.not_mem_nil, or_false] at hq
  rcases hq with rfl | rfl
  · exact fun _ _ => ⟨rfl, rfl⟩
  · exact fun _ _ => ⟨rfl, rfl⟩
theorem rencBack.walk {w : World} {N : Nat} (l : List Act4) (bytes : Int) {cargs : Array Value} (ha : All2 (RV (actTabK l) (lawE w)) [.at (.ror 0), .at (.int .i64 bytes)] cargs.toList) (h : rencBack.F N l bytes = some true) :
    Calls Try.prog 3 cargs w fun e w' => e = .returned (.bool true) ∧ Frm w (fun _ => False) w' :=
  law_sound (C := rencBack.C N l bytes) (K := rencBack.K N) (d := 0) (fn := Try.f3) (rencBack.cok N l bytes) (fun q hq => by simp [rencBack.C] at hq) (rencBack.aok N) (by kernel_rfl) ha ((rencBack.F_eq N l bytes).trans h)
noncomputable def rencBack.phi (N : Nat) (l : List Act4) : List AV → Option Bool := fun args => match args with
  | [.at (.ror 0), .at (.int .i64 bytes)] => rencBack.F N l bytes
  | _ => none
theorem rencBack.lawok (N : Nat) (l : List Act4) : LawOK Try.prog (actTabK l) 3 (rencBack.phi N l) := by
  intro args b E w cargs hk hs hi ha
  unfold rencBack.phi at hk
  split at hk
  · rename_i bytes
    exact law_any (C := rencBack.C N l bytes) (K := rencBack.K N) (d := 0) (fn := Try.f3) (rencBack.cok N l bytes) (fun q hq => by simp [rencBack.C] at hq) (rencBack.aok N) (by kernel_rfl) hs hi ha ((rencBack.F_eq N l bytes).trans hk)
  · simp at hk

noncomputable def rencTight.C (N : Nat) (l : List Act4) : Cfg := { P := Try.prog, N := N, RT := (actTabK l), specs := [(24, awake4.spec), (25, enew.spec), (27, written.spec), (26, etell.spec)], inl := [], hi := 0, mv := [], laws := [(3, rencBack.phi N l)] }
abbrev rencTight.loop9.R : Type := Int × Int × Int × Int × List Int × List Int
noncomputable def rencTight.loop9.ann : Ann := { nx := 22, slots := [(0, .at (.ror 0)), (3, .at (.ptr 0 0)), (4, .at (.int .i64 0))], blks := [(0, .cells 6 [.full 20 false, .int .u64 1, .int .u64 2, .full 21 false, .int .i64 3, .int .i64 4]), (20, .ints true .u8 0), (21, .ints true .u8 1)], mov := [20, 21], exId := 0, xslots := [(3, .at (.ptr 0 0))], xblks := [(0, .cells 6 [.full 20 false, .int .u64 0, .int .u64 1, .full 21 false, .int .i64 2, .int .i64 3]), (20, .ints true .u8 0), (21, .ints true .u8 1)], T := rencTight.loop9.R, dec := fun L => (L.i 0, L.i 1, L.i 2, L.i 3, L.l 0, L.l 1), enc := fun r => mkL [r.1, r.2.1, r.2.2.1, r.2.2.2.1] [] [r.2.2.2.2.1, r.2.2.2.2.2] [], ret := false }
noncomputable def rencTight.K (N : Nat) : FCfg := { anns := [(9, rencTight.loop9.ann)], unr := [], lits := [], lets := [] }
noncomputable def rencTight.loop9 (N : Nat) (l : List Act4) : Nat → Int → Int → Int → Int → Int → List Int → List Int → Option rencTight.loop9.R
  | 0, _, _, _, _, _, _, _ => none
  | nn + 1, s4, val, rng, rawBits, count, told, raw =>
  (br (decide (s4 < ↑l.length))
   (chk ((0 : Int) ≤ s4 ∧ s4 < ↑l.length)
    (obind (Rc.written.F (N) ((l.getD s4.toNat Go.Proofs.Rc.Act4.nil).op) ((l.getD s4.toNat Go.Proofs.Rc.Act4.nil).v) ((l.getD s4.toNat Go.Proofs.Rc.Act4.nil).n) ((l.getD s4.toNat Go.Proofs.Rc.Act4.nil).m) (val) (rng) (rawBits) (count) ((l.getD s4.toNat Go.Proofs.Rc.Act4.nil).t) (told) (raw)) fun r0 =>
     (rencTight.loop9 N l (nn) (IntKind.i64.wrap (s4 + (1 : Int))) (r0.snd.snd.fst) (r0.snd.snd.snd.fst) (r0.snd.snd.snd.snd.fst) (r0.snd.snd.snd.snd.snd.fst) (r0.snd.snd.snd.snd.snd.snd.fst) (r0.snd.snd.snd.snd.snd.snd.snd))))
   (some ((val, rng, rawBits, count, told, raw))))
noncomputable def rencTight.loop9R (N : Nat) (l : List Act4) (nn : Nat) (s4 : Int) (val : Int) (rng : Int) (rawBits : Int) (count : Int) (told : List Int) (raw : List Int) : Option rencTight.loop9.R := loopF rencTight.loop9.ann (mkL [] [] [] []) (evCode ((rencTight.C N l).inLoop rencTight.loop9.ann) (rencTight.K N) (inlTab (rencTight.C N l) 0) (bodyAt 9 Try.f4)) nn (mkL [s4, val, rng, rawBits, count] [] [told, raw] [])
theorem rencTight.loop9_eq (N : Nat) (l : List Act4) : ∀ (nn : Nat) (s4 : Int) (val : Int) (rng : Int) (rawBits : Int) (count : Int) (told : List Int) (raw : List Int), rencTight.loop9R N l nn s4 val rng rawBits count told raw = rencTight.loop9 N l nn s4 val rng rawBits count told raw
  | 0, _, _, _, _, _, _, _ => by kernel_rfl
  | nn + 1, s4, val, rng, rawBits, count, told, raw => by
    have h : rencTight.loop9R N l (nn + 1) s4 val rng rawBits count told raw =
  (br (decide (s4 < ↑l.length))
   (chk ((0 : Int) ≤ s4 ∧ s4 < ↑l.length)
    (obind (Rc.written.F (N) ((l.getD s4.toNat Go.Proofs.Rc.Act4.nil).op) ((l.getD s4.toNat Go.Proofs.Rc.Act4.nil).v) ((l.getD s4.toNat Go.Proofs.Rc.Act4.nil).n) ((l.getD s4.toNat Go.Proofs.Rc.Act4.nil).m) (val) (rng) (rawBits) (count) ((l.getD s4.toNat Go.Proofs.Rc.Act4.nil).t) (told) (raw)) fun r0 =>
     (rencTight.loop9R N l (nn) (IntKind.i64.wrap (s4 + (1 : Int))) (r0.snd.snd.fst) (r0.snd.snd.snd.fst) (r0.snd.snd.snd.snd.fst) (r0.snd.snd.snd.snd.snd.fst) (r0.snd.snd.snd.snd.snd.snd.fst) (r0.snd.snd.snd.snd.snd.snd.snd))))
   (some ((val, rng, rawBits, count, told, raw)))) := by kernel_rfl
    rw [h, rencTight.loop9]
    try simp only [rencTight.loop9_eq N l nn]
noncomputable def rencTight.F (N : Nat) (l : List Act4) : Option Bool :=
  (obind (Rc.awake4.F (N)) fun r0 =>
   (br (!r0)
    (some (false))
    (br (decide (↑l.length > (100 : Int)))
     (some (true))
     (obind (Rc.enew.F (N)) fun r1 =>
      (obind (rencTight.loop9 N l (N) ((0 : Int)) (r1.fst) (r1.snd.fst) (r1.snd.snd.fst) (r1.snd.snd.snd.fst) (r1.snd.snd.snd.snd.fst) (r1.snd.snd.snd.snd.snd)) fun r2 =>
      (obind (Rc.etell.F (N) (r2.fst) (r2.snd.fst) (r2.snd.snd.fst) (r2.snd.snd.snd.fst) (r2.snd.snd.snd.snd.fst) (r2.snd.snd.snd.snd.snd)) fun r3 =>
      (br (decide (IntKind.i64.wrap ((IntKind.i64.wrap (r3 + (7 : Int))).tdiv (8 : Int)) > (1275 : Int)))
      (some (true))
      (obind (Rc.rencBack.F (N) (l) (IntKind.i64.wrap ((IntKind.i64.wrap (r3 + (7 : Int))).tdiv (8 : Int)))) fun r4 =>
      (br (r4)
      (obind (Rc.rencBack.F (N) (l) (IntKind.i64.wrap (IntKind.i64.wrap ((IntKind.i64.wrap (r3 + (7 : Int))).tdiv (8 : Int)) - (1 : Int)))) fun r5 =>
      (some (r5)))
      (some (false)))))))))))
theorem rencTight.F_eq (N : Nat) (l : List Act4) : evLaw (rencTight.C N l) (rencTight.K N) 0 Try.f4 [.at (.ror 0)] = rencTight.F N l := by
  have h : evLaw (rencTight.C N l) (rencTight.K N) 0 Try.f4 [.at (.ror 0)] =
  (obind (Rc.awake4.F (N)) fun r0 =>
   (br (!r0)
    (some (false))
    (br (decide (↑l.length > (100 : Int)))
     (some (true))
     (obind (Rc.enew.F (N)) fun r1 =>
      (obind (rencTight.loop9R N l (N) ((0 : Int)) (r1.fst) (r1.snd.fst) (r1.snd.snd.fst) (r1.snd.snd.snd.fst) (r1.snd.snd.snd.snd.fst) (r1.snd.snd.snd.snd.snd)) fun r2 =>
      (obind (Rc.etell.F (N) (r2.fst) (r2.snd.fst) (r2.snd.snd.fst) (r2.snd.snd.snd.fst) (r2.snd.snd.snd.snd.fst) (r2.snd.snd.snd.snd.snd)) fun r3 =>
      (br (decide (IntKind.i64.wrap ((IntKind.i64.wrap (r3 + (7 : Int))).tdiv (8 : Int)) > (1275 : Int)))
      (some (true))
      (obind (Rc.rencBack.F (N) (l) (IntKind.i64.wrap ((IntKind.i64.wrap (r3 + (7 : Int))).tdiv (8 : Int)))) fun r4 =>
      (br (r4)
      (obind (Rc.rencBack.F (N) (l) (IntKind.i64.wrap (IntKind.i64.wrap ((IntKind.i64.wrap (r3 + (7 : Int))).tdiv (8 : Int)) - (1 : Int)))) fun r5 =>
      (some (r5)))
      (some (false))))))))))) := by kernel_rfl
  rw [h, rencTight.F]
  try simp only [rencTight.loop9_eq N l]
theorem rencTight.cok (N : Nat) (l : List Act4) : CfgOK (rencTight.C N l) := ⟨actTabK_ok l, wide, by
  simp only [rencTight.C, List.mem_cons, List.not_mem_nil, or_false, forall_eq_or_imp, forall_eq, false_imp_iff, implies_true]
  exact ⟨⟨awake4.ok, by kernel_rfl⟩, ⟨enew.ok, by kernel_rfl⟩, ⟨written.ok, by kernel_rfl⟩, ⟨etell.ok, by kernel_rfl⟩⟩, fun g hg => by simp [rencTight.C] at hg, fun m hm => by simp [rencTight.C] at hm, fun q hq => by
  simp only [rencTight.C, List.mem_cons, List.not_mem_nil, or_false] at hq
  subst hq
  exact ⟨rencBack.lawok N l, by kernel_rfl⟩⟩
theorem rencTight.aok (N : Nat) : AnnsOK (rencTight.K N) := by
  intro q hq
  simp only [rencTight.K, List.mem_cons, List.not_mem_nil, or_false] at hq
  subst hq
  exact fun _ _ => ⟨rfl, rfl⟩
theorem rencTight.walk {w : World} {N : Nat} (l : List Act4) {cargs : Array Value} (ha : All2 (RV (actTabK l) (lawE w)) [.at (.ror 0)] cargs.toList) (h : rencTight.F N l = some true) :
    Calls Try.prog 4 cargs w fun e w' => e = .returned (.bool true) ∧ Frm w (fun _ => False) w' :=
  law_sound (C := rencTight.C N l) (K := rencTight.K N) (d := 0) (fn := Try.f4) (rencTight.cok N l) (fun q hq => by simp [rencTight.C] at hq) (rencTight.aok N) (by kernel_rfl) ha ((rencTight.F_eq N l).trans h)

end Go.Proofs.Rc
