/-
  Functions of the program: what each comes to, and its contract (written by a program).
  Conditions: none: each contract is proved for every input of its shape.
-/
import Derived.Test.YtgimkkepagcpkaaEngFn
import Derived.Laws.Externs
import Derived.Test.YtgimkkepagcpkaaProg
import Derived.Test.YtgimkkepagcpkaaRencFns
namespace Go.Proofs.Rc
open Go.Eng
set_option maxRecDepth 100000
set_option linter.unusedVariables false
set_option linter.unusedSimpArgs false
structure Act4 where
  op : Int
  v : Int
  n : Int
  m : Int
  t : List Int
def Act4.nil : Act4 := ⟨0, 0, 0, 0, []⟩
def actTabK (l : List Act4) : RoTab := fun tag => match tag with
  | 0 => some ⟨l.length, 5, fun i j => match j with
    | 0 => .int .i64 (l.getD i Act4.nil).op
    | 1 => .int .i64 (l.getD i Act4.nil).v
    | 2 => .int .i64 (l.getD i Act4.nil).n
    | 3 => .int .i64 (l.getD i Act4.nil).m
    | _ => .roi .i64 (l.getD i Act4.nil).t⟩
  | _ => none
def actTab2K (a b : List Act4) : RoTab := fun tag => match tag with
  | 0 => actTabK a 0
  | 1 => actTabK b 0
  | _ => none
theorem actTabK_ok (l : List Act4) : RTok (actTabK l) := by
  intro tag T i j h
  cases tag with
  | zero =>
    simp only [actTabK, Option.some.injEq] at h
    subst h
    match j with
    | 0 => trivial
    | 1 => trivial
    | 2 => trivial
    | 3 => trivial
    | j + 4 => trivial
  | succ n => simp [actTabK] at h
theorem actTab2K_ok (a b : List Act4) : RTok (actTab2K a b) := by
  intro tag T i j h
  match tag with
  | 0 => exact actTabK_ok a 0 T i j h
  | 1 => exact actTabK_ok b 0 T i j h
  | n + 2 => simp [actTab2K] at h
noncomputable def awake4.sig : Eng.Sig := { args := [], n := 0, pre := [], post := [], m := 0, ret := .at (.bool 0) }
noncomputable def awake4.C (N : Nat) : Cfg := { P := Try.prog, N := N, RT := noRT, specs := [(26, enew.spec), (41, icdf.spec), (40, esymbol.spec), (27, ebits.spec), (29, edone.spec), (30, new.spec), (75, symbol.spec), (31, bits.spec), (61, tell.spec), (28, etell.spec), (42, eflag.spec), (43, euint.spec)], inl := [], hi := 0, mv := [] }
abbrev awake4.R : Type := Bool
def awake4.dec (L : Eng.Leaves) : awake4.R := (L.b 0)
def awake4.enc (r : awake4.R) : Eng.Leaves := mkL [] [r] [] []
noncomputable def awake4.K (N : Nat) : FCfg := { anns := [], unr := [], lits := [], lets := [] }
noncomputable def awake4.F (N : Nat)  : Option awake4.R :=
  (obind (Rc.enew.F (N)) fun r0 =>
   (obind (Rc.icdf.F (N) ((0 : Int))) fun r1 =>
    (obind (Rc.esymbol.F (N) ((1 : Int)) (r0.fst) (r0.snd.fst) (r0.snd.snd.fst) (r0.snd.snd.snd.fst) (r1) (r0.snd.snd.snd.snd.fst) (r0.snd.snd.snd.snd.snd)) fun r2 =>
     (obind (Rc.ebits.F (N) ((5 : Int)) ((3 : Int)) (r2.snd.fst) (r2.snd.snd.fst) (r2.snd.snd.snd.fst) (r2.snd.snd.snd.snd.fst) (r2.snd.snd.snd.snd.snd.snd) (r2.snd.snd.snd.snd.snd.fst)) fun r3 =>
      (obind (Rc.edone.F (N) ((4 : Int)) (r2.snd.fst) (r2.snd.snd.fst) (r3.snd.fst) (r3.snd.snd.fst) (r2.snd.snd.snd.snd.snd.snd) (r3.snd.snd.snd)) fun r4 =>
       (br (r2.fst != (0 : Int))
        (some (false))
        (br (r3.fst != (0 : Int))
         (some (false))
         (br (r4.fst != (0 : Int))
          (some (false))
          (br (↑r4.snd.length != (4 : Int))
           (some (false))
           (obind (Rc.new.F (N) (r4.snd)) fun r5 =>
            (obind (Rc.icdf.F (N) ((0 : Int))) fun r6 =>
             (obind (Rc.symbol.F (N) (r5.fst) (r5.snd.fst) (r5.snd.snd.fst) (r5.snd.snd.snd.fst) (r5.snd.snd.snd.snd.fst) (r5.snd.snd.snd.snd.snd.fst) (r5.snd.snd.snd.snd.snd.snd.fst) (r5.snd.snd.snd.snd.snd.snd.snd.fst) (r5.snd.snd.snd.snd.snd.snd.snd.snd.fst) (r6) (r5.snd.snd.snd.snd.snd.snd.snd.snd.snd)) fun r7 =>
              (br (r7.fst == (1 : Int))
               (obind (Rc.bits.F (N) ((3 : Int)) (r7.snd.fst) (r7.snd.snd.fst) (r7.snd.snd.snd.fst) (r7.snd.snd.snd.snd.fst) (r5.snd.snd.snd.snd.fst) (r5.snd.snd.snd.snd.snd.fst) (r5.snd.snd.snd.snd.snd.snd.fst) (r7.snd.snd.snd.snd.snd) (r5.snd.snd.snd.snd.snd.snd.snd.snd.fst) (r5.snd.snd.snd.snd.snd.snd.snd.snd.snd)) fun r8 =>
                (br (r8.fst == (5 : Int))
                 (obind (Rc.tell.F (N) (r7.snd.fst) (r7.snd.snd.fst) (r7.snd.snd.snd.fst) (r7.snd.snd.snd.snd.fst) (r8.snd.fst) (r8.snd.snd.fst) (r8.snd.snd.snd.fst) (r8.snd.snd.snd.snd) (r5.snd.snd.snd.snd.snd.snd.snd.snd.fst) (r5.snd.snd.snd.snd.snd.snd.snd.snd.snd)) fun r9 =>
                  (obind (Rc.etell.F (N) (r2.snd.fst) (r2.snd.snd.fst) (r3.snd.fst) (r3.snd.snd.fst) (r2.snd.snd.snd.snd.snd.snd) (r3.snd.snd.snd)) fun r10 =>
                   (br (r9 == r10)
                    (obind (Rc.eflag.F (N) ((2 : Int)) (r2.snd.fst) (r2.snd.snd.fst) (r3.snd.fst) (r3.snd.snd.fst) (true) (r2.snd.snd.snd.snd.snd.snd) (r3.snd.snd.snd)) fun r11 =>
                     (br (r11.fst == (0 : Int))
                      (obind (Rc.euint.F (N) ((3 : Int)) ((5 : Int)) (r11.snd.fst) (r11.snd.snd.fst) (r11.snd.snd.snd.fst) (r11.snd.snd.snd.snd.fst) (r11.snd.snd.snd.snd.snd.snd) (r11.snd.snd.snd.snd.snd.fst)) fun r12 =>
                       (some (r12.fst == (0 : Int))))
                      (some (false))))
                    (some (false)))))
                 (some (false))))
               (some (false)))))))))))))))
theorem awake4.F_eq (N : Nat) (L : Eng.Leaves) : evSig (awake4.C N) (awake4.K N) 0 Try.f25 awake4.sig L awake4.dec = awake4.F N  := by
  kernel_rfl
noncomputable def awake4.spec : Eng.Spec := awake4.sig.spec (fun N L => awake4.F N ) awake4.enc
theorem awake4.cok (N : Nat) : CfgOK (awake4.C N) := ⟨fun _ _ _ _ h => by simp [awake4.C, noRT] at h, wide, by
  simp only [awake4.C, List.mem_cons, List.not_mem_nil, or_false, forall_eq_or_imp, forall_eq, false_imp_iff, implies_true]
  exact ⟨⟨enew.ok, by kernel_rfl⟩, ⟨icdf.ok, by kernel_rfl⟩, ⟨esymbol.ok, by kernel_rfl⟩, ⟨ebits.ok, by kernel_rfl⟩, ⟨edone.ok, by kernel_rfl⟩, ⟨new.ok, by kernel_rfl⟩, ⟨symbol.ok, by kernel_rfl⟩, ⟨bits.ok, by kernel_rfl⟩, ⟨tell.ok, by kernel_rfl⟩, ⟨etell.ok, by kernel_rfl⟩, ⟨eflag.ok, by kernel_rfl⟩, ⟨euint.ok, by kernel_rfl⟩⟩, fun g hg => by simp [awake4.C] at hg⟩
theorem awake4.aok (N : Nat) : AnnsOK (awake4.K N) := by
  intro q hq
  simp only [awake4.K, List.mem_cons, List.not_mem_nil, or_false] at hq
theorem awake4.ok : CallOK Try.prog 25 awake4.spec :=
  callOK_of_sig (fn := Try.f25) (Cf := awake4.C) (K := awake4.K) (d := 0) (dec := awake4.dec) (by kernel_rfl) (fun _ => rfl) awake4.cok (fun _ q hq => by simp [awake4.C] at hq) awake4.aok
    (fun N L r h => (awake4.F_eq N L).trans h) (by kernel_rfl) (fun _ => ⟨rfl, rfl⟩) (fun _ _ => ⟨rfl, rfl⟩)

noncomputable def written.sig : Eng.Sig := { args := [.at (.ptr 0 0), .agg [.int .i64 0, .int .i64 1, .int .i64 2, .int .i64 3, .roi .i64 0]], n := 3, pre := [(0, .cells 6 [.full 1 false, .int .u64 4, .int .u64 5, .full 2 false, .int .i64 6, .int .i64 7]), (1, .ints true .u8 1), (2, .ints true .u8 2)], post := [(0, .cells 6 [.full 3 false, .int .u64 2, .int .u64 3, .full 4 false, .int .i64 4, .int .i64 5]), (1, .dead), (2, .dead), (3, .ints true .u8 0), (4, .ints true .u8 1)], m := 2, ret := .tup [(false, [.int .i64 0]), (false, [.int .i64 1])] }
noncomputable def written.C (N : Nat) : Cfg := { P := Try.prog, N := N, RT := noRT, specs := [(40, esymbol.spec), (42, eflag.spec), (27, ebits.spec), (43, euint.spec), (38, elaplace.spec), (41, icdf.spec)], inl := [], hi := 3, mv := [] }
abbrev written.R : Type := Int × Int × Int × Int × Int × Int × List Int × List Int
def written.dec (L : Eng.Leaves) : written.R := (L.i 0, L.i 1, L.i 2, L.i 3, L.i 4, L.i 5, L.l 0, L.l 1)
def written.enc (r : written.R) : Eng.Leaves := mkL [r.1, r.2.1, r.2.2.1, r.2.2.2.1, r.2.2.2.2.1, r.2.2.2.2.2.1] [] [r.2.2.2.2.2.2.1, r.2.2.2.2.2.2.2] []
noncomputable def written.K (N : Nat) : FCfg := { anns := [], unr := [], lits := [], lets := [] }
noncomputable def written.F (N : Nat) (x_Op : Int) (x_V : Int) (x_N : Int) (x_M : Int) (val : Int) (rng : Int) (rawBits : Int) (count : Int) (x_T : List Int) (told : List Int) (raw : List Int) : Option written.R :=
  (br (x_Op == (0 : Int))
   (chk (([] : List Int).length + x_T.length ≤ (17592186043904 : Nat))
    (obind (Rc.esymbol.F (N) (x_V) (val) (rng) (rawBits) (count) (([] : List Int) ++ x_T) (told) (raw)) fun r0 =>
     (chkL (x_T) (x_T)
     (chkI (x_V) (x_V)
     (chkI (x_V) (x_V)
     (chkI (x_V) (x_V)
     (chkI (x_V) (x_V)
     (chkI (x_V) (x_V)
     (some ((x_V, r0.fst, r0.snd.fst, r0.snd.snd.fst, r0.snd.snd.snd.fst, r0.snd.snd.snd.snd.fst, r0.snd.snd.snd.snd.snd.snd, r0.snd.snd.snd.snd.snd.fst)))))))))))
   (br (x_Op == (1 : Int))
    (obind (Rc.eflag.F (N) (x_N) (val) (rng) (rawBits) (count) (Go.IntKind.i64.wrap ↑(BitVec.ofInt Go.IntKind.i64.bits x_V &&& BitVec.ofInt Go.IntKind.i64.bits (1 : Int)).toNat == (1 : Int)) (told) (raw)) fun r1 =>
     (chkI (x_V) (x_V)
     (some ((Go.IntKind.i64.wrap ↑(BitVec.ofInt Go.IntKind.i64.bits x_V &&& BitVec.ofInt Go.IntKind.i64.bits (1 : Int)).toNat, r1.fst, r1.snd.fst, r1.snd.snd.fst, r1.snd.snd.snd.fst, r1.snd.snd.snd.snd.fst, r1.snd.snd.snd.snd.snd.snd, r1.snd.snd.snd.snd.snd.fst)))))
    (br (x_Op == (2 : Int))
     (obind (Rc.ebits.F (N) (x_V) (x_N) (val) (rng) (rawBits) (count) (told) (raw)) fun r2 =>
      (chkI (x_V) (x_V)
      (some ((x_V, r2.fst, val, rng, r2.snd.fst, r2.snd.snd.fst, told, r2.snd.snd.snd)))))
     (br (x_Op == (3 : Int))
      (obind (Rc.euint.F (N) (x_V) (x_N) (val) (rng) (rawBits) (count) (told) (raw)) fun r3 =>
       (chkI (x_V) (x_V)
       (some ((x_V, r3.fst, r3.snd.fst, r3.snd.snd.fst, r3.snd.snd.snd.fst, r3.snd.snd.snd.snd.fst, r3.snd.snd.snd.snd.snd.fst, r3.snd.snd.snd.snd.snd.snd)))))
      (br (x_Op == (4 : Int))
       (obind (Rc.elaplace.F (N) (x_V) (x_N) (x_M) (val) (rng) (rawBits) (count) (told) (raw)) fun r4 =>
        (some ((r4.fst, r4.snd.fst, r4.snd.snd.fst, r4.snd.snd.snd.fst, r4.snd.snd.snd.snd.fst, r4.snd.snd.snd.snd.snd.fst, r4.snd.snd.snd.snd.snd.snd.snd, r4.snd.snd.snd.snd.snd.snd.fst))))
       (obind (Rc.icdf.F (N) (x_N)) fun r5 =>
        (obind (Rc.esymbol.F (N) (x_V) (val) (rng) (rawBits) (count) (r5) (told) (raw)) fun r6 =>
         (chkI (x_V) (x_V)
         (chkI (x_V) (x_V)
         (chkI (x_V) (x_V)
         (some ((x_V, r6.fst, r6.snd.fst, r6.snd.snd.fst, r6.snd.snd.snd.fst, r6.snd.snd.snd.snd.fst, r6.snd.snd.snd.snd.snd.snd, r6.snd.snd.snd.snd.snd.fst)))))))))))))
theorem written.F_eq (N : Nat) (L : Eng.Leaves) : evSig (written.C N) (written.K N) 0 Try.f32 written.sig L written.dec = written.F N (L.i 0) (L.i 1) (L.i 2) (L.i 3) (L.i 4) (L.i 5) (L.i 6) (L.i 7) (L.l 0) (L.l 1) (L.l 2) := by
  kernel_rfl
noncomputable def written.spec : Eng.Spec := written.sig.spec (fun N L => written.F N (L.i 0) (L.i 1) (L.i 2) (L.i 3) (L.i 4) (L.i 5) (L.i 6) (L.i 7) (L.l 0) (L.l 1) (L.l 2)) written.enc
theorem written.cok (N : Nat) : CfgOK (written.C N) := ⟨fun _ _ _ _ h => by simp [written.C, noRT] at h, wide, by
  simp only [written.C, List.mem_cons, List.not_mem_nil, or_false, forall_eq_or_imp, forall_eq, false_imp_iff, implies_true]
  exact ⟨⟨esymbol.ok, by kernel_rfl⟩, ⟨eflag.ok, by kernel_rfl⟩, ⟨ebits.ok, by kernel_rfl⟩, ⟨euint.ok, by kernel_rfl⟩, ⟨elaplace.ok, by kernel_rfl⟩, ⟨icdf.ok, by kernel_rfl⟩⟩, fun g hg => by simp [written.C] at hg⟩
theorem written.aok (N : Nat) : AnnsOK (written.K N) := by
  intro q hq
  simp only [written.K, List.mem_cons, List.not_mem_nil, or_false] at hq
theorem written.ok : CallOK Try.prog 32 written.spec :=
  callOK_of_sig (fn := Try.f32) (Cf := written.C) (K := written.K) (d := 0) (dec := written.dec) (by kernel_rfl) (fun _ => rfl) written.cok (fun _ q hq => by simp [written.C] at hq) written.aok
    (fun N L r h => (written.F_eq N L).trans h) (by kernel_rfl) (fun _ => ⟨rfl, rfl⟩) (fun _ _ => ⟨rfl, rfl⟩)

noncomputable def mayw.sig : Eng.Sig := { args := [.agg [.int .i64 0, .int .i64 1, .int .i64 2, .int .i64 3, .roi .i64 0]], n := 0, pre := [], post := [], m := 0, ret := .at (.bool 0) }
noncomputable def mayw.C (N : Nat) : Cfg := { P := Try.prog, N := N, RT := noRT, specs := [(85, rgood.spec), (41, icdf.spec)], inl := [], hi := 0, mv := [] }
abbrev mayw.R : Type := Bool
def mayw.dec (L : Eng.Leaves) : mayw.R := (L.b 0)
def mayw.enc (r : mayw.R) : Eng.Leaves := mkL [] [r] [] []
noncomputable def mayw.K (N : Nat) : FCfg := { anns := [], unr := [], lits := [], lets := [] }
noncomputable def mayw.F (N : Nat) (x_Op : Int) (x_V : Int) (x_N : Int) (x_M : Int) (x_T : List Int) : Option mayw.R :=
  (br (x_Op == (0 : Int))
   (obind (Rc.rgood.F (N) (x_T)) fun r0 =>
    (br (r0)
     (br (decide (x_V ≥ (0 : Int)))
      (some (decide (x_V < ↑x_T.length)))
      (some (false)))
     (some (false))))
   (br (x_Op == (1 : Int))
    (br (decide (x_N ≥ (1 : Int)))
     (some (decide (x_N ≤ (15 : Int))))
     (some (false)))
    (br (x_Op == (2 : Int))
     (br (decide (x_N ≥ (0 : Int)))
      (br (decide (x_N ≤ (24 : Int)))
       (br (decide (x_V ≥ (0 : Int)))
        (chk ((0 : Int) ≤ Go.IntKind.u64.wrap x_N)
         (some (decide (x_V < Go.IntKind.i64.wrap ((1 : Int) * (2 : Int) ^ min (Go.IntKind.u64.wrap x_N).toNat Go.IntKind.i64.bits)))))
        (some (false)))
       (some (false)))
      (some (false)))
     (br (x_Op == (3 : Int))
      (br (decide (x_N ≥ (1 : Int)))
       (br (decide (x_N ≤ (4294967295 : Int)))
        (br (decide (x_V ≥ (0 : Int)))
         (some (decide (x_V < x_N)))
         (some (false)))
        (some (false)))
       (some (false)))
      (br (x_Op == (4 : Int))
       (br (decide (x_N ≥ (256 : Int)))
        (br (decide (x_N ≤ (28000 : Int)))
         (br (decide (x_M ≥ (0 : Int)))
          (some (decide (x_M ≤ (16000 : Int))))
          (some (false)))
         (some (false)))
        (some (false)))
       (br (decide (x_N ≥ (0 : Int)))
        (br (decide (x_N ≤ (8 : Int)))
         (br (decide (x_V ≥ (0 : Int)))
          (obind (Rc.icdf.F (N) (x_N)) fun r1 =>
           (chkI (x_V) (x_V)
           (some (decide (x_V < ↑r1.length)))))
          (some (false)))
         (some (false)))
        (some (false))))))))
theorem mayw.F_eq (N : Nat) (L : Eng.Leaves) : evSig (mayw.C N) (mayw.K N) 0 Try.f33 mayw.sig L mayw.dec = mayw.F N (L.i 0) (L.i 1) (L.i 2) (L.i 3) (L.l 0) := by
  kernel_rfl
noncomputable def mayw.spec : Eng.Spec := mayw.sig.spec (fun N L => mayw.F N (L.i 0) (L.i 1) (L.i 2) (L.i 3) (L.l 0)) mayw.enc
theorem mayw.cok (N : Nat) : CfgOK (mayw.C N) := ⟨fun _ _ _ _ h => by simp [mayw.C, noRT] at h, wide, by
  simp only [mayw.C, List.mem_cons, List.not_mem_nil, or_false, forall_eq_or_imp, forall_eq, false_imp_iff, implies_true]
  exact ⟨⟨rgood.ok, by kernel_rfl⟩, ⟨icdf.ok, by kernel_rfl⟩⟩, fun g hg => by simp [mayw.C] at hg⟩
theorem mayw.aok (N : Nat) : AnnsOK (mayw.K N) := by
  intro q hq
  simp only [mayw.K, List.mem_cons, List.not_mem_nil, or_false] at hq
theorem mayw.ok : CallOK Try.prog 33 mayw.spec :=
  callOK_of_sig (fn := Try.f33) (Cf := mayw.C) (K := mayw.K) (d := 0) (dec := mayw.dec) (by kernel_rfl) (fun _ => rfl) mayw.cok (fun _ q hq => by simp [mayw.C] at hq) mayw.aok
    (fun N L r h => (mayw.F_eq N L).trans h) (by kernel_rfl) (fun _ => ⟨rfl, rfl⟩) (fun _ _ => ⟨rfl, rfl⟩)

noncomputable def rreads.sig : Eng.Sig := { args := [.at (.ptr 0 0), .agg [.int .i64 0, .int .i64 1, .int .i64 2, .int .i64 3, .roi .i64 0], .at (.int .i64 4)], n := 1, pre := [(0, .cells 11 [.roi .u8 1, .int .u64 5, .int .u64 6, .int .i64 7, .int .i64 8, .int .i64 9, .int .u64 10, .int .i64 11, .int .i64 12, .bool 0, .int .u64 13])], post := [(0, .cells 11 [.froi .u8 1, .int .u64 0, .int .u64 1, .int .i64 2, .int .i64 3, .int .i64 4, .int .u64 5, .int .i64 6, .int .i64 7, .bool 1, .int .u64 8])], m := 0, ret := .at (.bool 0) }
noncomputable def rreads.C (N : Nat) : Cfg := { P := Try.prog, N := N, RT := noRT, specs := [(88, rsymbol.spec), (89, rflag.spec), (90, rbits.spec), (60, ruint.spec), (91, rlaplace.spec), (41, icdf.spec)], inl := [], hi := 1, mv := [] }
abbrev rreads.R : Type := Int × Int × Int × Int × Int × Int × Int × Int × Int × Bool × Bool
def rreads.dec (L : Eng.Leaves) : rreads.R := (L.i 0, L.i 1, L.i 2, L.i 3, L.i 4, L.i 5, L.i 6, L.i 7, L.i 8, L.b 0, L.b 1)
def rreads.enc (r : rreads.R) : Eng.Leaves := mkL [r.1, r.2.1, r.2.2.1, r.2.2.2.1, r.2.2.2.2.1, r.2.2.2.2.2.1, r.2.2.2.2.2.2.1, r.2.2.2.2.2.2.2.1, r.2.2.2.2.2.2.2.2.1] [r.2.2.2.2.2.2.2.2.2.1, r.2.2.2.2.2.2.2.2.2.2] [] []
noncomputable def rreads.K (N : Nat) : FCfg := { anns := [], unr := [], lits := [], lets := [] }
noncomputable def rreads.F (N : Nat) (x_Op : Int) (x_V : Int) (x_N : Int) (x_M : Int) (v : Int) (rng : Int) (val : Int) (last : Int) (front : Int) (back : Int) (wait : Int) (waiting : Int) (count : Int) (eq : Int) (bad : Bool) (x_T : List Int) (b : List Int) : Option rreads.R :=
  (br (x_Op == (0 : Int))
   (obind (Rc.rsymbol.F (N) (rng) (val) (last) (front) (back) (wait) (waiting) (count) (eq) (bad) (x_T) (b)) fun r0 =>
    (chkL (b) (b)
    (some ((r0.snd.fst, r0.snd.snd.fst, r0.snd.snd.snd.fst, r0.snd.snd.snd.snd.fst, back, wait, waiting, r0.snd.snd.snd.snd.snd.fst, r0.snd.snd.snd.snd.snd.snd, r0.fst == v, bad)))))
   (br (x_Op == (1 : Int))
    (obind (Rc.rflag.F (N) (x_N) (rng) (val) (last) (front) (back) (wait) (waiting) (count) (eq) (bad) (b)) fun r1 =>
     (chkL (b) (b)
     (some ((r1.fst, r1.snd.fst, r1.snd.snd.fst, r1.snd.snd.snd.fst, back, wait, waiting, r1.snd.snd.snd.snd.fst, eq, r1.snd.snd.snd.snd.snd == (v == (1 : Int)), bad)))))
    (br (x_Op == (2 : Int))
     (obind (Rc.rbits.F (N) (x_N) (rng) (val) (last) (front) (back) (wait) (waiting) (count) (eq) (bad) (b)) fun r2 =>
      (chkL (b) (b)
      (some ((rng, val, last, front, r2.snd.fst, r2.snd.snd.fst, r2.snd.snd.snd.fst, r2.snd.snd.snd.snd, eq, r2.fst == v, bad)))))
     (br (x_Op == (3 : Int))
      (obind (Rc.ruint.F (N) (x_N) (rng) (val) (last) (front) (back) (wait) (waiting) (count) (eq) (bad) (b)) fun r3 =>
       (chkL (b) (b)
       (some ((r3.snd.fst, r3.snd.snd.fst, r3.snd.snd.snd.fst, r3.snd.snd.snd.snd.fst, r3.snd.snd.snd.snd.snd.fst, r3.snd.snd.snd.snd.snd.snd.fst, r3.snd.snd.snd.snd.snd.snd.snd.fst, r3.snd.snd.snd.snd.snd.snd.snd.snd.fst, r3.snd.snd.snd.snd.snd.snd.snd.snd.snd.fst, r3.fst == v, r3.snd.snd.snd.snd.snd.snd.snd.snd.snd.snd)))))
      (br (x_Op == (4 : Int))
       (obind (Rc.rlaplace.F (N) (x_N) (x_M) (rng) (val) (last) (front) (back) (wait) (waiting) (count) (eq) (bad) (b)) fun r4 =>
        (chkL (b) (b)
        (some ((r4.snd.fst, r4.snd.snd.fst, r4.snd.snd.snd.fst, r4.snd.snd.snd.snd.fst, back, wait, waiting, r4.snd.snd.snd.snd.snd.fst, r4.snd.snd.snd.snd.snd.snd, r4.fst == v, bad)))))
       (obind (Rc.icdf.F (N) (x_N)) fun r5 =>
        (obind (Rc.rsymbol.F (N) (rng) (val) (last) (front) (back) (wait) (waiting) (count) (eq) (bad) (r5) (b)) fun r6 =>
         (chkL (b) (b)
         (some ((r6.snd.fst, r6.snd.snd.fst, r6.snd.snd.snd.fst, r6.snd.snd.snd.snd.fst, back, wait, waiting, r6.snd.snd.snd.snd.snd.fst, r6.snd.snd.snd.snd.snd.snd, r6.fst == v, bad)))))))))))
theorem rreads.F_eq (N : Nat) (L : Eng.Leaves) : evSig (rreads.C N) (rreads.K N) 0 Try.f35 rreads.sig L rreads.dec = rreads.F N (L.i 0) (L.i 1) (L.i 2) (L.i 3) (L.i 4) (L.i 5) (L.i 6) (L.i 7) (L.i 8) (L.i 9) (L.i 10) (L.i 11) (L.i 12) (L.i 13) (L.b 0) (L.l 0) (L.l 1) := by
  kernel_rfl
noncomputable def rreads.spec : Eng.Spec := rreads.sig.spec (fun N L => rreads.F N (L.i 0) (L.i 1) (L.i 2) (L.i 3) (L.i 4) (L.i 5) (L.i 6) (L.i 7) (L.i 8) (L.i 9) (L.i 10) (L.i 11) (L.i 12) (L.i 13) (L.b 0) (L.l 0) (L.l 1)) rreads.enc
theorem rreads.cok (N : Nat) : CfgOK (rreads.C N) := ⟨fun _ _ _ _ h => by simp [rreads.C, noRT] at h, wide, by
  simp only [rreads.C, List.mem_cons, List.not_mem_nil, or_false, forall_eq_or_imp, forall_eq, false_imp_iff, implies_true]
  exact ⟨⟨rsymbol.ok, by kernel_rfl⟩, ⟨rflag.ok, by kernel_rfl⟩, ⟨rbits.ok, by kernel_rfl⟩, ⟨ruint.ok, by kernel_rfl⟩, ⟨rlaplace.ok, by kernel_rfl⟩, ⟨icdf.ok, by kernel_rfl⟩⟩, fun g hg => by simp [rreads.C] at hg⟩
theorem rreads.aok (N : Nat) : AnnsOK (rreads.K N) := by
  intro q hq
  simp only [rreads.K, List.mem_cons, List.not_mem_nil, or_false] at hq
theorem rreads.ok : CallOK Try.prog 35 rreads.spec :=
  callOK_of_sig (fn := Try.f35) (Cf := rreads.C) (K := rreads.K) (d := 0) (dec := rreads.dec) (by kernel_rfl) (fun _ => rfl) rreads.cok (fun _ q hq => by simp [rreads.C] at hq) rreads.aok
    (fun N L r h => (rreads.F_eq N L).trans h) (by kernel_rfl) (fun _ => ⟨rfl, rfl⟩) (fun _ _ => ⟨rfl, rfl⟩)

noncomputable def rencKnown.C (N : Nat)  : Cfg := { P := Try.prog, N := N, RT := noRT, specs := [(25, awake4.spec), (26, enew.spec), (28, etell.spec), (38, elaplace.spec), (29, edone.spec), (39, ecopy.spec), (27, ebits.spec), (41, icdf.spec), (40, esymbol.spec), (42, eflag.spec), (43, euint.spec)], inl := [], hi := 0, mv := [] }
noncomputable def rencKnown.K (N : Nat) : FCfg := { anns := [], unr := [], lits := [], lets := [] }
noncomputable def rencKnown.F (N : Nat)  : Option Bool :=
  (obind (Rc.awake4.F (N)) fun r0 =>
   (br (!r0)
    (some (false))
    (obind (Rc.enew.F (N)) fun r1 =>
     (obind (Rc.etell.F (N) (r1.fst) (r1.snd.fst) (r1.snd.snd.fst) (r1.snd.snd.snd.fst) (r1.snd.snd.snd.snd.fst) (r1.snd.snd.snd.snd.snd)) fun r2 =>
      (obind (Rc.elaplace.F (N) ((3 : Int)) ((255 : Int)) ((0 : Int)) (r1.fst) (r1.snd.fst) (r1.snd.snd.fst) (r1.snd.snd.snd.fst) (r1.snd.snd.snd.snd.fst) (r1.snd.snd.snd.snd.snd)) fun r3 =>
       (obind (Rc.edone.F (N) ((-1 : Int)) (r3.snd.snd.fst) (r3.snd.snd.snd.fst) (r3.snd.snd.snd.snd.fst) (r3.snd.snd.snd.snd.snd.fst) (r3.snd.snd.snd.snd.snd.snd.snd) (r3.snd.snd.snd.snd.snd.snd.fst)) fun r4 =>
        (obind (Rc.edone.F (N) ((1276 : Int)) (r3.snd.snd.fst) (r3.snd.snd.snd.fst) (r3.snd.snd.snd.snd.fst) (r3.snd.snd.snd.snd.snd.fst) (r3.snd.snd.snd.snd.snd.snd.snd) (r3.snd.snd.snd.snd.snd.snd.fst)) fun r5 =>
         (obind (Rc.edone.F (N) ((0 : Int)) (r3.snd.snd.fst) (r3.snd.snd.snd.fst) (r3.snd.snd.snd.snd.fst) (r3.snd.snd.snd.snd.snd.fst) (r3.snd.snd.snd.snd.snd.snd.snd) (r3.snd.snd.snd.snd.snd.snd.fst)) fun r6 =>
          (obind (Rc.ecopy.F (N) (r3.snd.snd.fst) (r3.snd.snd.snd.fst) (r3.snd.snd.snd.snd.fst) (r3.snd.snd.snd.snd.snd.fst) (r3.snd.snd.snd.snd.snd.snd.snd) (r3.snd.snd.snd.snd.snd.snd.fst)) fun r7 =>
           (obind (Rc.ebits.F (N) ((1 : Int)) ((1 : Int)) (r7.fst) (r7.snd.fst) (r7.snd.snd.fst) (r7.snd.snd.snd.fst) (r7.snd.snd.snd.snd.fst) (r7.snd.snd.snd.snd.snd)) fun r8 =>
            (br (r2 == (1 : Int))
             (obind (Rc.icdf.F (N) ((0 : Int))) fun r9 =>
              (obind (Rc.esymbol.F (N) ((3 : Int)) (r3.snd.snd.fst) (r3.snd.snd.snd.fst) (r3.snd.snd.snd.snd.fst) (r3.snd.snd.snd.snd.snd.fst) (r9) (r3.snd.snd.snd.snd.snd.snd.snd) (r3.snd.snd.snd.snd.snd.snd.fst)) fun r10 =>
               (br (r10.fst == (1 : Int))
                (obind (Rc.esymbol.F (N) ((0 : Int)) (r10.snd.fst) (r10.snd.snd.fst) (r10.snd.snd.snd.fst) (r10.snd.snd.snd.snd.fst) (([] : List Int)) (r10.snd.snd.snd.snd.snd.snd) (r10.snd.snd.snd.snd.snd.fst)) fun r11 =>
                 (br (r11.fst == (1 : Int))
                  (obind (Rc.eflag.F (N) ((16 : Int)) (r11.snd.fst) (r11.snd.snd.fst) (r11.snd.snd.snd.fst) (r11.snd.snd.snd.snd.fst) (true) (r11.snd.snd.snd.snd.snd.snd) (r11.snd.snd.snd.snd.snd.fst)) fun r12 =>
                   (br (r12.fst == (1 : Int))
                    (obind (Rc.ebits.F (N) ((8 : Int)) ((3 : Int)) (r12.snd.fst) (r12.snd.snd.fst) (r12.snd.snd.snd.fst) (r12.snd.snd.snd.snd.fst) (r12.snd.snd.snd.snd.snd.snd) (r12.snd.snd.snd.snd.snd.fst)) fun r13 =>
                     (br (r13.fst == (1 : Int))
                      (obind (Rc.ebits.F (N) ((0 : Int)) ((25 : Int)) (r12.snd.fst) (r12.snd.snd.fst) (r13.snd.fst) (r13.snd.snd.fst) (r12.snd.snd.snd.snd.snd.snd) (r13.snd.snd.snd)) fun r14 =>
                       (br (r14.fst == (1 : Int))
                        (obind (Rc.euint.F (N) ((5 : Int)) ((5 : Int)) (r12.snd.fst) (r12.snd.snd.fst) (r14.snd.fst) (r14.snd.snd.fst) (r12.snd.snd.snd.snd.snd.snd) (r14.snd.snd.snd)) fun r15 =>
                         (br (r15.fst == (1 : Int))
                          (br (r3.snd.fst == (1 : Int))
                           (br (r4.fst == (1 : Int))
                            (br (r5.fst == (1 : Int))
                             (br (r6.fst == (2 : Int))
                              (obind (Rc.etell.F (N) (r15.snd.fst) (r15.snd.snd.fst) (r15.snd.snd.snd.fst) (r15.snd.snd.snd.snd.fst) (r15.snd.snd.snd.snd.snd.fst) (r15.snd.snd.snd.snd.snd.snd)) fun r16 =>
                               (br (r16 == (1 : Int))
                                (obind (Rc.etell.F (N) (r7.fst) (r7.snd.fst) (r8.snd.fst) (r8.snd.snd.fst) (r7.snd.snd.snd.snd.fst) (r8.snd.snd.snd)) fun r17 =>
                                 (some (r17 == (2 : Int))))
                                (some (false))))
                              (some (false)))
                             (some (false)))
                            (some (false)))
                           (some (false)))
                          (some (false))))
                        (some (false))))
                      (some (false))))
                    (some (false))))
                  (some (false))))
                (some (false)))))
             (some (false)))))))))))))
theorem rencKnown.F_eq (N : Nat)  : evLaw (rencKnown.C N ) (rencKnown.K N) 0 Try.f8 [] = rencKnown.F N  := by
  kernel_rfl
theorem rencKnown.cok (N : Nat)  : CfgOK (rencKnown.C N ) := ⟨fun _ _ _ _ h => by simp [rencKnown.C, noRT] at h, wide, by
  simp only [rencKnown.C, List.mem_cons, List.not_mem_nil, or_false, forall_eq_or_imp, forall_eq, false_imp_iff, implies_true]
  exact ⟨⟨awake4.ok, by kernel_rfl⟩, ⟨enew.ok, by kernel_rfl⟩, ⟨etell.ok, by kernel_rfl⟩, ⟨elaplace.ok, by kernel_rfl⟩, ⟨edone.ok, by kernel_rfl⟩, ⟨ecopy.ok, by kernel_rfl⟩, ⟨ebits.ok, by kernel_rfl⟩, ⟨icdf.ok, by kernel_rfl⟩, ⟨esymbol.ok, by kernel_rfl⟩, ⟨eflag.ok, by kernel_rfl⟩, ⟨euint.ok, by kernel_rfl⟩⟩, fun g hg => by simp [rencKnown.C] at hg⟩
theorem rencKnown.aok (N : Nat) : AnnsOK (rencKnown.K N) := by
  intro q hq
  simp only [rencKnown.K, List.mem_cons, List.not_mem_nil, or_false] at hq
theorem rencKnown.walk {w : World} {N : Nat}  {cargs : Array Value} (ha : All2 (RV noRT (lawE w)) [] cargs.toList) (h : rencKnown.F N  = some true) :
    Calls Try.prog 8 cargs w fun e w' => e = .returned (.bool true) ∧ Frm w (fun _ => False) w' :=
  law_sound (C := rencKnown.C N ) (K := rencKnown.K N) (d := 0) (fn := Try.f8) (rencKnown.cok N ) (fun q hq => by simp [rencKnown.C] at hq) (rencKnown.aok N) (by kernel_rfl) ha ((rencKnown.F_eq N ).trans h)

noncomputable def rencRaw.C (N : Nat) (l : List Int) (bytes : Int) : Cfg := { P := Try.prog, N := N, RT := noRT, specs := [(25, awake4.spec), (26, enew.spec), (27, ebits.spec), (28, etell.spec), (29, edone.spec), (30, new.spec), (31, bits.spec)], inl := [], hi := 0, mv := [] }
abbrev rencRaw.loop10.R : Type := Int × Int × Int × Bool × List Int × List Int
noncomputable def rencRaw.loop10.ann : Ann := { nx := 22, slots := [(0, .at (.froi .i64 0)), (4, .at (.bool 0)), (5, .at (.ptr 0 0)), (6, .at (.int .i64 0)), (7, .at (.int .i64 1))], blks := [(0, .cells 6 [.full 20 false, .fint .u64 0, .fint .u64 1, .full 21 false, .int .i64 2, .int .i64 3]), (20, .ints true .u8 0), (21, .ints true .u8 1)], mov := [20, 21], exId := 0, xslots := [(5, .at (.ptr 0 0)), (4, .at (.bool 0)), (6, .at (.int .i64 0))], xblks := [(0, .cells 6 [.full 20 false, .fint .u64 0, .fint .u64 1, .full 21 false, .int .i64 1, .int .i64 2]), (20, .ints true .u8 0), (21, .ints true .u8 1)], T := rencRaw.loop10.R, dec := fun L => (L.i 0, L.i 1, L.i 2, L.b 0, L.l 0, L.l 1), enc := fun r => mkL [r.1, r.2.1, r.2.2.1] [r.2.2.2.1] [r.2.2.2.2.1, r.2.2.2.2.2] [], ret := true }
abbrev rencRaw.loop24.R : Type := Int × Int × Int × Int × Bool
noncomputable def rencRaw.loop24.ann : Ann := { nx := 31, slots := [(0, .at (.froi .i64 0)), (4, .at (.bool 0)), (10, .at (.ptr 29 0)), (11, .at (.int .i64 0))], blks := [(29, .cells 10 [.full 30 false, .fint .u64 0, .fint .u64 1, .fint .u64 2, .fint .i64 3, .int .i64 1, .int .u64 2, .int .i64 3, .int .i64 4, .fbool 0]), (30, .fints false .u8 1)], mov := [], exId := 2, xslots := [(10, .at (.ptr 29 0)), (4, .at (.bool 0))], xblks := [(29, .cells 10 [.full 30 false, .fint .u64 0, .fint .u64 1, .fint .u64 2, .fint .i64 3, .int .i64 0, .int .u64 1, .int .i64 2, .int .i64 3, .fbool 0]), (30, .fints false .u8 1)], T := rencRaw.loop24.R, dec := fun L => (L.i 0, L.i 1, L.i 2, L.i 3, L.b 0), enc := fun r => mkL [r.1, r.2.1, r.2.2.1, r.2.2.2.1] [r.2.2.2.2] [] [], ret := true }
noncomputable def rencRaw.K (N : Nat) : FCfg := { anns := [(10, rencRaw.loop10.ann), (24, rencRaw.loop24.ann)], unr := [], lits := [], lets := [] }
noncomputable def rencRaw.loop24 (N : Nat) (l : List Int) (bytes : Int) : Nat → Int → Int → Int → Int → Bool → List Int → List Int → Int → Int → Int → Int → Int → Bool → Option (rencRaw.loop24.R ⊕ Bool)
  | 0, _, _, _, _, _, _, _, _, _, _, _, _, _ => none
  | nn + 1, rng, val, last, front, bad, s0, l30, s11, back, window, waiting, count, s4 =>
  (br (decide (s11 < ↑s0.length))
   (obind (Rc.bits.F (N) ((8 : Int)) (rng) (val) (last) (front) (back) (window) (waiting) (count) (bad) (l30)) fun r0 =>
    (chk ((0 : Int) ≤ s11 ∧ s11 < ↑s0.length)
     (br (r0.fst != Go.IntKind.i64.wrap ↑(BitVec.ofInt Go.IntKind.i64.bits (s0.getD s11.toNat (0 : Int)) &&& BitVec.ofInt Go.IntKind.i64.bits (255 : Int)).toNat)
      (omap
       (some (false)) .inr)
      (chkL (s0) (s0)
      (chkI (rng) (rng)
      (chkI (val) (val)
      (chkI (last) (last)
      (chkI (front) (front)
      (chkB (bad) (bad)
      (chkL (l30) (l30)
      (rencRaw.loop24 N l bytes (nn) (rng) (val) (last) (front) (bad) (s0) (l30) (Go.IntKind.i64.wrap (s11 + (1 : Int))) (r0.snd.fst) (r0.snd.snd.fst) (r0.snd.snd.snd.fst) (r0.snd.snd.snd.snd) (s4))))))))))))
   (chkI (rng) (rng)
   (chkI (val) (val)
   (chkI (last) (last)
   (chkI (front) (front)
   (chkB (bad) (bad)
   (chkL (l30) (l30)
   (some (Sum.inl (back, window, waiting, count, s4))))))))))
noncomputable def rencRaw.loop24R (N : Nat) (l : List Int) (bytes : Int) (nn : Nat) (rng : Int) (val : Int) (last : Int) (front : Int) (bad : Bool) (s0 : List Int) (l30 : List Int) (s11 : Int) (back : Int) (window : Int) (waiting : Int) (count : Int) (s4 : Bool) : Option (rencRaw.loop24.R ⊕ Bool) := loopR rencRaw.loop24.ann (mkL [rng, val, last, front] [bad] [s0, l30] []) (evCode ((rencRaw.C N l bytes).inLoop rencRaw.loop24.ann) (rencRaw.K N) (inlTab (rencRaw.C N l bytes) 0) (bodyAt 24 Try.f3)) (lawKr Try.prog Try.f3) nn (mkL [s11, back, window, waiting, count] [s4] [] [])
theorem rencRaw.loop24_eq (N : Nat) (l : List Int) (bytes : Int) : ∀ (nn : Nat) (rng : Int) (val : Int) (last : Int) (front : Int) (bad : Bool) (s0 : List Int) (l30 : List Int) (s11 : Int) (back : Int) (window : Int) (waiting : Int) (count : Int) (s4 : Bool), rencRaw.loop24R N l bytes nn rng val last front bad s0 l30 s11 back window waiting count s4 = rencRaw.loop24 N l bytes nn rng val last front bad s0 l30 s11 back window waiting count s4
  | 0, _, _, _, _, _, _, _, _, _, _, _, _, _ => by kernel_rfl
  | nn + 1, rng, val, last, front, bad, s0, l30, s11, back, window, waiting, count, s4 => by
    have h : rencRaw.loop24R N l bytes (nn + 1) rng val last front bad s0 l30 s11 back window waiting count s4 =
  (br (decide (s11 < ↑s0.length))
   (obind (Rc.bits.F (N) ((8 : Int)) (rng) (val) (last) (front) (back) (window) (waiting) (count) (bad) (l30)) fun r0 =>
    (chk ((0 : Int) ≤ s11 ∧ s11 < ↑s0.length)
     (br (r0.fst != Go.IntKind.i64.wrap ↑(BitVec.ofInt Go.IntKind.i64.bits (s0.getD s11.toNat (0 : Int)) &&& BitVec.ofInt Go.IntKind.i64.bits (255 : Int)).toNat)
      (omap
       (some (false)) .inr)
      (chkL (s0) (s0)
      (chkI (rng) (rng)
      (chkI (val) (val)
      (chkI (last) (last)
      (chkI (front) (front)
      (chkB (bad) (bad)
      (chkL (l30) (l30)
      (rencRaw.loop24R N l bytes (nn) (rng) (val) (last) (front) (bad) (s0) (l30) (Go.IntKind.i64.wrap (s11 + (1 : Int))) (r0.snd.fst) (r0.snd.snd.fst) (r0.snd.snd.snd.fst) (r0.snd.snd.snd.snd) (s4))))))))))))
   (chkI (rng) (rng)
   (chkI (val) (val)
   (chkI (last) (last)
   (chkI (front) (front)
   (chkB (bad) (bad)
   (chkL (l30) (l30)
   (some (Sum.inl (back, window, waiting, count, s4)))))))))) := by kernel_rfl
    rw [h, rencRaw.loop24]
    try simp only [rencRaw.loop24_eq N l bytes nn]
noncomputable def rencRaw.loop10 (N : Nat) (l : List Int) (bytes : Int) : Nat → Int → Int → List Int → Int → Int → Int → Int → Bool → List Int → List Int → Option (rencRaw.loop10.R ⊕ Bool)
  | 0, _, _, _, _, _, _, _, _, _, _ => none
  | nn + 1, val, rng, s0, s6, s7, rawBits, count, s4, told, raw =>
  (br (decide (s7 < ↑s0.length))
   (chk ((0 : Int) ≤ s7 ∧ s7 < ↑s0.length)
    (obind (Rc.ebits.F (N) (Go.IntKind.i64.wrap ↑(BitVec.ofInt Go.IntKind.i64.bits (s0.getD s7.toNat (0 : Int)) &&& BitVec.ofInt Go.IntKind.i64.bits (255 : Int)).toNat) ((8 : Int)) (val) (rng) (rawBits) (count) (told) (raw)) fun r0 =>
     (br (r0.fst != (0 : Int))
      (omap
       (some (false)) .inr)
      (chkL (s0) (s0)
      (chkI (val) (val)
      (chkI (rng) (rng)
      (rencRaw.loop10 N l bytes (nn) (val) (rng) (s0) (Go.IntKind.i64.wrap (s6 + (8 : Int))) (Go.IntKind.i64.wrap (s7 + (1 : Int))) (r0.snd.fst) (r0.snd.snd.fst) (s4) (told) (r0.snd.snd.snd))))))))
   (chkI (val) (val)
   (chkI (rng) (rng)
   (some (Sum.inl (s6, rawBits, count, s4, told, raw))))))
noncomputable def rencRaw.loop10R (N : Nat) (l : List Int) (bytes : Int) (nn : Nat) (val : Int) (rng : Int) (s0 : List Int) (s6 : Int) (s7 : Int) (rawBits : Int) (count : Int) (s4 : Bool) (told : List Int) (raw : List Int) : Option (rencRaw.loop10.R ⊕ Bool) := loopR rencRaw.loop10.ann (mkL [val, rng] [] [s0] []) (evCode ((rencRaw.C N l bytes).inLoop rencRaw.loop10.ann) (rencRaw.K N) (inlTab (rencRaw.C N l bytes) 0) (bodyAt 10 Try.f3)) (lawKr Try.prog Try.f3) nn (mkL [s6, s7, rawBits, count] [s4] [told, raw] [])
theorem rencRaw.loop10_eq (N : Nat) (l : List Int) (bytes : Int) : ∀ (nn : Nat) (val : Int) (rng : Int) (s0 : List Int) (s6 : Int) (s7 : Int) (rawBits : Int) (count : Int) (s4 : Bool) (told : List Int) (raw : List Int), rencRaw.loop10R N l bytes nn val rng s0 s6 s7 rawBits count s4 told raw = rencRaw.loop10 N l bytes nn val rng s0 s6 s7 rawBits count s4 told raw
  | 0, _, _, _, _, _, _, _, _, _, _ => by kernel_rfl
  | nn + 1, val, rng, s0, s6, s7, rawBits, count, s4, told, raw => by
    have h : rencRaw.loop10R N l bytes (nn + 1) val rng s0 s6 s7 rawBits count s4 told raw =
  (br (decide (s7 < ↑s0.length))
   (chk ((0 : Int) ≤ s7 ∧ s7 < ↑s0.length)
    (obind (Rc.ebits.F (N) (Go.IntKind.i64.wrap ↑(BitVec.ofInt Go.IntKind.i64.bits (s0.getD s7.toNat (0 : Int)) &&& BitVec.ofInt Go.IntKind.i64.bits (255 : Int)).toNat) ((8 : Int)) (val) (rng) (rawBits) (count) (told) (raw)) fun r0 =>
     (br (r0.fst != (0 : Int))
      (omap
       (some (false)) .inr)
      (chkL (s0) (s0)
      (chkI (val) (val)
      (chkI (rng) (rng)
      (rencRaw.loop10R N l bytes (nn) (val) (rng) (s0) (Go.IntKind.i64.wrap (s6 + (8 : Int))) (Go.IntKind.i64.wrap (s7 + (1 : Int))) (r0.snd.fst) (r0.snd.snd.fst) (s4) (told) (r0.snd.snd.snd))))))))
   (chkI (val) (val)
   (chkI (rng) (rng)
   (some (Sum.inl (s6, rawBits, count, s4, told, raw)))))) := by kernel_rfl
    rw [h, rencRaw.loop10]
    try simp only [rencRaw.loop10_eq N l bytes nn]
noncomputable def rencRaw.F (N : Nat) (l : List Int) (bytes : Int) : Option Bool :=
  (obind (Rc.awake4.F (N)) fun r0 =>
   (br (!r0)
    (some (false))
    (br (decide (↑l.length > (60 : Int)))
     (some (true))
     (br (decide (bytes < (0 : Int)))
      (some (true))
      (br (decide (bytes > (300 : Int)))
       (some (true))
       (obind (Rc.enew.F (N)) fun r1 =>
        (osum (rencRaw.loop10 N l bytes (N) (r1.fst) (r1.snd.fst) (l) ((0 : Int)) ((0 : Int)) (r1.snd.snd.fst) (r1.snd.snd.snd.fst) (false) (r1.snd.snd.snd.snd.fst) (r1.snd.snd.snd.snd.snd)) fun r2 =>
         (obind (Rc.etell.F (N) (r1.fst) (r1.snd.fst) (r2.snd.fst) (r2.snd.snd.fst) (r2.snd.snd.snd.snd.fst) (r2.snd.snd.snd.snd.snd)) fun r3 =>
          (br (r3 != Go.IntKind.i64.wrap ((1 : Int) + r2.fst))
           (some (false))
           (obind (Rc.edone.F (N) (bytes) (r1.fst) (r1.snd.fst) (r2.snd.fst) (r2.snd.snd.fst) (r2.snd.snd.snd.snd.fst) (r2.snd.snd.snd.snd.snd)) fun r4 =>
            (br (decide (Go.IntKind.i64.wrap ((1 : Int) + r2.fst) > Go.IntKind.i64.wrap ((8 : Int) * bytes)))
             (br (r4.fst == (2 : Int))
              (some (↑r4.snd.length == (0 : Int)))
              (some (false)))
             (br (r4.fst != (0 : Int))
              (some (false))
              (br (↑r4.snd.length != bytes)
               (some (false))
               (obind (Rc.new.F (N) (r4.snd)) fun r5 =>
                (osum (rencRaw.loop24 N l bytes (N) (r5.fst) (r5.snd.fst) (r5.snd.snd.fst) (r5.snd.snd.snd.fst) (r5.snd.snd.snd.snd.snd.snd.snd.snd.fst) (l) (r5.snd.snd.snd.snd.snd.snd.snd.snd.snd) ((0 : Int)) (r5.snd.snd.snd.snd.fst) (r5.snd.snd.snd.snd.snd.fst) (r5.snd.snd.snd.snd.snd.snd.fst) (r5.snd.snd.snd.snd.snd.snd.snd.fst) (r2.snd.snd.snd.fst)) fun r6 =>
                 (some (true)))))))))))))))))
theorem rencRaw.F_eq (N : Nat) (l : List Int) (bytes : Int) : evLaw (rencRaw.C N l bytes) (rencRaw.K N) 0 Try.f3 [.at (.roi .i64 l), .at (.int .i64 bytes)] = rencRaw.F N l bytes := by
  have h : evLaw (rencRaw.C N l bytes) (rencRaw.K N) 0 Try.f3 [.at (.roi .i64 l), .at (.int .i64 bytes)] =
  (obind (Rc.awake4.F (N)) fun r0 =>
   (br (!r0)
    (some (false))
    (br (decide (↑l.length > (60 : Int)))
     (some (true))
     (br (decide (bytes < (0 : Int)))
      (some (true))
      (br (decide (bytes > (300 : Int)))
       (some (true))
       (obind (Rc.enew.F (N)) fun r1 =>
        (osum (rencRaw.loop10R N l bytes (N) (r1.fst) (r1.snd.fst) (l) ((0 : Int)) ((0 : Int)) (r1.snd.snd.fst) (r1.snd.snd.snd.fst) (false) (r1.snd.snd.snd.snd.fst) (r1.snd.snd.snd.snd.snd)) fun r2 =>
         (obind (Rc.etell.F (N) (r1.fst) (r1.snd.fst) (r2.snd.fst) (r2.snd.snd.fst) (r2.snd.snd.snd.snd.fst) (r2.snd.snd.snd.snd.snd)) fun r3 =>
          (br (r3 != Go.IntKind.i64.wrap ((1 : Int) + r2.fst))
           (some (false))
           (obind (Rc.edone.F (N) (bytes) (r1.fst) (r1.snd.fst) (r2.snd.fst) (r2.snd.snd.fst) (r2.snd.snd.snd.snd.fst) (r2.snd.snd.snd.snd.snd)) fun r4 =>
            (br (decide (Go.IntKind.i64.wrap ((1 : Int) + r2.fst) > Go.IntKind.i64.wrap ((8 : Int) * bytes)))
             (br (r4.fst == (2 : Int))
              (some (↑r4.snd.length == (0 : Int)))
              (some (false)))
             (br (r4.fst != (0 : Int))
              (some (false))
              (br (↑r4.snd.length != bytes)
               (some (false))
               (obind (Rc.new.F (N) (r4.snd)) fun r5 =>
                (osum (rencRaw.loop24R N l bytes (N) (r5.fst) (r5.snd.fst) (r5.snd.snd.fst) (r5.snd.snd.snd.fst) (r5.snd.snd.snd.snd.snd.snd.snd.snd.fst) (l) (r5.snd.snd.snd.snd.snd.snd.snd.snd.snd) ((0 : Int)) (r5.snd.snd.snd.snd.fst) (r5.snd.snd.snd.snd.snd.fst) (r5.snd.snd.snd.snd.snd.snd.fst) (r5.snd.snd.snd.snd.snd.snd.snd.fst) (r2.snd.snd.snd.fst)) fun r6 =>
                 (some (true))))))))))))))))) := by kernel_rfl
  rw [h, rencRaw.F]
  try simp only [rencRaw.loop10_eq N l bytes, rencRaw.loop24_eq N l bytes]
theorem rencRaw.cok (N : Nat) (l : List Int) (bytes : Int) : CfgOK (rencRaw.C N l bytes) := ⟨fun _ _ _ _ h => by simp [rencRaw.C, noRT] at h, wide, by
  simp only [rencRaw.C, List.mem_cons, List.not_mem_nil, or_false, forall_eq_or_imp, forall_eq, false_imp_iff, implies_true]
  exact ⟨⟨awake4.ok, by kernel_rfl⟩, ⟨enew.ok, by kernel_rfl⟩, ⟨ebits.ok, by kernel_rfl⟩, ⟨etell.ok, by kernel_rfl⟩, ⟨edone.ok, by kernel_rfl⟩, ⟨new.ok, by kernel_rfl⟩, ⟨bits.ok, by kernel_rfl⟩⟩, fun g hg => by simp [rencRaw.C] at hg⟩
theorem rencRaw.aok (N : Nat) : AnnsOK (rencRaw.K N) := by
  intro q hq
  simp only [rencRaw.K, List.mem_cons, List.not_mem_nil, or_false] at hq
  rcases hq with rfl | rfl
  · exact fun _ _ => ⟨rfl, rfl⟩
  · exact fun _ _ => ⟨rfl, rfl⟩
theorem rencRaw.walk {w : World} {N : Nat} (l : List Int) (bytes : Int) {cargs : Array Value} (ha : All2 (RV noRT (lawE w)) [.at (.roi .i64 l), .at (.int .i64 bytes)] cargs.toList) (h : rencRaw.F N l bytes = some true) :
    Calls Try.prog 3 cargs w fun e w' => e = .returned (.bool true) ∧ Frm w (fun _ => False) w' :=
  law_sound (C := rencRaw.C N l bytes) (K := rencRaw.K N) (d := 0) (fn := Try.f3) (rencRaw.cok N l bytes) (fun q hq => by simp [rencRaw.C] at hq) (rencRaw.aok N) (by kernel_rfl) ha ((rencRaw.F_eq N l bytes).trans h)

noncomputable def rencLaplace.C (N : Nat) (v : Int) (fs : Int) (decay : Int) : Cfg := { P := Try.prog, N := N, RT := noRT, specs := [(25, awake4.spec), (26, enew.spec), (38, elaplace.spec)], inl := [], hi := 0, mv := [] }
noncomputable def rencLaplace.K (N : Nat) : FCfg := { anns := [], unr := [], lits := [], lets := [] }
noncomputable def rencLaplace.F (N : Nat) (v : Int) (fs : Int) (decay : Int) : Option Bool :=
  (obind (Rc.awake4.F (N)) fun r0 =>
   (br (!r0)
    (some (false))
    (br (decide (fs < (256 : Int)))
     (some (true))
     (br (decide (fs > (28000 : Int)))
      (some (true))
      (br (decide (decay < (0 : Int)))
       (some (true))
       (br (decide (decay > (16000 : Int)))
        (some (true))
        (obind (Rc.enew.F (N)) fun r1 =>
         (obind (Rc.elaplace.F (N) (v) (fs) (decay) (r1.fst) (r1.snd.fst) (r1.snd.snd.fst) (r1.snd.snd.snd.fst) (r1.snd.snd.snd.snd.fst) (r1.snd.snd.snd.snd.snd)) fun r2 =>
          (br (r2.snd.fst != (0 : Int))
           (some (false))
           (br (decide (v ≥ (0 : Int)))
            (br (decide (r2.fst < (0 : Int)))
             (some (false))
             (br (decide (r2.fst > v))
              (some (false))
              (br (decide (v < (0 : Int)))
               (br (decide (r2.fst > (0 : Int)))
                (some (false))
                (br (decide (r2.fst < v))
                 (some (false))
                 (obind (Rc.enew.F (N)) fun r3 =>
                  (obind (Rc.elaplace.F (N) (r2.fst) (fs) (decay) (r3.fst) (r3.snd.fst) (r3.snd.snd.fst) (r3.snd.snd.snd.fst) (r3.snd.snd.snd.snd.fst) (r3.snd.snd.snd.snd.snd)) fun r4 =>
                   (br (r4.snd.fst != (0 : Int))
                    (some (false))
                    (br (r4.fst != r2.fst)
                     (some (false))
                     (br (r2.fst == v)
                      (some (true))
                      (br (decide (v < (0 : Int)))
                       (obind (Rc.enew.F (N)) fun r5 =>
                        (obind (Rc.elaplace.F (N) (Go.IntKind.i64.wrap (r2.fst - (1 : Int))) (fs) (decay) (r5.fst) (r5.snd.fst) (r5.snd.snd.fst) (r5.snd.snd.snd.fst) (r5.snd.snd.snd.snd.fst) (r5.snd.snd.snd.snd.snd)) fun r6 =>
                         (br (r6.snd.fst == (0 : Int))
                          (some (r6.fst == r2.fst))
                          (some (false)))))
                       (obind (Rc.enew.F (N)) fun r7 =>
                        (obind (Rc.elaplace.F (N) (Go.IntKind.i64.wrap (r2.fst + (1 : Int))) (fs) (decay) (r7.fst) (r7.snd.fst) (r7.snd.snd.fst) (r7.snd.snd.snd.fst) (r7.snd.snd.snd.snd.fst) (r7.snd.snd.snd.snd.snd)) fun r8 =>
                         (br (r8.snd.fst == (0 : Int))
                          (some (r8.fst == r2.fst))
                          (some (false)))))))))))))
               (obind (Rc.enew.F (N)) fun r9 =>
                (obind (Rc.elaplace.F (N) (r2.fst) (fs) (decay) (r9.fst) (r9.snd.fst) (r9.snd.snd.fst) (r9.snd.snd.snd.fst) (r9.snd.snd.snd.snd.fst) (r9.snd.snd.snd.snd.snd)) fun r10 =>
                 (br (r10.snd.fst != (0 : Int))
                  (some (false))
                  (br (r10.fst != r2.fst)
                   (some (false))
                   (br (r2.fst == v)
                    (some (true))
                    (br (decide (v < (0 : Int)))
                     (obind (Rc.enew.F (N)) fun r11 =>
                      (obind (Rc.elaplace.F (N) (Go.IntKind.i64.wrap (r2.fst - (1 : Int))) (fs) (decay) (r11.fst) (r11.snd.fst) (r11.snd.snd.fst) (r11.snd.snd.snd.fst) (r11.snd.snd.snd.snd.fst) (r11.snd.snd.snd.snd.snd)) fun r12 =>
                       (br (r12.snd.fst == (0 : Int))
                        (some (r12.fst == r2.fst))
                        (some (false)))))
                     (obind (Rc.enew.F (N)) fun r13 =>
                      (obind (Rc.elaplace.F (N) (Go.IntKind.i64.wrap (r2.fst + (1 : Int))) (fs) (decay) (r13.fst) (r13.snd.fst) (r13.snd.snd.fst) (r13.snd.snd.snd.fst) (r13.snd.snd.snd.snd.fst) (r13.snd.snd.snd.snd.snd)) fun r14 =>
                       (br (r14.snd.fst == (0 : Int))
                        (some (r14.fst == r2.fst))
                        (some (false))))))))))))))
            (br (decide (v < (0 : Int)))
             (br (decide (r2.fst > (0 : Int)))
              (some (false))
              (br (decide (r2.fst < v))
               (some (false))
               (obind (Rc.enew.F (N)) fun r15 =>
                (obind (Rc.elaplace.F (N) (r2.fst) (fs) (decay) (r15.fst) (r15.snd.fst) (r15.snd.snd.fst) (r15.snd.snd.snd.fst) (r15.snd.snd.snd.snd.fst) (r15.snd.snd.snd.snd.snd)) fun r16 =>
                 (br (r16.snd.fst != (0 : Int))
                  (some (false))
                  (br (r16.fst != r2.fst)
                   (some (false))
                   (br (r2.fst == v)
                    (some (true))
                    (br (decide (v < (0 : Int)))
                     (obind (Rc.enew.F (N)) fun r17 =>
                      (obind (Rc.elaplace.F (N) (Go.IntKind.i64.wrap (r2.fst - (1 : Int))) (fs) (decay) (r17.fst) (r17.snd.fst) (r17.snd.snd.fst) (r17.snd.snd.snd.fst) (r17.snd.snd.snd.snd.fst) (r17.snd.snd.snd.snd.snd)) fun r18 =>
                       (br (r18.snd.fst == (0 : Int))
                        (some (r18.fst == r2.fst))
                        (some (false)))))
                     (obind (Rc.enew.F (N)) fun r19 =>
                      (obind (Rc.elaplace.F (N) (Go.IntKind.i64.wrap (r2.fst + (1 : Int))) (fs) (decay) (r19.fst) (r19.snd.fst) (r19.snd.snd.fst) (r19.snd.snd.snd.fst) (r19.snd.snd.snd.snd.fst) (r19.snd.snd.snd.snd.snd)) fun r20 =>
                       (br (r20.snd.fst == (0 : Int))
                        (some (r20.fst == r2.fst))
                        (some (false)))))))))))))
             (obind (Rc.enew.F (N)) fun r21 =>
              (obind (Rc.elaplace.F (N) (r2.fst) (fs) (decay) (r21.fst) (r21.snd.fst) (r21.snd.snd.fst) (r21.snd.snd.snd.fst) (r21.snd.snd.snd.snd.fst) (r21.snd.snd.snd.snd.snd)) fun r22 =>
               (br (r22.snd.fst != (0 : Int))
                (some (false))
                (br (r22.fst != r2.fst)
                 (some (false))
                 (br (r2.fst == v)
                  (some (true))
                  (br (decide (v < (0 : Int)))
                   (obind (Rc.enew.F (N)) fun r23 =>
                    (obind (Rc.elaplace.F (N) (Go.IntKind.i64.wrap (r2.fst - (1 : Int))) (fs) (decay) (r23.fst) (r23.snd.fst) (r23.snd.snd.fst) (r23.snd.snd.snd.fst) (r23.snd.snd.snd.snd.fst) (r23.snd.snd.snd.snd.snd)) fun r24 =>
                     (br (r24.snd.fst == (0 : Int))
                      (some (r24.fst == r2.fst))
                      (some (false)))))
                   (obind (Rc.enew.F (N)) fun r25 =>
                    (obind (Rc.elaplace.F (N) (Go.IntKind.i64.wrap (r2.fst + (1 : Int))) (fs) (decay) (r25.fst) (r25.snd.fst) (r25.snd.snd.fst) (r25.snd.snd.snd.fst) (r25.snd.snd.snd.snd.fst) (r25.snd.snd.snd.snd.snd)) fun r26 =>
                     (br (r26.snd.fst == (0 : Int))
                      (some (r26.fst == r2.fst))
                      (some (false))))))))))))))))))))))
theorem rencLaplace.F_eq (N : Nat) (v : Int) (fs : Int) (decay : Int) : evLaw (rencLaplace.C N v fs decay) (rencLaplace.K N) 0 Try.f6 [.at (.int .i64 v), .at (.int .i64 fs), .at (.int .i64 decay)] = rencLaplace.F N v fs decay := by
  kernel_rfl
theorem rencLaplace.cok (N : Nat) (v : Int) (fs : Int) (decay : Int) : CfgOK (rencLaplace.C N v fs decay) := ⟨fun _ _ _ _ h => by simp [rencLaplace.C, noRT] at h, wide, by
  simp only [rencLaplace.C, List.mem_cons, List.not_mem_nil, or_false, forall_eq_or_imp, forall_eq, false_imp_iff, implies_true]
  exact ⟨⟨awake4.ok, by kernel_rfl⟩, ⟨enew.ok, by kernel_rfl⟩, ⟨elaplace.ok, by kernel_rfl⟩⟩, fun g hg => by simp [rencLaplace.C] at hg⟩
theorem rencLaplace.aok (N : Nat) : AnnsOK (rencLaplace.K N) := by
  intro q hq
  simp only [rencLaplace.K, List.mem_cons, List.not_mem_nil, or_false] at hq
theorem rencLaplace.walk {w : World} {N : Nat} (v : Int) (fs : Int) (decay : Int) {cargs : Array Value} (ha : All2 (RV noRT (lawE w)) [.at (.int .i64 v), .at (.int .i64 fs), .at (.int .i64 decay)] cargs.toList) (h : rencLaplace.F N v fs decay = some true) :
    Calls Try.prog 6 cargs w fun e w' => e = .returned (.bool true) ∧ Frm w (fun _ => False) w' :=
  law_sound (C := rencLaplace.C N v fs decay) (K := rencLaplace.K N) (d := 0) (fn := Try.f6) (rencLaplace.cok N v fs decay) (fun q hq => by simp [rencLaplace.C] at hq) (rencLaplace.aok N) (by kernel_rfl) ha ((rencLaplace.F_eq N v fs decay).trans h)

noncomputable def rencRising.C (N : Nat) (l : List Act4) : Cfg := { P := Try.prog, N := N, RT := (actTabK l), specs := [(25, awake4.spec), (26, enew.spec), (28, etell.spec), (32, written.spec)], inl := [], hi := 0, mv := [] }
abbrev rencRising.loop10.R : Type := Int × Int × Int × Int × Bool × List Int × List Int
noncomputable def rencRising.loop10.ann : Ann := { nx := 22, slots := [(0, .at (.ror 0)), (2, .at (.bool 0)), (3, .at (.ptr 0 0)), (4, .at (.int .i64 0)), (5, .at (.int .i64 1))], blks := [(0, .cells 6 [.full 20 false, .int .u64 2, .int .u64 3, .full 21 false, .int .i64 4, .int .i64 5]), (20, .ints true .u8 0), (21, .ints true .u8 1)], mov := [20, 21], exId := 0, xslots := [(3, .at (.ptr 0 0)), (2, .at (.bool 0))], xblks := [(0, .cells 6 [.full 20 false, .int .u64 0, .int .u64 1, .full 21 false, .int .i64 2, .int .i64 3]), (20, .ints true .u8 0), (21, .ints true .u8 1)], T := rencRising.loop10.R, dec := fun L => (L.i 0, L.i 1, L.i 2, L.i 3, L.b 0, L.l 0, L.l 1), enc := fun r => mkL [r.1, r.2.1, r.2.2.1, r.2.2.2.1] [r.2.2.2.2.1] [r.2.2.2.2.2.1, r.2.2.2.2.2.2] [], ret := true }
noncomputable def rencRising.K (N : Nat) : FCfg := { anns := [(10, rencRising.loop10.ann)], unr := [], lits := [], lets := [] }
noncomputable def rencRising.loop10 (N : Nat) (l : List Act4) : Nat → Int → Int → Int → Int → Int → Int → Bool → List Int → List Int → Option (rencRising.loop10.R ⊕ Bool)
  | 0, _, _, _, _, _, _, _, _, _ => none
  | nn + 1, s4, s5, val, rng, rawBits, count, s2, told, raw =>
  (br (decide (s5 < ↑l.length))
   (chk ((0 : Int) ≤ s5 ∧ s5 < ↑l.length)
    (obind (Rc.written.F (N) ((l.getD s5.toNat Go.Proofs.Rc.Act4.nil).op) ((l.getD s5.toNat Go.Proofs.Rc.Act4.nil).v) ((l.getD s5.toNat Go.Proofs.Rc.Act4.nil).n) ((l.getD s5.toNat Go.Proofs.Rc.Act4.nil).m) (val) (rng) (rawBits) (count) ((l.getD s5.toNat Go.Proofs.Rc.Act4.nil).t) (told) (raw)) fun r0 =>
     (obind (Rc.etell.F (N) (r0.snd.snd.fst) (r0.snd.snd.snd.fst) (r0.snd.snd.snd.snd.fst) (r0.snd.snd.snd.snd.snd.fst) (r0.snd.snd.snd.snd.snd.snd.fst) (r0.snd.snd.snd.snd.snd.snd.snd)) fun r1 =>
      (br (decide (r1 < s4))
       (omap
        (some (false)) .inr)
       (br (decide (Go.IntKind.i64.wrap (r1 - s4) > (60 : Int)))
        (omap
         (some (false)) .inr)
        (rencRising.loop10 N l (nn) (r1) (Go.IntKind.i64.wrap (s5 + (1 : Int))) (r0.snd.snd.fst) (r0.snd.snd.snd.fst) (r0.snd.snd.snd.snd.fst) (r0.snd.snd.snd.snd.snd.fst) (s2) (r0.snd.snd.snd.snd.snd.snd.fst) (r0.snd.snd.snd.snd.snd.snd.snd)))))))
   (some (Sum.inl (val, rng, rawBits, count, s2, told, raw))))
noncomputable def rencRising.loop10R (N : Nat) (l : List Act4) (nn : Nat) (s4 : Int) (s5 : Int) (val : Int) (rng : Int) (rawBits : Int) (count : Int) (s2 : Bool) (told : List Int) (raw : List Int) : Option (rencRising.loop10.R ⊕ Bool) := loopR rencRising.loop10.ann (mkL [] [] [] []) (evCode ((rencRising.C N l).inLoop rencRising.loop10.ann) (rencRising.K N) (inlTab (rencRising.C N l) 0) (bodyAt 10 Try.f7)) (lawKr Try.prog Try.f7) nn (mkL [s4, s5, val, rng, rawBits, count] [s2] [told, raw] [])
theorem rencRising.loop10_eq (N : Nat) (l : List Act4) : ∀ (nn : Nat) (s4 : Int) (s5 : Int) (val : Int) (rng : Int) (rawBits : Int) (count : Int) (s2 : Bool) (told : List Int) (raw : List Int), rencRising.loop10R N l nn s4 s5 val rng rawBits count s2 told raw = rencRising.loop10 N l nn s4 s5 val rng rawBits count s2 told raw
  | 0, _, _, _, _, _, _, _, _, _ => by kernel_rfl
  | nn + 1, s4, s5, val, rng, rawBits, count, s2, told, raw => by
    have h : rencRising.loop10R N l (nn + 1) s4 s5 val rng rawBits count s2 told raw =
  (br (decide (s5 < ↑l.length))
   (chk ((0 : Int) ≤ s5 ∧ s5 < ↑l.length)
    (obind (Rc.written.F (N) ((l.getD s5.toNat Go.Proofs.Rc.Act4.nil).op) ((l.getD s5.toNat Go.Proofs.Rc.Act4.nil).v) ((l.getD s5.toNat Go.Proofs.Rc.Act4.nil).n) ((l.getD s5.toNat Go.Proofs.Rc.Act4.nil).m) (val) (rng) (rawBits) (count) ((l.getD s5.toNat Go.Proofs.Rc.Act4.nil).t) (told) (raw)) fun r0 =>
     (obind (Rc.etell.F (N) (r0.snd.snd.fst) (r0.snd.snd.snd.fst) (r0.snd.snd.snd.snd.fst) (r0.snd.snd.snd.snd.snd.fst) (r0.snd.snd.snd.snd.snd.snd.fst) (r0.snd.snd.snd.snd.snd.snd.snd)) fun r1 =>
      (br (decide (r1 < s4))
       (omap
        (some (false)) .inr)
       (br (decide (Go.IntKind.i64.wrap (r1 - s4) > (60 : Int)))
        (omap
         (some (false)) .inr)
        (rencRising.loop10R N l (nn) (r1) (Go.IntKind.i64.wrap (s5 + (1 : Int))) (r0.snd.snd.fst) (r0.snd.snd.snd.fst) (r0.snd.snd.snd.snd.fst) (r0.snd.snd.snd.snd.snd.fst) (s2) (r0.snd.snd.snd.snd.snd.snd.fst) (r0.snd.snd.snd.snd.snd.snd.snd)))))))
   (some (Sum.inl (val, rng, rawBits, count, s2, told, raw)))) := by kernel_rfl
    rw [h, rencRising.loop10]
    try simp only [rencRising.loop10_eq N l nn]
noncomputable def rencRising.F (N : Nat) (l : List Act4) : Option Bool :=
  (obind (Rc.awake4.F (N)) fun r0 =>
   (br (!r0)
    (some (false))
    (br (decide (↑l.length > (80 : Int)))
     (some (true))
     (obind (Rc.enew.F (N)) fun r1 =>
      (obind (Rc.etell.F (N) (r1.fst) (r1.snd.fst) (r1.snd.snd.fst) (r1.snd.snd.snd.fst) (r1.snd.snd.snd.snd.fst) (r1.snd.snd.snd.snd.snd)) fun r2 =>
       (osum (rencRising.loop10 N l (N) (r2) ((0 : Int)) (r1.fst) (r1.snd.fst) (r1.snd.snd.fst) (r1.snd.snd.snd.fst) (false) (r1.snd.snd.snd.snd.fst) (r1.snd.snd.snd.snd.snd)) fun r3 =>
        (some (true))))))))
theorem rencRising.F_eq (N : Nat) (l : List Act4) : evLaw (rencRising.C N l) (rencRising.K N) 0 Try.f7 [.at (.ror 0)] = rencRising.F N l := by
  have h : evLaw (rencRising.C N l) (rencRising.K N) 0 Try.f7 [.at (.ror 0)] =
  (obind (Rc.awake4.F (N)) fun r0 =>
   (br (!r0)
    (some (false))
    (br (decide (↑l.length > (80 : Int)))
     (some (true))
     (obind (Rc.enew.F (N)) fun r1 =>
      (obind (Rc.etell.F (N) (r1.fst) (r1.snd.fst) (r1.snd.snd.fst) (r1.snd.snd.snd.fst) (r1.snd.snd.snd.snd.fst) (r1.snd.snd.snd.snd.snd)) fun r2 =>
       (osum (rencRising.loop10R N l (N) (r2) ((0 : Int)) (r1.fst) (r1.snd.fst) (r1.snd.snd.fst) (r1.snd.snd.snd.fst) (false) (r1.snd.snd.snd.snd.fst) (r1.snd.snd.snd.snd.snd)) fun r3 =>
        (some (true)))))))) := by kernel_rfl
  rw [h, rencRising.F]
  try simp only [rencRising.loop10_eq N l]
theorem rencRising.cok (N : Nat) (l : List Act4) : CfgOK (rencRising.C N l) := ⟨actTabK_ok l, wide, by
  simp only [rencRising.C, List.mem_cons, List.not_mem_nil, or_false, forall_eq_or_imp, forall_eq, false_imp_iff, implies_true]
  exact ⟨⟨awake4.ok, by kernel_rfl⟩, ⟨enew.ok, by kernel_rfl⟩, ⟨etell.ok, by kernel_rfl⟩, ⟨written.ok, by kernel_rfl⟩⟩, fun g hg => by simp [rencRising.C] at hg⟩
theorem rencRising.aok (N : Nat) : AnnsOK (rencRising.K N) := by
  intro q hq
  simp only [rencRising.K, List.mem_cons, List.not_mem_nil, or_false] at hq
  subst hq
  exact fun _ _ => ⟨rfl, rfl⟩
theorem rencRising.walk {w : World} {N : Nat} (l : List Act4) {cargs : Array Value} (ha : All2 (RV (actTabK l) (lawE w)) [.at (.ror 0)] cargs.toList) (h : rencRising.F N l = some true) :
    Calls Try.prog 7 cargs w fun e w' => e = .returned (.bool true) ∧ Frm w (fun _ => False) w' :=
  law_sound (C := rencRising.C N l) (K := rencRising.K N) (d := 0) (fn := Try.f7) (rencRising.cok N l) (fun q hq => by simp [rencRising.C] at hq) (rencRising.aok N) (by kernel_rfl) ha ((rencRising.F_eq N l).trans h)

end Go.Proofs.Rc
