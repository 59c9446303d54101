/-
  Functions of the program: what each comes to, and its contract (written by a program).
  Conditions: none: each contract is proved for every input of its shape.
-/
import Derived.Test.YtghbobmkkbdhpaaEngMkToEngWords
import Derived.Laws.Externs
import Derived.Test.YtghbobmkkbdhpaaProg
import Derived.Test.YtghbobmkkbdhpaaSrFns
set_option linter.unusedVariables false
set_option linter.unusedSimpArgs false
namespace Go.Proofs.Rc
open Go.Eng
set_option maxRecDepth 100000
noncomputable def rclo.sig : Eng.Sig := { args := [.at (.int .i64 0), .at (.int .i64 1), .at (.int .i64 2), .at (.ptr 2 0), .at (.ptr 4 0), .at (.ptr 5 0), .at (.ptr 7 0)], n := 8, pre := [(2, .cells 1 [.ptr 0 0]), (4, .cells 1 [.full 3 false]), (5, .cells 1 [.int .i64 3]), (7, .cells 1 [.ptr 6 0]), (0, .cells 10 [.full 1 false, .int .u64 4, .int .u64 5, .int .u64 6, .int .i64 7, .int .i64 8, .int .u64 9, .int .i64 10, .int .i64 11, .bool 0]), (3, .ints true .i64 0), (6, .cells 1 [.int .u32 12]), (1, .ints false .u8 1)], post := [(2, .cells 1 [.ptr 0 0]), (4, .cells 1 [.full 8 false]), (5, .cells 1 [.fint .i64 3]), (7, .cells 1 [.ptr 6 0]), (0, .cells 10 [.full 1 false, .int .u64 0, .int .u64 1, .int .u64 2, .int .i64 3, .int .i64 4, .int .u64 5, .int .i64 6, .int .i64 7, .bool 0]), (3, .dead), (6, .cells 1 [.int .u32 8]), (1, .fints false .u8 1), (8, .ints true .i64 0)], m := 1, ret := .at (.unk) }
noncomputable def rclo.C (N : Nat) : Cfg := { P := Try.prog, N := N, RT := noRT, specs := [(35, pread.spec), (36, filledN.spec), (36, filled.spec)], inl := [], hi := 8, mv := [] }
abbrev rclo.R : Type := Int × Int × Int × Int × Int × Int × Int × Int × Int × Bool × List Int
def rclo.dec (L : Eng.Leaves) : rclo.R := (L.i 0, L.i 1, L.i 2, L.i 3, L.i 4, L.i 5, L.i 6, L.i 7, L.i 8, L.b 0, L.l 0)
def rclo.enc (r : rclo.R) : Eng.Leaves := mkL [r.1, r.2.1, r.2.2.1, r.2.2.2.1, r.2.2.2.2.1, r.2.2.2.2.2.1, r.2.2.2.2.2.2.1, r.2.2.2.2.2.2.2.1, r.2.2.2.2.2.2.2.2.1] [r.2.2.2.2.2.2.2.2.2.1] [r.2.2.2.2.2.2.2.2.2.2] []
noncomputable def rclo.K (N : Nat) : FCfg := { anns := [], unr := [], lits := [], lets := [] }
noncomputable def rclo.F (N : Nat) (from_ : Int) (m : Int) (k : Int) (eq : Int) (rng : Int) (val : Int) (last : Int) (front : Int) (back : Int) (window : Int) (waiting : Int) (count : Int) (s_Seed : Int) (bad : Bool) (out : List Int) (b : List Int) : Option rclo.R :=
  (br (decide (k > (0 : Int)))
   (obind (Rc.pread.F N m k rng val last front back window waiting count bad b) fun r0 =>
   (obind (Rc.filled.F N m eq s_Seed r0.snd.snd.snd.snd.snd.snd.snd.snd.snd.snd) fun r1 =>
   (chk (out.length + r1.snd.length ≤ (17592186043904 : Nat))
   (chkI eq eq
   (chkL b b
   (some ((r0.snd.fst, r0.snd.snd.fst, r0.snd.snd.snd.fst, r0.snd.snd.snd.snd.fst, r0.snd.snd.snd.snd.snd.fst, r0.snd.snd.snd.snd.snd.snd.fst, r0.snd.snd.snd.snd.snd.snd.snd.fst, r0.snd.snd.snd.snd.snd.snd.snd.snd.fst, r1.fst, r0.snd.snd.snd.snd.snd.snd.snd.snd.snd.fst, out ++ r1.snd))))))))
   (obind (Rc.filledN.F N m eq s_Seed) fun r2 =>
   (chk (out.length + r2.snd.length ≤ (17592186043904 : Nat))
   (chkI eq eq
   (chkL b b
   (some ((rng, val, last, front, back, window, waiting, count, r2.fst, bad, out ++ r2.snd))))))))
theorem rclo.F_eq (N : Nat) (L : Eng.Leaves) : evSig (rclo.C N) (rclo.K N) 0 Try.f34 rclo.sig L rclo.dec = rclo.F N (L.i 0) (L.i 1) (L.i 2) (L.i 3) (L.i 4) (L.i 5) (L.i 6) (L.i 7) (L.i 8) (L.i 9) (L.i 10) (L.i 11) (L.i 12) (L.b 0) (L.l 0) (L.l 1) := by
  kernel_rfl
noncomputable def rclo.spec : Eng.Spec := rclo.sig.spec (fun N L => rclo.F N (L.i 0) (L.i 1) (L.i 2) (L.i 3) (L.i 4) (L.i 5) (L.i 6) (L.i 7) (L.i 8) (L.i 9) (L.i 10) (L.i 11) (L.i 12) (L.b 0) (L.l 0) (L.l 1)) rclo.enc
theorem rclo.cok (N : Nat) : CfgOK (rclo.C N) := ⟨fun _ _ _ _ h => by simp [rclo.C, noRT] at h, wide, by
  simp only [rclo.C, List.mem_cons, List.not_mem_nil, or_false, forall_eq_or_imp, forall_eq, false_imp_iff, implies_true]
  exact ⟨⟨pread.ok, by kernel_rfl⟩, ⟨filledN.ok, by kernel_rfl⟩, ⟨filled.ok, by kernel_rfl⟩⟩, fun g hg => by simp [rclo.C] at hg, fun m hm => by simp [rclo.C] at hm, fun q hq => by simp [rclo.C] at hq⟩
theorem rclo.aok (N : Nat) : AnnsOK (rclo.K N) := by
  intro q hq
  simp only [rclo.K, List.mem_cons, List.not_mem_nil, or_false] at hq
theorem rclo.ok : CallOK Try.prog 34 rclo.spec :=
  callOK_of_sig (fn := Try.f34) (Cf := rclo.C) (K := rclo.K) (d := 0) (dec := rclo.dec) (by kernel_rfl) (fun _ => rfl) rclo.cok (fun _ q hq => by simp [rclo.C] at hq) rclo.aok
   (fun N L r h => (rclo.F_eq N L).trans h) (by kernel_rfl) (fun _ => ⟨rfl, rfl⟩) (fun _ _ => ⟨rfl, rfl⟩)
noncomputable def piecesR.sig : Eng.Sig := { args := [.at (.int .i64 0), .at (.int .i64 1), .at (.clo 34 [(2, 0), (4, 0), (5, 0), (7, 0)])], n := 8, pre := [(2, .cells 1 [.ptr 0 0]), (4, .cells 1 [.full 3 false]), (5, .cells 1 [.int .i64 2]), (7, .cells 1 [.ptr 6 0]), (0, .cells 10 [.full 1 false, .int .u64 3, .int .u64 4, .int .u64 5, .int .i64 6, .int .i64 7, .int .u64 8, .int .i64 9, .int .i64 10, .bool 0]), (3, .ints true .i64 0), (6, .cells 1 [.int .u32 11]), (1, .ints false .u8 1)], post := [(2, .cells 1 [.ptr 0 0]), (4, .cells 1 [.full 8 false]), (5, .cells 1 [.fint .i64 2]), (7, .cells 1 [.ptr 6 0]), (0, .cells 10 [.full 1 false, .int .u64 0, .int .u64 1, .int .u64 2, .int .i64 3, .int .i64 4, .int .u64 5, .int .i64 6, .int .i64 7, .bool 0]), (3, .dead), (6, .cells 1 [.int .u32 8]), (1, .fints false .u8 1), (8, .ints true .i64 0)], m := 1, ret := .at (.unk) }
noncomputable def piecesR.C (N : Nat) : Cfg := { P := Try.prog, N := N, RT := noRT, specs := [(64, asplit.spec), (65, aPieces.spec), (66, apulses.spec), (34, rclo.spec)], inl := [], hi := 8, mv := [] }
abbrev piecesR.R : Type := Int × Int × Int × Int × Int × Int × Int × Int × Int × Bool × List Int
def piecesR.dec (L : Eng.Leaves) : piecesR.R := (L.i 0, L.i 1, L.i 2, L.i 3, L.i 4, L.i 5, L.i 6, L.i 7, L.i 8, L.b 0, L.l 0)
def piecesR.enc (r : piecesR.R) : Eng.Leaves := mkL [r.1, r.2.1, r.2.2.1, r.2.2.2.1, r.2.2.2.2.1, r.2.2.2.2.2.1, r.2.2.2.2.2.2.1, r.2.2.2.2.2.2.2.1, r.2.2.2.2.2.2.2.2.1] [r.2.2.2.2.2.2.2.2.2.1] [r.2.2.2.2.2.2.2.2.2.2] []
abbrev piecesR.loop2.R : Type := Int × Int × Int × Int × Int × Int × Int × Int × Int × Bool × List Int
noncomputable def piecesR.loop2.ann : Ann := { nx := 21, slots := [(2, .at (.clo 34 [(2, 0), (4, 0), (5, 0), (7, 0)])), (6, .at (.full 8 false)), (7, .at (.int .i64 0)), (14, .at (.full 9 false)), (15, .at (.fint .i64 0)), (16, .at (.int .i64 1))], blks := [(2, .cells 1 [.ptr 0 0]), (4, .cells 1 [.full 20 false]), (5, .cells 1 [.fint .i64 1]), (7, .cells 1 [.ptr 6 0]), (8, .fints true .i64 0), (9, .fints true .i64 1), (0, .cells 10 [.full 1 false, .int .u64 2, .int .u64 3, .int .u64 4, .int .i64 5, .int .i64 6, .int .u64 7, .int .i64 8, .int .i64 9, .bool 0]), (1, .fints false .u8 2), (6, .cells 1 [.int .u32 10]), (20, .ints true .i64 0)], mov := [20], exId := 0, xslots := [(2, .at (.clo 34 [(2, 0), (4, 0), (5, 0), (7, 0)])), (6, .at (.full 8 false)), (14, .at (.full 9 false))], xblks := [(2, .cells 1 [.ptr 0 0]), (4, .cells 1 [.full 20 false]), (5, .cells 1 [.fint .i64 1]), (7, .cells 1 [.ptr 6 0]), (8, .fints true .i64 0), (9, .fints true .i64 1), (0, .cells 10 [.full 1 false, .int .u64 0, .int .u64 1, .int .u64 2, .int .i64 3, .int .i64 4, .int .u64 5, .int .i64 6, .int .i64 7, .bool 0]), (1, .fints false .u8 2), (6, .cells 1 [.int .u32 8]), (20, .ints true .i64 0)], T := piecesR.loop2.R, dec := fun L => (L.i 0, L.i 1, L.i 2, L.i 3, L.i 4, L.i 5, L.i 6, L.i 7, L.i 8, L.b 0, L.l 0), enc := fun r => mkL [r.1, r.2.1, r.2.2.1, r.2.2.2.1, r.2.2.2.2.1, r.2.2.2.2.2.1, r.2.2.2.2.2.2.1, r.2.2.2.2.2.2.2.1, r.2.2.2.2.2.2.2.2.1] [r.2.2.2.2.2.2.2.2.2.1] [r.2.2.2.2.2.2.2.2.2.2] [], ret := false }
noncomputable def piecesR.K (N : Nat) : FCfg := { anns := [(2, piecesR.loop2.ann)], unr := [], lits := [], lets := [] }
noncomputable def piecesR.loop2 (N : Nat) : Nat → Int → Int → List Int → List Int → List Int → Int → Int → Int → Int → Int → Int → Int → Int → Int → Int → Int → Bool → List Int → Option piecesR.loop2.R
  | 0, _, _, _, _, _, _, _, _, _, _, _, _, _, _, _, _, _, _ => none
  | nn + 1, s15, eq, l8, l9, b, s7, s16, rng, val, last, front, back, window, waiting, count, s_Seed, bad, out =>
  (br (decide (s16 < s15))
   (chk ((0 : Int) ≤ s16 ∧ s16 < ↑l9.length)
   (chk ((0 : Int) ≤ s16 ∧ s16 < ↑l8.length)
   (obind (Rc.apulses.F N (l9.getD s16.toNat (0 : Int)) (l8.getD s16.toNat (0 : Int))) fun r0 =>
   (obind (Rc.rclo.F N s7 (l9.getD s16.toNat (0 : Int)) r0 eq rng val last front back window waiting count s_Seed bad out b) fun r1 =>
   (chkI s15 s15
   (chkI eq eq
   (chkL l8 l8
   (chkL l9 l9
   (chkL b b
   (piecesR.loop2 N nn s15 eq l8 l9 b (IntKind.i64.wrap (s7 + l9.getD s16.toNat (0 : Int))) (IntKind.i64.wrap (s16 + (1 : Int))) r1.fst r1.snd.fst r1.snd.snd.fst r1.snd.snd.snd.fst r1.snd.snd.snd.snd.fst r1.snd.snd.snd.snd.snd.fst r1.snd.snd.snd.snd.snd.snd.fst r1.snd.snd.snd.snd.snd.snd.snd.fst r1.snd.snd.snd.snd.snd.snd.snd.snd.fst r1.snd.snd.snd.snd.snd.snd.snd.snd.snd.fst r1.snd.snd.snd.snd.snd.snd.snd.snd.snd.snd))))))))))
   (chkI eq eq
   (chkL l8 l8
   (chkL l9 l9
   (chkL b b
   (some ((rng, val, last, front, back, window, waiting, count, s_Seed, bad, out))))))))
noncomputable def piecesR.loop2R (N nn : Nat) (s15 : Int) (eq : Int) (l8 : List Int) (l9 : List Int) (b : List Int) (s7 : Int) (s16 : Int) (rng : Int) (val : Int) (last : Int) (front : Int) (back : Int) (window : Int) (waiting : Int) (count : Int) (s_Seed : Int) (bad : Bool) (out : List Int) : Option piecesR.loop2.R := loopF piecesR.loop2.ann (mkL [s15, eq] [] [l8, l9, b] []) (evCode ((piecesR.C N).inLoop piecesR.loop2.ann) (piecesR.K N) (inlTab (piecesR.C N) 0) (bodyAt 2 Try.f33)) nn (mkL [s7, s16, rng, val, last, front, back, window, waiting, count, s_Seed] [bad] [out] [])
theorem piecesR.loop2_eq (N : Nat) : ∀ (nn : Nat) (s15 : Int) (eq : Int) (l8 : List Int) (l9 : List Int) (b : List Int) (s7 : Int) (s16 : Int) (rng : Int) (val : Int) (last : Int) (front : Int) (back : Int) (window : Int) (waiting : Int) (count : Int) (s_Seed : Int) (bad : Bool) (out : List Int), piecesR.loop2R N nn s15 eq l8 l9 b s7 s16 rng val last front back window waiting count s_Seed bad out = piecesR.loop2 N nn s15 eq l8 l9 b s7 s16 rng val last front back window waiting count s_Seed bad out
  | 0, _, _, _, _, _, _, _, _, _, _, _, _, _, _, _, _, _, _ => by kernel_rfl
  | nn + 1, s15, eq, l8, l9, b, s7, s16, rng, val, last, front, back, window, waiting, count, s_Seed, bad, out => by
    have h : piecesR.loop2R N (nn + 1) s15 eq l8 l9 b s7 s16 rng val last front back window waiting count s_Seed bad out =
  (br (decide (s16 < s15))
   (chk ((0 : Int) ≤ s16 ∧ s16 < ↑l9.length)
   (chk ((0 : Int) ≤ s16 ∧ s16 < ↑l8.length)
   (obind (Rc.apulses.F N (l9.getD s16.toNat (0 : Int)) (l8.getD s16.toNat (0 : Int))) fun r0 =>
   (obind (Rc.rclo.F N s7 (l9.getD s16.toNat (0 : Int)) r0 eq rng val last front back window waiting count s_Seed bad out b) fun r1 =>
   (chkI s15 s15
   (chkI eq eq
   (chkL l8 l8
   (chkL l9 l9
   (chkL b b
   (piecesR.loop2R N nn s15 eq l8 l9 b (IntKind.i64.wrap (s7 + l9.getD s16.toNat (0 : Int))) (IntKind.i64.wrap (s16 + (1 : Int))) r1.fst r1.snd.fst r1.snd.snd.fst r1.snd.snd.snd.fst r1.snd.snd.snd.snd.fst r1.snd.snd.snd.snd.snd.fst r1.snd.snd.snd.snd.snd.snd.fst r1.snd.snd.snd.snd.snd.snd.snd.fst r1.snd.snd.snd.snd.snd.snd.snd.snd.fst r1.snd.snd.snd.snd.snd.snd.snd.snd.snd.fst r1.snd.snd.snd.snd.snd.snd.snd.snd.snd.snd))))))))))
   (chkI eq eq
   (chkL l8 l8
   (chkL l9 l9
   (chkL b b
   (some ((rng, val, last, front, back, window, waiting, count, s_Seed, bad, out)))))))) := by kernel_rfl
    rw [h, piecesR.loop2]
    try simp only [piecesR.loop2_eq N nn]
noncomputable def piecesR.F (N : Nat) (n : Int) (bits : Int) (eq : Int) (rng : Int) (val : Int) (last : Int) (front : Int) (back : Int) (window : Int) (waiting : Int) (count : Int) (s_Seed : Int) (bad : Bool) (out : List Int) (b : List Int) : Option piecesR.R :=
  (obind (Rc.asplit.F N n bits) fun r0 =>
   (obind (Rc.aPieces.F N n) fun r1 =>
   (obind (piecesR.loop2 N N (↑r1.length) eq r0 r1 b ((0 : Int)) ((0 : Int)) rng val last front back window waiting count s_Seed bad out) fun r2 =>
   (chkI eq eq
   (chkL b b
   (some ((r2.fst, r2.snd.fst, r2.snd.snd.fst, r2.snd.snd.snd.fst, r2.snd.snd.snd.snd.fst, r2.snd.snd.snd.snd.snd.fst, r2.snd.snd.snd.snd.snd.snd.fst, r2.snd.snd.snd.snd.snd.snd.snd.fst, r2.snd.snd.snd.snd.snd.snd.snd.snd.fst, r2.snd.snd.snd.snd.snd.snd.snd.snd.snd.fst, r2.snd.snd.snd.snd.snd.snd.snd.snd.snd.snd))))))))
theorem piecesR.F_eq (N : Nat) (L : Eng.Leaves) : evSig (piecesR.C N) (piecesR.K N) 0 Try.f33 piecesR.sig L piecesR.dec = piecesR.F N (L.i 0) (L.i 1) (L.i 2) (L.i 3) (L.i 4) (L.i 5) (L.i 6) (L.i 7) (L.i 8) (L.i 9) (L.i 10) (L.i 11) (L.b 0) (L.l 0) (L.l 1) := by
  have h : ∀ (n : Int) (bits : Int) (eq : Int) (rng : Int) (val : Int) (last : Int) (front : Int) (back : Int) (window : Int) (waiting : Int) (count : Int) (s_Seed : Int) (bad : Bool) (out : List Int) (b : List Int), evSig (piecesR.C N) (piecesR.K N) 0 Try.f33 piecesR.sig (mkL [n, bits, eq, rng, val, last, front, back, window, waiting, count, s_Seed] [bad] [out, b] []) piecesR.dec =
  (obind (Rc.asplit.F N n bits) fun r0 =>
   (obind (Rc.aPieces.F N n) fun r1 =>
   (obind (piecesR.loop2R N N (↑r1.length) eq r0 r1 b ((0 : Int)) ((0 : Int)) rng val last front back window waiting count s_Seed bad out) fun r2 =>
   (chkI eq eq
   (chkL b b
   (some ((r2.fst, r2.snd.fst, r2.snd.snd.fst, r2.snd.snd.snd.fst, r2.snd.snd.snd.snd.fst, r2.snd.snd.snd.snd.snd.fst, r2.snd.snd.snd.snd.snd.snd.fst, r2.snd.snd.snd.snd.snd.snd.snd.fst, r2.snd.snd.snd.snd.snd.snd.snd.snd.fst, r2.snd.snd.snd.snd.snd.snd.snd.snd.snd.fst, r2.snd.snd.snd.snd.snd.snd.snd.snd.snd.snd)))))))) := by
    intro n bits eq rng val last front back window waiting count s_Seed bad out b
    kernel_rfl
  have h2 : evSig (piecesR.C N) (piecesR.K N) 0 Try.f33 piecesR.sig L piecesR.dec = evSig (piecesR.C N) (piecesR.K N) 0 Try.f33 piecesR.sig (mkL [L.i 0, L.i 1, L.i 2, L.i 3, L.i 4, L.i 5, L.i 6, L.i 7, L.i 8, L.i 9, L.i 10, L.i 11] [L.b 0] [L.l 0, L.l 1] []) piecesR.dec := by kernel_rfl
  rw [h2, h, piecesR.F]
  try simp only [piecesR.loop2_eq N]
noncomputable def piecesR.spec : Eng.Spec := piecesR.sig.spec (fun N L => piecesR.F N (L.i 0) (L.i 1) (L.i 2) (L.i 3) (L.i 4) (L.i 5) (L.i 6) (L.i 7) (L.i 8) (L.i 9) (L.i 10) (L.i 11) (L.b 0) (L.l 0) (L.l 1)) piecesR.enc
theorem piecesR.cok (N : Nat) : CfgOK (piecesR.C N) := ⟨fun _ _ _ _ h => by simp [piecesR.C, noRT] at h, wide, by
  simp only [piecesR.C, List.mem_cons, List.not_mem_nil, or_false, forall_eq_or_imp, forall_eq, false_imp_iff, implies_true]
  exact ⟨⟨asplit.ok, by kernel_rfl⟩, ⟨aPieces.ok, by kernel_rfl⟩, ⟨apulses.ok, by kernel_rfl⟩, ⟨rclo.ok, by kernel_rfl⟩⟩, fun g hg => by simp [piecesR.C] at hg, fun m hm => by simp [piecesR.C] at hm, fun q hq => by simp [piecesR.C] at hq⟩
theorem piecesR.aok (N : Nat) : AnnsOK (piecesR.K N) := by
  intro q hq
  simp only [piecesR.K, List.mem_cons, List.not_mem_nil, or_false] at hq
  subst hq
  exact fun _ _ => ⟨rfl, rfl⟩
theorem piecesR.ok : CallOK Try.prog 33 piecesR.spec :=
  callOK_of_sig (fn := Try.f33) (Cf := piecesR.C) (K := piecesR.K) (d := 0) (dec := piecesR.dec) (by kernel_rfl) (fun _ => rfl) piecesR.cok (fun _ q hq => by simp [piecesR.C] at hq) piecesR.aok
   (fun N L r h => (piecesR.F_eq N L).trans h) (by kernel_rfl) (fun _ => ⟨rfl, rfl⟩) (fun _ _ => ⟨rfl, rfl⟩)
noncomputable def sread.sig : Eng.Sig := { args := [.at (.ptr 0 0), .at (.int .i64 0), .at (.int .i64 1), .at (.int .i64 2), .at (.ptr 2 0)], n := 3, pre := [(0, .cells 10 [.full 1 false, .int .u64 3, .int .u64 4, .int .u64 5, .int .i64 6, .int .i64 7, .int .u64 8, .int .i64 9, .int .i64 10, .bool 0]), (1, .ints false .u8 0), (2, .cells 1 [.int .u32 11])], post := [(0, .cells 10 [.full 1 false, .int .u64 1, .int .u64 2, .int .u64 3, .int .i64 4, .int .i64 5, .int .u64 6, .int .i64 7, .int .i64 8, .bool 0]), (1, .fints false .u8 0), (2, .cells 1 [.int .u32 9]), (3, .ints true .i64 0)], m := 1, ret := .tup [(false, [.full 3 false]), (false, [.int .i64 0])] }
noncomputable def sread.C (N : Nat) : Cfg := { P := Try.prog, N := N, RT := noRT, specs := [(33, piecesR.spec)], inl := [], hi := 3, mv := [] }
abbrev sread.R : Type := Int × Int × Int × Int × Int × Int × Int × Int × Int × Int × Bool × List Int
def sread.dec (L : Eng.Leaves) : sread.R := (L.i 0, L.i 1, L.i 2, L.i 3, L.i 4, L.i 5, L.i 6, L.i 7, L.i 8, L.i 9, L.b 0, L.l 0)
def sread.enc (r : sread.R) : Eng.Leaves := mkL [r.1, r.2.1, r.2.2.1, r.2.2.2.1, r.2.2.2.2.1, r.2.2.2.2.2.1, r.2.2.2.2.2.2.1, r.2.2.2.2.2.2.2.1, r.2.2.2.2.2.2.2.2.1, r.2.2.2.2.2.2.2.2.2.1] [r.2.2.2.2.2.2.2.2.2.2.1] [r.2.2.2.2.2.2.2.2.2.2.2] []
noncomputable def sread.K (N : Nat) : FCfg := { anns := [], unr := [], lits := [], lets := [] }
noncomputable def sread.F (N : Nat) (n : Int) (bits : Int) (eq : Int) (rng : Int) (val : Int) (last : Int) (front : Int) (back : Int) (window : Int) (waiting : Int) (count : Int) (s_Seed : Int) (bad : Bool) (b : List Int) : Option sread.R :=
  (br (decide (n < (1 : Int)))
   (chkL b b
   (some (((1 : Int), rng, val, last, front, back, window, waiting, count, s_Seed, bad, ([] : List Int)))))
   (br (decide (n > (1000 : Int)))
   (chkL b b
   (some (((1 : Int), rng, val, last, front, back, window, waiting, count, s_Seed, bad, ([] : List Int)))))
   (br (decide (bits < (0 : Int)))
   (chkL b b
   (some (((1 : Int), rng, val, last, front, back, window, waiting, count, s_Seed, bad, ([] : List Int)))))
   (br (decide (bits > (1048576 : Int)))
   (chkL b b
   (some (((1 : Int), rng, val, last, front, back, window, waiting, count, s_Seed, bad, ([] : List Int)))))
   (obind (Rc.piecesR.F N n bits eq rng val last front back window waiting count s_Seed bad (([] : List Int)) b) fun r0 =>
   (chkL b b
   (some (((0 : Int), r0.fst, r0.snd.fst, r0.snd.snd.fst, r0.snd.snd.snd.fst, r0.snd.snd.snd.snd.fst, r0.snd.snd.snd.snd.snd.fst, r0.snd.snd.snd.snd.snd.snd.fst, r0.snd.snd.snd.snd.snd.snd.snd.fst, r0.snd.snd.snd.snd.snd.snd.snd.snd.fst, r0.snd.snd.snd.snd.snd.snd.snd.snd.snd.fst, r0.snd.snd.snd.snd.snd.snd.snd.snd.snd.snd)))))))))
theorem sread.F_eq (N : Nat) (L : Eng.Leaves) : evSig (sread.C N) (sread.K N) 0 Try.f12 sread.sig L sread.dec = sread.F N (L.i 0) (L.i 1) (L.i 2) (L.i 3) (L.i 4) (L.i 5) (L.i 6) (L.i 7) (L.i 8) (L.i 9) (L.i 10) (L.i 11) (L.b 0) (L.l 0) := by
  kernel_rfl
noncomputable def sread.spec : Eng.Spec := sread.sig.spec (fun N L => sread.F N (L.i 0) (L.i 1) (L.i 2) (L.i 3) (L.i 4) (L.i 5) (L.i 6) (L.i 7) (L.i 8) (L.i 9) (L.i 10) (L.i 11) (L.b 0) (L.l 0)) sread.enc
theorem sread.cok (N : Nat) : CfgOK (sread.C N) := ⟨fun _ _ _ _ h => by simp [sread.C, noRT] at h, wide, by
  simp only [sread.C, List.mem_cons, List.not_mem_nil, or_false, forall_eq_or_imp, forall_eq, false_imp_iff, implies_true]
  exact ⟨piecesR.ok, by kernel_rfl⟩, fun g hg => by simp [sread.C] at hg, fun m hm => by simp [sread.C] at hm, fun q hq => by simp [sread.C] at hq⟩
theorem sread.aok (N : Nat) : AnnsOK (sread.K N) := by
  intro q hq
  simp only [sread.K, List.mem_cons, List.not_mem_nil, or_false] at hq
theorem sread.ok : CallOK Try.prog 12 sread.spec :=
  callOK_of_sig (fn := Try.f12) (Cf := sread.C) (K := sread.K) (d := 0) (dec := sread.dec) (by kernel_rfl) (fun _ => rfl) sread.cok (fun _ q hq => by simp [sread.C] at hq) sread.aok
   (fun N L r h => (sread.F_eq N L).trans h) (by kernel_rfl) (fun _ => ⟨rfl, rfl⟩) (fun _ _ => ⟨rfl, rfl⟩)
noncomputable def wclo.sig : Eng.Sig := { args := [.at (.int .i64 0), .at (.int .i64 1), .at (.int .i64 2), .at (.ptr 0 0), .at (.ptr 4 0), .at (.ptr 6 0), .at (.ptr 7 0), .at (.ptr 9 0)], n := 10, pre := [(0, .cells 1 [.roi .i64 0]), (4, .cells 1 [.ptr 1 0]), (6, .cells 1 [.full 5 false]), (7, .cells 1 [.int .i64 3]), (9, .cells 1 [.ptr 8 0]), (1, .cells 6 [.full 2 false, .int .u64 4, .int .u64 5, .full 3 false, .int .i64 6, .int .i64 7]), (5, .ints true .i64 1), (8, .cells 1 [.int .u32 8]), (2, .ints true .u8 2), (3, .ints true .u8 3)], post := [(0, .cells 1 [.froi .i64 0]), (4, .cells 1 [.ptr 1 0]), (6, .cells 1 [.full 10 false]), (7, .cells 1 [.fint .i64 3]), (9, .cells 1 [.ptr 8 0]), (1, .cells 6 [.full 11 false, .int .u64 0, .int .u64 1, .full 12 false, .int .i64 2, .int .i64 3]), (5, .dead), (8, .cells 1 [.int .u32 4]), (2, .dead), (3, .dead), (10, .ints true .i64 0), (11, .ints true .u8 1), (12, .ints true .u8 2)], m := 3, ret := .at (.unk) }
noncomputable def wclo.C (N : Nat) : Cfg := { P := Try.prog, N := N, RT := noRT, specs := [(41, pnear.spec), (42, pwrite.spec), (36, filledN.spec), (36, filled.spec)], inl := [], hi := 10, mv := [] }
abbrev wclo.R : Type := Int × Int × Int × Int × Int × List Int × List Int × List Int
def wclo.dec (L : Eng.Leaves) : wclo.R := (L.i 0, L.i 1, L.i 2, L.i 3, L.i 4, L.l 0, L.l 1, L.l 2)
def wclo.enc (r : wclo.R) : Eng.Leaves := mkL [r.1, r.2.1, r.2.2.1, r.2.2.2.1, r.2.2.2.2.1] [] [r.2.2.2.2.2.1, r.2.2.2.2.2.2.1, r.2.2.2.2.2.2.2] []
noncomputable def wclo.K (N : Nat) : FCfg := { anns := [], unr := [], lits := [], lets := [] }
noncomputable def wclo.F (N : Nat) (from_ : Int) (m : Int) (k : Int) (eq : Int) (val : Int) (rng : Int) (rawBits : Int) (count : Int) (s_Seed : Int) (x : List Int) (out : List Int) (told : List Int) (raw : List Int) : Option wclo.R :=
  (br (decide (k > (0 : Int)))
   (chk ((0 : Int) ≤ IntKind.i64.wrap (from_ + m) ∧ IntKind.i64.wrap (from_ + m) ≤ ↑x.length)
   (chk ((0 : Int) ≤ from_ ∧ from_ ≤ ↑(IntKind.i64.wrap (from_ + m)).toNat)
   (obind (Rc.pnear.F N k (List.take ((IntKind.i64.wrap (from_ + m)).toNat - from_.toNat) (List.drop from_.toNat x))) fun r0 =>
   (obind (Rc.pwrite.F N val rng rawBits count r0.snd told raw) fun r1 =>
   (obind (Rc.filled.F N m eq s_Seed r0.snd) fun r2 =>
   (chk (out.length + r2.snd.length ≤ (17592186043904 : Nat))
   (chkL x x
   (chkI eq eq
   (some ((r1.snd.fst, r1.snd.snd.fst, r1.snd.snd.snd.fst, r1.snd.snd.snd.snd.fst, r2.fst, out ++ r2.snd, r1.snd.snd.snd.snd.snd.fst, r1.snd.snd.snd.snd.snd.snd)))))))))))
   (obind (Rc.filledN.F N m eq s_Seed) fun r3 =>
   (chk (out.length + r3.snd.length ≤ (17592186043904 : Nat))
   (chkL x x
   (chkI eq eq
   (some ((val, rng, rawBits, count, r3.fst, out ++ r3.snd, told, raw))))))))
theorem wclo.F_eq (N : Nat) (L : Eng.Leaves) : evSig (wclo.C N) (wclo.K N) 0 Try.f40 wclo.sig L wclo.dec = wclo.F N (L.i 0) (L.i 1) (L.i 2) (L.i 3) (L.i 4) (L.i 5) (L.i 6) (L.i 7) (L.i 8) (L.l 0) (L.l 1) (L.l 2) (L.l 3) := by
  kernel_rfl
noncomputable def wclo.spec : Eng.Spec := wclo.sig.spec (fun N L => wclo.F N (L.i 0) (L.i 1) (L.i 2) (L.i 3) (L.i 4) (L.i 5) (L.i 6) (L.i 7) (L.i 8) (L.l 0) (L.l 1) (L.l 2) (L.l 3)) wclo.enc
theorem wclo.cok (N : Nat) : CfgOK (wclo.C N) := ⟨fun _ _ _ _ h => by simp [wclo.C, noRT] at h, wide, by
  simp only [wclo.C, List.mem_cons, List.not_mem_nil, or_false, forall_eq_or_imp, forall_eq, false_imp_iff, implies_true]
  exact ⟨⟨pnear.ok, by kernel_rfl⟩, ⟨pwrite.ok, by kernel_rfl⟩, ⟨filledN.ok, by kernel_rfl⟩, ⟨filled.ok, by kernel_rfl⟩⟩, fun g hg => by simp [wclo.C] at hg, fun m hm => by simp [wclo.C] at hm, fun q hq => by simp [wclo.C] at hq⟩
theorem wclo.aok (N : Nat) : AnnsOK (wclo.K N) := by
  intro q hq
  simp only [wclo.K, List.mem_cons, List.not_mem_nil, or_false] at hq
theorem wclo.ok : CallOK Try.prog 40 wclo.spec :=
  callOK_of_sig (fn := Try.f40) (Cf := wclo.C) (K := wclo.K) (d := 0) (dec := wclo.dec) (by kernel_rfl) (fun _ => rfl) wclo.cok (fun _ q hq => by simp [wclo.C] at hq) wclo.aok
   (fun N L r h => (wclo.F_eq N L).trans h) (by kernel_rfl) (fun _ => ⟨rfl, rfl⟩) (fun _ _ => ⟨rfl, rfl⟩)
noncomputable def piecesW.sig : Eng.Sig := { args := [.at (.int .i64 0), .at (.int .i64 1), .at (.clo 40 [(0, 0), (4, 0), (6, 0), (7, 0), (9, 0)])], n := 10, pre := [(0, .cells 1 [.roi .i64 0]), (4, .cells 1 [.ptr 1 0]), (6, .cells 1 [.full 5 false]), (7, .cells 1 [.int .i64 2]), (9, .cells 1 [.ptr 8 0]), (1, .cells 6 [.full 2 false, .int .u64 3, .int .u64 4, .full 3 false, .int .i64 5, .int .i64 6]), (5, .ints true .i64 1), (8, .cells 1 [.int .u32 7]), (2, .ints true .u8 2), (3, .ints true .u8 3)], post := [(0, .cells 1 [.froi .i64 0]), (4, .cells 1 [.ptr 1 0]), (6, .cells 1 [.full 10 false]), (7, .cells 1 [.fint .i64 2]), (9, .cells 1 [.ptr 8 0]), (1, .cells 6 [.full 11 false, .int .u64 0, .int .u64 1, .full 12 false, .int .i64 2, .int .i64 3]), (5, .dead), (8, .cells 1 [.int .u32 4]), (2, .dead), (3, .dead), (10, .ints true .i64 0), (11, .ints true .u8 1), (12, .ints true .u8 2)], m := 3, ret := .at (.unk) }
noncomputable def piecesW.C (N : Nat) : Cfg := { P := Try.prog, N := N, RT := noRT, specs := [(64, asplit.spec), (65, aPieces.spec), (66, apulses.spec), (40, wclo.spec)], inl := [], hi := 10, mv := [] }
abbrev piecesW.R : Type := Int × Int × Int × Int × Int × List Int × List Int × List Int
def piecesW.dec (L : Eng.Leaves) : piecesW.R := (L.i 0, L.i 1, L.i 2, L.i 3, L.i 4, L.l 0, L.l 1, L.l 2)
def piecesW.enc (r : piecesW.R) : Eng.Leaves := mkL [r.1, r.2.1, r.2.2.1, r.2.2.2.1, r.2.2.2.2.1] [] [r.2.2.2.2.2.1, r.2.2.2.2.2.2.1, r.2.2.2.2.2.2.2] []
abbrev piecesW.loop2.R : Type := Int × Int × Int × Int × Int × List Int × List Int × List Int
noncomputable def piecesW.loop2.ann : Ann := { nx := 23, slots := [(2, .at (.clo 40 [(0, 0), (4, 0), (6, 0), (7, 0), (9, 0)])), (6, .at (.full 10 false)), (7, .at (.int .i64 0)), (14, .at (.full 11 false)), (15, .at (.fint .i64 0)), (16, .at (.int .i64 1))], blks := [(0, .cells 1 [.froi .i64 0]), (4, .cells 1 [.ptr 1 0]), (6, .cells 1 [.full 20 false]), (7, .cells 1 [.fint .i64 1]), (9, .cells 1 [.ptr 8 0]), (10, .fints true .i64 1), (11, .fints true .i64 2), (1, .cells 6 [.full 21 false, .int .u64 2, .int .u64 3, .full 22 false, .int .i64 4, .int .i64 5]), (8, .cells 1 [.int .u32 6]), (20, .ints true .i64 0), (21, .ints true .u8 1), (22, .ints true .u8 2)], mov := [20, 21, 22], exId := 0, xslots := [(2, .at (.clo 40 [(0, 0), (4, 0), (6, 0), (7, 0), (9, 0)])), (6, .at (.full 10 false)), (14, .at (.full 11 false))], xblks := [(0, .cells 1 [.froi .i64 0]), (4, .cells 1 [.ptr 1 0]), (6, .cells 1 [.full 20 false]), (7, .cells 1 [.fint .i64 1]), (9, .cells 1 [.ptr 8 0]), (10, .fints true .i64 1), (11, .fints true .i64 2), (1, .cells 6 [.full 21 false, .int .u64 0, .int .u64 1, .full 22 false, .int .i64 2, .int .i64 3]), (8, .cells 1 [.int .u32 4]), (20, .ints true .i64 0), (21, .ints true .u8 1), (22, .ints true .u8 2)], T := piecesW.loop2.R, dec := fun L => (L.i 0, L.i 1, L.i 2, L.i 3, L.i 4, L.l 0, L.l 1, L.l 2), enc := fun r => mkL [r.1, r.2.1, r.2.2.1, r.2.2.2.1, r.2.2.2.2.1] [] [r.2.2.2.2.2.1, r.2.2.2.2.2.2.1, r.2.2.2.2.2.2.2] [], ret := false }
noncomputable def piecesW.K (N : Nat) : FCfg := { anns := [(2, piecesW.loop2.ann)], unr := [], lits := [], lets := [] }
noncomputable def piecesW.loop2 (N : Nat) : Nat → Int → Int → List Int → List Int → List Int → Int → Int → Int → Int → Int → Int → Int → List Int → List Int → List Int → Option piecesW.loop2.R
  | 0, _, _, _, _, _, _, _, _, _, _, _, _, _, _, _ => none
  | nn + 1, s15, eq, x, l10, l11, s7, s16, val, rng, rawBits, count, s_Seed, out, told, raw =>
  (br (decide (s16 < s15))
   (chk ((0 : Int) ≤ s16 ∧ s16 < ↑l11.length)
   (chk ((0 : Int) ≤ s16 ∧ s16 < ↑l10.length)
   (obind (Rc.apulses.F N (l11.getD s16.toNat (0 : Int)) (l10.getD s16.toNat (0 : Int))) fun r0 =>
   (obind (Rc.wclo.F N s7 (l11.getD s16.toNat (0 : Int)) r0 eq val rng rawBits count s_Seed x out told raw) fun r1 =>
   (chkI s15 s15
   (chkL x x
   (chkI eq eq
   (chkL l10 l10
   (chkL l11 l11
   (piecesW.loop2 N nn s15 eq x l10 l11 (IntKind.i64.wrap (s7 + l11.getD s16.toNat (0 : Int))) (IntKind.i64.wrap (s16 + (1 : Int))) r1.fst r1.snd.fst r1.snd.snd.fst r1.snd.snd.snd.fst r1.snd.snd.snd.snd.fst r1.snd.snd.snd.snd.snd.fst r1.snd.snd.snd.snd.snd.snd.fst r1.snd.snd.snd.snd.snd.snd.snd))))))))))
   (chkL x x
   (chkI eq eq
   (chkL l10 l10
   (chkL l11 l11
   (some ((val, rng, rawBits, count, s_Seed, out, told, raw))))))))
noncomputable def piecesW.loop2R (N nn : Nat) (s15 : Int) (eq : Int) (x : List Int) (l10 : List Int) (l11 : List Int) (s7 : Int) (s16 : Int) (val : Int) (rng : Int) (rawBits : Int) (count : Int) (s_Seed : Int) (out : List Int) (told : List Int) (raw : List Int) : Option piecesW.loop2.R := loopF piecesW.loop2.ann (mkL [s15, eq] [] [x, l10, l11] []) (evCode ((piecesW.C N).inLoop piecesW.loop2.ann) (piecesW.K N) (inlTab (piecesW.C N) 0) (bodyAt 2 Try.f33)) nn (mkL [s7, s16, val, rng, rawBits, count, s_Seed] [] [out, told, raw] [])
theorem piecesW.loop2_eq (N : Nat) : ∀ (nn : Nat) (s15 : Int) (eq : Int) (x : List Int) (l10 : List Int) (l11 : List Int) (s7 : Int) (s16 : Int) (val : Int) (rng : Int) (rawBits : Int) (count : Int) (s_Seed : Int) (out : List Int) (told : List Int) (raw : List Int), piecesW.loop2R N nn s15 eq x l10 l11 s7 s16 val rng rawBits count s_Seed out told raw = piecesW.loop2 N nn s15 eq x l10 l11 s7 s16 val rng rawBits count s_Seed out told raw
  | 0, _, _, _, _, _, _, _, _, _, _, _, _, _, _, _ => by kernel_rfl
  | nn + 1, s15, eq, x, l10, l11, s7, s16, val, rng, rawBits, count, s_Seed, out, told, raw => by
    have h : piecesW.loop2R N (nn + 1) s15 eq x l10 l11 s7 s16 val rng rawBits count s_Seed out told raw =
  (br (decide (s16 < s15))
   (chk ((0 : Int) ≤ s16 ∧ s16 < ↑l11.length)
   (chk ((0 : Int) ≤ s16 ∧ s16 < ↑l10.length)
   (obind (Rc.apulses.F N (l11.getD s16.toNat (0 : Int)) (l10.getD s16.toNat (0 : Int))) fun r0 =>
   (obind (Rc.wclo.F N s7 (l11.getD s16.toNat (0 : Int)) r0 eq val rng rawBits count s_Seed x out told raw) fun r1 =>
   (chkI s15 s15
   (chkL x x
   (chkI eq eq
   (chkL l10 l10
   (chkL l11 l11
   (piecesW.loop2R N nn s15 eq x l10 l11 (IntKind.i64.wrap (s7 + l11.getD s16.toNat (0 : Int))) (IntKind.i64.wrap (s16 + (1 : Int))) r1.fst r1.snd.fst r1.snd.snd.fst r1.snd.snd.snd.fst r1.snd.snd.snd.snd.fst r1.snd.snd.snd.snd.snd.fst r1.snd.snd.snd.snd.snd.snd.fst r1.snd.snd.snd.snd.snd.snd.snd))))))))))
   (chkL x x
   (chkI eq eq
   (chkL l10 l10
   (chkL l11 l11
   (some ((val, rng, rawBits, count, s_Seed, out, told, raw)))))))) := by kernel_rfl
    rw [h, piecesW.loop2]
    try simp only [piecesW.loop2_eq N nn]
noncomputable def piecesW.F (N : Nat) (n : Int) (bits : Int) (eq : Int) (val : Int) (rng : Int) (rawBits : Int) (count : Int) (s_Seed : Int) (x : List Int) (out : List Int) (told : List Int) (raw : List Int) : Option piecesW.R :=
  (obind (Rc.asplit.F N n bits) fun r0 =>
   (obind (Rc.aPieces.F N n) fun r1 =>
   (obind (piecesW.loop2 N N (↑r1.length) eq x r0 r1 ((0 : Int)) ((0 : Int)) val rng rawBits count s_Seed out told raw) fun r2 =>
   (chkL x x
   (chkI eq eq
   (some ((r2.fst, r2.snd.fst, r2.snd.snd.fst, r2.snd.snd.snd.fst, r2.snd.snd.snd.snd.fst, r2.snd.snd.snd.snd.snd.fst, r2.snd.snd.snd.snd.snd.snd.fst, r2.snd.snd.snd.snd.snd.snd.snd))))))))
theorem piecesW.F_eq (N : Nat) (L : Eng.Leaves) : evSig (piecesW.C N) (piecesW.K N) 0 Try.f33 piecesW.sig L piecesW.dec = piecesW.F N (L.i 0) (L.i 1) (L.i 2) (L.i 3) (L.i 4) (L.i 5) (L.i 6) (L.i 7) (L.l 0) (L.l 1) (L.l 2) (L.l 3) := by
  have h : ∀ (n : Int) (bits : Int) (eq : Int) (val : Int) (rng : Int) (rawBits : Int) (count : Int) (s_Seed : Int) (x : List Int) (out : List Int) (told : List Int) (raw : List Int), evSig (piecesW.C N) (piecesW.K N) 0 Try.f33 piecesW.sig (mkL [n, bits, eq, val, rng, rawBits, count, s_Seed] [] [x, out, told, raw] []) piecesW.dec =
  (obind (Rc.asplit.F N n bits) fun r0 =>
   (obind (Rc.aPieces.F N n) fun r1 =>
   (obind (piecesW.loop2R N N (↑r1.length) eq x r0 r1 ((0 : Int)) ((0 : Int)) val rng rawBits count s_Seed out told raw) fun r2 =>
   (chkL x x
   (chkI eq eq
   (some ((r2.fst, r2.snd.fst, r2.snd.snd.fst, r2.snd.snd.snd.fst, r2.snd.snd.snd.snd.fst, r2.snd.snd.snd.snd.snd.fst, r2.snd.snd.snd.snd.snd.snd.fst, r2.snd.snd.snd.snd.snd.snd.snd)))))))) := by
    intro n bits eq val rng rawBits count s_Seed x out told raw
    kernel_rfl
  have h2 : evSig (piecesW.C N) (piecesW.K N) 0 Try.f33 piecesW.sig L piecesW.dec = evSig (piecesW.C N) (piecesW.K N) 0 Try.f33 piecesW.sig (mkL [L.i 0, L.i 1, L.i 2, L.i 3, L.i 4, L.i 5, L.i 6, L.i 7] [] [L.l 0, L.l 1, L.l 2, L.l 3] []) piecesW.dec := by kernel_rfl
  rw [h2, h, piecesW.F]
  try simp only [piecesW.loop2_eq N]
noncomputable def piecesW.spec : Eng.Spec := piecesW.sig.spec (fun N L => piecesW.F N (L.i 0) (L.i 1) (L.i 2) (L.i 3) (L.i 4) (L.i 5) (L.i 6) (L.i 7) (L.l 0) (L.l 1) (L.l 2) (L.l 3)) piecesW.enc
theorem piecesW.cok (N : Nat) : CfgOK (piecesW.C N) := ⟨fun _ _ _ _ h => by simp [piecesW.C, noRT] at h, wide, by
  simp only [piecesW.C, List.mem_cons, List.not_mem_nil, or_false, forall_eq_or_imp, forall_eq, false_imp_iff, implies_true]
  exact ⟨⟨asplit.ok, by kernel_rfl⟩, ⟨aPieces.ok, by kernel_rfl⟩, ⟨apulses.ok, by kernel_rfl⟩, ⟨wclo.ok, by kernel_rfl⟩⟩, fun g hg => by simp [piecesW.C] at hg, fun m hm => by simp [piecesW.C] at hm, fun q hq => by simp [piecesW.C] at hq⟩
theorem piecesW.aok (N : Nat) : AnnsOK (piecesW.K N) := by
  intro q hq
  simp only [piecesW.K, List.mem_cons, List.not_mem_nil, or_false] at hq
  subst hq
  exact fun _ _ => ⟨rfl, rfl⟩
theorem piecesW.ok : CallOK Try.prog 33 piecesW.spec :=
  callOK_of_sig (fn := Try.f33) (Cf := piecesW.C) (K := piecesW.K) (d := 0) (dec := piecesW.dec) (by kernel_rfl) (fun _ => rfl) piecesW.cok (fun _ q hq => by simp [piecesW.C] at hq) piecesW.aok
   (fun N L r h => (piecesW.F_eq N L).trans h) (by kernel_rfl) (fun _ => ⟨rfl, rfl⟩) (fun _ _ => ⟨rfl, rfl⟩)
noncomputable def swrite.sig : Eng.Sig := { args := [.at (.ptr 0 0), .at (.roi .i64 0), .at (.int .i64 0), .at (.int .i64 1), .at (.ptr 3 0)], n := 4, pre := [(0, .cells 6 [.full 1 false, .int .u64 2, .int .u64 3, .full 2 false, .int .i64 4, .int .i64 5]), (1, .ints true .u8 1), (2, .ints true .u8 2), (3, .cells 1 [.int .u32 6])], post := [(0, .cells 6 [.full 5 false, .int .u64 1, .int .u64 2, .full 6 false, .int .i64 3, .int .i64 4]), (1, .dead), (2, .dead), (3, .cells 1 [.int .u32 5]), (4, .ints true .i64 0), (5, .ints true .u8 1), (6, .ints true .u8 2)], m := 3, ret := .tup [(false, [.full 4 false]), (false, [.int .i64 0])] }
noncomputable def swrite.C (N : Nat) : Cfg := { P := Try.prog, N := N, RT := noRT, specs := [(33, piecesW.spec)], inl := [], hi := 4, mv := [] }
abbrev swrite.R : Type := Int × Int × Int × Int × Int × Int × List Int × List Int × List Int
def swrite.dec (L : Eng.Leaves) : swrite.R := (L.i 0, L.i 1, L.i 2, L.i 3, L.i 4, L.i 5, L.l 0, L.l 1, L.l 2)
def swrite.enc (r : swrite.R) : Eng.Leaves := mkL [r.1, r.2.1, r.2.2.1, r.2.2.2.1, r.2.2.2.2.1, r.2.2.2.2.2.1] [] [r.2.2.2.2.2.2.1, r.2.2.2.2.2.2.2.1, r.2.2.2.2.2.2.2.2] []
noncomputable def swrite.K (N : Nat) : FCfg := { anns := [], unr := [], lits := [], lets := [] }
noncomputable def swrite.F (N : Nat) (bits : Int) (eq : Int) (val : Int) (rng : Int) (rawBits : Int) (count : Int) (s_Seed : Int) (f : List Int) (told : List Int) (raw : List Int) : Option swrite.R :=
  (br (decide (↑f.length < (1 : Int)))
   (some (((1 : Int), val, rng, rawBits, count, s_Seed, ([] : List Int), told, raw)))
   (br (decide (↑f.length > (1000 : Int)))
   (some (((1 : Int), val, rng, rawBits, count, s_Seed, ([] : List Int), told, raw)))
   (br (decide (bits < (0 : Int)))
   (some (((1 : Int), val, rng, rawBits, count, s_Seed, ([] : List Int), told, raw)))
   (br (decide (bits > (1048576 : Int)))
   (some (((1 : Int), val, rng, rawBits, count, s_Seed, ([] : List Int), told, raw)))
   (obind (Rc.piecesW.F N (↑f.length) bits eq val rng rawBits count s_Seed f (([] : List Int)) told raw) fun r0 =>
   (some (((0 : Int), r0.fst, r0.snd.fst, r0.snd.snd.fst, r0.snd.snd.snd.fst, r0.snd.snd.snd.snd.fst, r0.snd.snd.snd.snd.snd.fst, r0.snd.snd.snd.snd.snd.snd.fst, r0.snd.snd.snd.snd.snd.snd.snd))))))))
theorem swrite.F_eq (N : Nat) (L : Eng.Leaves) : evSig (swrite.C N) (swrite.K N) 0 Try.f14 swrite.sig L swrite.dec = swrite.F N (L.i 0) (L.i 1) (L.i 2) (L.i 3) (L.i 4) (L.i 5) (L.i 6) (L.l 0) (L.l 1) (L.l 2) := by
  kernel_rfl
noncomputable def swrite.spec : Eng.Spec := swrite.sig.spec (fun N L => swrite.F N (L.i 0) (L.i 1) (L.i 2) (L.i 3) (L.i 4) (L.i 5) (L.i 6) (L.l 0) (L.l 1) (L.l 2)) swrite.enc
theorem swrite.cok (N : Nat) : CfgOK (swrite.C N) := ⟨fun _ _ _ _ h => by simp [swrite.C, noRT] at h, wide, by
  simp only [swrite.C, List.mem_cons, List.not_mem_nil, or_false, forall_eq_or_imp, forall_eq, false_imp_iff, implies_true]
  exact ⟨piecesW.ok, by kernel_rfl⟩, fun g hg => by simp [swrite.C] at hg, fun m hm => by simp [swrite.C] at hm, fun q hq => by simp [swrite.C] at hq⟩
theorem swrite.aok (N : Nat) : AnnsOK (swrite.K N) := by
  intro q hq
  simp only [swrite.K, List.mem_cons, List.not_mem_nil, or_false] at hq
theorem swrite.ok : CallOK Try.prog 14 swrite.spec :=
  callOK_of_sig (fn := Try.f14) (Cf := swrite.C) (K := swrite.K) (d := 0) (dec := swrite.dec) (by kernel_rfl) (fun _ => rfl) swrite.cok (fun _ q hq => by simp [swrite.C] at hq) swrite.aok
   (fun N L r h => (swrite.F_eq N L).trans h) (by kernel_rfl) (fun _ => ⟨rfl, rfl⟩) (fun _ _ => ⟨rfl, rfl⟩)
noncomputable def awake20.sig : Eng.Sig := { args := [], n := 0, pre := [], post := [], m := 0, ret := .at (.bool 0) }
noncomputable def awake20.C (N : Nat) : Cfg := { P := Try.prog, N := N, RT := noRT, specs := [(11, sfill.spec), (18, shush.spec), (15, enew.spec), (14, swrite.spec), (24, edone.spec), (13, new.spec), (12, sread.spec), (16, same20.spec)], inl := [], hi := 0, mv := [] }
abbrev awake20.R : Type := Bool
def awake20.dec (L : Eng.Leaves) : awake20.R := (L.b 0)
def awake20.enc (r : awake20.R) : Eng.Leaves := mkL [] [r] [] []
noncomputable def awake20.K (N : Nat) : FCfg := { anns := [], unr := [], lits := [], lets := [] }
noncomputable def awake20.F (N : Nat)  : Option awake20.R :=
  (obind (Rc.sfill.F N ((100 : Int)) ([(1 : Int), (0 : Int)])) fun r0 =>
   (obind (Rc.shush.F N ((2 : Int)) ((9 : Int)) ((0 : Int))) fun r1 =>
   (obind (Rc.enew.F N) fun r2 =>
   (obind (Rc.swrite.F N ((20 : Int)) ((20 : Int)) r2.fst r2.snd.fst r2.snd.snd.fst r2.snd.snd.snd.fst ((0 : Int)) ([(100 : Int), (-50 : Int), (3 : Int)]) r2.snd.snd.snd.snd.fst r2.snd.snd.snd.snd.snd) fun r3 =>
   (obind (Rc.edone.F N ((20 : Int)) r3.snd.fst r3.snd.snd.fst r3.snd.snd.snd.fst r3.snd.snd.snd.snd.fst r3.snd.snd.snd.snd.snd.snd.snd.fst r3.snd.snd.snd.snd.snd.snd.snd.snd) fun r4 =>
   (br (r3.fst != (0 : Int))
   (some false)
   (br (r4.fst != (0 : Int))
   (some false)
   (obind (Rc.new.F N r4.snd) fun r5 =>
   (obind (Rc.sread.F N ((3 : Int)) ((20 : Int)) ((20 : Int)) r5.fst r5.snd.fst r5.snd.snd.fst r5.snd.snd.snd.fst r5.snd.snd.snd.snd.fst r5.snd.snd.snd.snd.snd.fst r5.snd.snd.snd.snd.snd.snd.fst r5.snd.snd.snd.snd.snd.snd.snd.fst ((0 : Int)) r5.snd.snd.snd.snd.snd.snd.snd.snd.fst r5.snd.snd.snd.snd.snd.snd.snd.snd.snd) fun r6 =>
   (br (r0.fst == (0 : Int))
   (obind (Rc.same20.F N r0.snd ([(141 : Int), (0 : Int)])) fun r7 =>
   (br r7
   (obind (Rc.same20.F N r1.snd ([(5 : Int), (5 : Int)])) fun r8 =>
   (br r8
   (br (r6.fst == (0 : Int))
   (obind (Rc.same20.F N r3.snd.snd.snd.snd.snd.snd.fst r6.snd.snd.snd.snd.snd.snd.snd.snd.snd.snd.snd) fun r9 =>
   (br r9
   (br (↑r3.snd.snd.snd.snd.snd.snd.fst.length == (3 : Int))
   (chk ((0 : Int) ≤ (0 : Int) ∧ (0 : Int) < ↑r3.snd.snd.snd.snd.snd.snd.fst.length)
   (br (decide (r3.snd.snd.snd.snd.snd.snd.fst.getD (Int.toNat (0 : Int)) (0 : Int) > (0 : Int)))
   (chk ((0 : Int) ≤ (1 : Int) ∧ (1 : Int) < ↑r3.snd.snd.snd.snd.snd.snd.fst.length)
   (some (decide (r3.snd.snd.snd.snd.snd.snd.fst.getD (Int.toNat (1 : Int)) (0 : Int) < (0 : Int)))))
   (some false)))
   (some false))
   (some false)))
   (some false))
   (some false)))
   (some false)))
   (some false)))))))))))
theorem awake20.F_eq (N : Nat) (L : Eng.Leaves) : evSig (awake20.C N) (awake20.K N) 0 Try.f10 awake20.sig L awake20.dec = awake20.F N  := by
  kernel_rfl
noncomputable def awake20.spec : Eng.Spec := awake20.sig.spec (fun N L => awake20.F N ) awake20.enc
theorem awake20.cok (N : Nat) : CfgOK (awake20.C N) := ⟨fun _ _ _ _ h => by simp [awake20.C, noRT] at h, wide, by
  simp only [awake20.C, List.mem_cons, List.not_mem_nil, or_false, forall_eq_or_imp, forall_eq, false_imp_iff, implies_true]
  exact ⟨⟨sfill.ok, by kernel_rfl⟩, ⟨shush.ok, by kernel_rfl⟩, ⟨enew.ok, by kernel_rfl⟩, ⟨swrite.ok, by kernel_rfl⟩, ⟨edone.ok, by kernel_rfl⟩, ⟨new.ok, by kernel_rfl⟩, ⟨sread.ok, by kernel_rfl⟩, ⟨same20.ok, by kernel_rfl⟩⟩, fun g hg => by simp [awake20.C] at hg, fun m hm => by simp [awake20.C] at hm, fun q hq => by simp [awake20.C] at hq⟩
theorem awake20.aok (N : Nat) : AnnsOK (awake20.K N) := by
  intro q hq
  simp only [awake20.K, List.mem_cons, List.not_mem_nil, or_false] at hq
theorem awake20.ok : CallOK Try.prog 10 awake20.spec :=
  callOK_of_sig (fn := Try.f10) (Cf := awake20.C) (K := awake20.K) (d := 0) (dec := awake20.dec) (by kernel_rfl) (fun _ => rfl) awake20.cok (fun _ q hq => by simp [awake20.C] at hq) awake20.aok
   (fun N L r h => (awake20.F_eq N L).trans h) (by kernel_rfl) (fun _ => ⟨rfl, rfl⟩) (fun _ _ => ⟨rfl, rfl⟩)
end Go.Proofs.Rc
