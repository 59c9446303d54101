/-
  Functions of the program: what each comes to, and its contract (written by a program).
  Conditions: none: each contract is proved for every input of its shape.
-/
import Derived.Test.YtghbobmkkbdhpaaGreatEngRegToEngWords
import Derived.Laws.Externs
import Derived.Test.YtghbobmkkbdhpaaGreatProg
set_option linter.unusedVariables false
set_option linter.unusedSimpArgs false
namespace Go.Proofs.Rc
noncomputable section
open Go.Eng
set_option maxRecDepth 100000
theorem wide : Tryz.prog.follows .mixedOrders = true := by kernel_rfl
def next.sig : Eng.Sig := { args := [.at (.ptr 0 0)], n := 2, pre := [(0, .cells 10 [.full 1 false, .int .u64 0, .int .u64 1, .int .u64 2, .int .i64 3, .int .i64 4, .int .u64 5, .int .i64 6, .int .i64 7, .bool 0]), (1, .ints false .u8 0)], post := [(0, .cells 10 [.full 1 false, .fint .u64 0, .fint .u64 1, .fint .u64 2, .int .i64 1, .fint .i64 4, .fint .u64 5, .fint .i64 6, .fint .i64 7, .fbool 0]), (1, .fints false .u8 0)], m := 0, ret := .at (.int .u64 0) }
def next.C (N : Nat) : Cfg := { P := Tryz.prog, N := N, RT := noRT, specs := [], inl := [], hi := 2, mv := [] }
abbrev next.R : Type := Int × Int
def next.dec (L : Eng.Leaves) : next.R := (L.i 0, L.i 1)
def next.enc (r : next.R) : Eng.Leaves := mkL [r.1, r.2] [] [] []
def next.K (N : Nat) : FCfg := { anns := [], unr := [], lits := [], lets := [] }
def next.F (N : Nat) (rng val last front back window waiting count : Int) (bad : Bool) (b : List Int) : Option next.R :=
  (br (decide (front ≥ ↑b.length))
  (chkI rng rng
  (chkI val val
  (chkI last last
  (chkI back back
  (chkI window window
  (chkI waiting waiting
  (chkI count count
  (chkB bad bad
  (chkL b b
  (some (((0 : Int), front))))))))))))
  (chk ((0 : Int) ≤ IntKind.i64.wrap (IntKind.i64.wrap (front + (1 : Int)) - (1 : Int)) ∧ IntKind.i64.wrap (IntKind.i64.wrap (front + (1 : Int)) - (1 : Int)) < ↑b.length)
  (chkI rng rng
  (chkI val val
  (chkI last last
  (chkI back back
  (chkI window window
  (chkI waiting waiting
  (chkI count count
  (chkB bad bad
  (chkL b b
  (some ((IntKind.u64.wrap (b.getD (IntKind.i64.wrap (IntKind.i64.wrap (front + (1 : Int)) - (1 : Int))).toNat (0 : Int)), IntKind.i64.wrap (front + (1 : Int))))))))))))))))
theorem next.F_eq (N : Nat) (L : Eng.Leaves) : evSig (next.C N) (next.K N) 0 Tryz.f51 next.sig L next.dec = next.F N (L.i 0) (L.i 1) (L.i 2) (L.i 3) (L.i 4) (L.i 5) (L.i 6) (L.i 7) (L.b 0) (L.l 0) := by
  kernel_rfl
def next.spec : Eng.Spec := next.sig.spec (fun N L => next.F N (L.i 0) (L.i 1) (L.i 2) (L.i 3) (L.i 4) (L.i 5) (L.i 6) (L.i 7) (L.b 0) (L.l 0)) next.enc
theorem next.cok (N : Nat) : CfgOK (next.C N) := cok0 wide trivial (by kernel_rfl) rfl rfl rfl rfl
theorem next.aok (N : Nat) : AnnsOK (next.K N) := aok1 trivial
theorem next.ok : CallOK Tryz.prog 51 next.spec := ok0 next.cok (fun _ => iok0 rfl) next.aok next.F_eq (by kernel_rfl) (by kernel_rfl) (fun _ => rfl) (fun _ => ⟨rfl, rfl⟩) fun _ _ => ⟨rfl, rfl⟩
def norm.sig : Eng.Sig := { args := [.at (.ptr 0 0)], n := 2, pre := [(0, .cells 10 [.full 1 false, .int .u64 0, .int .u64 1, .int .u64 2, .int .i64 3, .int .i64 4, .int .u64 5, .int .i64 6, .int .i64 7, .bool 0]), (1, .ints false .u8 0)], post := [(0, .cells 10 [.full 1 false, .int .u64 0, .int .u64 1, .int .u64 2, .int .i64 3, .fint .i64 4, .fint .u64 5, .fint .i64 6, .int .i64 4, .fbool 0]), (1, .fints false .u8 0)], m := 0, ret := .at (.unk) }
def norm.C (N : Nat) : Cfg := { P := Tryz.prog, N := N, RT := noRT, specs := [(51, next.spec)], inl := [], hi := 2, mv := [] }
abbrev norm.R : Type := Int × Int × Int × Int × Int
def norm.dec (L : Eng.Leaves) : norm.R := (L.i 0, L.i 1, L.i 2, L.i 3, L.i 4)
def norm.enc (r : norm.R) : Eng.Leaves := mkL [r.1, r.2.1, r.2.2.1, r.2.2.2.1, r.2.2.2.2] [] [] []
abbrev norm.loop0.R : Type := Int × Int × Int × Int × Int
def norm.loop0.ann : Ann := { nx := 20, slots := [(0, .at (.ptr 0 0))], blks := [(0, .cells 10 [.full 1 false, .int .u64 0, .int .u64 1, .int .u64 2, .int .i64 3, .fint .i64 0, .fint .u64 1, .fint .i64 2, .int .i64 4, .fbool 0]), (1, .fints false .u8 0)], mov := [], exId := 0, xslots := [(0, .at (.ptr 0 0))], xblks := [(0, .cells 10 [.full 1 false, .int .u64 0, .int .u64 1, .int .u64 2, .int .i64 3, .fint .i64 0, .fint .u64 1, .fint .i64 2, .int .i64 4, .fbool 0]), (1, .fints false .u8 0)], T := norm.loop0.R, dec := fun L => (L.i 0, L.i 1, L.i 2, L.i 3, L.i 4), enc := fun r => mkL [r.1, r.2.1, r.2.2.1, r.2.2.2.1, r.2.2.2.2] [] [] [], ret := false }
def norm.K (N : Nat) : FCfg := { anns := [(0, norm.loop0.ann)], unr := [], lits := [], lets := [] }
def norm.loop0 (N : Nat) : Nat → Int → Int → Int → Bool → List Int → Int → Int → Int → Int → Int → Option norm.loop0.R
  | 0, _, _, _, _, _, _, _, _, _, _ => none
  | nn + 1, back, window, waiting, bad, b, rng, val, last, front, count =>
  (br (decide (rng ≤ (8388608 : Int)))
  (obind (Rc.next.F N (IntKind.u64.wrap (rng * (2 : Int) ^ min (Int.toNat (8 : Int)) IntKind.u64.bits)) val last front back window waiting (IntKind.i64.wrap (count + (8 : Int))) bad b) fun r0 =>
  (chkI back back
  (chkI window window
  (chkI waiting waiting
  (chkB bad bad
  (chkL b b
  (norm.loop0 N nn back window waiting bad b (IntKind.u64.wrap (rng * (2 : Int) ^ min (Int.toNat (8 : Int)) IntKind.u64.bits)) (IntKind.u64.wrap ↑(BitVec.ofInt IntKind.u64.bits (IntKind.u64.wrap (IntKind.u64.wrap (IntKind.u64.wrap (val * (2 : Int) ^ min (Int.toNat (8 : Int)) IntKind.u64.bits) + (255 : Int)) - IntKind.u64.wrap ↑(BitVec.ofInt IntKind.u64.bits ((IntKind.u64.wrap ↑(BitVec.ofInt IntKind.u64.bits (IntKind.u64.wrap (last * (2 : Int) ^ min (Int.toNat (8 : Int)) IntKind.u64.bits)) ||| BitVec.ofInt IntKind.u64.bits r0.1).toNat).fdiv ((2 : Int) ^ min (Int.toNat (1 : Int)) IntKind.u64.bits)) &&& BitVec.ofInt IntKind.u64.bits (255 : Int)).toNat)) &&& BitVec.ofInt IntKind.u64.bits (2147483647 : Int)).toNat) r0.1 r0.2 (IntKind.i64.wrap (count + (8 : Int))))))))))
  (chkI back back
  (chkI window window
  (chkI waiting waiting
  (chkB bad bad
  (chkL b b
  (some ((rng, val, last, front, count)))))))))
def norm.loop0R (N nn : Nat) (back window waiting : Int) (bad : Bool) (b : List Int) (rng val last front count : Int) : Option norm.loop0.R := loopF norm.loop0.ann (mkL [back, window, waiting] [bad] [b] []) (evCode ((norm.C N).inLoop norm.loop0.ann) (norm.K N) (inlTab (norm.C N) 0) (bodyAt 0 Tryz.f52)) nn (mkL [rng, val, last, front, count] [] [] [])
theorem norm.loop0_eq (N : Nat) : ∀ nn, norm.loop0R N nn = norm.loop0 N nn
  | 0 => by funext; kernel_rfl
  | nn + 1 => by
    funext; rw [norm.loop0, ← norm.loop0_eq N nn]; kernel_rfl
def norm.F (N : Nat) (rng val last front back window waiting count : Int) (bad : Bool) (b : List Int) : Option norm.R :=
  (obind (norm.loop0 N N back window waiting bad b rng val last front count) fun r0 =>
  (chkI back back
  (chkI window window
  (chkI waiting waiting
  (chkB bad bad
  (chkL b b
  (some ((r0.1, r0.2.1, r0.2.2.1, r0.2.2.2.1, r0.2.2.2.2)))))))))
theorem norm.F_eq (N : Nat) (L : Eng.Leaves) : evSig (norm.C N) (norm.K N) 0 Tryz.f52 norm.sig L norm.dec = norm.F N (L.i 0) (L.i 1) (L.i 2) (L.i 3) (L.i 4) (L.i 5) (L.i 6) (L.i 7) (L.b 0) (L.l 0) := by
  rw [norm.F, ← funext (norm.loop0_eq N)]; kernel_rfl
def norm.spec : Eng.Spec := norm.sig.spec (fun N L => norm.F N (L.i 0) (L.i 1) (L.i 2) (L.i 3) (L.i 4) (L.i 5) (L.i 6) (L.i 7) (L.b 0) (L.l 0)) norm.enc
theorem norm.cok (N : Nat) : CfgOK (norm.C N) := cok0 wide ⟨next.ok, trivial⟩ (by kernel_rfl) rfl rfl rfl rfl
theorem norm.aok (N : Nat) : AnnsOK (norm.K N) := aok1 ⟨fun _ _ => ⟨rfl, rfl⟩, trivial⟩
theorem norm.ok : CallOK Tryz.prog 52 norm.spec := ok0 norm.cok (fun _ => iok0 rfl) norm.aok norm.F_eq (by kernel_rfl) (by kernel_rfl) (fun _ => rfl) (fun _ => ⟨rfl, rfl⟩) fun _ _ => ⟨rfl, rfl⟩
def len64.sig : Eng.Sig := { args := [.at (.int .u64 0)], n := 0, pre := [], post := [], m := 0, ret := .at (.int .i64 0) }
def len64.C (N : Nat) : Cfg := { P := Tryz.prog, N := N, RT := noRT, specs := [], inl := [], hi := 0, mv := [] }
abbrev len64.R : Type := Int
def len64.dec (L : Eng.Leaves) : len64.R := (L.i 0)
def len64.enc (r : len64.R) : Eng.Leaves := mkL [r] [] [] []
def len64.K (N : Nat) : FCfg := { anns := [], unr := [], lits := [], lets := [] }
def len64.F (N : Nat) (x : Int) : Option len64.R :=
  (br (decide (x ≥ (4294967296 : Int)))
  (br (decide (x.fdiv ((2 : Int) ^ min (Int.toNat (32 : Int)) IntKind.u64.bits) ≥ (65536 : Int)))
  (br (decide ((x.fdiv ((2 : Int) ^ min (Int.toNat (32 : Int)) IntKind.u64.bits)).fdiv ((2 : Int) ^ min (Int.toNat (16 : Int)) IntKind.u64.bits) ≥ (256 : Int)))
  (chk ((0 : Int) ≤ IntKind.u8.wrap (((x.fdiv ((2 : Int) ^ min (Int.toNat (32 : Int)) IntKind.u64.bits)).fdiv ((2 : Int) ^ min (Int.toNat (16 : Int)) IntKind.u64.bits)).fdiv ((2 : Int) ^ min (Int.toNat (8 : Int)) IntKind.u64.bits)) ∧ IntKind.u8.wrap (((x.fdiv ((2 : Int) ^ min (Int.toNat (32 : Int)) IntKind.u64.bits)).fdiv ((2 : Int) ^ min (Int.toNat (16 : Int)) IntKind.u64.bits)).fdiv ((2 : Int) ^ min (Int.toNat (8 : Int)) IntKind.u64.bits)) < ↑(256 : Nat))
  (some (IntKind.i64.wrap (IntKind.i64.wrap (IntKind.i64.wrap ((32 : Int) + (16 : Int)) + (8 : Int)) + IntKind.i64.wrap ([(0 : Int), (1 : Int), (2 : Int), (2 : Int), (3 : Int), (3 : Int), (3 : Int), (3 : Int), (4 : Int), (4 : Int), (4 : Int), (4 : Int), (4 : Int), (4 : Int), (4 : Int), (4 : Int), (5 : Int), (5 : Int), (5 : Int), (5 : Int), (5 : Int), (5 : Int), (5 : Int), (5 : Int), (5 : Int), (5 : Int), (5 : Int), (5 : Int), (5 : Int), (5 : Int), (5 : Int), (5 : Int), (6 : Int), (6 : Int), (6 : Int), (6 : Int), (6 : Int), (6 : Int), (6 : Int), (6 : Int), (6 : Int), (6 : Int), (6 : Int), (6 : Int), (6 : Int), (6 : Int), (6 : Int), (6 : Int), (6 : Int), (6 : Int), (6 : Int), (6 : Int), (6 : Int), (6 : Int), (6 : Int), (6 : Int), (6 : Int), (6 : Int), (6 : Int), (6 : Int), (6 : Int), (6 : Int), (6 : Int), (6 : Int), (7 : Int), (7 : Int), (7 : Int), (7 : Int), (7 : Int), (7 : Int), (7 : Int), (7 : Int), (7 : Int), (7 : Int), (7 : Int), (7 : Int), (7 : Int), (7 : Int), (7 : Int), (7 : Int), (7 : Int), (7 : Int), (7 : Int), (7 : Int), (7 : Int), (7 : Int), (7 : Int), (7 : Int), (7 : Int), (7 : Int), (7 : Int), (7 : Int), (7 : Int), (7 : Int), (7 : Int), (7 : Int), (7 : Int), (7 : Int), (7 : Int), (7 : Int), (7 : Int), (7 : Int), (7 : Int), (7 : Int), (7 : Int), (7 : Int), (7 : Int), (7 : Int), (7 : Int), (7 : Int), (7 : Int), (7 : Int), (7 : Int), (7 : Int), (7 : Int), (7 : Int), (7 : Int), (7 : Int), (7 : Int), (7 : Int), (7 : Int), (7 : Int), (7 : Int), (7 : Int), (7 : Int), (7 : Int), (7 : Int), (7 : Int), (8 : Int), (8 : Int), (8 : Int), (8 : Int), (8 : Int), (8 : Int), (8 : Int), (8 : Int), (8 : Int), (8 : Int), (8 : Int), (8 : Int), (8 : Int), (8 : Int), (8 : Int), (8 : Int), (8 : Int), (8 : Int), (8 : Int), (8 : Int), (8 : Int), (8 : Int), (8 : Int), (8 : Int), (8 : Int), (8 : Int), (8 : Int), (8 : Int), (8 : Int), (8 : Int), (8 : Int), (8 : Int), (8 : Int), (8 : Int), (8 : Int), (8 : Int), (8 : Int), (8 : Int), (8 : Int), (8 : Int), (8 : Int), (8 : Int), (8 : Int), (8 : Int), (8 : Int), (8 : Int), (8 : Int), (8 : Int), (8 : Int), (8 : Int), (8 : Int), (8 : Int), (8 : Int), (8 : Int), (8 : Int), (8 : Int), (8 : Int), (8 : Int), (8 : Int), (8 : Int), (8 : Int), (8 : Int), (8 : Int), (8 : Int), (8 : Int), (8 : Int), (8 : Int), (8 : Int), (8 : Int), (8 : Int), (8 : Int), (8 : Int), (8 : Int), (8 : Int), (8 : Int), (8 : Int), (8 : Int), (8 : Int), (8 : Int), (8 : Int), (8 : Int), (8 : Int), (8 : Int), (8 : Int), (8 : Int), (8 : Int), (8 : Int), (8 : Int), (8 : Int), (8 : Int), (8 : Int), (8 : Int), (8 : Int), (8 : Int), (8 : Int), (8 : Int), (8 : Int), (8 : Int), (8 : Int), (8 : Int), (8 : Int), (8 : Int), (8 : Int), (8 : Int), (8 : Int), (8 : Int), (8 : Int), (8 : Int), (8 : Int), (8 : Int), (8 : Int), (8 : Int), (8 : Int), (8 : Int), (8 : Int), (8 : Int), (8 : Int), (8 : Int), (8 : Int), (8 : Int), (8 : Int), (8 : Int), (8 : Int), (8 : Int), (8 : Int), (8 : Int), (8 : Int), (8 : Int)].getD (IntKind.u8.wrap (((x.fdiv ((2 : Int) ^ min (Int.toNat (32 : Int)) IntKind.u64.bits)).fdiv ((2 : Int) ^ min (Int.toNat (16 : Int)) IntKind.u64.bits)).fdiv ((2 : Int) ^ min (Int.toNat (8 : Int)) IntKind.u64.bits))).toNat (0 : Int))))))
  (chk ((0 : Int) ≤ IntKind.u8.wrap ((x.fdiv ((2 : Int) ^ min (Int.toNat (32 : Int)) IntKind.u64.bits)).fdiv ((2 : Int) ^ min (Int.toNat (16 : Int)) IntKind.u64.bits)) ∧ IntKind.u8.wrap ((x.fdiv ((2 : Int) ^ min (Int.toNat (32 : Int)) IntKind.u64.bits)).fdiv ((2 : Int) ^ min (Int.toNat (16 : Int)) IntKind.u64.bits)) < ↑(256 : Nat))
  (some (IntKind.i64.wrap (IntKind.i64.wrap ((32 : Int) + (16 : Int)) + IntKind.i64.wrap ([(0 : Int), (1 : Int), (2 : Int), (2 : Int), (3 : Int), (3 : Int), (3 : Int), (3 : Int), (4 : Int), (4 : Int), (4 : Int), (4 : Int), (4 : Int), (4 : Int), (4 : Int), (4 : Int), (5 : Int), (5 : Int), (5 : Int), (5 : Int), (5 : Int), (5 : Int), (5 : Int), (5 : Int), (5 : Int), (5 : Int), (5 : Int), (5 : Int), (5 : Int), (5 : Int), (5 : Int), (5 : Int), (6 : Int), (6 : Int), (6 : Int), (6 : Int), (6 : Int), (6 : Int), (6 : Int), (6 : Int), (6 : Int), (6 : Int), (6 : Int), (6 : Int), (6 : Int), (6 : Int), (6 : Int), (6 : Int), (6 : Int), (6 : Int), (6 : Int), (6 : Int), (6 : Int), (6 : Int), (6 : Int), (6 : Int), (6 : Int), (6 : Int), (6 : Int), (6 : Int), (6 : Int), (6 : Int), (6 : Int), (6 : Int), (7 : Int), (7 : Int), (7 : Int), (7 : Int), (7 : Int), (7 : Int), (7 : Int), (7 : Int), (7 : Int), (7 : Int), (7 : Int), (7 : Int), (7 : Int), (7 : Int), (7 : Int), (7 : Int), (7 : Int), (7 : Int), (7 : Int), (7 : Int), (7 : Int), (7 : Int), (7 : Int), (7 : Int), (7 : Int), (7 : Int), (7 : Int), (7 : Int), (7 : Int), (7 : Int), (7 : Int), (7 : Int), (7 : Int), (7 : Int), (7 : Int), (7 : Int), (7 : Int), (7 : Int), (7 : Int), (7 : Int), (7 : Int), (7 : Int), (7 : Int), (7 : Int), (7 : Int), (7 : Int), (7 : Int), (7 : Int), (7 : Int), (7 : Int), (7 : Int), (7 : Int), (7 : Int), (7 : Int), (7 : Int), (7 : Int), (7 : Int), (7 : Int), (7 : Int), (7 : Int), (7 : Int), (7 : Int), (7 : Int), (7 : Int), (8 : Int), (8 : Int), (8 : Int), (8 : Int), (8 : Int), (8 : Int), (8 : Int), (8 : Int), (8 : Int), (8 : Int), (8 : Int), (8 : Int), (8 : Int), (8 : Int), (8 : Int), (8 : Int), (8 : Int), (8 : Int), (8 : Int), (8 : Int), (8 : Int), (8 : Int), (8 : Int), (8 : Int), (8 : Int), (8 : Int), (8 : Int), (8 : Int), (8 : Int), (8 : Int), (8 : Int), (8 : Int), (8 : Int), (8 : Int), (8 : Int), (8 : Int), (8 : Int), (8 : Int), (8 : Int), (8 : Int), (8 : Int), (8 : Int), (8 : Int), (8 : Int), (8 : Int), (8 : Int), (8 : Int), (8 : Int), (8 : Int), (8 : Int), (8 : Int), (8 : Int), (8 : Int), (8 : Int), (8 : Int), (8 : Int), (8 : Int), (8 : Int), (8 : Int), (8 : Int), (8 : Int), (8 : Int), (8 : Int), (8 : Int), (8 : Int), (8 : Int), (8 : Int), (8 : Int), (8 : Int), (8 : Int), (8 : Int), (8 : Int), (8 : Int), (8 : Int), (8 : Int), (8 : Int), (8 : Int), (8 : Int), (8 : Int), (8 : Int), (8 : Int), (8 : Int), (8 : Int), (8 : Int), (8 : Int), (8 : Int), (8 : Int), (8 : Int), (8 : Int), (8 : Int), (8 : Int), (8 : Int), (8 : Int), (8 : Int), (8 : Int), (8 : Int), (8 : Int), (8 : Int), (8 : Int), (8 : Int), (8 : Int), (8 : Int), (8 : Int), (8 : Int), (8 : Int), (8 : Int), (8 : Int), (8 : Int), (8 : Int), (8 : Int), (8 : Int), (8 : Int), (8 : Int), (8 : Int), (8 : Int), (8 : Int), (8 : Int), (8 : Int), (8 : Int), (8 : Int), (8 : Int), (8 : Int), (8 : Int), (8 : Int), (8 : Int), (8 : Int), (8 : Int), (8 : Int)].getD (IntKind.u8.wrap ((x.fdiv ((2 : Int) ^ min (Int.toNat (32 : Int)) IntKind.u64.bits)).fdiv ((2 : Int) ^ min (Int.toNat (16 : Int)) IntKind.u64.bits))).toNat (0 : Int)))))))
  (br (decide (x.fdiv ((2 : Int) ^ min (Int.toNat (32 : Int)) IntKind.u64.bits) ≥ (256 : Int)))
  (chk ((0 : Int) ≤ IntKind.u8.wrap ((x.fdiv ((2 : Int) ^ min (Int.toNat (32 : Int)) IntKind.u64.bits)).fdiv ((2 : Int) ^ min (Int.toNat (8 : Int)) IntKind.u64.bits)) ∧ IntKind.u8.wrap ((x.fdiv ((2 : Int) ^ min (Int.toNat (32 : Int)) IntKind.u64.bits)).fdiv ((2 : Int) ^ min (Int.toNat (8 : Int)) IntKind.u64.bits)) < ↑(256 : Nat))
  (some (IntKind.i64.wrap (IntKind.i64.wrap ((32 : Int) + (8 : Int)) + IntKind.i64.wrap ([(0 : Int), (1 : Int), (2 : Int), (2 : Int), (3 : Int), (3 : Int), (3 : Int), (3 : Int), (4 : Int), (4 : Int), (4 : Int), (4 : Int), (4 : Int), (4 : Int), (4 : Int), (4 : Int), (5 : Int), (5 : Int), (5 : Int), (5 : Int), (5 : Int), (5 : Int), (5 : Int), (5 : Int), (5 : Int), (5 : Int), (5 : Int), (5 : Int), (5 : Int), (5 : Int), (5 : Int), (5 : Int), (6 : Int), (6 : Int), (6 : Int), (6 : Int), (6 : Int), (6 : Int), (6 : Int), (6 : Int), (6 : Int), (6 : Int), (6 : Int), (6 : Int), (6 : Int), (6 : Int), (6 : Int), (6 : Int), (6 : Int), (6 : Int), (6 : Int), (6 : Int), (6 : Int), (6 : Int), (6 : Int), (6 : Int), (6 : Int), (6 : Int), (6 : Int), (6 : Int), (6 : Int), (6 : Int), (6 : Int), (6 : Int), (7 : Int), (7 : Int), (7 : Int), (7 : Int), (7 : Int), (7 : Int), (7 : Int), (7 : Int), (7 : Int), (7 : Int), (7 : Int), (7 : Int), (7 : Int), (7 : Int), (7 : Int), (7 : Int), (7 : Int), (7 : Int), (7 : Int), (7 : Int), (7 : Int), (7 : Int), (7 : Int), (7 : Int), (7 : Int), (7 : Int), (7 : Int), (7 : Int), (7 : Int), (7 : Int), (7 : Int), (7 : Int), (7 : Int), (7 : Int), (7 : Int), (7 : Int), (7 : Int), (7 : Int), (7 : Int), (7 : Int), (7 : Int), (7 : Int), (7 : Int), (7 : Int), (7 : Int), (7 : Int), (7 : Int), (7 : Int), (7 : Int), (7 : Int), (7 : Int), (7 : Int), (7 : Int), (7 : Int), (7 : Int), (7 : Int), (7 : Int), (7 : Int), (7 : Int), (7 : Int), (7 : Int), (7 : Int), (7 : Int), (7 : Int), (8 : Int), (8 : Int), (8 : Int), (8 : Int), (8 : Int), (8 : Int), (8 : Int), (8 : Int), (8 : Int), (8 : Int), (8 : Int), (8 : Int), (8 : Int), (8 : Int), (8 : Int), (8 : Int), (8 : Int), (8 : Int), (8 : Int), (8 : Int), (8 : Int), (8 : Int), (8 : Int), (8 : Int), (8 : Int), (8 : Int), (8 : Int), (8 : Int), (8 : Int), (8 : Int), (8 : Int), (8 : Int), (8 : Int), (8 : Int), (8 : Int), (8 : Int), (8 : Int), (8 : Int), (8 : Int), (8 : Int), (8 : Int), (8 : Int), (8 : Int), (8 : Int), (8 : Int), (8 : Int), (8 : Int), (8 : Int), (8 : Int), (8 : Int), (8 : Int), (8 : Int), (8 : Int), (8 : Int), (8 : Int), (8 : Int), (8 : Int), (8 : Int), (8 : Int), (8 : Int), (8 : Int), (8 : Int), (8 : Int), (8 : Int), (8 : Int), (8 : Int), (8 : Int), (8 : Int), (8 : Int), (8 : Int), (8 : Int), (8 : Int), (8 : Int), (8 : Int), (8 : Int), (8 : Int), (8 : Int), (8 : Int), (8 : Int), (8 : Int), (8 : Int), (8 : Int), (8 : Int), (8 : Int), (8 : Int), (8 : Int), (8 : Int), (8 : Int), (8 : Int), (8 : Int), (8 : Int), (8 : Int), (8 : Int), (8 : Int), (8 : Int), (8 : Int), (8 : Int), (8 : Int), (8 : Int), (8 : Int), (8 : Int), (8 : Int), (8 : Int), (8 : Int), (8 : Int), (8 : Int), (8 : Int), (8 : Int), (8 : Int), (8 : Int), (8 : Int), (8 : Int), (8 : Int), (8 : Int), (8 : Int), (8 : Int), (8 : Int), (8 : Int), (8 : Int), (8 : Int), (8 : Int), (8 : Int), (8 : Int), (8 : Int), (8 : Int), (8 : Int), (8 : Int), (8 : Int)].getD (IntKind.u8.wrap ((x.fdiv ((2 : Int) ^ min (Int.toNat (32 : Int)) IntKind.u64.bits)).fdiv ((2 : Int) ^ min (Int.toNat (8 : Int)) IntKind.u64.bits))).toNat (0 : Int))))))
  (chk ((0 : Int) ≤ IntKind.u8.wrap (x.fdiv ((2 : Int) ^ min (Int.toNat (32 : Int)) IntKind.u64.bits)) ∧ IntKind.u8.wrap (x.fdiv ((2 : Int) ^ min (Int.toNat (32 : Int)) IntKind.u64.bits)) < ↑(256 : Nat))
  (some (IntKind.i64.wrap ((32 : Int) + IntKind.i64.wrap ([(0 : Int), (1 : Int), (2 : Int), (2 : Int), (3 : Int), (3 : Int), (3 : Int), (3 : Int), (4 : Int), (4 : Int), (4 : Int), (4 : Int), (4 : Int), (4 : Int), (4 : Int), (4 : Int), (5 : Int), (5 : Int), (5 : Int), (5 : Int), (5 : Int), (5 : Int), (5 : Int), (5 : Int), (5 : Int), (5 : Int), (5 : Int), (5 : Int), (5 : Int), (5 : Int), (5 : Int), (5 : Int), (6 : Int), (6 : Int), (6 : Int), (6 : Int), (6 : Int), (6 : Int), (6 : Int), (6 : Int), (6 : Int), (6 : Int), (6 : Int), (6 : Int), (6 : Int), (6 : Int), (6 : Int), (6 : Int), (6 : Int), (6 : Int), (6 : Int), (6 : Int), (6 : Int), (6 : Int), (6 : Int), (6 : Int), (6 : Int), (6 : Int), (6 : Int), (6 : Int), (6 : Int), (6 : Int), (6 : Int), (6 : Int), (7 : Int), (7 : Int), (7 : Int), (7 : Int), (7 : Int), (7 : Int), (7 : Int), (7 : Int), (7 : Int), (7 : Int), (7 : Int), (7 : Int), (7 : Int), (7 : Int), (7 : Int), (7 : Int), (7 : Int), (7 : Int), (7 : Int), (7 : Int), (7 : Int), (7 : Int), (7 : Int), (7 : Int), (7 : Int), (7 : Int), (7 : Int), (7 : Int), (7 : Int), (7 : Int), (7 : Int), (7 : Int), (7 : Int), (7 : Int), (7 : Int), (7 : Int), (7 : Int), (7 : Int), (7 : Int), (7 : Int), (7 : Int), (7 : Int), (7 : Int), (7 : Int), (7 : Int), (7 : Int), (7 : Int), (7 : Int), (7 : Int), (7 : Int), (7 : Int), (7 : Int), (7 : Int), (7 : Int), (7 : Int), (7 : Int), (7 : Int), (7 : Int), (7 : Int), (7 : Int), (7 : Int), (7 : Int), (7 : Int), (7 : Int), (8 : Int), (8 : Int), (8 : Int), (8 : Int), (8 : Int), (8 : Int), (8 : Int), (8 : Int), (8 : Int), (8 : Int), (8 : Int), (8 : Int), (8 : Int), (8 : Int), (8 : Int), (8 : Int), (8 : Int), (8 : Int), (8 : Int), (8 : Int), (8 : Int), (8 : Int), (8 : Int), (8 : Int), (8 : Int), (8 : Int), (8 : Int), (8 : Int), (8 : Int), (8 : Int), (8 : Int), (8 : Int), (8 : Int), (8 : Int), (8 : Int), (8 : Int), (8 : Int), (8 : Int), (8 : Int), (8 : Int), (8 : Int), (8 : Int), (8 : Int), (8 : Int), (8 : Int), (8 : Int), (8 : Int), (8 : Int), (8 : Int), (8 : Int), (8 : Int), (8 : Int), (8 : Int), (8 : Int), (8 : Int), (8 : Int), (8 : Int), (8 : Int), (8 : Int), (8 : Int), (8 : Int), (8 : Int), (8 : Int), (8 : Int), (8 : Int), (8 : Int), (8 : Int), (8 : Int), (8 : Int), (8 : Int), (8 : Int), (8 : Int), (8 : Int), (8 : Int), (8 : Int), (8 : Int), (8 : Int), (8 : Int), (8 : Int), (8 : Int), (8 : Int), (8 : Int), (8 : Int), (8 : Int), (8 : Int), (8 : Int), (8 : Int), (8 : Int), (8 : Int), (8 : Int), (8 : Int), (8 : Int), (8 : Int), (8 : Int), (8 : Int), (8 : Int), (8 : Int), (8 : Int), (8 : Int), (8 : Int), (8 : Int), (8 : Int), (8 : Int), (8 : Int), (8 : Int), (8 : Int), (8 : Int), (8 : Int), (8 : Int), (8 : Int), (8 : Int), (8 : Int), (8 : Int), (8 : Int), (8 : Int), (8 : Int), (8 : Int), (8 : Int), (8 : Int), (8 : Int), (8 : Int), (8 : Int), (8 : Int), (8 : Int), (8 : Int), (8 : Int), (8 : Int), (8 : Int)].getD (IntKind.u8.wrap (x.fdiv ((2 : Int) ^ min (Int.toNat (32 : Int)) IntKind.u64.bits))).toNat (0 : Int))))))))
  (br (decide (x ≥ (65536 : Int)))
  (br (decide (x.fdiv ((2 : Int) ^ min (Int.toNat (16 : Int)) IntKind.u64.bits) ≥ (256 : Int)))
  (chk ((0 : Int) ≤ IntKind.u8.wrap ((x.fdiv ((2 : Int) ^ min (Int.toNat (16 : Int)) IntKind.u64.bits)).fdiv ((2 : Int) ^ min (Int.toNat (8 : Int)) IntKind.u64.bits)) ∧ IntKind.u8.wrap ((x.fdiv ((2 : Int) ^ min (Int.toNat (16 : Int)) IntKind.u64.bits)).fdiv ((2 : Int) ^ min (Int.toNat (8 : Int)) IntKind.u64.bits)) < ↑(256 : Nat))
  (some (IntKind.i64.wrap (IntKind.i64.wrap (IntKind.i64.wrap ((0 : Int) + (16 : Int)) + (8 : Int)) + IntKind.i64.wrap ([(0 : Int), (1 : Int), (2 : Int), (2 : Int), (3 : Int), (3 : Int), (3 : Int), (3 : Int), (4 : Int), (4 : Int), (4 : Int), (4 : Int), (4 : Int), (4 : Int), (4 : Int), (4 : Int), (5 : Int), (5 : Int), (5 : Int), (5 : Int), (5 : Int), (5 : Int), (5 : Int), (5 : Int), (5 : Int), (5 : Int), (5 : Int), (5 : Int), (5 : Int), (5 : Int), (5 : Int), (5 : Int), (6 : Int), (6 : Int), (6 : Int), (6 : Int), (6 : Int), (6 : Int), (6 : Int), (6 : Int), (6 : Int), (6 : Int), (6 : Int), (6 : Int), (6 : Int), (6 : Int), (6 : Int), (6 : Int), (6 : Int), (6 : Int), (6 : Int), (6 : Int), (6 : Int), (6 : Int), (6 : Int), (6 : Int), (6 : Int), (6 : Int), (6 : Int), (6 : Int), (6 : Int), (6 : Int), (6 : Int), (6 : Int), (7 : Int), (7 : Int), (7 : Int), (7 : Int), (7 : Int), (7 : Int), (7 : Int), (7 : Int), (7 : Int), (7 : Int), (7 : Int), (7 : Int), (7 : Int), (7 : Int), (7 : Int), (7 : Int), (7 : Int), (7 : Int), (7 : Int), (7 : Int), (7 : Int), (7 : Int), (7 : Int), (7 : Int), (7 : Int), (7 : Int), (7 : Int), (7 : Int), (7 : Int), (7 : Int), (7 : Int), (7 : Int), (7 : Int), (7 : Int), (7 : Int), (7 : Int), (7 : Int), (7 : Int), (7 : Int), (7 : Int), (7 : Int), (7 : Int), (7 : Int), (7 : Int), (7 : Int), (7 : Int), (7 : Int), (7 : Int), (7 : Int), (7 : Int), (7 : Int), (7 : Int), (7 : Int), (7 : Int), (7 : Int), (7 : Int), (7 : Int), (7 : Int), (7 : Int), (7 : Int), (7 : Int), (7 : Int), (7 : Int), (7 : Int), (8 : Int), (8 : Int), (8 : Int), (8 : Int), (8 : Int), (8 : Int), (8 : Int), (8 : Int), (8 : Int), (8 : Int), (8 : Int), (8 : Int), (8 : Int), (8 : Int), (8 : Int), (8 : Int), (8 : Int), (8 : Int), (8 : Int), (8 : Int), (8 : Int), (8 : Int), (8 : Int), (8 : Int), (8 : Int), (8 : Int), (8 : Int), (8 : Int), (8 : Int), (8 : Int), (8 : Int), (8 : Int), (8 : Int), (8 : Int), (8 : Int), (8 : Int), (8 : Int), (8 : Int), (8 : Int), (8 : Int), (8 : Int), (8 : Int), (8 : Int), (8 : Int), (8 : Int), (8 : Int), (8 : Int), (8 : Int), (8 : Int), (8 : Int), (8 : Int), (8 : Int), (8 : Int), (8 : Int), (8 : Int), (8 : Int), (8 : Int), (8 : Int), (8 : Int), (8 : Int), (8 : Int), (8 : Int), (8 : Int), (8 : Int), (8 : Int), (8 : Int), (8 : Int), (8 : Int), (8 : Int), (8 : Int), (8 : Int), (8 : Int), (8 : Int), (8 : Int), (8 : Int), (8 : Int), (8 : Int), (8 : Int), (8 : Int), (8 : Int), (8 : Int), (8 : Int), (8 : Int), (8 : Int), (8 : Int), (8 : Int), (8 : Int), (8 : Int), (8 : Int), (8 : Int), (8 : Int), (8 : Int), (8 : Int), (8 : Int), (8 : Int), (8 : Int), (8 : Int), (8 : Int), (8 : Int), (8 : Int), (8 : Int), (8 : Int), (8 : Int), (8 : Int), (8 : Int), (8 : Int), (8 : Int), (8 : Int), (8 : Int), (8 : Int), (8 : Int), (8 : Int), (8 : Int), (8 : Int), (8 : Int), (8 : Int), (8 : Int), (8 : Int), (8 : Int), (8 : Int), (8 : Int), (8 : Int), (8 : Int), (8 : Int), (8 : Int), (8 : Int), (8 : Int), (8 : Int)].getD (IntKind.u8.wrap ((x.fdiv ((2 : Int) ^ min (Int.toNat (16 : Int)) IntKind.u64.bits)).fdiv ((2 : Int) ^ min (Int.toNat (8 : Int)) IntKind.u64.bits))).toNat (0 : Int))))))
  (chk ((0 : Int) ≤ IntKind.u8.wrap (x.fdiv ((2 : Int) ^ min (Int.toNat (16 : Int)) IntKind.u64.bits)) ∧ IntKind.u8.wrap (x.fdiv ((2 : Int) ^ min (Int.toNat (16 : Int)) IntKind.u64.bits)) < ↑(256 : Nat))
  (some (IntKind.i64.wrap (IntKind.i64.wrap ((0 : Int) + (16 : Int)) + IntKind.i64.wrap ([(0 : Int), (1 : Int), (2 : Int), (2 : Int), (3 : Int), (3 : Int), (3 : Int), (3 : Int), (4 : Int), (4 : Int), (4 : Int), (4 : Int), (4 : Int), (4 : Int), (4 : Int), (4 : Int), (5 : Int), (5 : Int), (5 : Int), (5 : Int), (5 : Int), (5 : Int), (5 : Int), (5 : Int), (5 : Int), (5 : Int), (5 : Int), (5 : Int), (5 : Int), (5 : Int), (5 : Int), (5 : Int), (6 : Int), (6 : Int), (6 : Int), (6 : Int), (6 : Int), (6 : Int), (6 : Int), (6 : Int), (6 : Int), (6 : Int), (6 : Int), (6 : Int), (6 : Int), (6 : Int), (6 : Int), (6 : Int), (6 : Int), (6 : Int), (6 : Int), (6 : Int), (6 : Int), (6 : Int), (6 : Int), (6 : Int), (6 : Int), (6 : Int), (6 : Int), (6 : Int), (6 : Int), (6 : Int), (6 : Int), (6 : Int), (7 : Int), (7 : Int), (7 : Int), (7 : Int), (7 : Int), (7 : Int), (7 : Int), (7 : Int), (7 : Int), (7 : Int), (7 : Int), (7 : Int), (7 : Int), (7 : Int), (7 : Int), (7 : Int), (7 : Int), (7 : Int), (7 : Int), (7 : Int), (7 : Int), (7 : Int), (7 : Int), (7 : Int), (7 : Int), (7 : Int), (7 : Int), (7 : Int), (7 : Int), (7 : Int), (7 : Int), (7 : Int), (7 : Int), (7 : Int), (7 : Int), (7 : Int), (7 : Int), (7 : Int), (7 : Int), (7 : Int), (7 : Int), (7 : Int), (7 : Int), (7 : Int), (7 : Int), (7 : Int), (7 : Int), (7 : Int), (7 : Int), (7 : Int), (7 : Int), (7 : Int), (7 : Int), (7 : Int), (7 : Int), (7 : Int), (7 : Int), (7 : Int), (7 : Int), (7 : Int), (7 : Int), (7 : Int), (7 : Int), (7 : Int), (8 : Int), (8 : Int), (8 : Int), (8 : Int), (8 : Int), (8 : Int), (8 : Int), (8 : Int), (8 : Int), (8 : Int), (8 : Int), (8 : Int), (8 : Int), (8 : Int), (8 : Int), (8 : Int), (8 : Int), (8 : Int), (8 : Int), (8 : Int), (8 : Int), (8 : Int), (8 : Int), (8 : Int), (8 : Int), (8 : Int), (8 : Int), (8 : Int), (8 : Int), (8 : Int), (8 : Int), (8 : Int), (8 : Int), (8 : Int), (8 : Int), (8 : Int), (8 : Int), (8 : Int), (8 : Int), (8 : Int), (8 : Int), (8 : Int), (8 : Int), (8 : Int), (8 : Int), (8 : Int), (8 : Int), (8 : Int), (8 : Int), (8 : Int), (8 : Int), (8 : Int), (8 : Int), (8 : Int), (8 : Int), (8 : Int), (8 : Int), (8 : Int), (8 : Int), (8 : Int), (8 : Int), (8 : Int), (8 : Int), (8 : Int), (8 : Int), (8 : Int), (8 : Int), (8 : Int), (8 : Int), (8 : Int), (8 : Int), (8 : Int), (8 : Int), (8 : Int), (8 : Int), (8 : Int), (8 : Int), (8 : Int), (8 : Int), (8 : Int), (8 : Int), (8 : Int), (8 : Int), (8 : Int), (8 : Int), (8 : Int), (8 : Int), (8 : Int), (8 : Int), (8 : Int), (8 : Int), (8 : Int), (8 : Int), (8 : Int), (8 : Int), (8 : Int), (8 : Int), (8 : Int), (8 : Int), (8 : Int), (8 : Int), (8 : Int), (8 : Int), (8 : Int), (8 : Int), (8 : Int), (8 : Int), (8 : Int), (8 : Int), (8 : Int), (8 : Int), (8 : Int), (8 : Int), (8 : Int), (8 : Int), (8 : Int), (8 : Int), (8 : Int), (8 : Int), (8 : Int), (8 : Int), (8 : Int), (8 : Int), (8 : Int), (8 : Int), (8 : Int), (8 : Int), (8 : Int)].getD (IntKind.u8.wrap (x.fdiv ((2 : Int) ^ min (Int.toNat (16 : Int)) IntKind.u64.bits))).toNat (0 : Int)))))))
  (br (decide (x ≥ (256 : Int)))
  (chk ((0 : Int) ≤ IntKind.u8.wrap (x.fdiv ((2 : Int) ^ min (Int.toNat (8 : Int)) IntKind.u64.bits)) ∧ IntKind.u8.wrap (x.fdiv ((2 : Int) ^ min (Int.toNat (8 : Int)) IntKind.u64.bits)) < ↑(256 : Nat))
  (some (IntKind.i64.wrap (IntKind.i64.wrap ((0 : Int) + (8 : Int)) + IntKind.i64.wrap ([(0 : Int), (1 : Int), (2 : Int), (2 : Int), (3 : Int), (3 : Int), (3 : Int), (3 : Int), (4 : Int), (4 : Int), (4 : Int), (4 : Int), (4 : Int), (4 : Int), (4 : Int), (4 : Int), (5 : Int), (5 : Int), (5 : Int), (5 : Int), (5 : Int), (5 : Int), (5 : Int), (5 : Int), (5 : Int), (5 : Int), (5 : Int), (5 : Int), (5 : Int), (5 : Int), (5 : Int), (5 : Int), (6 : Int), (6 : Int), (6 : Int), (6 : Int), (6 : Int), (6 : Int), (6 : Int), (6 : Int), (6 : Int), (6 : Int), (6 : Int), (6 : Int), (6 : Int), (6 : Int), (6 : Int), (6 : Int), (6 : Int), (6 : Int), (6 : Int), (6 : Int), (6 : Int), (6 : Int), (6 : Int), (6 : Int), (6 : Int), (6 : Int), (6 : Int), (6 : Int), (6 : Int), (6 : Int), (6 : Int), (6 : Int), (7 : Int), (7 : Int), (7 : Int), (7 : Int), (7 : Int), (7 : Int), (7 : Int), (7 : Int), (7 : Int), (7 : Int), (7 : Int), (7 : Int), (7 : Int), (7 : Int), (7 : Int), (7 : Int), (7 : Int), (7 : Int), (7 : Int), (7 : Int), (7 : Int), (7 : Int), (7 : Int), (7 : Int), (7 : Int), (7 : Int), (7 : Int), (7 : Int), (7 : Int), (7 : Int), (7 : Int), (7 : Int), (7 : Int), (7 : Int), (7 : Int), (7 : Int), (7 : Int), (7 : Int), (7 : Int), (7 : Int), (7 : Int), (7 : Int), (7 : Int), (7 : Int), (7 : Int), (7 : Int), (7 : Int), (7 : Int), (7 : Int), (7 : Int), (7 : Int), (7 : Int), (7 : Int), (7 : Int), (7 : Int), (7 : Int), (7 : Int), (7 : Int), (7 : Int), (7 : Int), (7 : Int), (7 : Int), (7 : Int), (7 : Int), (8 : Int), (8 : Int), (8 : Int), (8 : Int), (8 : Int), (8 : Int), (8 : Int), (8 : Int), (8 : Int), (8 : Int), (8 : Int), (8 : Int), (8 : Int), (8 : Int), (8 : Int), (8 : Int), (8 : Int), (8 : Int), (8 : Int), (8 : Int), (8 : Int), (8 : Int), (8 : Int), (8 : Int), (8 : Int), (8 : Int), (8 : Int), (8 : Int), (8 : Int), (8 : Int), (8 : Int), (8 : Int), (8 : Int), (8 : Int), (8 : Int), (8 : Int), (8 : Int), (8 : Int), (8 : Int), (8 : Int), (8 : Int), (8 : Int), (8 : Int), (8 : Int), (8 : Int), (8 : Int), (8 : Int), (8 : Int), (8 : Int), (8 : Int), (8 : Int), (8 : Int), (8 : Int), (8 : Int), (8 : Int), (8 : Int), (8 : Int), (8 : Int), (8 : Int), (8 : Int), (8 : Int), (8 : Int), (8 : Int), (8 : Int), (8 : Int), (8 : Int), (8 : Int), (8 : Int), (8 : Int), (8 : Int), (8 : Int), (8 : Int), (8 : Int), (8 : Int), (8 : Int), (8 : Int), (8 : Int), (8 : Int), (8 : Int), (8 : Int), (8 : Int), (8 : Int), (8 : Int), (8 : Int), (8 : Int), (8 : Int), (8 : Int), (8 : Int), (8 : Int), (8 : Int), (8 : Int), (8 : Int), (8 : Int), (8 : Int), (8 : Int), (8 : Int), (8 : Int), (8 : Int), (8 : Int), (8 : Int), (8 : Int), (8 : Int), (8 : Int), (8 : Int), (8 : Int), (8 : Int), (8 : Int), (8 : Int), (8 : Int), (8 : Int), (8 : Int), (8 : Int), (8 : Int), (8 : Int), (8 : Int), (8 : Int), (8 : Int), (8 : Int), (8 : Int), (8 : Int), (8 : Int), (8 : Int), (8 : Int), (8 : Int), (8 : Int), (8 : Int), (8 : Int), (8 : Int)].getD (IntKind.u8.wrap (x.fdiv ((2 : Int) ^ min (Int.toNat (8 : Int)) IntKind.u64.bits))).toNat (0 : Int))))))
  (chk ((0 : Int) ≤ IntKind.u8.wrap x ∧ IntKind.u8.wrap x < ↑(256 : Nat))
  (some (IntKind.i64.wrap ((0 : Int) + IntKind.i64.wrap ([(0 : Int), (1 : Int), (2 : Int), (2 : Int), (3 : Int), (3 : Int), (3 : Int), (3 : Int), (4 : Int), (4 : Int), (4 : Int), (4 : Int), (4 : Int), (4 : Int), (4 : Int), (4 : Int), (5 : Int), (5 : Int), (5 : Int), (5 : Int), (5 : Int), (5 : Int), (5 : Int), (5 : Int), (5 : Int), (5 : Int), (5 : Int), (5 : Int), (5 : Int), (5 : Int), (5 : Int), (5 : Int), (6 : Int), (6 : Int), (6 : Int), (6 : Int), (6 : Int), (6 : Int), (6 : Int), (6 : Int), (6 : Int), (6 : Int), (6 : Int), (6 : Int), (6 : Int), (6 : Int), (6 : Int), (6 : Int), (6 : Int), (6 : Int), (6 : Int), (6 : Int), (6 : Int), (6 : Int), (6 : Int), (6 : Int), (6 : Int), (6 : Int), (6 : Int), (6 : Int), (6 : Int), (6 : Int), (6 : Int), (6 : Int), (7 : Int), (7 : Int), (7 : Int), (7 : Int), (7 : Int), (7 : Int), (7 : Int), (7 : Int), (7 : Int), (7 : Int), (7 : Int), (7 : Int), (7 : Int), (7 : Int), (7 : Int), (7 : Int), (7 : Int), (7 : Int), (7 : Int), (7 : Int), (7 : Int), (7 : Int), (7 : Int), (7 : Int), (7 : Int), (7 : Int), (7 : Int), (7 : Int), (7 : Int), (7 : Int), (7 : Int), (7 : Int), (7 : Int), (7 : Int), (7 : Int), (7 : Int), (7 : Int), (7 : Int), (7 : Int), (7 : Int), (7 : Int), (7 : Int), (7 : Int), (7 : Int), (7 : Int), (7 : Int), (7 : Int), (7 : Int), (7 : Int), (7 : Int), (7 : Int), (7 : Int), (7 : Int), (7 : Int), (7 : Int), (7 : Int), (7 : Int), (7 : Int), (7 : Int), (7 : Int), (7 : Int), (7 : Int), (7 : Int), (7 : Int), (8 : Int), (8 : Int), (8 : Int), (8 : Int), (8 : Int), (8 : Int), (8 : Int), (8 : Int), (8 : Int), (8 : Int), (8 : Int), (8 : Int), (8 : Int), (8 : Int), (8 : Int), (8 : Int), (8 : Int), (8 : Int), (8 : Int), (8 : Int), (8 : Int), (8 : Int), (8 : Int), (8 : Int), (8 : Int), (8 : Int), (8 : Int), (8 : Int), (8 : Int), (8 : Int), (8 : Int), (8 : Int), (8 : Int), (8 : Int), (8 : Int), (8 : Int), (8 : Int), (8 : Int), (8 : Int), (8 : Int), (8 : Int), (8 : Int), (8 : Int), (8 : Int), (8 : Int), (8 : Int), (8 : Int), (8 : Int), (8 : Int), (8 : Int), (8 : Int), (8 : Int), (8 : Int), (8 : Int), (8 : Int), (8 : Int), (8 : Int), (8 : Int), (8 : Int), (8 : Int), (8 : Int), (8 : Int), (8 : Int), (8 : Int), (8 : Int), (8 : Int), (8 : Int), (8 : Int), (8 : Int), (8 : Int), (8 : Int), (8 : Int), (8 : Int), (8 : Int), (8 : Int), (8 : Int), (8 : Int), (8 : Int), (8 : Int), (8 : Int), (8 : Int), (8 : Int), (8 : Int), (8 : Int), (8 : Int), (8 : Int), (8 : Int), (8 : Int), (8 : Int), (8 : Int), (8 : Int), (8 : Int), (8 : Int), (8 : Int), (8 : Int), (8 : Int), (8 : Int), (8 : Int), (8 : Int), (8 : Int), (8 : Int), (8 : Int), (8 : Int), (8 : Int), (8 : Int), (8 : Int), (8 : Int), (8 : Int), (8 : Int), (8 : Int), (8 : Int), (8 : Int), (8 : Int), (8 : Int), (8 : Int), (8 : Int), (8 : Int), (8 : Int), (8 : Int), (8 : Int), (8 : Int), (8 : Int), (8 : Int), (8 : Int), (8 : Int), (8 : Int), (8 : Int), (8 : Int)].getD (IntKind.u8.wrap x).toNat (0 : Int)))))))))
theorem len64.F_eq (N : Nat) (L : Eng.Leaves) : evSig (len64.C N) (len64.K N) 0 Tryz.f68 len64.sig L len64.dec = len64.F N (L.i 0) := by
  kernel_rfl
def len64.spec : Eng.Spec := len64.sig.spec (fun N L => len64.F N (L.i 0)) len64.enc
theorem len64.cok (N : Nat) : CfgOK (len64.C N) := cok0 wide trivial (by kernel_rfl) rfl rfl rfl rfl
theorem len64.aok (N : Nat) : AnnsOK (len64.K N) := aok1 trivial
theorem len64.ok : CallOK Tryz.prog 68 len64.spec := ok0 len64.cok (fun _ => iok0 rfl) len64.aok len64.F_eq (by kernel_rfl) (by kernel_rfl) (fun _ => rfl) (fun _ => ⟨rfl, rfl⟩) fun _ _ => ⟨rfl, rfl⟩
def blen.sig : Eng.Sig := { args := [.at (.int .u64 0)], n := 0, pre := [], post := [], m := 0, ret := .at (.int .i64 0) }
def blen.C (N : Nat) : Cfg := { P := Tryz.prog, N := N, RT := noRT, specs := [(68, len64.spec)], inl := [], hi := 0, mv := [] }
abbrev blen.R : Type := Int
def blen.dec (L : Eng.Leaves) : blen.R := (L.i 0)
def blen.enc (r : blen.R) : Eng.Leaves := mkL [r] [] [] []
def blen.K (N : Nat) : FCfg := { anns := [], unr := [], lits := [], lets := [] }
def blen.F (N : Nat) (x : Int) : Option blen.R :=
  (obind (Rc.len64.F N x) fun r0 =>
  (some r0))
theorem blen.F_eq (N : Nat) (L : Eng.Leaves) : evSig (blen.C N) (blen.K N) 0 Tryz.f103 blen.sig L blen.dec = blen.F N (L.i 0) := by
  kernel_rfl
def blen.spec : Eng.Spec := blen.sig.spec (fun N L => blen.F N (L.i 0)) blen.enc
theorem blen.cok (N : Nat) : CfgOK (blen.C N) := cok0 wide ⟨len64.ok, trivial⟩ (by kernel_rfl) rfl rfl rfl rfl
theorem blen.aok (N : Nat) : AnnsOK (blen.K N) := aok1 trivial
theorem blen.ok : CallOK Tryz.prog 103 blen.spec := ok0 blen.cok (fun _ => iok0 rfl) blen.aok blen.F_eq (by kernel_rfl) (by kernel_rfl) (fun _ => rfl) (fun _ => ⟨rfl, rfl⟩) fun _ _ => ⟨rfl, rfl⟩
def endb.sig : Eng.Sig := { args := [.at (.ptr 0 0)], n := 2, pre := [(0, .cells 10 [.full 1 false, .int .u64 0, .int .u64 1, .int .u64 2, .int .i64 3, .int .i64 4, .int .u64 5, .int .i64 6, .int .i64 7, .bool 0]), (1, .ints false .u8 0)], post := [(0, .cells 10 [.full 1 false, .fint .u64 0, .fint .u64 1, .fint .u64 2, .fint .i64 3, .int .i64 1, .fint .u64 5, .fint .i64 6, .fint .i64 7, .fbool 0]), (1, .fints false .u8 0)], m := 0, ret := .at (.int .u64 0) }
def endb.C (N : Nat) : Cfg := { P := Tryz.prog, N := N, RT := noRT, specs := [], inl := [], hi := 2, mv := [] }
abbrev endb.R : Type := Int × Int
def endb.dec (L : Eng.Leaves) : endb.R := (L.i 0, L.i 1)
def endb.enc (r : endb.R) : Eng.Leaves := mkL [r.1, r.2] [] [] []
def endb.K (N : Nat) : FCfg := { anns := [], unr := [], lits := [], lets := [] }
def endb.F (N : Nat) (rng val last front back window waiting count : Int) (bad : Bool) (b : List Int) : Option endb.R :=
  (br (decide (back ≥ ↑b.length))
  (chkI rng rng
  (chkI val val
  (chkI last last
  (chkI front front
  (chkI window window
  (chkI waiting waiting
  (chkI count count
  (chkB bad bad
  (chkL b b
  (some (((0 : Int), back))))))))))))
  (chk ((0 : Int) ≤ IntKind.i64.wrap (↑b.length - IntKind.i64.wrap (back + (1 : Int))) ∧ IntKind.i64.wrap (↑b.length - IntKind.i64.wrap (back + (1 : Int))) < ↑b.length)
  (chkI rng rng
  (chkI val val
  (chkI last last
  (chkI front front
  (chkI window window
  (chkI waiting waiting
  (chkI count count
  (chkB bad bad
  (chkL b b
  (some ((IntKind.u64.wrap (b.getD (IntKind.i64.wrap (↑b.length - IntKind.i64.wrap (back + (1 : Int)))).toNat (0 : Int)), IntKind.i64.wrap (back + (1 : Int))))))))))))))))
theorem endb.F_eq (N : Nat) (L : Eng.Leaves) : evSig (endb.C N) (endb.K N) 0 Tryz.f99 endb.sig L endb.dec = endb.F N (L.i 0) (L.i 1) (L.i 2) (L.i 3) (L.i 4) (L.i 5) (L.i 6) (L.i 7) (L.b 0) (L.l 0) := by
  kernel_rfl
def endb.spec : Eng.Spec := endb.sig.spec (fun N L => endb.F N (L.i 0) (L.i 1) (L.i 2) (L.i 3) (L.i 4) (L.i 5) (L.i 6) (L.i 7) (L.b 0) (L.l 0)) endb.enc
theorem endb.cok (N : Nat) : CfgOK (endb.C N) := cok0 wide trivial (by kernel_rfl) rfl rfl rfl rfl
theorem endb.aok (N : Nat) : AnnsOK (endb.K N) := aok1 trivial
theorem endb.ok : CallOK Tryz.prog 99 endb.spec := ok0 endb.cok (fun _ => iok0 rfl) endb.aok endb.F_eq (by kernel_rfl) (by kernel_rfl) (fun _ => rfl) (fun _ => ⟨rfl, rfl⟩) fun _ _ => ⟨rfl, rfl⟩
def choose.sig : Eng.Sig := { args := [.at (.ptr 0 0), .at (.int .u64 0)], n := 2, pre := [(0, .cells 10 [.full 1 false, .int .u64 1, .int .u64 2, .int .u64 3, .int .i64 4, .int .i64 5, .int .u64 6, .int .i64 7, .int .i64 8, .bool 0]), (1, .ints false .u8 0)], post := [(0, .cells 10 [.full 1 false, .fint .u64 1, .fint .u64 2, .fint .u64 3, .fint .i64 4, .fint .i64 5, .fint .u64 6, .fint .i64 7, .fint .i64 8, .fbool 0]), (1, .fints false .u8 0)], m := 0, ret := .at (.int .u64 0) }
def choose.C (N : Nat) : Cfg := { P := Tryz.prog, N := N, RT := noRT, specs := [], inl := [], hi := 2, mv := [] }
abbrev choose.R : Type := Int
def choose.dec (L : Eng.Leaves) : choose.R := (L.i 0)
def choose.enc (r : choose.R) : Eng.Leaves := mkL [r] [] [] []
def choose.K (N : Nat) : FCfg := { anns := [], unr := [], lits := [], lets := [] }
def choose.F (N : Nat) (ft rng val last front back window waiting count : Int) (bad : Bool) (b : List Int) : Option choose.R :=
  (chk (ft ≠ (0 : Int))
  (chk (IntKind.u64.wrap (rng.tdiv ft) ≠ (0 : Int))
  (chkI rng rng
  (chkI val val
  (chkI last last
  (chkI front front
  (chkI back back
  (chkI window window
  (chkI waiting waiting
  (chkI count count
  (chkB bad bad
  (chkL b b
  (some (IntKind.u64.wrap (ft - if ft < IntKind.u64.wrap (IntKind.u64.wrap (val.tdiv (IntKind.u64.wrap (rng.tdiv ft))) + (1 : Int)) then ft else IntKind.u64.wrap (IntKind.u64.wrap (val.tdiv (IntKind.u64.wrap (rng.tdiv ft))) + (1 : Int)))))))))))))))))
theorem choose.F_eq (N : Nat) (L : Eng.Leaves) : evSig (choose.C N) (choose.K N) 0 Tryz.f101 choose.sig L choose.dec = choose.F N (L.i 0) (L.i 1) (L.i 2) (L.i 3) (L.i 4) (L.i 5) (L.i 6) (L.i 7) (L.i 8) (L.b 0) (L.l 0) := by
  kernel_rfl
def choose.spec : Eng.Spec := choose.sig.spec (fun N L => choose.F N (L.i 0) (L.i 1) (L.i 2) (L.i 3) (L.i 4) (L.i 5) (L.i 6) (L.i 7) (L.i 8) (L.b 0) (L.l 0)) choose.enc
theorem choose.cok (N : Nat) : CfgOK (choose.C N) := cok0 wide trivial (by kernel_rfl) rfl rfl rfl rfl
theorem choose.aok (N : Nat) : AnnsOK (choose.K N) := aok1 trivial
theorem choose.ok : CallOK Tryz.prog 101 choose.spec := ok0 choose.cok (fun _ => iok0 rfl) choose.aok choose.F_eq (by kernel_rfl) (by kernel_rfl) (fun _ => rfl) (fun _ => ⟨rfl, rfl⟩) fun _ _ => ⟨rfl, rfl⟩
def take.sig : Eng.Sig := { args := [.at (.ptr 0 0), .at (.int .u64 0), .at (.int .u64 1), .at (.int .u64 2)], n := 2, pre := [(0, .cells 10 [.full 1 false, .int .u64 3, .int .u64 4, .int .u64 5, .int .i64 6, .int .i64 7, .int .u64 8, .int .i64 9, .int .i64 10, .bool 0]), (1, .ints false .u8 0)], post := [(0, .cells 10 [.full 1 false, .int .u64 0, .int .u64 1, .int .u64 2, .int .i64 3, .fint .i64 7, .fint .u64 8, .fint .i64 9, .int .i64 4, .fbool 0]), (1, .fints false .u8 0)], m := 0, ret := .at (.unk) }
def take.C (N : Nat) : Cfg := { P := Tryz.prog, N := N, RT := noRT, specs := [(52, norm.spec)], inl := [], hi := 2, mv := [] }
abbrev take.R : Type := Int × Int × Int × Int × Int
def take.dec (L : Eng.Leaves) : take.R := (L.i 0, L.i 1, L.i 2, L.i 3, L.i 4)
def take.enc (r : take.R) : Eng.Leaves := mkL [r.1, r.2.1, r.2.2.1, r.2.2.2.1, r.2.2.2.2] [] [] []
def take.K (N : Nat) : FCfg := { anns := [], unr := [], lits := [], lets := [] }
def take.F (N : Nat) (fl fh ft rng val last front back window waiting count : Int) (bad : Bool) (b : List Int) : Option take.R :=
  (chk (ft ≠ (0 : Int))
  (br (decide (fl > (0 : Int)))
  (obind (Rc.norm.F N (IntKind.u64.wrap (IntKind.u64.wrap (rng.tdiv ft) * IntKind.u64.wrap (fh - fl))) (IntKind.u64.wrap (val - IntKind.u64.wrap (IntKind.u64.wrap (rng.tdiv ft) * IntKind.u64.wrap (ft - fh)))) last front back window waiting count bad b) fun r0 =>
  (chkI back back
  (chkI window window
  (chkI waiting waiting
  (chkB bad bad
  (chkL b b
  (some ((r0.1, r0.2.1, r0.2.2.1, r0.2.2.2.1, r0.2.2.2.2)))))))))
  (obind (Rc.norm.F N (IntKind.u64.wrap (rng - IntKind.u64.wrap (IntKind.u64.wrap (rng.tdiv ft) * IntKind.u64.wrap (ft - fh)))) (IntKind.u64.wrap (val - IntKind.u64.wrap (IntKind.u64.wrap (rng.tdiv ft) * IntKind.u64.wrap (ft - fh)))) last front back window waiting count bad b) fun r1 =>
  (chkI back back
  (chkI window window
  (chkI waiting waiting
  (chkB bad bad
  (chkL b b
  (some ((r1.1, r1.2.1, r1.2.2.1, r1.2.2.2.1, r1.2.2.2.2)))))))))))
theorem take.F_eq (N : Nat) (L : Eng.Leaves) : evSig (take.C N) (take.K N) 0 Tryz.f102 take.sig L take.dec = take.F N (L.i 0) (L.i 1) (L.i 2) (L.i 3) (L.i 4) (L.i 5) (L.i 6) (L.i 7) (L.i 8) (L.i 9) (L.i 10) (L.b 0) (L.l 0) := by
  kernel_rfl
def take.spec : Eng.Spec := take.sig.spec (fun N L => take.F N (L.i 0) (L.i 1) (L.i 2) (L.i 3) (L.i 4) (L.i 5) (L.i 6) (L.i 7) (L.i 8) (L.i 9) (L.i 10) (L.b 0) (L.l 0)) take.enc
theorem take.cok (N : Nat) : CfgOK (take.C N) := cok0 wide ⟨norm.ok, trivial⟩ (by kernel_rfl) rfl rfl rfl rfl
theorem take.aok (N : Nat) : AnnsOK (take.K N) := aok1 trivial
theorem take.ok : CallOK Tryz.prog 102 take.spec := ok0 take.cok (fun _ => iok0 rfl) take.aok take.F_eq (by kernel_rfl) (by kernel_rfl) (fun _ => rfl) (fun _ => ⟨rfl, rfl⟩) fun _ _ => ⟨rfl, rfl⟩
def good.sig : Eng.Sig := { args := [.at (.roi .i64 0)], n := 0, pre := [], post := [], m := 0, ret := .at (.bool 0) }
def good.C (N : Nat) : Cfg := { P := Tryz.prog, N := N, RT := noRT, specs := [], inl := [], hi := 0, mv := [] }
abbrev good.R : Type := Bool
def good.dec (L : Eng.Leaves) : good.R := (L.b 0)
def good.enc (r : good.R) : Eng.Leaves := mkL [] [r] [] []
abbrev good.loop4.R : Type := Bool
def good.loop4.ann : Ann := { nx := 20, slots := [(0, .at (.froi .i64 0)), (2, .at (.bool 0)), (3, .at (.int .i64 0))], blks := [], mov := [], exId := 0, xslots := [(2, .at (.bool 0))], xblks := [], T := good.loop4.R, dec := fun L => (L.b 0), enc := fun r => mkL [] [r] [] [], ret := true }
def good.K (N : Nat) : FCfg := { anns := [(4, good.loop4.ann)], unr := [], lits := [], lets := [] }
def good.loop4 (N : Nat) : Nat → List Int → List Int → Int → Bool → Option (good.loop4.R ⊕ good.R)
  | 0, _, _, _, _ => none
  | nn + 1, e_t, t, s3, s2 =>
  (br (decide (s3 < ↑t.length))
  (chk ((0 : Int) ≤ s3 ∧ s3 < ↑t.length)
  (chk ((0 : Int) ≤ IntKind.i64.wrap (s3 - (1 : Int)) ∧ IntKind.i64.wrap (s3 - (1 : Int)) < ↑t.length)
  (br (decide (t.getD s3.toNat (0 : Int) ≥ t.getD (IntKind.i64.wrap (s3 - (1 : Int))).toNat (0 : Int)))
  (omap
  (some false) .inr)
  (chkL t t
  (good.loop4 N nn e_t t (IntKind.i64.wrap (s3 + (1 : Int))) s2)))))
  (some (Sum.inl s2)))
def good.loop4R (N nn : Nat) (e_t : List Int) (t : List Int) (s3 : Int) (s2 : Bool) : Option (good.loop4.R ⊕ good.R) := loopR good.loop4.ann (mkL [] [] [t] []) (evCode ((good.C N).inLoop good.loop4.ann) (good.K N) (inlTab (good.C N) 0) (bodyAt 4 Tryz.f100)) (sigKr Tryz.prog Tryz.f100 good.sig (mkL [] [] [e_t] []) fun L => (L.b 0)) nn (mkL [s3] [s2] [] [])
theorem good.loop4_eq (N : Nat) : ∀ nn, good.loop4R N nn = good.loop4 N nn
  | 0 => by funext; kernel_rfl
  | nn + 1 => by
    funext; rw [good.loop4, ← good.loop4_eq N nn]; kernel_rfl
def good.F (N : Nat) (t : List Int) : Option good.R :=
  (br (decide (↑t.length < (1 : Int)))
  (some false)
  (br (decide (↑t.length > (256 : Int)))
  (some false)
  (chk ((0 : Int) ≤ IntKind.i64.wrap (↑t.length - (1 : Int)) ∧ IntKind.i64.wrap (↑t.length - (1 : Int)) < ↑t.length)
  (br (t.getD (IntKind.i64.wrap (↑t.length - (1 : Int))).toNat (0 : Int) != (0 : Int))
  (some false)
  (chk ((0 : Int) ≤ (0 : Int) ∧ (0 : Int) < ↑t.length)
  (br (decide (t.getD (Int.toNat (0 : Int)) (0 : Int) ≥ (256 : Int)))
  (some false)
  (osum (good.loop4 N N t t ((1 : Int)) false) fun r0 =>
  (some true))))))))
theorem good.F_eq (N : Nat) (L : Eng.Leaves) : evSig (good.C N) (good.K N) 0 Tryz.f100 good.sig L good.dec = good.F N (L.l 0) := by
  rw [good.F, ← funext (good.loop4_eq N)]; kernel_rfl
def good.spec : Eng.Spec := good.sig.spec (fun N L => good.F N (L.l 0)) good.enc
theorem good.cok (N : Nat) : CfgOK (good.C N) := cok0 wide trivial (by kernel_rfl) rfl rfl rfl rfl
theorem good.aok (N : Nat) : AnnsOK (good.K N) := aok1 ⟨fun _ _ => ⟨rfl, rfl⟩, trivial⟩
theorem good.ok : CallOK Tryz.prog 100 good.spec := ok0 good.cok (fun _ => iok0 rfl) good.aok good.F_eq (by kernel_rfl) (by kernel_rfl) (fun _ => rfl) (fun _ => ⟨rfl, rfl⟩) fun _ _ => ⟨rfl, rfl⟩
def symbol.sig : Eng.Sig := { args := [.at (.ptr 0 0), .at (.roi .i64 0)], n := 2, pre := [(0, .cells 10 [.full 1 false, .int .u64 0, .int .u64 1, .int .u64 2, .int .i64 3, .int .i64 4, .int .u64 5, .int .i64 6, .int .i64 7, .bool 0]), (1, .ints false .u8 1)], post := [(0, .cells 10 [.full 1 false, .int .u64 1, .int .u64 2, .int .u64 3, .int .i64 4, .fint .i64 4, .fint .u64 5, .fint .i64 6, .int .i64 5, .fbool 0]), (1, .fints false .u8 1)], m := 0, ret := .at (.int .i64 0) }
def symbol.C (N : Nat) : Cfg := { P := Tryz.prog, N := N, RT := noRT, specs := [(100, good.spec), (101, choose.spec), (102, take.spec)], inl := [], hi := 2, mv := [] }
abbrev symbol.R : Type := Int × Int × Int × Int × Int × Int
def symbol.dec (L : Eng.Leaves) : symbol.R := (L.i 0, L.i 1, L.i 2, L.i 3, L.i 4, L.i 5)
def symbol.enc (r : symbol.R) : Eng.Leaves := mkL [r.1, r.2.1, r.2.2.1, r.2.2.2.1, r.2.2.2.2.1, r.2.2.2.2.2] [] [] []
abbrev symbol.loop5.R : Type := Int × Int
def symbol.loop5.ann : Ann := { nx := 20, slots := [(1, .at (.froi .i64 0)), (5, .at (.fint .i64 0)), (6, .at (.int .i64 0)), (7, .at (.int .i64 1))], blks := [], mov := [], exId := 0, xslots := [(6, .at (.int .i64 0)), (7, .at (.int .i64 1))], xblks := [], T := symbol.loop5.R, dec := fun L => (L.i 0, L.i 1), enc := fun r => mkL [r.1, r.2] [] [] [], ret := false }
def symbol.K (N : Nat) : FCfg := { anns := [(5, symbol.loop5.ann)], unr := [], lits := [], lets := [] }
def symbol.loop5 (N : Nat) : Nat → Int → List Int → Int → Int → Option symbol.loop5.R
  | 0, _, _, _, _ => none
  | nn + 1, f, t, k, fl =>
  (chk ((0 : Int) ≤ k ∧ k < ↑t.length)
  (br (decide (f ≥ IntKind.i64.wrap ((256 : Int) - t.getD k.toNat (0 : Int))))
  (chk ((0 : Int) ≤ k ∧ k < ↑t.length)
  (chkL t t
  (chkI f f
  (symbol.loop5 N nn f t (IntKind.i64.wrap (k + (1 : Int))) (IntKind.i64.wrap ((256 : Int) - t.getD k.toNat (0 : Int)))))))
  (some ((k, fl)))))
def symbol.loop5R (N nn : Nat) (f : Int) (t : List Int) (k fl : Int) : Option symbol.loop5.R := loopF symbol.loop5.ann (mkL [f] [] [t] []) (evCode ((symbol.C N).inLoop symbol.loop5.ann) (symbol.K N) (inlTab (symbol.C N) 0) (bodyAt 5 Tryz.f43)) nn (mkL [k, fl] [] [] [])
theorem symbol.loop5_eq (N : Nat) : ∀ nn, symbol.loop5R N nn = symbol.loop5 N nn
  | 0 => by funext; kernel_rfl
  | nn + 1 => by
    funext; rw [symbol.loop5, ← symbol.loop5_eq N nn]; kernel_rfl
def symbol.F (N : Nat) (rng val last front back window waiting count : Int) (bad : Bool) (t b : List Int) : Option symbol.R :=
  (obind (Rc.good.F N t) fun r0 =>
  (br (!r0)
  (chkI back back
  (chkI window window
  (chkI waiting waiting
  (chkB bad bad
  (chkL b b
  (some (((0 : Int), rng, val, last, front, count))))))))
  (obind (Rc.choose.F N ((256 : Int)) rng val last front back window waiting count bad b) fun r1 =>
  (obind (symbol.loop5 N N (IntKind.i64.wrap r1) t ((0 : Int)) ((0 : Int))) fun r2 =>
  (chk ((0 : Int) ≤ r2.1 ∧ r2.1 < ↑t.length)
  (obind (Rc.take.F N (IntKind.u64.wrap r2.2) (IntKind.u64.wrap (IntKind.i64.wrap ((256 : Int) - t.getD r2.1.toNat (0 : Int)))) ((256 : Int)) rng val last front back window waiting count bad b) fun r3 =>
  (chkI back back
  (chkI window window
  (chkI waiting waiting
  (chkB bad bad
  (chkL b b
  (some ((r2.1, r3.1, r3.2.1, r3.2.2.1, r3.2.2.2.1, r3.2.2.2.2))))))))))))))
theorem symbol.F_eq (N : Nat) (L : Eng.Leaves) : evSig (symbol.C N) (symbol.K N) 0 Tryz.f43 symbol.sig L symbol.dec = symbol.F N (L.i 0) (L.i 1) (L.i 2) (L.i 3) (L.i 4) (L.i 5) (L.i 6) (L.i 7) (L.b 0) (L.l 0) (L.l 1) := by
  rw [symbol.F, ← funext (symbol.loop5_eq N)]; kernel_rfl
def symbol.spec : Eng.Spec := symbol.sig.spec (fun N L => symbol.F N (L.i 0) (L.i 1) (L.i 2) (L.i 3) (L.i 4) (L.i 5) (L.i 6) (L.i 7) (L.b 0) (L.l 0) (L.l 1)) symbol.enc
theorem symbol.cok (N : Nat) : CfgOK (symbol.C N) := cok0 wide ⟨good.ok, choose.ok, take.ok, trivial⟩ (by kernel_rfl) rfl rfl rfl rfl
theorem symbol.aok (N : Nat) : AnnsOK (symbol.K N) := aok1 ⟨fun _ _ => ⟨rfl, rfl⟩, trivial⟩
theorem symbol.ok : CallOK Tryz.prog 43 symbol.spec := ok0 symbol.cok (fun _ => iok0 rfl) symbol.aok symbol.F_eq (by kernel_rfl) (by kernel_rfl) (fun _ => rfl) (fun _ => ⟨rfl, rfl⟩) fun _ _ => ⟨rfl, rfl⟩
def bits.sig : Eng.Sig := { args := [.at (.ptr 0 0), .at (.int .i64 0)], n := 2, pre := [(0, .cells 10 [.full 1 false, .int .u64 1, .int .u64 2, .int .u64 3, .int .i64 4, .int .i64 5, .int .u64 6, .int .i64 7, .int .i64 8, .bool 0]), (1, .ints false .u8 0)], post := [(0, .cells 10 [.full 1 false, .fint .u64 1, .fint .u64 2, .fint .u64 3, .fint .i64 4, .int .i64 1, .int .u64 2, .int .i64 3, .int .i64 4, .fbool 0]), (1, .fints false .u8 0)], m := 0, ret := .at (.int .i64 0) }
def bits.C (N : Nat) : Cfg := { P := Tryz.prog, N := N, RT := noRT, specs := [(99, endb.spec)], inl := [], hi := 2, mv := [] }
abbrev bits.R : Type := Int × Int × Int × Int × Int
def bits.dec (L : Eng.Leaves) : bits.R := (L.i 0, L.i 1, L.i 2, L.i 3, L.i 4)
def bits.enc (r : bits.R) : Eng.Leaves := mkL [r.1, r.2.1, r.2.2.1, r.2.2.2.1, r.2.2.2.2] [] [] []
abbrev bits.loop3.R : Type := Int × Int × Int
def bits.loop3.ann : Ann := { nx := 20, slots := [(0, .at (.ptr 0 0)), (1, .at (.fint .i64 0))], blks := [(0, .cells 10 [.full 1 false, .fint .u64 1, .fint .u64 2, .fint .u64 3, .fint .i64 4, .int .i64 0, .int .u64 1, .int .i64 2, .fint .i64 5, .fbool 0]), (1, .fints false .u8 0)], mov := [], exId := 0, xslots := [(0, .at (.ptr 0 0))], xblks := [(0, .cells 10 [.full 1 false, .fint .u64 1, .fint .u64 2, .fint .u64 3, .fint .i64 4, .int .i64 0, .int .u64 1, .int .i64 2, .fint .i64 5, .fbool 0]), (1, .fints false .u8 0)], T := bits.loop3.R, dec := fun L => (L.i 0, L.i 1, L.i 2), enc := fun r => mkL [r.1, r.2.1, r.2.2] [] [] [], ret := false }
def bits.K (N : Nat) : FCfg := { anns := [(3, bits.loop3.ann)], unr := [], lits := [], lets := [] }
def bits.loop3 (N : Nat) : Nat → Int → Int → Int → Int → Int → Int → Bool → List Int → Int → Int → Int → Option bits.loop3.R
  | 0, _, _, _, _, _, _, _, _, _, _, _ => none
  | nn + 1, n, rng, val, last, front, count, bad, b, back, window, waiting =>
  (br (decide (waiting < n))
  (obind (Rc.endb.F N rng val last front back window waiting count bad b) fun r0 =>
  (chk ((0 : Int) ≤ waiting)
  (chkI waiting waiting
  (chkI window window
  (chkI n n
  (chkI rng rng
  (chkI val val
  (chkI last last
  (chkI front front
  (chkI count count
  (chkB bad bad
  (chkL b b
  (bits.loop3 N nn n rng val last front count bad b r0.2 (IntKind.u64.wrap ↑(BitVec.ofInt IntKind.u64.bits window ||| BitVec.ofInt IntKind.u64.bits (IntKind.u64.wrap (r0.1 * (2 : Int) ^ min waiting.toNat IntKind.u64.bits))).toNat) (IntKind.i64.wrap (waiting + (8 : Int))))))))))))))))
  (chkI rng rng
  (chkI val val
  (chkI last last
  (chkI front front
  (chkI count count
  (chkB bad bad
  (chkL b b
  (some ((back, window, waiting)))))))))))
def bits.loop3R (N nn : Nat) (n rng val last front count : Int) (bad : Bool) (b : List Int) (back window waiting : Int) : Option bits.loop3.R := loopF bits.loop3.ann (mkL [n, rng, val, last, front, count] [bad] [b] []) (evCode ((bits.C N).inLoop bits.loop3.ann) (bits.K N) (inlTab (bits.C N) 0) (bodyAt 3 Tryz.f42)) nn (mkL [back, window, waiting] [] [] [])
theorem bits.loop3_eq (N : Nat) : ∀ nn, bits.loop3R N nn = bits.loop3 N nn
  | 0 => by funext; kernel_rfl
  | nn + 1 => by
    funext; rw [bits.loop3, ← bits.loop3_eq N nn]; kernel_rfl
def bits.F (N : Nat) (n rng val last front back window waiting count : Int) (bad : Bool) (b : List Int) : Option bits.R :=
  (br (decide (n < (0 : Int)))
  (chkI rng rng
  (chkI val val
  (chkI last last
  (chkI front front
  (chkB bad bad
  (chkL b b
  (some (((0 : Int), back, window, waiting, count)))))))))
  (br (decide (n > (24 : Int)))
  (chkI rng rng
  (chkI val val
  (chkI last last
  (chkI front front
  (chkB bad bad
  (chkL b b
  (some (((0 : Int), back, window, waiting, count)))))))))
  (obind (bits.loop3 N N n rng val last front count bad b back window waiting) fun r0 =>
  (chk ((0 : Int) ≤ n)
  (chk ((0 : Int) ≤ n)
  (chkI rng rng
  (chkI val val
  (chkI last last
  (chkI front front
  (chkB bad bad
  (chkL b b
  (some ((IntKind.i64.wrap (IntKind.u64.wrap ↑(BitVec.ofInt IntKind.u64.bits r0.2.1 &&& BitVec.ofInt IntKind.u64.bits (IntKind.u64.wrap (IntKind.u64.wrap ((1 : Int) * (2 : Int) ^ min n.toNat IntKind.u64.bits) - (1 : Int)))).toNat), r0.1, r0.2.1.fdiv ((2 : Int) ^ min n.toNat IntKind.u64.bits), IntKind.i64.wrap (r0.2.2 - n), IntKind.i64.wrap (count + n)))))))))))))))
theorem bits.F_eq (N : Nat) (L : Eng.Leaves) : evSig (bits.C N) (bits.K N) 0 Tryz.f42 bits.sig L bits.dec = bits.F N (L.i 0) (L.i 1) (L.i 2) (L.i 3) (L.i 4) (L.i 5) (L.i 6) (L.i 7) (L.i 8) (L.b 0) (L.l 0) := by
  rw [bits.F, ← funext (bits.loop3_eq N)]; kernel_rfl
def bits.spec : Eng.Spec := bits.sig.spec (fun N L => bits.F N (L.i 0) (L.i 1) (L.i 2) (L.i 3) (L.i 4) (L.i 5) (L.i 6) (L.i 7) (L.i 8) (L.b 0) (L.l 0)) bits.enc
theorem bits.cok (N : Nat) : CfgOK (bits.C N) := cok0 wide ⟨endb.ok, trivial⟩ (by kernel_rfl) rfl rfl rfl rfl
theorem bits.aok (N : Nat) : AnnsOK (bits.K N) := aok1 ⟨fun _ _ => ⟨rfl, rfl⟩, trivial⟩
theorem bits.ok : CallOK Tryz.prog 42 bits.spec := ok0 bits.cok (fun _ => iok0 rfl) bits.aok bits.F_eq (by kernel_rfl) (by kernel_rfl) (fun _ => rfl) (fun _ => ⟨rfl, rfl⟩) fun _ _ => ⟨rfl, rfl⟩
def uint.sig : Eng.Sig := { args := [.at (.ptr 0 0), .at (.int .i64 0)], n := 2, pre := [(0, .cells 10 [.full 1 false, .int .u64 1, .int .u64 2, .int .u64 3, .int .i64 4, .int .i64 5, .int .u64 6, .int .i64 7, .int .i64 8, .bool 0]), (1, .ints false .u8 0)], post := [(0, .cells 10 [.full 1 false, .int .u64 1, .int .u64 2, .int .u64 3, .int .i64 4, .int .i64 5, .int .u64 6, .int .i64 7, .int .i64 8, .bool 0]), (1, .fints false .u8 0)], m := 0, ret := .at (.int .i64 0) }
def uint.C (N : Nat) : Cfg := { P := Tryz.prog, N := N, RT := noRT, specs := [(101, choose.spec), (102, take.spec), (103, blen.spec), (42, bits.spec)], inl := [], hi := 2, mv := [] }
abbrev uint.R : Type := Int × Int × Int × Int × Int × Int × Int × Int × Int × Bool
def uint.dec (L : Eng.Leaves) : uint.R := (L.i 0, L.i 1, L.i 2, L.i 3, L.i 4, L.i 5, L.i 6, L.i 7, L.i 8, L.b 0)
def uint.enc (r : uint.R) : Eng.Leaves := mkL [r.1, r.2.1, r.2.2.1, r.2.2.2.1, r.2.2.2.2.1, r.2.2.2.2.2.1, r.2.2.2.2.2.2.1, r.2.2.2.2.2.2.2.1, r.2.2.2.2.2.2.2.2.1] [r.2.2.2.2.2.2.2.2.2] [] []
def uint.K (N : Nat) : FCfg := { anns := [], unr := [], lits := [], lets := [] }
def uint.F (N : Nat) (ft rng val last front back window waiting count : Int) (bad : Bool) (b : List Int) : Option uint.R :=
  (br (decide (ft ≤ (1 : Int)))
  (chkL b b
  (some (((0 : Int), rng, val, last, front, back, window, waiting, count, bad))))
  (br (decide (ft > (4294967295 : Int)))
  (chkL b b
  (some (((0 : Int), rng, val, last, front, back, window, waiting, count, bad))))
  (br (decide (ft ≤ (256 : Int)))
  (obind (Rc.choose.F N (IntKind.u64.wrap ft) rng val last front back window waiting count bad b) fun r0 =>
  (obind (Rc.take.F N r0 (IntKind.u64.wrap (r0 + (1 : Int))) (IntKind.u64.wrap ft) rng val last front back window waiting count bad b) fun r1 =>
  (chkL b b
  (some ((IntKind.i64.wrap r0, r1.1, r1.2.1, r1.2.2.1, r1.2.2.2.1, back, window, waiting, r1.2.2.2.2, bad))))))
  (obind (Rc.blen.F N (IntKind.u64.wrap (IntKind.i64.wrap (ft - (1 : Int))))) fun r2 =>
  (chk ((0 : Int) ≤ IntKind.i64.wrap (r2 - (8 : Int)))
  (obind (Rc.choose.F N (IntKind.u64.wrap (IntKind.i64.wrap ((IntKind.i64.wrap (ft - (1 : Int))).fdiv ((2 : Int) ^ min (IntKind.i64.wrap (r2 - (8 : Int))).toNat IntKind.i64.bits) + (1 : Int)))) rng val last front back window waiting count bad b) fun r3 =>
  (obind (Rc.take.F N r3 (IntKind.u64.wrap (r3 + (1 : Int))) (IntKind.u64.wrap (IntKind.i64.wrap ((IntKind.i64.wrap (ft - (1 : Int))).fdiv ((2 : Int) ^ min (IntKind.i64.wrap (r2 - (8 : Int))).toNat IntKind.i64.bits) + (1 : Int)))) rng val last front back window waiting count bad b) fun r4 =>
  (chk ((0 : Int) ≤ IntKind.i64.wrap (r2 - (8 : Int)))
  (obind (Rc.bits.F N (IntKind.i64.wrap (r2 - (8 : Int))) r4.1 r4.2.1 r4.2.2.1 r4.2.2.2.1 back window waiting r4.2.2.2.2 bad b) fun r5 =>
  (br (decide (IntKind.i64.wrap (IntKind.i64.wrap (IntKind.i64.wrap r3 * (2 : Int) ^ min (IntKind.i64.wrap (r2 - (8 : Int))).toNat IntKind.i64.bits) + r5.1) ≥ ft))
  (chkL b b
  (some ((IntKind.i64.wrap (ft - (1 : Int)), r4.1, r4.2.1, r4.2.2.1, r4.2.2.2.1, r5.2.1, r5.2.2.1, r5.2.2.2.1, r5.2.2.2.2, true))))
  (chkL b b
  (some ((IntKind.i64.wrap (IntKind.i64.wrap (IntKind.i64.wrap r3 * (2 : Int) ^ min (IntKind.i64.wrap (r2 - (8 : Int))).toNat IntKind.i64.bits) + r5.1), r4.1, r4.2.1, r4.2.2.1, r4.2.2.2.1, r5.2.1, r5.2.2.1, r5.2.2.2.1, r5.2.2.2.2, bad))))))))))))))
theorem uint.F_eq (N : Nat) (L : Eng.Leaves) : evSig (uint.C N) (uint.K N) 0 Tryz.f45 uint.sig L uint.dec = uint.F N (L.i 0) (L.i 1) (L.i 2) (L.i 3) (L.i 4) (L.i 5) (L.i 6) (L.i 7) (L.i 8) (L.b 0) (L.l 0) := by
  kernel_rfl
def uint.spec : Eng.Spec := uint.sig.spec (fun N L => uint.F N (L.i 0) (L.i 1) (L.i 2) (L.i 3) (L.i 4) (L.i 5) (L.i 6) (L.i 7) (L.i 8) (L.b 0) (L.l 0)) uint.enc
theorem uint.cok (N : Nat) : CfgOK (uint.C N) := cok0 wide ⟨choose.ok, take.ok, blen.ok, bits.ok, trivial⟩ (by kernel_rfl) rfl rfl rfl rfl
theorem uint.aok (N : Nat) : AnnsOK (uint.K N) := aok1 trivial
theorem uint.ok : CallOK Tryz.prog 45 uint.spec := ok0 uint.cok (fun _ => iok0 rfl) uint.aok uint.F_eq (by kernel_rfl) (by kernel_rfl) (fun _ => rfl) (fun _ => ⟨rfl, rfl⟩) fun _ _ => ⟨rfl, rfl⟩
def clone8.sig : Eng.Sig := { args := [.at (.roi .u8 0)], n := 0, pre := [], post := [(0, .ints true .u8 0)], m := 1, ret := .at (.full 0 false) }
def clone8.C (N : Nat) : Cfg := { P := Tryz.prog, N := N, RT := noRT, specs := [], inl := [], hi := 0, mv := [] }
abbrev clone8.R : Type := List Int
def clone8.dec (L : Eng.Leaves) : clone8.R := (L.l 0)
def clone8.enc (r : clone8.R) : Eng.Leaves := mkL [] [] [r] []
def clone8.K (N : Nat) : FCfg := { anns := [], unr := [], lits := [], lets := [] }
def clone8.F (N : Nat) (b : List Int) : Option clone8.R :=
  (nilN b.length
  (some (([] : List Int)))
  (chk (([] : List Int).length + b.length ≤ (140737488351232 : Nat))
  (some (([] : List Int) ++ b))))
theorem clone8.F_eq (N : Nat) (L : Eng.Leaves) : evSig (clone8.C N) (clone8.K N) 0 Tryz.f50 clone8.sig L clone8.dec = clone8.F N (L.l 0) := by
  kernel_rfl
def clone8.F2 (N : Nat) (b : List Int) : Option clone8.R :=
  (chk (b.length ≤ 140737488351232) (some b))
theorem clone8.F2_F {N : Nat} {b : List Int} {r : clone8.R} (h : clone8.F2 N b = some r) : clone8.F N b = some r := by
  unfold clone8.F2 at h
  rw [chk_some] at h
  obtain ⟨h1, h2⟩ := h
  obtain rfl := Option.some.inj h2
  unfold clone8.F
  refine nilN_of (fun h => ?_) ?_
  · have : b = [] := by simpa using h
    rw [this]
  · rw [chk, if_pos (by simpa using h1)]
    rfl
def clone8.spec : Eng.Spec := clone8.sig.spec (fun N L => clone8.F2 N (L.l 0)) clone8.enc
theorem clone8.cok (N : Nat) : CfgOK (clone8.C N) := cok0 wide trivial (by kernel_rfl) rfl rfl rfl rfl
theorem clone8.aok (N : Nat) : AnnsOK (clone8.K N) := aok1 trivial
theorem clone8.ok : CallOK Tryz.prog 50 clone8.spec :=
  callOK_of_sig (fn := Tryz.f50) (Cf := clone8.C) (K := clone8.K) (d := 0) (dec := clone8.dec) (by kernel_rfl) (fun _ => rfl) clone8.cok (fun _ q hq => by simp [clone8.C] at hq) clone8.aok
  (fun N L r h => (clone8.F_eq N L).trans (clone8.F2_F h)) (by kernel_rfl) (fun _ => ⟨rfl, rfl⟩) (fun _ _ => ⟨rfl, rfl⟩)
def new.sig : Eng.Sig := { args := [.at (.roi .u8 0)], n := 0, pre := [], post := [(0, .cells 10 [.full 1 false, .int .u64 0, .int .u64 1, .int .u64 2, .int .i64 3, .int .i64 4, .int .u64 5, .int .i64 6, .int .i64 7, .bool 0]), (1, .ints false .u8 0)], m := 2, ret := .at (.ptr 0 0) }
def new.C (N : Nat) : Cfg := { P := Tryz.prog, N := N, RT := noRT, specs := [(50, clone8.spec), (51, next.spec), (52, norm.spec)], inl := [], hi := 0, mv := [] }
abbrev new.R : Type := Int × Int × Int × Int × Int × Int × Int × Int × Bool × List Int
def new.dec (L : Eng.Leaves) : new.R := (L.i 0, L.i 1, L.i 2, L.i 3, L.i 4, L.i 5, L.i 6, L.i 7, L.b 0, L.l 0)
def new.enc (r : new.R) : Eng.Leaves := mkL [r.1, r.2.1, r.2.2.1, r.2.2.2.1, r.2.2.2.2.1, r.2.2.2.2.2.1, r.2.2.2.2.2.2.1, r.2.2.2.2.2.2.2.1] [r.2.2.2.2.2.2.2.2.1] [r.2.2.2.2.2.2.2.2.2] []
def new.K (N : Nat) : FCfg := { anns := [], unr := [], lits := [], lets := [] }
def new.F (N : Nat) (b : List Int) : Option new.R :=
  (obind (Rc.clone8.F2 N b) fun r0 =>
  (obind (Rc.next.F N ((128 : Int)) ((0 : Int)) ((0 : Int)) ((0 : Int)) ((0 : Int)) ((0 : Int)) ((0 : Int)) ((9 : Int)) false r0) fun r1 =>
  (obind (Rc.norm.F N ((128 : Int)) (IntKind.u64.wrap ((127 : Int) - r1.1.fdiv ((2 : Int) ^ min (Int.toNat (1 : Int)) IntKind.u64.bits))) r1.1 r1.2 ((0 : Int)) ((0 : Int)) ((0 : Int)) ((9 : Int)) false r0) fun r2 =>
  (some ((r2.1, r2.2.1, r2.2.2.1, r2.2.2.2.1, (0 : Int), (0 : Int), (0 : Int), r2.2.2.2.2, false, r0))))))
theorem new.F_eq (N : Nat) (L : Eng.Leaves) : evSig (new.C N) (new.K N) 0 Tryz.f13 new.sig L new.dec = new.F N (L.l 0) := by
  kernel_rfl
def new.spec : Eng.Spec := new.sig.spec (fun N L => new.F N (L.l 0)) new.enc
theorem new.cok (N : Nat) : CfgOK (new.C N) := cok0 wide ⟨clone8.ok, next.ok, norm.ok, trivial⟩ (by kernel_rfl) rfl rfl rfl rfl
theorem new.aok (N : Nat) : AnnsOK (new.K N) := aok1 trivial
theorem new.ok : CallOK Tryz.prog 13 new.spec := ok0 new.cok (fun _ => iok0 rfl) new.aok new.F_eq (by kernel_rfl) (by kernel_rfl) (fun _ => rfl) (fun _ => ⟨rfl, rfl⟩) fun _ _ => ⟨rfl, rfl⟩
end
end Go.Proofs.Rc
