/-
  Functions of the program: what each comes to, and its contract (written by a program).
  Conditions: none: each contract is proved for every input of its shape.
-/
import Derived.Test.YtghbobmkkbdhpaaGreatEngRegToEngWords
import Derived.Laws.Externs
import Derived.Test.YtghbobmkkbdhpaaGreatProg
set_option linter.unusedVariables false
set_option linter.unusedSimpArgs false
namespace Go.Proofs.Rc
noncomputable section
open Go.Eng
set_option maxRecDepth 100000
theorem wide : Tryz.prog.follows .mixedOrders = true := by kernel_rfl
def next.sig : Eng.Sig := { args := [.at (.ptr 0 0)], n := 2, pre := [(0, .cells 10 [.full 1 false, .int .u64 0, .int .u64 1, .int .u64 2, .int .i64 3, .int .i64 4, .int .u64 5, .int .i64 6, .int .i64 7, .bool 0]), (1, .ints false .u8 0)], post := [(0, .cells 10 [.full 1 false, .fint .u64 0, .fint .u64 1, .fint .u64 2, .int .i64 1, .fint .i64 4, .fint .u64 5, .fint .i64 6, .fint .i64 7, .fbool 0]), (1, .fints false .u8 0)], m := 0, ret := .at (.int .u64 0) }
def next.C (N : Nat) : Cfg := { P := Tryz.prog, N := N, RT := noRT, specs := [], inl := [], hi := 2, mv := [] }
abbrev next.R : Type := Int × Int
def next.dec (L : Eng.Leaves) : next.R := (L.i 0, L.i 1)
def next.enc (r : next.R) : Eng.Leaves := mkL [r.1, r.2] [] [] []
def next.K (N : Nat) : FCfg := { anns := [], unr := [], lits := [], lets := [] }
def next.F (N : Nat) (rng val last front back window waiting count : Int) (bad : Bool) (b : List Int) : Option next.R :=
  (br (decide (front ≥ ↑b.length))
  (chkI rng rng
  (chkI val val
  (chkI last last
  (chkI back back
  (chkI window window
  (chkI waiting waiting
  (chkI count count
  (chkB bad bad
  (chkL b b
  (some (((0 : Int), front))))))))))))
  (chk ((0 : Int) ≤ IntKind.i64.wrap (IntKind.i64.wrap (front + (1 : Int)) - (1 : Int)) ∧ IntKind.i64.wrap (IntKind.i64.wrap (front + (1 : Int)) - (1 : Int)) < ↑b.length)
  (chkI rng rng
  (chkI val val
  (chkI last last
  (chkI back back
  (chkI window window
  (chkI waiting waiting
  (chkI count count
  (chkB bad bad
  (chkL b b
  (some ((IntKind.u64.wrap (b.getD (IntKind.i64.wrap (IntKind.i64.wrap (front + (1 : Int)) - (1 : Int))).toNat (0 : Int)), IntKind.i64.wrap (front + (1 : Int))))))))))))))))
theorem next.F_eq (N : Nat) (L : Eng.Leaves) : evSig (next.C N) (next.K N) 0 Tryz.f51 next.sig L next.dec = next.F N (L.i 0) (L.i 1) (L.i 2) (L.i 3) (L.i 4) (L.i 5) (L.i 6) (L.i 7) (L.b 0) (L.l 0) := by
  kernel_rfl
def next.spec : Eng.Spec := next.sig.spec (fun N L => next.F N (L.i 0) (L.i 1) (L.i 2) (L.i 3) (L.i 4) (L.i 5) (L.i 6) (L.i 7) (L.b 0) (L.l 0)) next.enc
theorem next.cok (N : Nat) : CfgOK (next.C N) := cok0 wide trivial (by kernel_rfl) rfl rfl rfl rfl
theorem next.aok (N : Nat) : AnnsOK (next.K N) := aok1 trivial
theorem next.ok : CallOK Tryz.prog 51 next.spec := ok0 next.cok (fun _ => iok0 rfl) next.aok next.F_eq (by kernel_rfl) (by kernel_rfl) (fun _ => rfl) (fun _ => ⟨rfl, rfl⟩) fun _ _ => ⟨rfl, rfl⟩
def norm.sig : Eng.Sig := { args := [.at (.ptr 0 0)], n := 2, pre := [(0, .cells 10 [.full 1 false, .int .u64 0, .int .u64 1, .int .u64 2, .int .i64 3, .int .i64 4, .int .u64 5, .int .i64 6, .int .i64 7, .bool 0]), (1, .ints false .u8 0)], post := [(0, .cells 10 [.full 1 false, .int .u64 0, .int .u64 1, .int .u64 2, .int .i64 3, .fint .i64 4, .fint .u64 5, .fint .i64 6, .int .i64 4, .fbool 0]), (1, .fints false .u8 0)], m := 0, ret := .at (.unk) }
def norm.C (N : Nat) : Cfg := { P := Tryz.prog, N := N, RT := noRT, specs := [(51, next.spec)], inl := [], hi := 2, mv := [] }
abbrev norm.R : Type := Int × Int × Int × Int × Int
def norm.dec (L : Eng.Leaves) : norm.R := (L.i 0, L.i 1, L.i 2, L.i 3, L.i 4)
def norm.enc (r : norm.R) : Eng.Leaves := mkL [r.1, r.2.1, r.2.2.1, r.2.2.2.1, r.2.2.2.2] [] [] []
abbrev norm.loop0.R : Type := Int × Int × Int × Int × Int
def norm.loop0.ann : Ann := { nx := 20, slots := [(0, .at (.ptr 0 0))], blks := [(0, .cells 10 [.full 1 false, .int .u64 0, .int .u64 1, .int .u64 2, .int .i64 3, .fint .i64 0, .fint .u64 1, .fint .i64 2, .int .i64 4, .fbool 0]), (1, .fints false .u8 0)], mov := [], exId := 0, xslots := [(0, .at (.ptr 0 0))], xblks := [(0, .cells 10 [.full 1 false, .int .u64 0, .int .u64 1, .int .u64 2, .int .i64 3, .fint .i64 0, .fint .u64 1, .fint .i64 2, .int .i64 4, .fbool 0]), (1, .fints false .u8 0)], T := norm.loop0.R, dec := fun L => (L.i 0, L.i 1, L.i 2, L.i 3, L.i 4), enc := fun r => mkL [r.1, r.2.1, r.2.2.1, r.2.2.2.1, r.2.2.2.2] [] [] [], ret := false }
def norm.K (N : Nat) : FCfg := { anns := [(0, norm.loop0.ann)], unr := [], lits := [], lets := [] }
def norm.loop0 (N : Nat) : Nat → Int → Int → Int → Bool → List Int → Int → Int → Int → Int → Int → Option norm.loop0.R
  | 0, _, _, _, _, _, _, _, _, _, _ => none
  | nn + 1, back, window, waiting, bad, b, rng, val, last, front, count =>
  (br (decide (rng ≤ (8388608 : Int)))
  (obind (Rc.next.F N (IntKind.u64.wrap (rng * (2 : Int) ^ min (Int.toNat (8 : Int)) IntKind.u64.bits)) val last front back window waiting (IntKind.i64.wrap (count + (8 : Int))) bad b) fun r0 =>
  (chkI back back
  (chkI window window
  (chkI waiting waiting
  (chkB bad bad
  (chkL b b
  (norm.loop0 N nn back window waiting bad b (IntKind.u64.wrap (rng * (2 : Int) ^ min (Int.toNat (8 : Int)) IntKind.u64.bits)) (IntKind.u64.wrap ↑(BitVec.ofInt IntKind.u64.bits (IntKind.u64.wrap (IntKind.u64.wrap (IntKind.u64.wrap (val * (2 : Int) ^ min (Int.toNat (8 : Int)) IntKind.u64.bits) + (255 : Int)) - IntKind.u64.wrap ↑(BitVec.ofInt IntKind.u64.bits ((IntKind.u64.wrap ↑(BitVec.ofInt IntKind.u64.bits (IntKind.u64.wrap (last * (2 : Int) ^ min (Int.toNat (8 : Int)) IntKind.u64.bits)) ||| BitVec.ofInt IntKind.u64.bits r0.1).toNat).fdiv ((2 : Int) ^ min (Int.toNat (1 : Int)) IntKind.u64.bits)) &&& BitVec.ofInt IntKind.u64.bits (255 : Int)).toNat)) &&& BitVec.ofInt IntKind.u64.bits (2147483647 : Int)).toNat) r0.1 r0.2 (IntKind.i64.wrap (count + (8 : Int))))))))))
  (chkI back back
  (chkI window window
  (chkI waiting waiting
  (chkB bad bad
  (chkL b b
  (some ((rng, val, last, front, count)))))))))
def norm.loop0R (N nn : Nat) (back window waiting : Int) (bad : Bool) (b : List Int) (rng val last front count : Int) : Option norm.loop0.R := loopF norm.loop0.ann (mkL [back, window, waiting] [bad] [b] []) (evCode ((norm.C N).inLoop norm.loop0.ann) (norm.K N) (inlTab (norm.C N) 0) (bodyAt 0 Tryz.f52)) nn (mkL [rng, val, last, front, count] [] [] [])
theorem norm.loop0_eq (N : Nat) : ∀ nn, norm.loop0R N nn = norm.loop0 N nn
  | 0 => by funext; kernel_rfl
  | nn + 1 => by
    funext; rw [norm.loop0, ← norm.loop0_eq N nn]; kernel_rfl
def norm.F (N : Nat) (rng val last front back window waiting count : Int) (bad : Bool) (b : List Int) : Option norm.R :=
  (obind (norm.loop0 N N back window waiting bad b rng val last front count) fun r0 =>
  (chkI back back
  (chkI window window
  (chkI waiting waiting
  (chkB bad bad
  (chkL b b
  (some ((r0.1, r0.2.1, r0.2.2.1, r0.2.2.2.1, r0.2.2.2.2)))))))))
theorem norm.F_eq (N : Nat) (L : Eng.Leaves) : evSig (norm.C N) (norm.K N) 0 Tryz.f52 norm.sig L norm.dec = norm.F N (L.i 0) (L.i 1) (L.i 2) (L.i 3) (L.i 4) (L.i 5) (L.i 6) (L.i 7) (L.b 0) (L.l 0) := by
  rw [norm.F, ← funext (norm.loop0_eq N)]; kernel_rfl
def norm.spec : Eng.Spec := norm.sig.spec (fun N L => norm.F N (L.i 0) (L.i 1) (L.i 2) (L.i 3) (L.i 4) (L.i 5) (L.i 6) (L.i 7) (L.b 0) (L.l 0)) norm.enc
theorem norm.cok (N : Nat) : CfgOK (norm.C N) := cok0 wide ⟨next.ok, trivial⟩ (by kernel_rfl) rfl rfl rfl rfl
theorem norm.aok (N : Nat) : AnnsOK (norm.K N) := aok1 ⟨fun _ _ => ⟨rfl, rfl⟩, trivial⟩
theorem norm.ok : CallOK Tryz.prog 52 norm.spec := ok0 norm.cok (fun _ => iok0 rfl) norm.aok norm.F_eq (by kernel_rfl) (by kernel_rfl) (fun _ => rfl) (fun _ => ⟨rfl, rfl⟩) fun _ _ => ⟨rfl, rfl⟩
def len64.sig : Eng.Sig := { args := [.at (.int .u64 0)], n := 0, pre := [], post := [], m := 0, ret := .at (.int .i64 0) }
def len64.C (N : Nat) : Cfg := { P := Tryz.prog, N := N, RT := noRT, specs := [], inl := [], hi := 0, mv := [] }
abbrev len64.R : Type := Int
def len64.dec (L : Eng.Leaves) : len64.R := (L.i 0)
def len64.enc (r : len64.R) : Eng.Leaves := mkL [r] [] [] []
def len64.K (N : Nat) : FCfg := { anns := [], unr := [], lits := [], lets := [] }
def len64.F (N : Nat) (x : Int) : Option len64.R :=
  (br (decide (x ≥ (4294967296 : Int)))
  (br (decide (x.fdiv ((2 : Int) ^ min (Int.toNat (32 : Int)) IntKind.u64.bits) ≥ (65536 : Int)))
  (br (decide ((x.fdiv ((2 : Int) ^ min (Int.toNat (32 : Int)) IntKind.u64.bits)).fdiv ((2 : Int) ^ min (Int.toNat (16 : Int)) IntKind.u64.bits) ≥ (256 : Int)))
  (chk ((0 : Int) ≤ IntKind.u8.wrap (((x.fdiv ((2 : Int) ^ min (Int.toNat (32 : Int)) IntKind.u64.bits)).fdiv ((2 : Int) ^ min (Int.toNat (16 : Int)) IntKind.u64.bits)).fdiv ((2 : Int) ^ min (Int.toNat (8 : Int)) IntKind.u64.bits)) ∧ IntKind.u8.wrap (((x.fdiv ((2 : Int) ^ min (Int.toNat (32 : Int)) IntKind.u64.bits)).fdiv ((2 : Int) ^ min (Int.toNat (16 : Int)) IntKind.u64.bits)).fdiv ((2 : Int) ^ min (Int.toNat (8 : Int)) IntKind.u64.bits)) < ↑(256 : Nat))
  (some (IntKind.i64.wrap (IntKind.i64.wrap (IntKind.i64.wrap ((32 : Int) + (16 : Int)) + (8 : Int)) + IntKind.i64.wrap ([(0 : Int), (1 : Int), (2 : Int), (2 : Int), (3 : Int), (3 : Int), (3 : Int), (3 : Int), (4 : Int), (4 : Int), (4 : Int), (4 : Int), (4 : Int), (4 : Int), (4 : Int), (4 : Int), (5 : Int), (5 : Int), (5 : Int), (5 : Int), (5 : Int), (5 : Int), (5 : Int), (5 : Int), (5 : Int), (5 : Int), (5 : Int), (5 : Int), (5 : Int), (5 : Int), (5 : Int), (5 : Int), (6 : Int), (6 : Int), (6 : Int), (6 : Int), (6 : Int), (6 : Int), (6 : Int), (6 : Int), (6 : Int), (6 : Int), (6 : Int), (6 : Int), (6 : Int), (6 : Int), (6 : Int), (6 : Int), (6 : Int), (6 : Int), (6 : Int), (6 : Int), (6 : Int), (6 : Int), (6 : Int), (6 : Int), (6 : Int), (6 : Int), (6 : Int), (6 : Int), (6 : Int), (6 : Int), (6 : Int), (6 : Int), (7 : Int), (7 : Int), (7 : Int), (7 : Int), (7 : Int), (7 : Int), (7 : Int), (7 : Int), (7 : Int), (7 : Int), (7 : Int), (7 : Int), (7 : Int), (7 : Int), (7 : Int), (7 : Int), (7 : Int), (7 : Int), (7 : Int), (7 : Int), (7 : Int), (7 : Int), (7 : Int), (7 : Int), (7 : Int), (7 : Int), (7 : Int), (7 : Int), (7 : Int), (7 : Int), (7 : Int), (7 : Int), (7 : Int), (7 : Int), (7 : Int), (7 : Int), (7 : Int), (7 : Int), (7 : Int), (7 : Int), (7 : Int), (7 : Int), (7 : Int), (7 : Int), (7 : Int), (7 : Int), (7 : Int), (7 : Int), (7 : Int), (7 : Int), (7 : Int), (7 : Int), (7 : Int), (7 : Int), (7 : Int), (7 : Int), (7 : Int), (7 : Int), (7 : Int), (7 : Int), (7 : Int), (7 : Int), (7 : Int), (7 : Int), (8 : Int), (8 : Int), (8 : Int), (8 : Int), (8 : Int), (8 : Int), (8 : Int), (8 : Int), (8 : Int), (8 : Int), (8 : Int), (8 : Int), (8 : Int), (8 : Int), (8 : Int), (8 : Int), (8 : Int), (8 : Int), (8 : Int), (8 : Int), (8 : Int), (8 : Int), (8 : Int), (8 : Int), (8 : Int), (8 : Int), (8 : Int), (8 : Int), (8 : Int), (8 : Int), (8 : Int), (8 : Int), (8 : Int), (8 : Int), (8 : Int), (8 : Int), (8 : Int), (8 : Int), (8 : Int), (8 : Int), (8 : Int), (8 : Int), (8 : Int), (8 : Int), (8 : Int), (8 : Int), (8 : Int), (8 : Int), (8 : Int), (8 : Int), (8 : Int), (8 : Int), (8 : Int), (8 : Int), (8 : Int), (8 : Int), (8 : Int), (8 : Int), (8 : Int), (8 : Int), (8 : Int), (8 : Int), (8 : Int), (8 : Int), (8 : Int), (8 : Int), (8 : Int), (8 : Int), (8 : Int), (8 : Int), (8 : Int), (8 : Int), (8 : Int), (8 : Int), (8 : Int), (8 : Int), (8 : Int), (8 : Int), (8 : Int), (8 : Int), (8 : Int), (8 : Int), (8 : Int), (8 : Int), (8 : Int), (8 : Int), (8 : Int), (8 : Int), (8 : Int), (8 : Int), (8 : Int), (8 : Int), (8 : Int), (8 : Int), (8 : Int), (8 : Int), (8 : Int), (8 : Int), (8 : Int), (8 : Int), (8 : Int), (8 : Int), (8 : Int), (8 : Int), (8 : Int), (8 : Int), (8 : Int), (8 : Int), (8 : Int), (8 : Int), (8 : Int), (8 : Int), (8 : Int), (8 : Int), (8 : Int), (8 : Int), (8 : Int), (8 : Int), (8 : Int), (8 : Int), (8 : Int), (8 : Int), (8 : Int), (8 : Int), (8 : Int), (8 : Int), (8 : Int), (8 : Int)].getD (IntKind.u8.wrap (((x.fdiv ((2 : Int) ^ min (Int.toNat (32 : Int)) IntKind.u64.bits)).fdiv ((2 : Int) ^ min (Int.toNat (16 : Int)) IntKind.u64.bits)).fdiv ((2 : Int) ^ min (Int.toNat (8 : Int)) IntKind.u64.bits))).toNat (0 : Int))))))
  (chk ((0 : Int) ≤ IntKind.u8.wrap ((x.fdiv ((2 : Int) ^ min (Int.toNat (32 : Int)) IntKind.u64.bits)).fdiv ((2 : Int) ^ min (Int.toNat (16 : Int)) IntKind.u64.bits)) ∧ IntKind.u8.wrap ((x.fdiv ((2 : Int) ^ min (Int.toNat (32 : Int)) IntKind.u64.bits)).fdiv ((2 : Int) ^ min (Int.toNat (16 : Int)) IntKind.u64.bits)) < ↑(256 : Nat))
  (some (IntKind.i64.wrap (IntKind.i64.wrap ((32 : Int) + (16 : Int)) + IntKind.i64.wrap ([(0 : Int), (1 : Int), (2 : Int), (2 : Int), (3 : Int), (3 : Int), (3 : Int), (3 : Int), (4 : Int), (4 : Int), (4 : Int), (4 : Int), (4 : Int), (4 : Int), (4 : Int), (4 : Int), (5 : Int), (5 : Int), (5 : Int), (5 : Int), (5 : Int), (5 : Int), (5 : Int), (5 : Int), (5 : Int), (5 : Int), (5 : Int), (5 : Int), (5 : Int), (5 : Int), (5 : Int), (5 : Int), (6 : Int), (6 : Int), (6 : Int), (6 : Int), (6 : Int), (6 : Int), (6 : Int), (6 : Int), (6 : Int), (6 : Int), (6 : Int), (6 : Int), (6 : Int), (6 : Int), (6 : Int), (6 : Int), (6 : Int), (6 : Int), (6 : Int), (6 : Int), (6 : Int), (6 : Int), (6 : Int), (6 : Int), (6 : Int), (6 : Int), (6 : Int), (6 : Int), (6 : Int), (6 : Int), (6 : Int), (6 : Int), (7 : Int), (7 : Int), (7 : Int), (7 : Int), (7 : Int), (7 : Int), (7 : Int), (7 : Int), (7 : Int), (7 : Int), (7 : Int), (7 : Int), (7 : Int), (7 : Int), (7 : Int), (7 : Int), (7 : Int), (7 : Int), (7 : Int), (7 : Int), (7 : Int), (7 : Int), (7 : Int), (7 : Int), (7 : Int), (7 : Int), (7 : Int), (7 : Int), (7 : Int), (7 : Int), (7 : Int), (7 : Int), (7 : Int), (7 : Int), (7 : Int), (7 : Int), (7 : Int), (7 : Int), (7 : Int), (7 : Int), (7 : Int), (7 : Int), (7 : Int), (7 : Int), (7 : Int), (7 : Int), (7 : Int), (7 : Int), (7 : Int), (7 : Int), (7 : Int), (7 : Int), (7 : Int), (7 : Int), (7 : Int), (7 : Int), (7 : Int), (7 : Int), (7 : Int), (7 : Int), (7 : Int), (7 : Int), (7 : Int), (7 : Int), (8 : Int), (8 : Int), (8 : Int), (8 : Int), (8 : Int), (8 : Int), (8 : Int), (8 : Int), (8 : Int), (8 : Int), (8 : Int), (8 : Int), (8 : Int), (8 : Int), (8 : Int), (8 : Int), (8 : Int), (8 : Int), (8 : Int), (8 : Int), (8 : Int), (8 : Int), (8 : Int), (8 : Int), (8 : Int), (8 : Int), (8 : Int), (8 : Int), (8 : Int), (8 : Int), (8 : Int), (8 : Int), (8 : Int), (8 : Int), (8 : Int), (8 : Int), (8 : Int), (8 : Int), (8 : Int), (8 : Int), (8 : Int), (8 : Int), (8 : Int), (8 : Int), (8 : Int), (8 : Int), (8 : Int), (8 : Int), (8 : Int), (8 : Int), (8 : Int), (8 : Int), (8 : Int), (8 : Int), (8 : Int), (8 : Int), (8 : Int), (8 : Int), (8 : Int), (8 : Int), (8 : Int), (8 : Int), (8 : Int), (8 : Int), (8 : Int), (8 : Int), (8 : Int), (8 : Int), (8 : Int), (8 : Int), (8 : Int), (8 : Int), (8 : Int), (8 : Int), (8 : Int), (8 : Int), (8 : Int), (8 : Int), (8 : Int), (8 : Int), (8 : Int), (8 : Int), (8 : Int), (8 : Int), (8 : Int), (8 : Int), (8 : Int), (8 : Int), (8 : Int), (8 : Int), (8 : Int), (8 : Int), (8 : Int), (8 : Int), (8 : Int), (8 : Int), (8 : Int), (8 : Int), (8 : Int), (8 : Int), (8 : Int), (8 : Int), (8 : Int), (8 : Int), (8 : Int), (8 : Int), (8 : Int), (8 : Int), (8 : Int), (8 : Int), (8 : Int), (8 : Int), (8 : Int), (8 : Int), (8 : Int), (8 : Int), (8 : Int), (8 : Int), (8 : Int), (8 : Int), (8 : Int), (8 : Int), (8 : Int), (8 : Int), (8 : Int), (8 : Int), (8 : Int), (8 : Int)].getD (IntKind.u8.wrap ((x.fdiv ((2 : Int) ^ min (Int.toNat (32 : Int)) IntKind.u64.bits)).fdiv ((2 : Int) ^ min (Int.toNat (16 : Int)) IntKind.u64.bits))).toNat (0 : Int)))))))
  (br (decide (x.fdiv ((2 : Int) ^ min (Int.toNat (32 : Int)) IntKind.u64.bits) ≥ (256 : Int)))
  (chk ((0 : Int) ≤ IntKind.u8.wrap ((x.fdiv ((2 : Int) ^ min (Int.toNat (32 : Int)) IntKind.u64.bits)).fdiv ((2 : Int) ^ min (Int.toNat (8 : Int)) IntKind.u64.bits)) ∧ IntKind.u8.wrap ((x.fdiv ((2 : Int) ^ min (Int.toNat (32 : Int)) IntKind.u64.bits)).fdiv ((2 : Int) ^ min (Int.toNat (8 : Int)) IntKind.u64.bits)) < ↑(256 : Nat))
  (some (IntKind.i64.wrap (IntKind.i64.wrap ((32 : Int) + (8 : Int)) + IntKind.i64.wrap ([(0 : Int), (1 : Int), (2 : Int), (2 : Int), (3 : Int), (3 : Int), (3 : Int), (3 : Int), (4 : Int), (4 : Int), (4 : Int), (4 : Int), (4 : Int), (4 : Int), (4 : Int), (4 : Int), (5 : Int), (5 : Int), (5 : Int), (5 : Int), (5 : Int), (5 : Int), (5 : Int), (5 : Int), (5 : Int), (5 : Int), (5 : Int), (5 : Int), (5 : Int), (5 : Int), (5 : Int), (5 : Int), (6 : Int), (6 : Int), (6 : Int), (6 : Int), (6 : Int), (6 : Int), (6 : Int), (6 : Int), (6 : Int), (6 : Int), (6 : Int), (6 : Int), (6 : Int), (6 : Int), (6 : Int), (6 : Int), (6 : Int), (6 : Int), (6 : Int), (6 : Int), (6 : Int), (6 : Int), (6 : Int), (6 : Int), (6 : Int), (6 : Int), (6 : Int), (6 : Int), (6 : Int), (6 : Int), (6 : Int), (6 : Int), (7 : Int), (7 : Int), (7 : Int), (7 : Int), (7 : Int), (7 : Int), (7 : Int), (7 : Int), (7 : Int), (7 : Int), (7 : Int), (7 : Int), (7 : Int), (7 : Int), (7 : Int), (7 : Int), (7 : Int), (7 : Int), (7 : Int), (7 : Int), (7 : Int), (7 : Int), (7 : Int), (7 : Int), (7 : Int), (7 : Int), (7 : Int), (7 : Int), (7 : Int), (7 : Int), (7 : Int), (7 : Int), (7 : Int), (7 : Int), (7 : Int), (7 : Int), (7 : Int), (7 : Int), (7 : Int), (7 : Int), (7 : Int), (7 : Int), (7 : Int), (7 : Int), (7 : Int), (7 : Int), (7 : Int), (7 : Int), (7 : Int), (7 : Int), (7 : Int), (7 : Int), (7 : Int), (7 : Int), (7 : Int), (7 : Int), (7 : Int), (7 : Int), (7 : Int), (7 : Int), (7 : Int), (7 : Int), (7 : Int), (7 : Int), (8 : Int), (8 : Int), (8 : Int), (8 : Int), (8 : Int), (8 : Int), (8 : Int), (8 : Int), (8 : Int), (8 : Int), (8 : Int), (8 : Int), (8 : Int), (8 : Int), (8 : Int), (8 : Int), (8 : Int), (8 : Int), (8 : Int), (8 : Int), (8 : Int), (8 : Int), (8 : Int), (8 : Int), (8 : Int), (8 : Int), (8 : Int), (8 : Int), (8 : Int), (8 : Int), (8 : Int), (8 : Int), (8 : Int), (8 : Int), (8 : Int), (8 : Int), (8 : Int), (8 : Int), (8 : Int), (8 : Int), (8 : Int), (8 : Int), (8 : Int), (8 : Int), (8 : Int), (8 : Int), (8 : Int), (8 : Int), (8 : Int), (8 : Int), (8 : Int), (8 : Int), (8 : Int), (8 : Int), (8 : Int), (8 : Int), (8 : Int), (8 : Int), (8 : Int), (8 : Int), (8 : Int), (8 : Int), (8 : Int), (8 : Int), (8 : Int), (8 : Int), (8 : Int), (8 : Int), (8 : Int), (8 : Int), (8 : Int), (8 : Int), (8 : Int), (8 : Int), (8 : Int), (8 : Int), (8 : Int), (8 : Int), (8 : Int), (8 : Int), (8 : Int), (8 : Int), (8 : Int), (8 : Int), (8 : Int), (8 : Int), (8 : Int), (8 : Int), (8 : Int), (8 : Int), (8 : Int), (8 : Int), (8 : Int), (8 : Int), (8 : Int), (8 : Int), (8 : Int), (8 : Int), (8 : Int), (8 : Int), (8 : Int), (8 : Int), (8 : Int), (8 : Int), (8 : Int), (8 : Int), (8 : Int), (8 : Int), (8 : Int), (8 : Int), (8 : Int), (8 : Int), (8 : Int), (8 : Int), (8 : Int), (8 : Int), (8 : Int), (8 : Int), (8 : Int), (8 : Int), (8 : Int), (8 : Int), (8 : Int), (8 : Int), (8 : Int), (8 : Int), (8 : Int), (8 : Int)].getD (IntKind.u8.wrap ((x.fdiv ((2 : Int) ^ min (Int.toNat (32 : Int)) IntKind.u64.bits)).fdiv ((2 : Int) ^ min (Int.toNat (8 : Int)) IntKind.u64.bits))).toNat (0 : Int))))))
  (chk ((0 : Int) ≤ IntKind.u8.wrap (x.fdiv ((2 : Int) ^ min (Int.toNat (32 : Int)) IntKind.u64.bits)) ∧ IntKind.u8.wrap (x.fdiv ((2 : Int) ^ min (Int.toNat (32 : Int)) IntKind.u64.bits)) < ↑(256 : Nat))
  (some (IntKind.i64.wrap ((32 : Int) + IntKind.i64.wrap ([(0 : Int), (1 : Int), (2 : Int), (2 : Int), (3 : Int), (3 : Int), (3 : Int), (3 : Int), (4 : Int), (4 : Int), (4 : Int), (4 : Int), (4 : Int), (4 : Int), (4 : Int), (4 : Int), (5 : Int), (5 : Int), (5 : Int), (5 : Int), (5 : Int), (5 : Int), (5 : Int), (5 : Int), (5 : Int), (5 : Int), (5 : Int), (5 : Int), (5 : Int), (5 : Int), (5 : Int), (5 : Int), (6 : Int), (6 : Int), (6 : Int), (6 : Int), (6 : Int), (6 : Int), (6 : Int), (6 : Int), (6 : Int), (6 : Int), (6 : Int), (6 : Int), (6 : Int), (6 : Int), (6 : Int), (6 : Int), (6 : Int), (6 : Int), (6 : Int), (6 : Int), (6 : Int), (6 : Int), (6 : Int), (6 : Int), (6 : Int), (6 : Int), (6 : Int), (6 : Int), (6 : Int), (6 : Int), (6 : Int), (6 : Int), (7 : Int), (7 : Int), (7 : Int), (7 : Int), (7 : Int), (7 : Int), (7 : Int), (7 : Int), (7 : Int), (7 : Int), (7 : Int), (7 : Int), (7 : Int), (7 : Int), (7 : Int), (7 : Int), (7 : Int), (7 : Int), (7 : Int), (7 : Int), (7 : Int), (7 : Int), (7 : Int), (7 : Int), (7 : Int), (7 : Int), (7 : Int), (7 : Int), (7 : Int), (7 : Int), (7 : Int), (7 : Int), (7 : Int), (7 : Int), (7 : Int), (7 : Int), (7 : Int), (7 : Int), (7 : Int), (7 : Int), (7 : Int), (7 : Int), (7 : Int), (7 : Int), (7 : Int), (7 : Int), (7 : Int), (7 : Int), (7 : Int), (7 : Int), (7 : Int), (7 : Int), (7 : Int), (7 : Int), (7 : Int), (7 : Int), (7 : Int), (7 : Int), (7 : Int), (7 : Int), (7 : Int), (7 : Int), (7 : Int), (7 : Int), (8 : Int), (8 : Int), (8 : Int), (8 : Int), (8 : Int), (8 : Int), (8 : Int), (8 : Int), (8 : Int), (8 : Int), (8 : Int), (8 : Int), (8 : Int), (8 : Int), (8 : Int), (8 : Int), (8 : Int), (8 : Int), (8 : Int), (8 : Int), (8 : Int), (8 : Int), (8 : Int), (8 : Int), (8 : Int), (8 : Int), (8 : Int), (8 : Int), (8 : Int), (8 : Int), (8 : Int), (8 : Int), (8 : Int), (8 : Int), (8 : Int), (8 : Int), (8 : Int), (8 : Int), (8 : Int), (8 : Int), (8 : Int), (8 : Int), (8 : Int), (8 : Int), (8 : Int), (8 : Int), (8 : Int), (8 : Int), (8 : Int), (8 : Int), (8 : Int), (8 : Int), (8 : Int), (8 : Int), (8 : Int), (8 : Int), (8 : Int), (8 : Int), (8 : Int), (8 : Int), (8 : Int), (8 : Int), (8 : Int), (8 : Int), (8 : Int), (8 : Int), (8 : Int), (8 : Int), (8 : Int), (8 : Int), (8 : Int), (8 : Int), (8 : Int), (8 : Int), (8 : Int), (8 : Int), (8 : Int), (8 : Int), (8 : Int), (8 : Int), (8 : Int), (8 : Int), (8 : Int), (8 : Int), (8 : Int), (8 : Int), (8 : Int), (8 : Int), (8 : Int), (8 : Int), (8 : Int), (8 : Int), (8 : Int), (8 : Int), (8 : Int), (8 : Int), (8 : Int), (8 : Int), (8 : Int), (8 : Int), (8 : Int), (8 : Int), (8 : Int), (8 : Int), (8 : Int), (8 : Int), (8 : Int), (8 : Int), (8 : Int), (8 : Int), (8 : Int), (8 : Int), (8 : Int), (8 : Int), (8 : Int), (8 : Int), (8 : Int), (8 : Int), (8 : Int), (8 : Int), (8 : Int), (8 : Int), (8 : Int), (8 : Int), (8 : Int), (8 : Int), (8 : Int), (8 : Int)].getD (IntKind.u8.wrap (x.fdiv ((2 : Int) ^ min (Int.toNat (32 : Int)) IntKind.u64.bits))).toNat (0 : Int))))))))
  (br (decide (x ≥ (65536 : Int)))
  (br (decide (x.fdiv ((2 : Int) ^ min (Int.toNat (16 : Int)) IntKind.u64.bits) ≥ (256 : Int)))
  (chk ((0 : Int) ≤ IntKind.u8.wrap ((x.fdiv ((2 : Int) ^ min (Int.toNat (16 : Int)) IntKind.u64.bits)).fdiv ((2 : Int) ^ min (Int.toNat (8 : Int)) IntKind.u64.bits)) ∧ IntKind.u8.wrap ((x.fdiv ((2 : Int) ^ min (Int.toNat (16 : Int)) IntKind.u64.bits)).fdiv ((2 : Int) ^ min (Int.toNat (8 : Int)) IntKind.u64.bits)) < ↑(256 : Nat))
  (some (IntKind.i64.wrap (IntKind.i64.wrap (IntKind.i64.wrap ((0 : Int) + (16 : Int)) + (8 : Int)) + IntKind.i64.wrap ([(0 : Int), (1 : Int), (2 : Int), (2 : Int), (3 : Int), (3 : Int), (3 : Int), (3 : Int), (4 : Int), (4 : Int), (4 : Int), (4 : Int), (4 : Int), (4 : Int), (4 : Int), (4 : Int), (5 : Int), (5 : Int), (5 : Int), (5 : Int), (5 : Int), (5 : Int), (5 : Int), (5 : Int), (5 : Int), (5 : Int), (5 : Int), (5 : Int), (5 : Int), (5 : Int), (5 : Int), (5 : Int), (6 : Int), (6 : Int), (6 : Int), (6 : Int), (6 : Int), (6 : Int), (6 : Int), (6 : Int), (6 : Int), (6 : Int), (6 : Int), (6 : Int), (6 : Int), (6 : Int), (6 : Int), (6 : Int), (6 : Int), (6 : Int), (6 : Int), (6 : Int), (6 : Int), (6 : Int), (6 : Int), (6 : Int), (6 : Int), (6 : Int), (6 : Int), (6 : Int), (6 : Int), (6 : Int), (6 : Int), (6 : Int), (7 : Int), (7 : Int), (7 : Int), (7 : Int), (7 : Int), (7 : Int), (7 : Int), (7 : Int), (7 : Int), (7 : Int), (7 : Int), (7 : Int), (7 : Int), (7 : Int), (7 : Int), (7 : Int), (7 : Int), (7 : Int), (7 : Int), (7 : Int), (7 : Int), (7 : Int), (7 : Int), (7 : Int), (7 : Int), (7 : Int), (7 : Int), (7 : Int), (7 : Int), (7 : Int), (7 : Int), (7 : Int), (7 : Int), (7 : Int), (7 : Int), (7 : Int), (7 : Int), (7 : Int), (7 : Int), (7 : Int), (7 : Int), (7 : Int), (7 : Int), (7 : Int), (7 : Int), (7 : Int), (7 : Int), (7 : Int), (7 : Int), (7 : Int), (7 : Int), (7 : Int), (7 : Int), (7 : Int), (7 : Int), (7 : Int), (7 : Int), (7 : Int), (7 : Int), (7 : Int), (7 : Int), (7 : Int), (7 : Int), (7 : Int), (8 : Int), (8 : Int), (8 : Int), (8 : Int), (8 : Int), (8 : Int), (8 : Int), (8 : Int), (8 : Int), (8 : Int), (8 : Int), (8 : Int), (8 : Int), (8 : Int), (8 : Int), (8 : Int), (8 : Int), (8 : Int), (8 : Int), (8 : Int), (8 : Int), (8 : Int), (8 : Int), (8 : Int), (8 : Int), (8 : Int), (8 : Int), (8 : Int), (8 : Int), (8 : Int), (8 : Int), (8 : Int), (8 : Int), (8 : Int), (8 : Int), (8 : Int), (8 : Int), (8 : Int), (8 : Int), (8 : Int), (8 : Int), (8 : Int), (8 : Int), (8 : Int), (8 : Int), (8 : Int), (8 : Int), (8 : Int), (8 : Int), (8 : Int), (8 : Int), (8 : Int), (8 : Int), (8 : Int), (8 : Int), (8 : Int), (8 : Int), (8 : Int), (8 : Int), (8 : Int), (8 : Int), (8 : Int), (8 : Int), (8 : Int), (8 : Int), (8 : Int), (8 : Int), (8 : Int), (8 : Int), (8 : Int), (8 : Int), (8 : Int), (8 : Int), (8 : Int), (8 : Int), (8 : Int), (8 : Int), (8 : Int), (8 : Int), (8 : Int), (8 : Int), (8 : Int), (8 : Int), (8 : Int), (8 : Int), (8 : Int), (8 : Int), (8 : Int), (8 : Int), (8 : Int), (8 : Int), (8 : Int), (8 : Int), (8 : Int), (8 : Int), (8 : Int), (8 : Int), (8 : Int), (8 : Int), (8 : Int), (8 : Int), (8 : Int), (8 : Int), (8 : Int), (8 : Int), (8 : Int), (8 : Int), (8 : Int), (8 : Int), (8 : Int), (8 : Int), (8 : Int), (8 : Int), (8 : Int), (8 : Int), (8 : Int), (8 : Int), (8 : Int), (8 : Int), (8 : Int), (8 : Int), (8 : Int), (8 : Int), (8 : Int), (8 : Int), (8 : Int), (8 : Int), (8 : Int)].getD (IntKind.u8.wrap ((x.fdiv ((2 : Int) ^ min (Int.toNat (16 : Int)) IntKind.u64.bits)).fdiv ((2 : Int) ^ min (Int.toNat (8 : Int)) IntKind.u64.bits))).toNat (0 : Int))))))
  (chk ((0 : Int) ≤ IntKind.u8.wrap (x.fdiv ((2 : Int) ^ min (Int.toNat (16 : Int)) IntKind.u64.bits)) ∧ IntKind.u8.wrap (x.fdiv ((2 : Int) ^ min (Int.toNat (16 : Int)) IntKind.u64.bits)) < ↑(256 : Nat))
  (some (IntKind.i64.wrap (IntKind.i64.wrap ((0 : Int) + (16 : Int)) + IntKind.i64.wrap ([(0 : Int), (1 : Int), (2 : Int), (2 : Int), (3 : Int), (3 : Int), (3 : Int), (3 : Int), (4 : Int), (4 : Int), (4 : Int), (4 : Int), (4 : Int), (4 : Int), (4 : Int), (4 : Int), (5 : Int), (5 : Int), (5 : Int), (5 : Int), (5 : Int), (5 : Int), (5 : Int), (5 : Int), (5 : Int), (5 : Int), (5 : Int), (5 : Int), (5 : Int), (5 : Int), (5 : Int), (5 : Int), (6 : Int), (6 : Int), (6 : Int), (6 : Int), (6 : Int), (6 : Int), (6 : Int), (6 : Int), (6 : Int), (6 : Int), (6 : Int), (6 : Int), (6 : Int), (6 : Int), (6 : Int), (6 : Int), (6 : Int), (6 : Int), (6 : Int), (6 : Int), (6 : Int), (6 : Int), (6 : Int), (6 : Int), (6 : Int), (6 : Int), (6 : Int), (6 : Int), (6 : Int), (6 : Int), (6 : Int), (6 : Int), (7 : Int), (7 : Int), (7 : Int), (7 : Int), (7 : Int), (7 : Int), (7 : Int), (7 : Int), (7 : Int), (7 : Int), (7 : Int), (7 : Int), (7 : Int), (7 : Int), (7 : Int), (7 : Int), (7 : Int), (7 : Int), (7 : Int), (7 : Int), (7 : Int), (7 : Int), (7 : Int), (7 : Int), (7 : Int), (7 : Int), (7 : Int), (7 : Int), (7 : Int), (7 : Int), (7 : Int), (7 : Int), (7 : Int), (7 : Int), (7 : Int), (7 : Int), (7 : Int), (7 : Int), (7 : Int), (7 : Int), (7 : Int), (7 : Int), (7 : Int), (7 : Int), (7 : Int), (7 : Int), (7 : Int), (7 : Int), (7 : Int), (7 : Int), (7 : Int), (7 : Int), (7 : Int), (7 : Int), (7 : Int), (7 : Int), (7 : Int), (7 : Int), (7 : Int), (7 : Int), (7 : Int), (7 : Int), (7 : Int), (7 : Int), (8 : Int), (8 : Int), (8 : Int), (8 : Int), (8 : Int), (8 : Int), (8 : Int), (8 : Int), (8 : Int), (8 : Int), (8 : Int), (8 : Int), (8 : Int), (8 : Int), (8 : Int), (8 : Int), (8 : Int), (8 : Int), (8 : Int), (8 : Int), (8 : Int), (8 : Int), (8 : Int), (8 : Int), (8 : Int), (8 : Int), (8 : Int), (8 : Int), (8 : Int), (8 : Int), (8 : Int), (8 : Int), (8 : Int), (8 : Int), (8 : Int), (8 : Int), (8 : Int), (8 : Int), (8 : Int), (8 : Int), (8 : Int), (8 : Int), (8 : Int), (8 : Int), (8 : Int), (8 : Int), (8 : Int), (8 : Int), (8 : Int), (8 : Int), (8 : Int), (8 : Int), (8 : Int), (8 : Int), (8 : Int), (8 : Int), (8 : Int), (8 : Int), (8 : Int), (8 : Int), (8 : Int), (8 : Int), (8 : Int), (8 : Int), (8 : Int), (8 : Int), (8 : Int), (8 : Int), (8 : Int), (8 : Int), (8 : Int), (8 : Int), (8 : Int), (8 : Int), (8 : Int), (8 : Int), (8 : Int), (8 : Int), (8 : Int), (8 : Int), (8 : Int), (8 : Int), (8 : Int), (8 : Int), (8 : Int), (8 : Int), (8 : Int), (8 : Int), (8 : Int), (8 : Int), (8 : Int), (8 : Int), (8 : Int), (8 : Int), (8 : Int), (8 : Int), (8 : Int), (8 : Int), (8 : Int), (8 : Int), (8 : Int), (8 : Int), (8 : Int), (8 : Int), (8 : Int), (8 : Int), (8 : Int), (8 : Int), (8 : Int), (8 : Int), (8 : Int), (8 : Int), (8 : Int), (8 : Int), (8 : Int), (8 : Int), (8 : Int), (8 : Int), (8 : Int), (8 : Int), (8 : Int), (8 : Int), (8 : Int), (8 : Int), (8 : Int), (8 : Int), (8 : Int), (8 : Int)].getD (IntKind.u8.wrap (x.fdiv ((2 : Int) ^ min (Int.toNat (16 : Int)) IntKind.u64.bits))).toNat (0 : Int)))))))
  (br (decide (x ≥ (256 : Int)))
  (chk ((0 : Int) ≤ IntKind.u8.wrap (x.fdiv ((2 : Int) ^ min (Int.toNat (8 : Int)) IntKind.u64.bits)) ∧ IntKind.u8.wrap (x.fdiv ((2 : Int) ^ min (Int.toNat (8 : Int)) IntKind.u64.bits)) < ↑(256 : Nat))
  (some (IntKind.i64.wrap (IntKind.i64.wrap ((0 : Int) + (8 : Int)) + IntKind.i64.wrap ([(0 : Int), (1 : Int), (2 : Int), (2 : Int), (3 : Int), (3 : Int), (3 : Int), (3 : Int), (4 : Int), (4 : Int), (4 : Int), (4 : Int), (4 : Int), (4 : Int), (4 : Int), (4 : Int), (5 : Int), (5 : Int), (5 : Int), (5 : Int), (5 : Int), (5 : Int), (5 : Int), (5 : Int), (5 : Int), (5 : Int), (5 : Int), (5 : Int), (5 : Int), (5 : Int), (5 : Int), (5 : Int), (6 : Int), (6 : Int), (6 : Int), (6 : Int), (6 : Int), (6 : Int), (6 : Int), (6 : Int), (6 : Int), (6 : Int), (6 : Int), (6 : Int), (6 : Int), (6 : Int), (6 : Int), (6 : Int), (6 : Int), (6 : Int), (6 : Int), (6 : Int), (6 : Int), (6 : Int), (6 : Int), (6 : Int), (6 : Int), (6 : Int), (6 : Int), (6 : Int), (6 : Int), (6 : Int), (6 : Int), (6 : Int), (7 : Int), (7 : Int), (7 : Int), (7 : Int), (7 : Int), (7 : Int), (7 : Int), (7 : Int), (7 : Int), (7 : Int), (7 : Int), (7 : Int), (7 : Int), (7 : Int), (7 : Int), (7 : Int), (7 : Int), (7 : Int), (7 : Int), (7 : Int), (7 : Int), (7 : Int), (7 : Int), (7 : Int), (7 : Int), (7 : Int), (7 : Int), (7 : Int), (7 : Int), (7 : Int), (7 : Int), (7 : Int), (7 : Int), (7 : Int), (7 : Int), (7 : Int), (7 : Int), (7 : Int), (7 : Int), (7 : Int), (7 : Int), (7 : Int), (7 : Int), (7 : Int), (7 : Int), (7 : Int), (7 : Int), (7 : Int), (7 : Int), (7 : Int), (7 : Int), (7 : Int), (7 : Int), (7 : Int), (7 : Int), (7 : Int), (7 : Int), (7 : Int), (7 : Int), (7 : Int), (7 : Int), (7 : Int), (7 : Int), (7 : Int), (8 : Int), (8 : Int), (8 : Int), (8 : Int), (8 : Int), (8 : Int), (8 : Int), (8 : Int), (8 : Int), (8 : Int), (8 : Int), (8 : Int), (8 : Int), (8 : Int), (8 : Int), (8 : Int), (8 : Int), (8 : Int), (8 : Int), (8 : Int), (8 : Int), (8 : Int), (8 : Int), (8 : Int), (8 : Int), (8 : Int), (8 : Int), (8 : Int), (8 : Int), (8 : Int), (8 : Int), (8 : Int), (8 : Int), (8 : Int), (8 : Int), (8 : Int), (8 : Int), (8 : Int), (8 : Int), (8 : Int), (8 : Int), (8 : Int), (8 : Int), (8 : Int), (8 : Int), (8 : Int), (8 : Int), (8 : Int), (8 : Int), (8 : Int), (8 : Int), (8 : Int), (8 : Int), (8 : Int), (8 : Int), (8 : Int), (8 : Int), (8 : Int), (8 : Int), (8 : Int), (8 : Int), (8 : Int), (8 : Int), (8 : Int), (8 : Int), (8 : Int), (8 : Int), (8 : Int), (8 : Int), (8 : Int), (8 : Int), (8 : Int), (8 : Int), (8 : Int), (8 : Int), (8 : Int), (8 : Int), (8 : Int), (8 : Int), (8 : Int), (8 : Int), (8 : Int), (8 : Int), (8 : Int), (8 : Int), (8 : Int), (8 : Int), (8 : Int), (8 : Int), (8 : Int), (8 : Int), (8 : Int), (8 : Int), (8 : Int), (8 : Int), (8 : Int), (8 : Int), (8 : Int), (8 : Int), (8 : Int), (8 : Int), (8 : Int), (8 : Int), (8 : Int), (8 : Int), (8 : Int), (8 : Int), (8 : Int), (8 : Int), (8 : Int), (8 : Int), (8 : Int), (8 : Int), (8 : Int), (8 : Int), (8 : Int), (8 : Int), (8 : Int), (8 : Int), (8 : Int), (8 : Int), (8 : Int), (8 : Int), (8 : Int), (8 : Int), (8 : Int), (8 : Int), (8 : Int)].getD (IntKind.u8.wrap (x.fdiv ((2 : Int) ^ min (Int.toNat (8 : Int)) IntKind.u64.bits))).toNat (0 : Int))))))
  (chk ((0 : Int) ≤ IntKind.u8.wrap x ∧ IntKind.u8.wrap x < ↑(256 : Nat))
  (some (IntKind.i64.wrap ((0 : Int) + IntKind.i64.wrap ([(0 : Int), (1 : Int), (2 : Int), (2 : Int), (3 : Int), (3 : Int), (3 : Int), (3 : Int), (4 : Int), (4 : Int), (4 : Int), (4 : Int), (4 : Int), (4 : Int), (4 : Int), (4 : Int), (5 : Int), (5 : Int), (5 : Int), (5 : Int), (5 : Int), (5 : Int), (5 : Int), (5 : Int), (5 : Int), (5 : Int), (5 : Int), (5 : Int), (5 : Int), (5 : Int), (5 : Int), (5 : Int), (6 : Int), (6 : Int), (6 : Int), (6 : Int), (6 : Int), (6 : Int), (6 : Int), (6 : Int), (6 : Int), (6 : Int), (6 : Int), (6 : Int), (6 : Int), (6 : Int), (6 : Int), (6 : Int), (6 : Int), (6 : Int), (6 : Int), (6 : Int), (6 : Int), (6 : Int), (6 : Int), (6 : Int), (6 : Int), (6 : Int), (6 : Int), (6 : Int), (6 : Int), (6 : Int), (6 : Int), (6 : Int), (7 : Int), (7 : Int), (7 : Int), (7 : Int), (7 : Int), (7 : Int), (7 : Int), (7 : Int), (7 : Int), (7 : Int), (7 : Int), (7 : Int), (7 : Int), (7 : Int), (7 : Int), (7 : Int), (7 : Int), (7 : Int), (7 : Int), (7 : Int), (7 : Int), (7 : Int), (7 : Int), (7 : Int), (7 : Int), (7 : Int), (7 : Int), (7 : Int), (7 : Int), (7 : Int), (7 : Int), (7 : Int), (7 : Int), (7 : Int), (7 : Int), (7 : Int), (7 : Int), (7 : Int), (7 : Int), (7 : Int), (7 : Int), (7 : Int), (7 : Int), (7 : Int), (7 : Int), (7 : Int), (7 : Int), (7 : Int), (7 : Int), (7 : Int), (7 : Int), (7 : Int), (7 : Int), (7 : Int), (7 : Int), (7 : Int), (7 : Int), (7 : Int), (7 : Int), (7 : Int), (7 : Int), (7 : Int), (7 : Int), (7 : Int), (8 : Int), (8 : Int), (8 : Int), (8 : Int), (8 : Int), (8 : Int), (8 : Int), (8 : Int), (8 : Int), (8 : Int), (8 : Int), (8 : Int), (8 : Int), (8 : Int), (8 : Int), (8 : Int), (8 : Int), (8 : Int), (8 : Int), (8 : Int), (8 : Int), (8 : Int), (8 : Int), (8 : Int), (8 : Int), (8 : Int), (8 : Int), (8 : Int), (8 : Int), (8 : Int), (8 : Int), (8 : Int), (8 : Int), (8 : Int), (8 : Int), (8 : Int), (8 : Int), (8 : Int), (8 : Int), (8 : Int), (8 : Int), (8 : Int), (8 : Int), (8 : Int), (8 : Int), (8 : Int), (8 : Int), (8 : Int), (8 : Int), (8 : Int), (8 : Int), (8 : Int), (8 : Int), (8 : Int), (8 : Int), (8 : Int), (8 : Int), (8 : Int), (8 : Int), (8 : Int), (8 : Int), (8 : Int), (8 : Int), (8 : Int), (8 : Int), (8 : Int), (8 : Int), (8 : Int), (8 : Int), (8 : Int), (8 : Int), (8 : Int), (8 : Int), (8 : Int), (8 : Int), (8 : Int), (8 : Int), (8 : Int), (8 : Int), (8 : Int), (8 : Int), (8 : Int), (8 : Int), (8 : Int), (8 : Int), (8 : Int), (8 : Int), (8 : Int), (8 : Int), (8 : Int), (8 : Int), (8 : Int), (8 : Int), (8 : Int), (8 : Int), (8 : Int), (8 : Int), (8 : Int), (8 : Int), (8 : Int), (8 : Int), (8 : Int), (8 : Int), (8 : Int), (8 : Int), (8 : Int), (8 : Int), (8 : Int), (8 : Int), (8 : Int), (8 : Int), (8 : Int), (8 : Int), (8 : Int), (8 : Int), (8 : Int), (8 : Int), (8 : Int), (8 : Int), (8 : Int), (8 : Int), (8 : Int), (8 : Int), (8 : Int), (8 : Int), (8 : Int), (8 : Int), (8 : Int)].getD (IntKind.u8.wrap x).toNat (0 : Int)))))))))
theorem len64.F_eq (N : Nat) (L : Eng.Leaves) : evSig (len64.C N) (len64.K N) 0 Tryz.f68 len64.sig L len64.dec = len64.F N (L.i 0) := by
  kernel_rfl
def len64.spec : Eng.Spec := len64.sig.spec (fun N L => len64.F N (L.i 0)) len64.enc
theorem len64.cok (N : Nat) : CfgOK (len64.C N) := cok0 wide trivial (by kernel_rfl) rfl rfl rfl rfl
theorem len64.aok (N : Nat) : AnnsOK (len64.K N) := aok1 trivial
theorem len64.ok : CallOK Tryz.prog 68 len64.spec := ok0 len64.cok (fun _ => iok0 rfl) len64.aok len64.F_eq (by kernel_rfl) (by kernel_rfl) (fun _ => rfl) (fun _ => ⟨rfl, rfl⟩) fun _ _ => ⟨rfl, rfl⟩
def blen.sig : Eng.Sig := { args := [.at (.int .u64 0)], n := 0, pre := [], post := [], m := 0, ret := .at (.int .i64 0) }
def blen.C (N : Nat) : Cfg := { P := Tryz.prog, N := N, RT := noRT, specs := [(68, len64.spec)], inl := [], hi := 0, mv := [] }
abbrev blen.R : Type := Int
def blen.dec (L : Eng.Leaves) : blen.R := (L.i 0)
def blen.enc (r : blen.R) : Eng.Leaves := mkL [r] [] [] []
def blen.K (N : Nat) : FCfg := { anns := [], unr := [], lits := [], lets := [] }
def blen.F (N : Nat) (x : Int) : Option blen.R :=
  (obind (Rc.len64.F N x) fun r0 =>
  (some r0))
theorem blen.F_eq (N : Nat) (L : Eng.Leaves) : evSig (blen.C N) (blen.K N) 0 Tryz.f103 blen.sig L blen.dec = blen.F N (L.i 0) := by
  kernel_rfl
def blen.spec : Eng.Spec := blen.sig.spec (fun N L => blen.F N (L.i 0)) blen.enc
theorem blen.cok (N : Nat) : CfgOK (blen.C N) := cok0 wide ⟨len64.ok, trivial⟩ (by kernel_rfl) rfl rfl rfl rfl
theorem blen.aok (N : Nat) : AnnsOK (blen.K N) := aok1 trivial
theorem blen.ok : CallOK Tryz.prog 103 blen.spec := ok0 blen.cok (fun _ => iok0 rfl) blen.aok blen.F_eq (by kernel_rfl) (by kernel_rfl) (fun _ => rfl) (fun _ => ⟨rfl, rfl⟩) fun _ _ => ⟨rfl, rfl⟩
def endb.sig : Eng.Sig := { args := [.at (.ptr 0 0)], n := 2, pre := [(0, .cells 10 [.full 1 false, .int .u64 0, .int .u64 1, .int .u64 2, .int .i64 3, .int .i64 4, .int .u64 5, .int .i64 6, .int .i64 7, .bool 0]), (1, .ints false .u8 0)], post := [(0, .cells 10 [.full 1 false, .fint .u64 0, .fint .u64 1, .fint .u64 2, .fint .i64 3, .int .i64 1, .fint .u64 5, .fint .i64 6, .fint .i64 7, .fbool 0]), (1, .fints false .u8 0)], m := 0, ret := .at (.int .u64 0) }
def endb.C (N : Nat) : Cfg := { P := Tryz.prog, N := N, RT := noRT, specs := [], inl := [], hi := 2, mv := [] }
abbrev endb.R : Type := Int × Int
def endb.dec (L : Eng.Leaves) : endb.R := (L.i 0, L.i 1)
def endb.enc (r : endb.R) : Eng.Leaves := mkL [r.1, r.2] [] [] []
def endb.K (N : Nat) : FCfg := { anns := [], unr := [], lits := [], lets := [] }
def endb.F (N : Nat) (rng val last front back window waiting count : Int) (bad : Bool) (b : List Int) : Option endb.R :=
  (br (decide (back ≥ ↑b.length))
  (chkI rng rng
  (chkI val val
  (chkI last last
  (chkI front front
  (chkI window window
  (chkI waiting waiting
  (chkI count count
  (chkB bad bad
  (chkL b b
  (some (((0 : Int), back))))))))))))
  (chk ((0 : Int) ≤ IntKind.i64.wrap (↑b.length - IntKind.i64.wrap (back + (1 : Int))) ∧ IntKind.i64.wrap (↑b.length - IntKind.i64.wrap (back + (1 : Int))) < ↑b.length)
  (chkI rng rng
  (chkI val val
  (chkI last last
  (chkI front front
  (chkI window window
  (chkI waiting waiting
  (chkI count count
  (chkB bad bad
  (chkL b b
  (some ((IntKind.u64.wrap (b.getD (IntKind.i64.wrap (↑b.length - IntKind.i64.wrap (back + (1 : Int)))).toNat (0 : Int)), IntKind.i64.wrap (back + (1 : Int))))))))))))))))
theorem endb.F_eq (N : Nat) (L : Eng.Leaves) : evSig (endb.C N) (endb.K N) 0 Tryz.f99 endb.sig L endb.dec = endb.F N (L.i 0) (L.i 1) (L.i 2) (L.i 3) (L.i 4) (L.i 5) (L.i 6) (L.i 7) (L.b 0) (L.l 0) := by
  kernel_rfl
def endb.spec : Eng.Spec := endb.sig.spec (fun N L => endb.F N (L.i 0) (L.i 1) (L.i 2) (L.i 3) (L.i 4) (L.i 5) (L.i 6) (L.i 7) (L.b 0) (L.l 0)) endb.enc
theorem endb.cok (N : Nat) : CfgOK (endb.C N) := cok0 wide trivial (by kernel_rfl) rfl rfl rfl rfl
theorem endb.aok (N : Nat) : AnnsOK (endb.K N) := aok1 trivial
theorem endb.ok : CallOK Tryz.prog 99 endb.spec := ok0 endb.cok (fun _ => iok0 rfl) endb.aok endb.F_eq (by kernel_rfl) (by kernel_rfl) (fun _ => rfl) (fun _ => ⟨rfl, rfl⟩) fun _ _ => ⟨rfl, rfl⟩
def choose.sig : Eng.Sig := { args := [.at (.ptr 0 0), .at (.int .u64 0)], n := 2, pre := [(0, .cells 10 [.full 1 false, .int .u64 1, .int .u64 2, .int .u64 3, .int .i64 4, .int .i64 5, .int .u64 6, .int .i64 7, .int .i64 8, .bool 0]), (1, .ints false .u8 0)], post := [(0, .cells 10 [.full 1 false, .fint .u64 1, .fint .u64 2, .fint .u64 3, .fint .i64 4, .fint .i64 5, .fint .u64 6, .fint .i64 7, .fint .i64 8, .fbool 0]), (1, .fints false .u8 0)], m := 0, ret := .at (.int .u64 0) }
def choose.C (N : Nat) : Cfg := { P := Tryz.prog, N := N, RT := noRT, specs := [], inl := [], hi := 2, mv := [] }
abbrev choose.R : Type := Int
def choose.dec (L : Eng.Leaves) : choose.R := (L.i 0)
def choose.enc (r : choose.R) : Eng.Leaves := mkL [r] [] [] []
def choose.K (N : Nat) : FCfg := { anns := [], unr := [], lits := [], lets := [] }
def choose.F (N : Nat) (ft rng val last front back window waiting count : Int) (bad : Bool) (b : List Int) : Option choose.R :=
  (chk (ft ≠ (0 : Int))
  (chk (IntKind.u64.wrap (rng.tdiv ft) ≠ (0 : Int))
  (chkI rng rng
  (chkI val val
  (chkI last last
  (chkI front front
  (chkI back back
  (chkI window window
  (chkI waiting waiting
  (chkI count count
  (chkB bad bad
  (chkL b b
  (some (IntKind.u64.wrap (ft - if ft < IntKind.u64.wrap (IntKind.u64.wrap (val.tdiv (IntKind.u64.wrap (rng.tdiv ft))) + (1 : Int)) then ft else IntKind.u64.wrap (IntKind.u64.wrap (val.tdiv (IntKind.u64.wrap (rng.tdiv ft))) + (1 : Int)))))))))))))))))
theorem choose.F_eq (N : Nat) (L : Eng.Leaves) : evSig (choose.C N) (choose.K N) 0 Tryz.f101 choose.sig L choose.dec = choose.F N (L.i 0) (L.i 1) (L.i 2) (L.i 3) (L.i 4) (L.i 5) (L.i 6) (L.i 7) (L.i 8) (L.b 0) (L.l 0) := by
  kernel_rfl
def choose.spec : Eng.Spec := choose.sig.spec (fun N L => choose.F N (L.i 0) (L.i 1) (L.i 2) (L.i 3) (L.i 4) (L.i 5) (L.i 6) (L.i 7) (L.i 8) (L.b 0) (L.l 0)) choose.enc
theorem choose.cok (N : Nat) : CfgOK (choose.C N) := cok0 wide trivial (by kernel_rfl) rfl rfl rfl rfl
theorem choose.aok (N : Nat) : AnnsOK (choose.K N) := aok1 trivial
theorem choose.ok : CallOK Tryz.prog 101 choose.spec := ok0 choose.cok (fun _ => iok0 rfl) choose.aok choose.F_eq (by kernel_rfl) (by kernel_rfl) (fun _ => rfl) (fun _ => ⟨rfl, rfl⟩) fun _ _ => ⟨rfl, rfl⟩
def take.sig : Eng.Sig := { args := [.at (.ptr 0 0), .at (.int .u64 0), .at (.int .u64 1), .at (.int .u64 2)], n := 2, pre := [(0, .cells 10 [.full 1 false, .int .u64 3, .int .u64 4, .int .u64 5, .int .i64 6, .int .i64 7, .int .u64 8, .int .i64 9, .int .i64 10, .bool 0]), (1, .ints false .u8 0)], post := [(0, .cells 10 [.full 1 false, .int .u64 0, .int .u64 1, .int .u64 2, .int .i64 3, .fint .i64 7, .fint .u64 8, .fint .i64 9, .int .i64 4, .fbool 0]), (1, .fints false .u8 0)], m := 0, ret := .at (.unk) }
def take.C (N : Nat) : Cfg := { P := Tryz.prog, N := N, RT := noRT, specs := [(52, norm.spec)], inl := [], hi := 2, mv := [] }
abbrev take.R : Type := Int × Int × Int × Int × Int
def take.dec (L : Eng.Leaves) : take.R := (L.i 0, L.i 1, L.i 2, L.i 3, L.i 4)
def take.enc (r : take.R) : Eng.Leaves := mkL [r.1, r.2.1, r.2.2.1, r.2.2.2.1, r.2.2.2.2] [] [] []
def take.K (N : Nat) : FCfg := { anns := [], unr := [], lits := [], lets := [] }
def take.F (N : Nat) (fl fh ft rng val last front back window waiting count : Int) (bad : Bool) (b : List Int) : Option take.R :=
  (chk (ft ≠ (0 : Int))
  (br (decide (fl > (0 : Int)))
  (obind (Rc.norm.F N (IntKind.u64.wrap (IntKind.u64.wrap (rng.tdiv ft) * IntKind.u64.wrap (fh - fl))) (IntKind.u64.wrap (val - IntKind.u64.wrap (IntKind.u64.wrap (rng.tdiv ft) * IntKind.u64.wrap (ft - fh)))) last front back window waiting count bad b) fun r0 =>
  (chkI back back
  (chkI window window
  (chkI waiting waiting
  (chkB bad bad
  (chkL b b
  (some ((r0.1, r0.2.1, r0.2.2.1, r0.2.2.2.1, r0.2.2.2.2)))))))))
  (obind (Rc.norm.F N (IntKind.u64.wrap (rng - IntKind.u64.wrap (IntKind.u64.wrap (rng.tdiv ft) * IntKind.u64.wrap (ft - fh)))) (IntKind.u64.wrap (val - IntKind.u64.wrap (IntKind.u64.wrap (rng.tdiv ft) * IntKind.u64.wrap (ft - fh)))) last front back window waiting count bad b) fun r1 =>
  (chkI back back
  (chkI window window
  (chkI waiting waiting
  (chkB bad bad
  (chkL b b
  (some ((r1.1, r1.2.1, r1.2.2.1, r1.2.2.2.1, r1.2.2.2.2)))))))))))
theorem take.F_eq (N : Nat) (L : Eng.Leaves) : evSig (take.C N) (take.K N) 0 Tryz.f102 take.sig L take.dec = take.F N (L.i 0) (L.i 1) (L.i 2) (L.i 3) (L.i 4) (L.i 5) (L.i 6) (L.i 7) (L.i 8) (L.i 9) (L.i 10) (L.b 0) (L.l 0) := by
  kernel_rfl
def take.spec : Eng.Spec := take.sig.spec (fun N L => take.F N (L.i 0) (L.i 1) (L.i 2) (L.i 3) (L.i 4) (L.i 5) (L.i 6) (L.i 7) (L.i 8) (L.i 9) (L.i 10) (L.b 0) (L.l 0)) take.enc
theorem take.cok (N : Nat) : CfgOK (take.C N) := cok0 wide ⟨norm.ok, trivial⟩ (by kernel_rfl) rfl rfl rfl rfl
theorem take.aok (N : Nat) : AnnsOK (take.K N) := aok1 trivial
theorem take.ok : CallOK Tryz.prog 102 take.spec := ok0 take.cok (fun _ => iok0 rfl) take.aok take.F_eq (by kernel_rfl) (by kernel_rfl) (fun _ => rfl) (fun _ => ⟨rfl, rfl⟩) fun _ _ => ⟨rfl, rfl⟩
def good.sig : Eng.Sig := { args := [.at (.roi .i64 0)], n := 0, pre := [], post := [], m := 0, ret := .at (.bool 0) }
def good.C (N : Nat) : Cfg := { P := Tryz.prog, N := N, RT := noRT, specs := [], inl := [], hi := 0, mv := [] }
abbrev good.R : Type := Bool
def good.dec (L : Eng.Leaves) : good.R := (L.b 0)
def good.enc (r : good.R) : Eng.Leaves := mkL [] [r] [] []
abbrev good.loop4.R : Type := Bool
def good.loop4.ann : Ann := { nx := 20, slots := [(0, .at (.froi .i64 0)), (2, .at (.bool 0)), (3, .at (.int .i64 0))], blks := [], mov := [], exId := 0, xslots := [(2, .at (.bool 0))], xblks := [], T := good.loop4.R, dec := fun L => (L.b 0), enc := fun r => mkL [] [r] [] [], ret := true }
def good.K (N : Nat) : FCfg := { anns := [(4, good.loop4.ann)], unr := [], lits := [], lets := [] }
def good.loop4 (N : Nat) : Nat → List Int → List Int → Int → Bool → Option (good.loop4.R ⊕ good.R)
  | 0, _, _, _, _ => none
  | nn + 1, e_t, t, s3, s2 =>
  (br (decide (s3 < ↑t.length))
  (chk ((0 : Int) ≤ s3 ∧ s3 < ↑t.length)
  (chk ((0 : Int) ≤ IntKind.i64.wrap (s3 - (1 : Int)) ∧ IntKind.i64.wrap (s3 - (1 : Int)) < ↑t.length)
  (br (decide (t.getD s3.toNat (0 : Int) ≥ t.getD (IntKind.i64.wrap (s3 - (1 : Int))).toNat (0 : Int)))
  (omap
  (some false) .inr)
  (chkL t t
  (good.loop4 N nn e_t t (IntKind.i64.wrap (s3 + (1 : Int))) s2)))))
  (some (Sum.inl s2)))
def good.loop4R (N nn : Nat) (e_t : List Int) (t : List Int) (s3 : Int) (s2 : Bool) : Option (good.loop4.R ⊕ good.R) := loopR good.loop4.ann (mkL [] [] [t] []) (evCode ((good.C N).inLoop good.loop4.ann) (good.K N) (inlTab (good.C N) 0) (bodyAt 4 Tryz.f100)) (sigKr Tryz.prog Tryz.f100 good.sig (mkL [] [] [e_t] []) fun L => (L.b 0)) nn (mkL [s3] [s2] [] [])
theorem good.loop4_eq (N : Nat) : ∀ nn, good.loop4R N nn = good.loop4 N nn
  | 0 => by funext; kernel_rfl
  | nn + 1 => by
    funext; rw [good.loop4, ← good.loop4_eq N nn]; kernel_rfl
def good.F (N : Nat) (t : List Int) : Option good.R :=
  (br (decide (↑t.length < (1 : Int)))
  (some false)
  (br (decide (↑t.length > (256 : Int)))
  (some false)
  (chk ((0 : Int) ≤ IntKind.i64.wrap (↑t.length - (1 : Int)) ∧ IntKind.i64.wrap (↑t.length - (1 : Int)) < ↑t.length)
  (br (t.getD (IntKind.i64.wrap (↑t.length - (1 : Int))).toNat (0 : Int) != (0 : Int))
  (some false)
  (chk ((0 : Int) ≤ (0 : Int) ∧ (0 : Int) < ↑t.length)
  (br (decide (t.getD (Int.toNat (0 : Int)) (0 : Int) ≥ (256 : Int)))
  (some false)
  (osum (good.loop4 N N t t ((1 : Int)) false) fun r0 =>
  (some true))))))))
theorem good.F_eq (N : Nat) (L : Eng.Leaves) : evSig (good.C N) (good.K N) 0 Tryz.f100 good.sig L good.dec = good.F N (L.l 0) := by
  rw [good.F, ← funext (good.loop4_eq N)]; kernel_rfl
def good.spec : Eng.Spec := good.sig.spec (fun N L => good.F N (L.l 0)) good.enc
theorem good.cok (N : Nat) : CfgOK (good.C N) := cok0 wide trivial (by kernel_rfl) rfl rfl rfl rfl
theorem good.aok (N : Nat) : AnnsOK (good.K N) := aok1 ⟨fun _ _ => ⟨rfl, rfl⟩, trivial⟩
theorem good.ok : CallOK Tryz.prog 100 good.spec := ok0 good.cok (fun _ => iok0 rfl) good.aok good.F_eq (by kernel_rfl) (by kernel_rfl) (fun _ => rfl) (fun _ => ⟨rfl, rfl⟩) fun _ _ => ⟨rfl, rfl⟩
def symbol.sig : Eng.Sig := { args := [.at (.ptr 0 0), .at (.roi .i64 0)], n := 2, pre := [(0, .cells 10 [.full 1 false, .int .u64 0, .int .u64 1, .int .u64 2, .int .i64 3, .int .i64 4, .int .u64 5, .int .i64 6, .int .i64 7, .bool 0]), (1, .ints false .u8 1)], post := [(0, .cells 10 [.full 1 false, .int .u64 1, .int .u64 2, .int .u64 3, .int .i64 4, .fint .i64 4, .fint .u64 5, .fint .i64 6, .int .i64 5, .fbool 0]), (1, .fints false .u8 1)], m := 0, ret := .at (.int .i64 0) }
def symbol.C (N : Nat) : Cfg := { P := Tryz.prog, N := N, RT := noRT, specs := [(100, good.spec), (101, choose.spec), (102, take.spec)], inl := [], hi := 2, mv := [] }
abbrev symbol.R : Type := Int × Int × Int × Int × Int × Int
def symbol.dec (L : Eng.Leaves) : symbol.R := (L.i 0, L.i 1, L.i 2, L.i 3, L.i 4, L.i 5)
def symbol.enc (r : symbol.R) : Eng.Leaves := mkL [r.1, r.2.1, r.2.2.1, r.2.2.2.1, r.2.2.2.2.1, r.2.2.2.2.2] [] [] []
abbrev symbol.loop5.R : Type := Int × Int
def symbol.loop5.ann : Ann := { nx := 20, slots := [(1, .at (.froi .i64 0)), (5, .at (.fint .i64 0)), (6, .at (.int .i64 0)), (7, .at (.int .i64 1))], blks := [], mov := [], exId := 0, xslots := [(6, .at (.int .i64 0)), (7, .at (.int .i64 1))], xblks := [], T := symbol.loop5.R, dec := fun L => (L.i 0, L.i 1), enc := fun r => mkL [r.1, r.2] [] [] [], ret := false }
def symbol.K (N : Nat) : FCfg := { anns := [(5, symbol.loop5.ann)], unr := [], lits := [], lets := [] }
def symbol.loop5 (N : Nat) : Nat → Int → List Int → Int → Int → Option symbol.loop5.R
  | 0, _, _, _, _ => none
  | nn + 1, f, t, k, fl =>
  (chk ((0 : Int) ≤ k ∧ k < ↑t.length)
  (br (decide (f ≥ IntKind.i64.wrap ((256 : Int) - t.getD k.toNat (0 : Int))))
  (chk ((0 : Int) ≤ k ∧ k < ↑t.length)
  (chkL t t
  (chkI f f
  (symbol.loop5 N nn f t (IntKind.i64.wrap (k + (1 : Int))) (IntKind.i64.wrap ((256 : Int) - t.getD k.toNat (0 : Int)))))))
  (some ((k, fl)))))
def symbol.loop5R (N nn : Nat) (f : Int) (t : List Int) (k fl : Int) : Option symbol.loop5.R := loopF symbol.loop5.ann (mkL [f] [] [t] []) (evCode ((symbol.C N).inLoop symbol.loop5.ann) (symbol.K N) (inlTab (symbol.C N) 0) (bodyAt 5 Tryz.f43)) nn (mkL [k, fl] [] [] [])
theorem symbol.loop5_eq (N : Nat) : ∀ nn, symbol.loop5R N nn = symbol.loop5 N nn
  | 0 => by funext; kernel_rfl
  | nn + 1 => by
    funext; rw [symbol.loop5, ← symbol.loop5_eq N nn]; kernel_rfl
def symbol.F (N : Nat) (rng val last front back window waiting count : Int) (bad : Bool) (t b : List Int) : Option symbol.R :=
  (obind (Rc.good.F N t) fun r0 =>
  (br (!r0)
  (chkI back back
  (chkI window window
  (chkI waiting waiting
  (chkB bad bad
  (chkL b b
  (some (((0 : Int), rng, val, last, front, count))))))))
  (obind (Rc.choose.F N ((256 : Int)) rng val last front back window waiting count bad b) fun r1 =>
  (obind (symbol.loop5 N N (IntKind.i64.wrap r1) t ((0 : Int)) ((0 : Int))) fun r2 =>
  (chk ((0 : Int) ≤ r2.1 ∧ r2.1 < ↑t.length)
  (obind (Rc.take.F N (IntKind.u64.wrap r2.2) (IntKind.u64.wrap (IntKind.i64.wrap ((256 : Int) - t.getD r2.1.toNat (0 : Int)))) ((256 : Int)) rng val last front back window waiting count bad b) fun r3 =>
  (chkI back back
  (chkI window window
  (chkI waiting waiting
  (chkB bad bad
  (chkL b b
  (some ((r2.1, r3.1, r3.2.1, r3.2.2.1, r3.2.2.2.1, r3.2.2.2.2))))))))))))))
theorem symbol.F_eq (N : Nat) (L : Eng.Leaves) : evSig (symbol.C N) (symbol.K N) 0 Tryz.f43 symbol.sig L symbol.dec = symbol.F N (L.i 0) (L.i 1) (L.i 2) (L.i 3) (L.i 4) (L.i 5) (L.i 6) (L.i 7) (L.b 0) (L.l 0) (L.l 1) := by
  rw [symbol.F, ← funext (symbol.loop5_eq N)]; kernel_rfl
def symbol.spec : Eng.Spec := symbol.sig.spec (fun N L => symbol.F N (L.i 0) (L.i 1) (L.i 2) (L.i 3) (L.i 4) (L.i 5) (L.i 6) (L.i 7) (L.b 0) (L.l 0) (L.l 1)) symbol.enc
theorem symbol.cok (N : Nat) : CfgOK (symbol.C N) := cok0 wide ⟨good.ok, choose.ok, take.ok, trivial⟩ (by kernel_rfl) rfl rfl rfl rfl
theorem symbol.aok (N : Nat) : AnnsOK (symbol.K N) := aok1 ⟨fun _ _ => ⟨rfl, rfl⟩, trivial⟩
theorem symbol.ok : CallOK Tryz.prog 43 symbol.spec := ok0 symbol.cok (fun _ => iok0 rfl) symbol.aok symbol.F_eq (by kernel_rfl) (by kernel_rfl) (fun _ => rfl) (fun _ => ⟨rfl, rfl⟩) fun _ _ => ⟨rfl, rfl⟩
def bits.sig : Eng.Sig := { args := [.at (.ptr 0 0), .at (.int .i64 0)], n := 2, pre := [(0, .cells 10 [.full 1 false, .int .u64 1, .int .u64 2, .int .u64 3, .int .i64 4, .int .i64 5, .int .u64 6, .int .i64 7, .int .i64 8, .bool 0]), (1, .ints false .u8 0)], post := [(0, .cells 10 [.full 1 false, .fint .u64 1, .fint .u64 2, .fint .u64 3, .fint .i64 4, .int .i64 1, .int .u64 2, .int .i64 3, .int .i64 4, .fbool 0]), (1, .fints false .u8 0)], m := 0, ret := .at (.int .i64 0) }
def bits.C (N : Nat) : Cfg := { P := Tryz.prog, N := N, RT := noRT, specs := [(99, endb.spec)], inl := [], hi := 2, mv := [] }
abbrev bits.R : Type := Int × Int × Int × Int × Int
def bits.dec (L : Eng.Leaves) : bits.R := (L.i 0, L.i 1, L.i 2, L.i 3, L.i 4)
def bits.enc (r : bits.R) : Eng.Leaves := mkL [r.1, r.2.1, r.2.2.1, r.2.2.2.1, r.2.2.2.2] [] [] []
abbrev bits.loop3.R : Type := Int × Int × Int
def bits.loop3.ann : Ann := { nx := 20, slots := [(0, .at (.ptr 0 0)), (1, .at (.fint .i64 0))], blks := [(0, .cells 10 [.full 1 false, .fint .u64 1, .fint .u64 2, .fint .u64 3, .fint .i64 4, .int .i64 0, .int .u64 1, .int .i64 2, .fint .i64 5, .fbool 0]), (1, .fints false .u8 0)], mov := [], exId := 0, xslots := [(0, .at (.ptr 0 0))], xblks := [(0, .cells 10 [.full 1 false, .fint .u64 1, .fint .u64 2, .fint .u64 3, .fint .i64 4, .int .i64 0, .int .u64 1, .int .i64 2, .fint .i64 5, .fbool 0]), (1, .fints false .u8 0)], T := bits.loop3.R, dec := fun L => (L.i 0, L.i 1, L.i 2), enc := fun r => mkL [r.1, r.2.1, r.2.2] [] [] [], ret := false }
def bits.K (N : Nat) : FCfg := { anns := [(3, bits.loop3.ann)], unr := [], lits := [], lets := [] }
def bits.loop3 (N : Nat) : Nat → Int → Int → Int → Int → Int → Int → Bool → List Int → Int → Int → Int → Option bits.loop3.R
  | 0, _, _, _, _, _, _, _, _, _, _, _ => none
  | nn + 1, n, rng, val, last, front, count, bad, b, back, window, waiting =>
  (br (decide (waiting < n))
  (obind (Rc.endb.F N rng val last front back window waiting count bad b) fun r0 =>
  (chk ((0 : Int) ≤ waiting)
  (chkI waiting waiting
  (chkI window window
  (chkI n n
  (chkI rng rng
  (chkI val val
  (chkI last last
  (chkI front front
  (chkI count count
  (chkB bad bad
  (chkL b b
  (bits.loop3 N nn n rng val last front count bad b r0.2 (IntKind.u64.wrap ↑(BitVec.ofInt IntKind.u64.bits window ||| BitVec.ofInt IntKind.u64.bits (IntKind.u64.wrap (r0.1 * (2 : Int) ^ min waiting.toNat IntKind.u64.bits))).toNat) (IntKind.i64.wrap (waiting + (8 : Int))))))))))))))))
  (chkI rng rng
  (chkI val val
  (chkI last last
  (chkI front front
  (chkI count count
  (chkB bad bad
  (chkL b b
  (some ((back, window, waiting)))))))))))
def bits.loop3R (N nn : Nat) (n rng val last front count : Int) (bad : Bool) (b : List Int) (back window waiting : Int) : Option bits.loop3.R := loopF bits.loop3.ann (mkL [n, rng, val, last, front, count] [bad] [b] []) (evCode ((bits.C N).inLoop bits.loop3.ann) (bits.K N) (inlTab (bits.C N) 0) (bodyAt 3 Tryz.f42)) nn (mkL [back, window, waiting] [] [] [])
theorem bits.loop3_eq (N : Nat) : ∀ nn, bits.loop3R N nn = bits.loop3 N nn
  | 0 => by funext; kernel_rfl
  | nn + 1 => by
    funext; rw [bits.loop3, ← bits.loop3_eq N nn]; kernel_rfl
def bits.F (N : Nat) (n rng val last front back window waiting count : Int) (bad : Bool) (b : List Int) : Option bits.R :=
  (br (decide (n < (0 : Int)))
  (chkI rng rng
  (chkI val val
  (chkI last last
  (chkI front front
  (chkB bad bad
  (chkL b b
  (some (((0 : Int), back, window, waiting, count)))))))))
  (br (decide (n > (24 : Int)))
  (chkI rng rng
  (chkI val val
  (chkI last last
  (chkI front front
  (chkB bad bad
  (chkL b b
  (some (((0 : Int), back, window, waiting, count)))))))))
  (obind (bits.loop3 N N n rng val last front count bad b back window waiting) fun r0 =>
  (chk ((0 : Int) ≤ n)
  (chk ((0 : Int) ≤ n)
  (chkI rng rng
  (chkI val val
  (chkI last last
  (chkI front front
  (chkB bad bad
  (chkL b b
  (some ((IntKind.i64.wrap (IntKind.u64.wrap ↑(BitVec.ofInt IntKind.u64.bits r0.2.1 &&& BitVec.ofInt IntKind.u64.bits (IntKind.u64.wrap (IntKind.u64.wrap ((1 : Int) * (2 : Int) ^ min n.toNat IntKind.u64.bits) - (1 : Int)))).toNat), r0.1, r0.2.1.fdiv ((2 : Int) ^ min n.toNat IntKind.u64.bits), IntKind.i64.wrap (r0.2.2 - n), IntKind.i64.wrap (count + n)))))))))))))))
theorem bits.F_eq (N : Nat) (L : Eng.Leaves) : evSig (bits.C N) (bits.K N) 0 Tryz.f42 bits.sig L bits.dec = bits.F N (L.i 0) (L.i 1) (L.i 2) (L.i 3) (L.i 4) (L.i 5) (L.i 6) (L.i 7) (L.i 8) (L.b 0) (L.l 0) := by
  rw [bits.F, ← funext (bits.loop3_eq N)]; kernel_rfl
def bits.spec : Eng.Spec := bits.sig.spec (fun N L => bits.F N (L.i 0) (L.i 1) (L.i 2) (L.i 3) (L.i 4) (L.i 5) (L.i 6) (L.i 7) (L.i 8) (L.b 0) (L.l 0)) bits.enc
theorem bits.cok (N : Nat) : CfgOK (bits.C N) := cok0 wide ⟨endb.ok, trivial⟩ (by kernel_rfl) rfl rfl rfl rfl
theorem bits.aok (N : Nat) : AnnsOK (bits.K N) := aok1 ⟨fun _ _ => ⟨rfl, rfl⟩, trivial⟩
theorem bits.ok : CallOK Tryz.prog 42 bits.spec := ok0 bits.cok (fun _ => iok0 rfl) bits.aok bits.F_eq (by kernel_rfl) (by kernel_rfl) (fun _ => rfl) (fun _ => ⟨rfl, rfl⟩) fun _ _ => ⟨rfl, rfl⟩
def uint.sig : Eng.Sig := { args := [.at (.ptr 0 0), .at (.int .i64 0)], n := 2, pre := [(0, .cells 10 [.full 1 false, .int .u64 1, .int .u64 2, .int .u64 3, .int .i64 4, .int .i64 5, .int .u64 6, .int .i64 7, .int .i64 8, .bool 0]), (1, .ints false .u8 0)], post := [(0, .cells 10 [.full 1 false, .int .u64 1, .int .u64 2, .int .u64 3, .int .i64 4, .int .i64 5, .int .u64 6, .int .i64 7, .int .i64 8, .bool 0]), (1, .fints false .u8 0)], m := 0, ret := .at (.int .i64 0) }
def uint.C (N : Nat) : Cfg := { P := Tryz.prog, N := N, RT := noRT, specs := [(101, choose.spec), (102, take.spec), (103, blen.spec), (42, bits.spec)], inl := [], hi := 2, mv := [] }
abbrev uint.R : Type := Int × Int × Int × Int × Int × Int × Int × Int × Int × Bool
def uint.dec (L : Eng.Leaves) : uint.R := (L.i 0, L.i 1, L.i 2, L.i 3, L.i 4, L.i 5, L.i 6, L.i 7, L.i 8, L.b 0)
def uint.enc (r : uint.R) : Eng.Leaves := mkL [r.1, r.2.1, r.2.2.1, r.2.2.2.1, r.2.2.2.2.1, r.2.2.2.2.2.1, r.2.2.2.2.2.2.1, r.2.2.2.2.2.2.2.1, r.2.2.2.2.2.2.2.2.1] [r.2.2.2.2.2.2.2.2.2] [] []
def uint.K (N : Nat) : FCfg := { anns := [], unr := [], lits := [], lets := [] }
def uint.F (N : Nat) (ft rng val last front back window waiting count : Int) (bad : Bool) (b : List Int) : Option uint.R :=
  (br (decide (ft ≤ (1 : Int)))
  (chkL b b
  (some (((0 : Int), rng, val, last, front, back, window, waiting, count, bad))))
  (br (decide (ft > (4294967295 : Int)))
  (chkL b b
  (some (((0 : Int), rng, val, last, front, back, window, waiting, count, bad))))
  (br (decide (ft ≤ (256 : Int)))
  (obind (Rc.choose.F N (IntKind.u64.wrap ft) rng val last front back window waiting count bad b) fun r0 =>
  (obind (Rc.take.F N r0 (IntKind.u64.wrap (r0 + (1 : Int))) (IntKind.u64.wrap ft) rng val last front back window waiting count bad b) fun r1 =>
  (chkL b b
  (some ((IntKind.i64.wrap r0, r1.1, r1.2.1, r1.2.2.1, r1.2.2.2.1, back, window, waiting, r1.2.2.2.2, bad))))))
  (obind (Rc.blen.F N (IntKind.u64.wrap (IntKind.i64.wrap (ft - (1 : Int))))) fun r2 =>
  (chk ((0 : Int) ≤ IntKind.i64.wrap (r2 - (8 : Int)))
  (obind (Rc.choose.F N (IntKind.u64.wrap (IntKind.i64.wrap ((IntKind.i64.wrap (ft - (1 : Int))).fdiv ((2 : Int) ^ min (IntKind.i64.wrap (r2 - (8 : Int))).toNat IntKind.i64.bits) + (1 : Int)))) rng val last front back window waiting count bad b) fun r3 =>
  (obind (Rc.take.F N r3 (IntKind.u64.wrap (r3 + (1 : Int))) (IntKind.u64.wrap (IntKind.i64.wrap ((IntKind.i64.wrap (ft - (1 : Int))).fdiv ((2 : Int) ^ min (IntKind.i64.wrap (r2 - (8 : Int))).toNat IntKind.i64.bits) + (1 : Int)))) rng val last front back window waiting count bad b) fun r4 =>
  (chk ((0 : Int) ≤ IntKind.i64.wrap (r2 - (8 : Int)))
  (obind (Rc.bits.F N (IntKind.i64.wrap (r2 - (8 : Int))) r4.1 r4.2.1 r4.2.2.1 r4.2.2.2.1 back window waiting r4.2.2.2.2 bad b) fun r5 =>
  (br (decide (IntKind.i64.wrap (IntKind.i64.wrap (IntKind.i64.wrap r3 * (2 : Int) ^ min (IntKind.i64.wrap (r2 - (8 : Int))).toNat IntKind.i64.bits) + r5.1) ≥ ft))
  (chkL b b
  (some ((IntKind.i64.wrap (ft - (1 : Int)), r4.1, r4.2.1, r4.2.2.1, r4.2.2.2.1, r5.2.1, r5.2.2.1, r5.2.2.2.1, r5.2.2.2.2, true))))
  (chkL b b
  (some ((IntKind.i64.wrap (IntKind.i64.wrap (IntKind.i64.wrap r3 * (2 : Int) ^ min (IntKind.i64.wrap (r2 - (8 : Int))).toNat IntKind.i64.bits) + r5.1), r4.1, r4.2.1, r4.2.2.1, r4.2.2.2.1, r5.2.1, r5.2.2.1, r5.2.2.2.1, r5.2.2.2.2, bad))))))))))))))
theorem uint.F_eq (N : Nat) (L : Eng.Leaves) : evSig (uint.C N) (uint.K N) 0 Tryz.f45 uint.sig L uint.dec = uint.F N (L.i 0) (L.i 1) (L.i 2) (L.i 3) (L.i 4) (L.i 5) (L.i 6) (L.i 7) (L.i 8) (L.b 0) (L.l 0) := by
  kernel_rfl
def uint.spec : Eng.Spec := uint.sig.spec (fun N L => uint.F N (L.i 0) (L.i 1) (L.i 2) (L.i 3) (L.i 4) (L.i 5) (L.i 6) (L.i 7) (L.i 8) (L.b 0) (L.l 0)) uint.enc
theorem uint.cok (N : Nat) : CfgOK (uint.C N) := cok0 wide ⟨choose.ok, take.ok, blen.ok, bits.ok, trivial⟩ (by kernel_rfl) rfl rfl rfl rfl
theorem uint.aok (N : Nat) : AnnsOK (uint.K N) := aok1 trivial
theorem uint.ok : CallOK Tryz.prog 45 uint.spec := ok0 uint.cok (fun _ => iok0 rfl) uint.aok uint.F_eq (by kernel_rfl) (by kernel_rfl) (fun _ => rfl) (fun _ => ⟨rfl, rfl⟩) fun _ _ => ⟨rfl, rfl⟩
def tell.sig : Eng.Sig := { args := [.at (.ptr 0 0)], n := 2, pre := [(0, .cells 10 [.full 1 false, .int .u64 0, .int .u64 1, .int .u64 2, .int .i64 3, .int .i64 4, .int .u64 5, .int .i64 6, .int .i64 7, .bool 0]), (1, .ints false .u8 0)], post := [(0, .cells 10 [.full 1 false, .fint .u64 0, .fint .u64 1, .fint .u64 2, .fint .i64 3, .fint .i64 4, .fint .u64 5, .fint .i64 6, .fint .i64 7, .fbool 0]), (1, .fints false .u8 0)], m := 0, ret := .at (.int .i64 0) }
def tell.C (N : Nat) : Cfg := { P := Tryz.prog, N := N, RT := noRT, specs := [(68, len64.spec)], inl := [], hi := 2, mv := [] }
abbrev tell.R : Type := Int
def tell.dec (L : Eng.Leaves) : tell.R := (L.i 0)
def tell.enc (r : tell.R) : Eng.Leaves := mkL [r] [] [] []
def tell.K (N : Nat) : FCfg := { anns := [], unr := [], lits := [], lets := [] }
def tell.F (N : Nat) (rng val last front back window waiting count : Int) (bad : Bool) (b : List Int) : Option tell.R :=
  (obind (Rc.len64.F N rng) fun r0 =>
  (chkI count count
  (chkI rng rng
  (chkI val val
  (chkI last last
  (chkI front front
  (chkI back back
  (chkI window window
  (chkI waiting waiting
  (chkI count count
  (chkB bad bad
  (chkL b b
  (some (IntKind.i64.wrap (count - r0)))))))))))))))
theorem tell.F_eq (N : Nat) (L : Eng.Leaves) : evSig (tell.C N) (tell.K N) 0 Tryz.f37 tell.sig L tell.dec = tell.F N (L.i 0) (L.i 1) (L.i 2) (L.i 3) (L.i 4) (L.i 5) (L.i 6) (L.i 7) (L.b 0) (L.l 0) := by
  kernel_rfl
def tell.spec : Eng.Spec := tell.sig.spec (fun N L => tell.F N (L.i 0) (L.i 1) (L.i 2) (L.i 3) (L.i 4) (L.i 5) (L.i 6) (L.i 7) (L.b 0) (L.l 0)) tell.enc
theorem tell.cok (N : Nat) : CfgOK (tell.C N) := cok0 wide ⟨len64.ok, trivial⟩ (by kernel_rfl) rfl rfl rfl rfl
theorem tell.aok (N : Nat) : AnnsOK (tell.K N) := aok1 trivial
theorem tell.ok : CallOK Tryz.prog 37 tell.spec := ok0 tell.cok (fun _ => iok0 rfl) tell.aok tell.F_eq (by kernel_rfl) (by kernel_rfl) (fun _ => rfl) (fun _ => ⟨rfl, rfl⟩) fun _ _ => ⟨rfl, rfl⟩
def badp.sig : Eng.Sig := { args := [.at (.ptr 0 0)], n := 2, pre := [(0, .cells 10 [.full 1 false, .int .u64 0, .int .u64 1, .int .u64 2, .int .i64 3, .int .i64 4, .int .u64 5, .int .i64 6, .int .i64 7, .bool 0]), (1, .ints false .u8 0)], post := [(0, .cells 10 [.full 1 false, .fint .u64 0, .fint .u64 1, .fint .u64 2, .fint .i64 3, .fint .i64 4, .fint .u64 5, .fint .i64 6, .fint .i64 7, .fbool 0]), (1, .fints false .u8 0)], m := 0, ret := .at (.bool 0) }
def badp.C (N : Nat) : Cfg := { P := Tryz.prog, N := N, RT := noRT, specs := [(37, tell.spec)], inl := [], hi := 2, mv := [] }
abbrev badp.R : Type := Bool
def badp.dec (L : Eng.Leaves) : badp.R := (L.b 0)
def badp.enc (r : badp.R) : Eng.Leaves := mkL [] [r] [] []
def badp.K (N : Nat) : FCfg := { anns := [], unr := [], lits := [], lets := [] }
def badp.F (N : Nat) (rng val last front back window waiting count : Int) (bad : Bool) (b : List Int) : Option badp.R :=
  (br bad
  (chkI rng rng
  (chkI val val
  (chkI last last
  (chkI front front
  (chkI back back
  (chkI window window
  (chkI waiting waiting
  (chkI count count
  (chkB bad bad
  (chkL b b
  (some true)))))))))))
  (obind (Rc.tell.F N rng val last front back window waiting count bad b) fun r0 =>
  (chkI (↑b.length) (↑b.length)
  (chkI rng rng
  (chkI val val
  (chkI last last
  (chkI front front
  (chkI back back
  (chkI window window
  (chkI waiting waiting
  (chkI count count
  (chkB bad bad
  (chkL b b
  (some (decide (r0 > IntKind.i64.wrap ((8 : Int) * ↑b.length)))))))))))))))))
theorem badp.F_eq (N : Nat) (L : Eng.Leaves) : evSig (badp.C N) (badp.K N) 0 Tryz.f38 badp.sig L badp.dec = badp.F N (L.i 0) (L.i 1) (L.i 2) (L.i 3) (L.i 4) (L.i 5) (L.i 6) (L.i 7) (L.b 0) (L.l 0) := by
  kernel_rfl
def badp.spec : Eng.Spec := badp.sig.spec (fun N L => badp.F N (L.i 0) (L.i 1) (L.i 2) (L.i 3) (L.i 4) (L.i 5) (L.i 6) (L.i 7) (L.b 0) (L.l 0)) badp.enc
theorem badp.cok (N : Nat) : CfgOK (badp.C N) := cok0 wide ⟨tell.ok, trivial⟩ (by kernel_rfl) rfl rfl rfl rfl
theorem badp.aok (N : Nat) : AnnsOK (badp.K N) := aok1 trivial
theorem badp.ok : CallOK Tryz.prog 38 badp.spec := ok0 badp.cok (fun _ => iok0 rfl) badp.aok badp.F_eq (by kernel_rfl) (by kernel_rfl) (fun _ => rfl) (fun _ => ⟨rfl, rfl⟩) fun _ _ => ⟨rfl, rfl⟩
def clone8.sig : Eng.Sig := { args := [.at (.roi .u8 0)], n := 0, pre := [], post := [(0, .ints true .u8 0)], m := 1, ret := .at (.full 0 false) }
def clone8.C (N : Nat) : Cfg := { P := Tryz.prog, N := N, RT := noRT, specs := [], inl := [], hi := 0, mv := [] }
abbrev clone8.R : Type := List Int
def clone8.dec (L : Eng.Leaves) : clone8.R := (L.l 0)
def clone8.enc (r : clone8.R) : Eng.Leaves := mkL [] [] [r] []
def clone8.K (N : Nat) : FCfg := { anns := [], unr := [], lits := [], lets := [] }
def clone8.F (N : Nat) (b : List Int) : Option clone8.R :=
  (nilN b.length
  (some (([] : List Int)))
  (chk (([] : List Int).length + b.length ≤ (140737488351232 : Nat))
  (some (([] : List Int) ++ b))))
theorem clone8.F_eq (N : Nat) (L : Eng.Leaves) : evSig (clone8.C N) (clone8.K N) 0 Tryz.f50 clone8.sig L clone8.dec = clone8.F N (L.l 0) := by
  kernel_rfl
def clone8.F2 (N : Nat) (b : List Int) : Option clone8.R :=
  (chk (b.length ≤ 140737488351232) (some b))
theorem clone8.F2_F {N : Nat} {b : List Int} {r : clone8.R} (h : clone8.F2 N b = some r) : clone8.F N b = some r := by
  unfold clone8.F2 at h
  rw [chk_some] at h
  obtain ⟨h1, h2⟩ := h
  obtain rfl := Option.some.inj h2
  unfold clone8.F
  refine nilN_of (fun h => ?_) ?_
  · have : b = [] := by simpa using h
    rw [this]
  · rw [chk, if_pos (by simpa using h1)]
    rfl
def clone8.spec : Eng.Spec := clone8.sig.spec (fun N L => clone8.F2 N (L.l 0)) clone8.enc
theorem clone8.cok (N : Nat) : CfgOK (clone8.C N) := cok0 wide trivial (by kernel_rfl) rfl rfl rfl rfl
theorem clone8.aok (N : Nat) : AnnsOK (clone8.K N) := aok1 trivial
theorem clone8.ok : CallOK Tryz.prog 50 clone8.spec :=
  callOK_of_sig (fn := Tryz.f50) (Cf := clone8.C) (K := clone8.K) (d := 0) (dec := clone8.dec) (by kernel_rfl) (fun _ => rfl) clone8.cok (fun _ q hq => by simp [clone8.C] at hq) clone8.aok
  (fun N L r h => (clone8.F_eq N L).trans (clone8.F2_F h)) (by kernel_rfl) (fun _ => ⟨rfl, rfl⟩) (fun _ _ => ⟨rfl, rfl⟩)
def new.sig : Eng.Sig := { args := [.at (.roi .u8 0)], n := 0, pre := [], post := [(0, .cells 10 [.full 1 false, .int .u64 0, .int .u64 1, .int .u64 2, .int .i64 3, .int .i64 4, .int .u64 5, .int .i64 6, .int .i64 7, .bool 0]), (1, .ints false .u8 0)], m := 2, ret := .at (.ptr 0 0) }
def new.C (N : Nat) : Cfg := { P := Tryz.prog, N := N, RT := noRT, specs := [(50, clone8.spec), (51, next.spec), (52, norm.spec)], inl := [], hi := 0, mv := [] }
abbrev new.R : Type := Int × Int × Int × Int × Int × Int × Int × Int × Bool × List Int
def new.dec (L : Eng.Leaves) : new.R := (L.i 0, L.i 1, L.i 2, L.i 3, L.i 4, L.i 5, L.i 6, L.i 7, L.b 0, L.l 0)
def new.enc (r : new.R) : Eng.Leaves := mkL [r.1, r.2.1, r.2.2.1, r.2.2.2.1, r.2.2.2.2.1, r.2.2.2.2.2.1, r.2.2.2.2.2.2.1, r.2.2.2.2.2.2.2.1] [r.2.2.2.2.2.2.2.2.1] [r.2.2.2.2.2.2.2.2.2] []
def new.K (N : Nat) : FCfg := { anns := [], unr := [], lits := [], lets := [] }
def new.F (N : Nat) (b : List Int) : Option new.R :=
  (obind (Rc.clone8.F2 N b) fun r0 =>
  (obind (Rc.next.F N ((128 : Int)) ((0 : Int)) ((0 : Int)) ((0 : Int)) ((0 : Int)) ((0 : Int)) ((0 : Int)) ((9 : Int)) false r0) fun r1 =>
  (obind (Rc.norm.F N ((128 : Int)) (IntKind.u64.wrap ((127 : Int) - r1.1.fdiv ((2 : Int) ^ min (Int.toNat (1 : Int)) IntKind.u64.bits))) r1.1 r1.2 ((0 : Int)) ((0 : Int)) ((0 : Int)) ((9 : Int)) false r0) fun r2 =>
  (some ((r2.1, r2.2.1, r2.2.2.1, r2.2.2.2.1, (0 : Int), (0 : Int), (0 : Int), r2.2.2.2.2, false, r0))))))
theorem new.F_eq (N : Nat) (L : Eng.Leaves) : evSig (new.C N) (new.K N) 0 Tryz.f13 new.sig L new.dec = new.F N (L.l 0) := by
  kernel_rfl
def new.spec : Eng.Spec := new.sig.spec (fun N L => new.F N (L.l 0)) new.enc
theorem new.cok (N : Nat) : CfgOK (new.C N) := cok0 wide ⟨clone8.ok, next.ok, norm.ok, trivial⟩ (by kernel_rfl) rfl rfl rfl rfl
theorem new.aok (N : Nat) : AnnsOK (new.K N) := aok1 trivial
theorem new.ok : CallOK Tryz.prog 13 new.spec := ok0 new.cok (fun _ => iok0 rfl) new.aok new.F_eq (by kernel_rfl) (by kernel_rfl) (fun _ => rfl) (fun _ => ⟨rfl, rfl⟩) fun _ _ => ⟨rfl, rfl⟩
def rnext.sig : Eng.Sig := { args := [.at (.ptr 0 0)], n := 1, pre := [(0, .cells 11 [.roi .u8 0, .int .u64 0, .int .u64 1, .int .i64 2, .int .i64 3, .int .i64 4, .int .u64 5, .int .i64 6, .int .i64 7, .bool 0, .int .u64 8])], post := [(0, .cells 11 [.froi .u8 0, .fint .u64 0, .fint .u64 1, .fint .i64 2, .int .i64 1, .fint .i64 4, .fint .u64 5, .fint .i64 6, .fint .i64 7, .fbool 0, .fint .u64 8])], m := 0, ret := .at (.int .i64 0) }
def rnext.C (N : Nat) : Cfg := { P := Tryz.prog, N := N, RT := noRT, specs := [], inl := [], hi := 1, mv := [] }
abbrev rnext.R : Type := Int × Int
def rnext.dec (L : Eng.Leaves) : rnext.R := (L.i 0, L.i 1)
def rnext.enc (r : rnext.R) : Eng.Leaves := mkL [r.1, r.2] [] [] []
def rnext.K (N : Nat) : FCfg := { anns := [], unr := [], lits := [], lets := [] }
def rnext.F (N : Nat) (rng val last front back wait waiting count eq : Int) (bad : Bool) (b : List Int) : Option rnext.R :=
  (br (decide (front ≥ ↑b.length))
  (chkL b b
  (chkI rng rng
  (chkI val val
  (chkI last last
  (chkI back back
  (chkI wait wait
  (chkI waiting waiting
  (chkI count count
  (chkB bad bad
  (chkI eq eq
  (some (((0 : Int), front)))))))))))))
  (chk ((0 : Int) ≤ IntKind.i64.wrap (IntKind.i64.wrap (front + (1 : Int)) - (1 : Int)) ∧ IntKind.i64.wrap (IntKind.i64.wrap (front + (1 : Int)) - (1 : Int)) < ↑b.length)
  (chkL b b
  (chkI rng rng
  (chkI val val
  (chkI last last
  (chkI back back
  (chkI wait wait
  (chkI waiting waiting
  (chkI count count
  (chkB bad bad
  (chkI eq eq
  (some ((IntKind.i64.wrap (b.getD (IntKind.i64.wrap (IntKind.i64.wrap (front + (1 : Int)) - (1 : Int))).toNat (0 : Int)), IntKind.i64.wrap (front + (1 : Int)))))))))))))))))
theorem rnext.F_eq (N : Nat) (L : Eng.Leaves) : evSig (rnext.C N) (rnext.K N) 0 Tryz.f79 rnext.sig L rnext.dec = rnext.F N (L.i 0) (L.i 1) (L.i 2) (L.i 3) (L.i 4) (L.i 5) (L.i 6) (L.i 7) (L.i 8) (L.b 0) (L.l 0) := by
  kernel_rfl
def rnext.spec : Eng.Spec := rnext.sig.spec (fun N L => rnext.F N (L.i 0) (L.i 1) (L.i 2) (L.i 3) (L.i 4) (L.i 5) (L.i 6) (L.i 7) (L.i 8) (L.b 0) (L.l 0)) rnext.enc
theorem rnext.cok (N : Nat) : CfgOK (rnext.C N) := cok0 wide trivial (by kernel_rfl) rfl rfl rfl rfl
theorem rnext.aok (N : Nat) : AnnsOK (rnext.K N) := aok1 trivial
theorem rnext.ok : CallOK Tryz.prog 79 rnext.spec := ok0 rnext.cok (fun _ => iok0 rfl) rnext.aok rnext.F_eq (by kernel_rfl) (by kernel_rfl) (fun _ => rfl) (fun _ => ⟨rfl, rfl⟩) fun _ _ => ⟨rfl, rfl⟩
def ron.sig : Eng.Sig := { args := [.at (.ptr 0 0)], n := 1, pre := [(0, .cells 11 [.roi .u8 0, .int .u64 0, .int .u64 1, .int .i64 2, .int .i64 3, .int .i64 4, .int .u64 5, .int .i64 6, .int .i64 7, .bool 0, .int .u64 8])], post := [(0, .cells 11 [.froi .u8 0, .int .u64 0, .int .u64 1, .int .i64 2, .int .i64 3, .fint .i64 4, .fint .u64 5, .fint .i64 6, .int .i64 4, .fbool 0, .fint .u64 8])], m := 0, ret := .at (.unk) }
def ron.C (N : Nat) : Cfg := { P := Tryz.prog, N := N, RT := noRT, specs := [(79, rnext.spec)], inl := [], hi := 1, mv := [] }
abbrev ron.R : Type := Int × Int × Int × Int × Int
def ron.dec (L : Eng.Leaves) : ron.R := (L.i 0, L.i 1, L.i 2, L.i 3, L.i 4)
def ron.enc (r : ron.R) : Eng.Leaves := mkL [r.1, r.2.1, r.2.2.1, r.2.2.2.1, r.2.2.2.2] [] [] []
abbrev ron.loop0.R : Type := Int × Int × Int × Int × Int
def ron.loop0.ann : Ann := { nx := 20, slots := [(0, .at (.ptr 0 0))], blks := [(0, .cells 11 [.froi .u8 0, .int .u64 0, .int .u64 1, .int .i64 2, .int .i64 3, .fint .i64 0, .fint .u64 1, .fint .i64 2, .int .i64 4, .fbool 0, .fint .u64 3])], mov := [], exId := 0, xslots := [(0, .at (.ptr 0 0))], xblks := [(0, .cells 11 [.froi .u8 0, .int .u64 0, .int .u64 1, .int .i64 2, .int .i64 3, .fint .i64 0, .fint .u64 1, .fint .i64 2, .int .i64 4, .fbool 0, .fint .u64 3])], T := ron.loop0.R, dec := fun L => (L.i 0, L.i 1, L.i 2, L.i 3, L.i 4), enc := fun r => mkL [r.1, r.2.1, r.2.2.1, r.2.2.2.1, r.2.2.2.2] [] [] [], ret := false }
def ron.K (N : Nat) : FCfg := { anns := [(0, ron.loop0.ann)], unr := [], lits := [], lets := [] }
def ron.loop0 (N : Nat) : Nat → Int → Int → Int → Int → Bool → List Int → Int → Int → Int → Int → Int → Option ron.loop0.R
  | 0, _, _, _, _, _, _, _, _, _, _, _ => none
  | nn + 1, back, wait, waiting, eq, bad, b, rng, val, last, front, count =>
  (br (decide (rng ≤ (8388608 : Int)))
  (obind (Rc.rnext.F N (IntKind.u64.wrap (rng * (256 : Int))) val last front back wait waiting (IntKind.i64.wrap (count + (8 : Int))) eq bad b) fun r0 =>
  (chkL b b
  (chkI back back
  (chkI wait wait
  (chkI waiting waiting
  (chkB bad bad
  (chkI eq eq
  (ron.loop0 N nn back wait waiting eq bad b (IntKind.u64.wrap (rng * (256 : Int))) ((IntKind.u64.wrap (IntKind.u64.wrap ((256 : Int) * val) + IntKind.u64.wrap (IntKind.i64.wrap ((255 : Int) - (IntKind.i64.wrap ((IntKind.i64.wrap (IntKind.i64.wrap ((256 : Int) * last) + r0.1)).tdiv (2 : Int))).tmod (256 : Int))))).tmod (2147483648 : Int)) r0.1 r0.2 (IntKind.i64.wrap (count + (8 : Int)))))))))))
  (chkL b b
  (chkI back back
  (chkI wait wait
  (chkI waiting waiting
  (chkB bad bad
  (chkI eq eq
  (some ((rng, val, last, front, count))))))))))
def ron.loop0R (N nn : Nat) (back wait waiting eq : Int) (bad : Bool) (b : List Int) (rng val last front count : Int) : Option ron.loop0.R := loopF ron.loop0.ann (mkL [back, wait, waiting, eq] [bad] [b] []) (evCode ((ron.C N).inLoop ron.loop0.ann) (ron.K N) (inlTab (ron.C N) 0) (bodyAt 0 Tryz.f80)) nn (mkL [rng, val, last, front, count] [] [] [])
theorem ron.loop0_eq (N : Nat) : ∀ nn, ron.loop0R N nn = ron.loop0 N nn
  | 0 => by funext; kernel_rfl
  | nn + 1 => by
    funext; rw [ron.loop0, ← ron.loop0_eq N nn]; kernel_rfl
def ron.F (N : Nat) (rng val last front back wait waiting count eq : Int) (bad : Bool) (b : List Int) : Option ron.R :=
  (obind (ron.loop0 N N back wait waiting eq bad b rng val last front count) fun r0 =>
  (chkL b b
  (chkI back back
  (chkI wait wait
  (chkI waiting waiting
  (chkB bad bad
  (chkI eq eq
  (some ((r0.1, r0.2.1, r0.2.2.1, r0.2.2.2.1, r0.2.2.2.2))))))))))
theorem ron.F_eq (N : Nat) (L : Eng.Leaves) : evSig (ron.C N) (ron.K N) 0 Tryz.f80 ron.sig L ron.dec = ron.F N (L.i 0) (L.i 1) (L.i 2) (L.i 3) (L.i 4) (L.i 5) (L.i 6) (L.i 7) (L.i 8) (L.b 0) (L.l 0) := by
  rw [ron.F, ← funext (ron.loop0_eq N)]; kernel_rfl
def ron.spec : Eng.Spec := ron.sig.spec (fun N L => ron.F N (L.i 0) (L.i 1) (L.i 2) (L.i 3) (L.i 4) (L.i 5) (L.i 6) (L.i 7) (L.i 8) (L.b 0) (L.l 0)) ron.enc
theorem ron.cok (N : Nat) : CfgOK (ron.C N) := cok0 wide ⟨rnext.ok, trivial⟩ (by kernel_rfl) rfl rfl rfl rfl
theorem ron.aok (N : Nat) : AnnsOK (ron.K N) := aok1 ⟨fun _ _ => ⟨rfl, rfl⟩, trivial⟩
theorem ron.ok : CallOK Tryz.prog 80 ron.spec := ok0 ron.cok (fun _ => iok0 rfl) ron.aok ron.F_eq (by kernel_rfl) (by kernel_rfl) (fun _ => rfl) (fun _ => ⟨rfl, rfl⟩) fun _ _ => ⟨rfl, rfl⟩
def rchoose.sig : Eng.Sig := { args := [.at (.ptr 0 0), .at (.int .u64 0)], n := 1, pre := [(0, .cells 11 [.roi .u8 0, .int .u64 1, .int .u64 2, .int .i64 3, .int .i64 4, .int .i64 5, .int .u64 6, .int .i64 7, .int .i64 8, .bool 0, .int .u64 9])], post := [(0, .cells 11 [.froi .u8 0, .fint .u64 1, .fint .u64 2, .fint .i64 3, .fint .i64 4, .fint .i64 5, .fint .u64 6, .fint .i64 7, .fint .i64 8, .fbool 0, .int .u64 1])], m := 0, ret := .at (.int .u64 0) }
def rchoose.C (N : Nat) : Cfg := { P := Tryz.prog, N := N, RT := noRT, specs := [], inl := [], hi := 1, mv := [] }
abbrev rchoose.R : Type := Int × Int
def rchoose.dec (L : Eng.Leaves) : rchoose.R := (L.i 0, L.i 1)
def rchoose.enc (r : rchoose.R) : Eng.Leaves := mkL [r.1, r.2] [] [] []
def rchoose.K (N : Nat) : FCfg := { anns := [], unr := [], lits := [], lets := [] }
def rchoose.F (N : Nat) (ft rng val last front back wait waiting count eq : Int) (bad : Bool) (b : List Int) : Option rchoose.R :=
  (chk (ft ≠ (0 : Int))
  (chk (IntKind.u64.wrap (rng.tdiv ft) ≠ (0 : Int))
  (br (decide (IntKind.u64.wrap (IntKind.u64.wrap (val.tdiv (IntKind.u64.wrap (rng.tdiv ft))) + (1 : Int)) > ft))
  (chkL b b
  (chkI rng rng
  (chkI val val
  (chkI last last
  (chkI front front
  (chkI back back
  (chkI wait wait
  (chkI waiting waiting
  (chkI count count
  (chkB bad bad
  (some ((IntKind.u64.wrap (ft - ft), IntKind.u64.wrap (rng.tdiv ft))))))))))))))
  (chkL b b
  (chkI rng rng
  (chkI val val
  (chkI last last
  (chkI front front
  (chkI back back
  (chkI wait wait
  (chkI waiting waiting
  (chkI count count
  (chkB bad bad
  (some ((IntKind.u64.wrap (ft - IntKind.u64.wrap (IntKind.u64.wrap (val.tdiv (IntKind.u64.wrap (rng.tdiv ft))) + (1 : Int))), IntKind.u64.wrap (rng.tdiv ft)))))))))))))))))
theorem rchoose.F_eq (N : Nat) (L : Eng.Leaves) : evSig (rchoose.C N) (rchoose.K N) 0 Tryz.f133 rchoose.sig L rchoose.dec = rchoose.F N (L.i 0) (L.i 1) (L.i 2) (L.i 3) (L.i 4) (L.i 5) (L.i 6) (L.i 7) (L.i 8) (L.i 9) (L.b 0) (L.l 0) := by
  kernel_rfl
def rchoose.spec : Eng.Spec := rchoose.sig.spec (fun N L => rchoose.F N (L.i 0) (L.i 1) (L.i 2) (L.i 3) (L.i 4) (L.i 5) (L.i 6) (L.i 7) (L.i 8) (L.i 9) (L.b 0) (L.l 0)) rchoose.enc
theorem rchoose.cok (N : Nat) : CfgOK (rchoose.C N) := cok0 wide trivial (by kernel_rfl) rfl rfl rfl rfl
theorem rchoose.aok (N : Nat) : AnnsOK (rchoose.K N) := aok1 trivial
theorem rchoose.ok : CallOK Tryz.prog 133 rchoose.spec := ok0 rchoose.cok (fun _ => iok0 rfl) rchoose.aok rchoose.F_eq (by kernel_rfl) (by kernel_rfl) (fun _ => rfl) (fun _ => ⟨rfl, rfl⟩) fun _ _ => ⟨rfl, rfl⟩
def rtake.sig : Eng.Sig := { args := [.at (.ptr 0 0), .at (.int .u64 0), .at (.int .u64 1), .at (.int .u64 2)], n := 1, pre := [(0, .cells 11 [.roi .u8 0, .int .u64 3, .int .u64 4, .int .i64 5, .int .i64 6, .int .i64 7, .int .u64 8, .int .i64 9, .int .i64 10, .bool 0, .int .u64 11])], post := [(0, .cells 11 [.froi .u8 0, .int .u64 0, .int .u64 1, .int .i64 2, .int .i64 3, .fint .i64 7, .fint .u64 8, .fint .i64 9, .int .i64 4, .fbool 0, .fint .u64 11])], m := 0, ret := .at (.unk) }
def rtake.C (N : Nat) : Cfg := { P := Tryz.prog, N := N, RT := noRT, specs := [(80, ron.spec)], inl := [], hi := 1, mv := [] }
abbrev rtake.R : Type := Int × Int × Int × Int × Int
def rtake.dec (L : Eng.Leaves) : rtake.R := (L.i 0, L.i 1, L.i 2, L.i 3, L.i 4)
def rtake.enc (r : rtake.R) : Eng.Leaves := mkL [r.1, r.2.1, r.2.2.1, r.2.2.2.1, r.2.2.2.2] [] [] []
def rtake.K (N : Nat) : FCfg := { anns := [], unr := [], lits := [], lets := [] }
def rtake.F (N : Nat) (fl fh ft rng val last front back wait waiting count eq : Int) (bad : Bool) (b : List Int) : Option rtake.R :=
  (br (decide (fl > (0 : Int)))
  (obind (Rc.ron.F N (IntKind.u64.wrap (eq * IntKind.u64.wrap (fh - fl))) (IntKind.u64.wrap (val - IntKind.u64.wrap (eq * IntKind.u64.wrap (ft - fh)))) last front back wait waiting count eq bad b) fun r0 =>
  (chkL b b
  (chkI back back
  (chkI wait wait
  (chkI waiting waiting
  (chkB bad bad
  (chkI eq eq
  (some ((r0.1, r0.2.1, r0.2.2.1, r0.2.2.2.1, r0.2.2.2.2))))))))))
  (obind (Rc.ron.F N (IntKind.u64.wrap (rng - IntKind.u64.wrap (eq * IntKind.u64.wrap (ft - fh)))) (IntKind.u64.wrap (val - IntKind.u64.wrap (eq * IntKind.u64.wrap (ft - fh)))) last front back wait waiting count eq bad b) fun r1 =>
  (chkL b b
  (chkI back back
  (chkI wait wait
  (chkI waiting waiting
  (chkB bad bad
  (chkI eq eq
  (some ((r1.1, r1.2.1, r1.2.2.1, r1.2.2.2.1, r1.2.2.2.2)))))))))))
theorem rtake.F_eq (N : Nat) (L : Eng.Leaves) : evSig (rtake.C N) (rtake.K N) 0 Tryz.f134 rtake.sig L rtake.dec = rtake.F N (L.i 0) (L.i 1) (L.i 2) (L.i 3) (L.i 4) (L.i 5) (L.i 6) (L.i 7) (L.i 8) (L.i 9) (L.i 10) (L.i 11) (L.b 0) (L.l 0) := by
  kernel_rfl
def rtake.spec : Eng.Spec := rtake.sig.spec (fun N L => rtake.F N (L.i 0) (L.i 1) (L.i 2) (L.i 3) (L.i 4) (L.i 5) (L.i 6) (L.i 7) (L.i 8) (L.i 9) (L.i 10) (L.i 11) (L.b 0) (L.l 0)) rtake.enc
theorem rtake.cok (N : Nat) : CfgOK (rtake.C N) := cok0 wide ⟨ron.ok, trivial⟩ (by kernel_rfl) rfl rfl rfl rfl
theorem rtake.aok (N : Nat) : AnnsOK (rtake.K N) := aok1 trivial
theorem rtake.ok : CallOK Tryz.prog 134 rtake.spec := ok0 rtake.cok (fun _ => iok0 rfl) rtake.aok rtake.F_eq (by kernel_rfl) (by kernel_rfl) (fun _ => rfl) (fun _ => ⟨rfl, rfl⟩) fun _ _ => ⟨rfl, rfl⟩
def rgood.sig : Eng.Sig := { args := [.at (.roi .i64 0)], n := 0, pre := [], post := [], m := 0, ret := .at (.bool 0) }
def rgood.C (N : Nat) : Cfg := { P := Tryz.prog, N := N, RT := noRT, specs := [], inl := [], hi := 0, mv := [] }
abbrev rgood.R : Type := Bool
def rgood.dec (L : Eng.Leaves) : rgood.R := (L.b 0)
def rgood.enc (r : rgood.R) : Eng.Leaves := mkL [] [r] [] []
abbrev rgood.loop5.R : Type := Bool
def rgood.loop5.ann : Ann := { nx := 20, slots := [(0, .at (.froi .i64 0)), (2, .at (.bool 0)), (3, .at (.int .i64 0)), (4, .at (.int .i64 1))], blks := [], mov := [], exId := 0, xslots := [(2, .at (.bool 0))], xblks := [], T := rgood.loop5.R, dec := fun L => (L.b 0), enc := fun r => mkL [] [r] [] [], ret := true }
def rgood.K (N : Nat) : FCfg := { anns := [(5, rgood.loop5.ann)], unr := [], lits := [], lets := [] }
def rgood.loop5 (N : Nat) : Nat → List Int → List Int → Int → Int → Bool → Option (rgood.loop5.R ⊕ rgood.R)
  | 0, _, _, _, _, _ => none
  | nn + 1, e_t, t, was, i, s2 =>
  (br (decide (i < ↑t.length))
  (chk ((0 : Int) ≤ i ∧ i < ↑t.length)
  (br (decide (t.getD i.toNat (0 : Int) ≥ was))
  (omap
  (some false) .inr)
  (chk ((0 : Int) ≤ i ∧ i < ↑t.length)
  (chkL t t
  (rgood.loop5 N nn e_t t (t.getD i.toNat (0 : Int)) (IntKind.i64.wrap (i + (1 : Int))) s2)))))
  (some (Sum.inl s2)))
def rgood.loop5R (N nn : Nat) (e_t : List Int) (t : List Int) (was i : Int) (s2 : Bool) : Option (rgood.loop5.R ⊕ rgood.R) := loopR rgood.loop5.ann (mkL [] [] [t] []) (evCode ((rgood.C N).inLoop rgood.loop5.ann) (rgood.K N) (inlTab (rgood.C N) 0) (bodyAt 5 Tryz.f132)) (sigKr Tryz.prog Tryz.f132 rgood.sig (mkL [] [] [e_t] []) fun L => (L.b 0)) nn (mkL [was, i] [s2] [] [])
theorem rgood.loop5_eq (N : Nat) : ∀ nn, rgood.loop5R N nn = rgood.loop5 N nn
  | 0 => by funext; kernel_rfl
  | nn + 1 => by
    funext; rw [rgood.loop5, ← rgood.loop5_eq N nn]; kernel_rfl
def rgood.F (N : Nat) (t : List Int) : Option rgood.R :=
  (br (decide (↑t.length < (1 : Int)))
  (some false)
  (br (decide (↑t.length > (256 : Int)))
  (some false)
  (chk ((0 : Int) ≤ IntKind.i64.wrap (↑t.length - (1 : Int)) ∧ IntKind.i64.wrap (↑t.length - (1 : Int)) < ↑t.length)
  (br (t.getD (IntKind.i64.wrap (↑t.length - (1 : Int))).toNat (0 : Int) != (0 : Int))
  (some false)
  (osum (rgood.loop5 N N t t ((256 : Int)) ((0 : Int)) false) fun r0 =>
  (some true))))))
theorem rgood.F_eq (N : Nat) (L : Eng.Leaves) : evSig (rgood.C N) (rgood.K N) 0 Tryz.f132 rgood.sig L rgood.dec = rgood.F N (L.l 0) := by
  rw [rgood.F, ← funext (rgood.loop5_eq N)]; kernel_rfl
def rgood.spec : Eng.Spec := rgood.sig.spec (fun N L => rgood.F N (L.l 0)) rgood.enc
theorem rgood.cok (N : Nat) : CfgOK (rgood.C N) := cok0 wide trivial (by kernel_rfl) rfl rfl rfl rfl
theorem rgood.aok (N : Nat) : AnnsOK (rgood.K N) := aok1 ⟨fun _ _ => ⟨rfl, rfl⟩, trivial⟩
theorem rgood.ok : CallOK Tryz.prog 132 rgood.spec := ok0 rgood.cok (fun _ => iok0 rfl) rgood.aok rgood.F_eq (by kernel_rfl) (by kernel_rfl) (fun _ => rfl) (fun _ => ⟨rfl, rfl⟩) fun _ _ => ⟨rfl, rfl⟩
def rlen.sig : Eng.Sig := { args := [.at (.int .i64 0)], n := 0, pre := [], post := [], m := 0, ret := .at (.int .i64 0) }
def rlen.C (N : Nat) : Cfg := { P := Tryz.prog, N := N, RT := noRT, specs := [], inl := [], hi := 0, mv := [] }
abbrev rlen.R : Type := Int
def rlen.dec (L : Eng.Leaves) : rlen.R := (L.i 0)
def rlen.enc (r : rlen.R) : Eng.Leaves := mkL [r] [] [] []
abbrev rlen.loop2.R : Type := Int
def rlen.loop2.ann : Ann := { nx := 20, slots := [(0, .at (.int .i64 0)), (3, .at (.int .i64 1))], blks := [], mov := [], exId := 0, xslots := [(3, .at (.int .i64 0))], xblks := [], T := rlen.loop2.R, dec := fun L => (L.i 0), enc := fun r => mkL [r] [] [] [], ret := false }
def rlen.K (N : Nat) : FCfg := { anns := [(2, rlen.loop2.ann)], unr := [], lits := [], lets := [] }
def rlen.loop2 (N : Nat) : Nat → Int → Int → Option rlen.loop2.R
  | 0, _, _ => none
  | nn + 1, a, n =>
  (br (decide (a > (0 : Int)))
  (rlen.loop2 N nn (IntKind.i64.wrap (a.tdiv (2 : Int))) (IntKind.i64.wrap (n + (1 : Int))))
  (some n))
def rlen.loop2R (N nn : Nat) (a n : Int) : Option rlen.loop2.R := loopF rlen.loop2.ann (mkL [] [] [] []) (evCode ((rlen.C N).inLoop rlen.loop2.ann) (rlen.K N) (inlTab (rlen.C N) 0) (bodyAt 2 Tryz.f88)) nn (mkL [a, n] [] [] [])
theorem rlen.loop2_eq (N : Nat) : ∀ nn, rlen.loop2R N nn = rlen.loop2 N nn
  | 0 => by funext; kernel_rfl
  | nn + 1 => by
    funext; rw [rlen.loop2, ← rlen.loop2_eq N nn]; kernel_rfl
def rlen.F (N : Nat) (a : Int) : Option rlen.R :=
  (obind (rlen.loop2 N N a ((0 : Int))) fun r0 =>
  (some r0))
theorem rlen.F_eq (N : Nat) (L : Eng.Leaves) : evSig (rlen.C N) (rlen.K N) 0 Tryz.f88 rlen.sig L rlen.dec = rlen.F N (L.i 0) := by
  rw [rlen.F, ← funext (rlen.loop2_eq N)]; kernel_rfl
def rlen.spec : Eng.Spec := rlen.sig.spec (fun N L => rlen.F N (L.i 0)) rlen.enc
theorem rlen.cok (N : Nat) : CfgOK (rlen.C N) := cok0 wide trivial (by kernel_rfl) rfl rfl rfl rfl
theorem rlen.aok (N : Nat) : AnnsOK (rlen.K N) := aok1 ⟨fun _ _ => ⟨rfl, rfl⟩, trivial⟩
theorem rlen.ok : CallOK Tryz.prog 88 rlen.spec := ok0 rlen.cok (fun _ => iok0 rfl) rlen.aok rlen.F_eq (by kernel_rfl) (by kernel_rfl) (fun _ => rfl) (fun _ => ⟨rfl, rfl⟩) fun _ _ => ⟨rfl, rfl⟩
def rsymbol.sig : Eng.Sig := { args := [.at (.ptr 0 0), .at (.roi .i64 0)], n := 1, pre := [(0, .cells 11 [.roi .u8 1, .int .u64 0, .int .u64 1, .int .i64 2, .int .i64 3, .int .i64 4, .int .u64 5, .int .i64 6, .int .i64 7, .bool 0, .int .u64 8])], post := [(0, .cells 11 [.froi .u8 1, .int .u64 1, .int .u64 2, .int .i64 3, .int .i64 4, .fint .i64 4, .fint .u64 5, .fint .i64 6, .int .i64 5, .fbool 0, .int .u64 6])], m := 0, ret := .at (.int .i64 0) }
def rsymbol.C (N : Nat) : Cfg := { P := Tryz.prog, N := N, RT := noRT, specs := [(132, rgood.spec), (133, rchoose.spec), (134, rtake.spec)], inl := [], hi := 1, mv := [] }
abbrev rsymbol.R : Type := Int × Int × Int × Int × Int × Int × Int
def rsymbol.dec (L : Eng.Leaves) : rsymbol.R := (L.i 0, L.i 1, L.i 2, L.i 3, L.i 4, L.i 5, L.i 6)
def rsymbol.enc (r : rsymbol.R) : Eng.Leaves := mkL [r.1, r.2.1, r.2.2.1, r.2.2.2.1, r.2.2.2.2.1, r.2.2.2.2.2.1, r.2.2.2.2.2.2] [] [] []
abbrev rsymbol.loop6.R : Type := Int × Int
def rsymbol.loop6.ann : Ann := { nx := 20, slots := [(1, .at (.froi .i64 0)), (5, .at (.fint .u64 0)), (6, .at (.int .i64 0)), (7, .at (.int .i64 1))], blks := [], mov := [], exId := 0, xslots := [(6, .at (.int .i64 0)), (7, .at (.int .i64 1))], xblks := [], T := rsymbol.loop6.R, dec := fun L => (L.i 0, L.i 1), enc := fun r => mkL [r.1, r.2] [] [] [], ret := false }
def rsymbol.K (N : Nat) : FCfg := { anns := [(6, rsymbol.loop6.ann)], unr := [], lits := [], lets := [] }
def rsymbol.loop6 (N : Nat) : Nat → Int → List Int → Int → Int → Option rsymbol.loop6.R
  | 0, _, _, _, _ => none
  | nn + 1, f, t, k, was =>
  (chk ((0 : Int) ≤ k ∧ k < ↑t.length)
  (br (decide (f ≥ IntKind.u64.wrap (IntKind.i64.wrap ((256 : Int) - t.getD k.toNat (0 : Int)))))
  (chk ((0 : Int) ≤ k ∧ k < ↑t.length)
  (chkL t t
  (chkI f f
  (rsymbol.loop6 N nn f t (IntKind.i64.wrap (k + (1 : Int))) (t.getD k.toNat (0 : Int))))))
  (some ((k, was)))))
def rsymbol.loop6R (N nn : Nat) (f : Int) (t : List Int) (k was : Int) : Option rsymbol.loop6.R := loopF rsymbol.loop6.ann (mkL [f] [] [t] []) (evCode ((rsymbol.C N).inLoop rsymbol.loop6.ann) (rsymbol.K N) (inlTab (rsymbol.C N) 0) (bodyAt 6 Tryz.f82)) nn (mkL [k, was] [] [] [])
theorem rsymbol.loop6_eq (N : Nat) : ∀ nn, rsymbol.loop6R N nn = rsymbol.loop6 N nn
  | 0 => by funext; kernel_rfl
  | nn + 1 => by
    funext; rw [rsymbol.loop6, ← rsymbol.loop6_eq N nn]; kernel_rfl
def rsymbol.F (N : Nat) (rng val last front back wait waiting count eq : Int) (bad : Bool) (t b : List Int) : Option rsymbol.R :=
  (obind (Rc.rgood.F N t) fun r0 =>
  (br (!r0)
  (chkL b b
  (chkI back back
  (chkI wait wait
  (chkI waiting waiting
  (chkB bad bad
  (some (((0 : Int), rng, val, last, front, count, eq))))))))
  (obind (Rc.rchoose.F N ((256 : Int)) rng val last front back wait waiting count eq bad b) fun r1 =>
  (obind (rsymbol.loop6 N N r1.1 t ((0 : Int)) ((256 : Int))) fun r2 =>
  (chk ((0 : Int) ≤ r2.1 ∧ r2.1 < ↑t.length)
  (obind (Rc.rtake.F N (IntKind.u64.wrap (IntKind.i64.wrap ((256 : Int) - r2.2))) (IntKind.u64.wrap (IntKind.i64.wrap ((256 : Int) - t.getD r2.1.toNat (0 : Int)))) ((256 : Int)) rng val last front back wait waiting count r1.2 bad b) fun r3 =>
  (chkL b b
  (chkI back back
  (chkI wait wait
  (chkI waiting waiting
  (chkB bad bad
  (some ((r2.1, r3.1, r3.2.1, r3.2.2.1, r3.2.2.2.1, r3.2.2.2.2, r1.2))))))))))))))
theorem rsymbol.F_eq (N : Nat) (L : Eng.Leaves) : evSig (rsymbol.C N) (rsymbol.K N) 0 Tryz.f82 rsymbol.sig L rsymbol.dec = rsymbol.F N (L.i 0) (L.i 1) (L.i 2) (L.i 3) (L.i 4) (L.i 5) (L.i 6) (L.i 7) (L.i 8) (L.b 0) (L.l 0) (L.l 1) := by
  rw [rsymbol.F, ← funext (rsymbol.loop6_eq N)]; kernel_rfl
def rsymbol.spec : Eng.Spec := rsymbol.sig.spec (fun N L => rsymbol.F N (L.i 0) (L.i 1) (L.i 2) (L.i 3) (L.i 4) (L.i 5) (L.i 6) (L.i 7) (L.i 8) (L.b 0) (L.l 0) (L.l 1)) rsymbol.enc
theorem rsymbol.cok (N : Nat) : CfgOK (rsymbol.C N) := cok0 wide ⟨rgood.ok, rchoose.ok, rtake.ok, trivial⟩ (by kernel_rfl) rfl rfl rfl rfl
theorem rsymbol.aok (N : Nat) : AnnsOK (rsymbol.K N) := aok1 ⟨fun _ _ => ⟨rfl, rfl⟩, trivial⟩
theorem rsymbol.ok : CallOK Tryz.prog 82 rsymbol.spec := ok0 rsymbol.cok (fun _ => iok0 rfl) rsymbol.aok rsymbol.F_eq (by kernel_rfl) (by kernel_rfl) (fun _ => rfl) (fun _ => ⟨rfl, rfl⟩) fun _ _ => ⟨rfl, rfl⟩
def rbits.sig : Eng.Sig := { args := [.at (.ptr 0 0), .at (.int .i64 0)], n := 1, pre := [(0, .cells 11 [.roi .u8 0, .int .u64 1, .int .u64 2, .int .i64 3, .int .i64 4, .int .i64 5, .int .u64 6, .int .i64 7, .int .i64 8, .bool 0, .int .u64 9])], post := [(0, .cells 11 [.froi .u8 0, .fint .u64 1, .fint .u64 2, .fint .i64 3, .fint .i64 4, .int .i64 1, .int .u64 2, .int .i64 3, .int .i64 4, .fbool 0, .fint .u64 9])], m := 0, ret := .at (.int .i64 0) }
def rbits.C (N : Nat) : Cfg := { P := Tryz.prog, N := N, RT := noRT, specs := [], inl := [], hi := 1, mv := [] }
abbrev rbits.R : Type := Int × Int × Int × Int × Int
def rbits.dec (L : Eng.Leaves) : rbits.R := (L.i 0, L.i 1, L.i 2, L.i 3, L.i 4)
def rbits.enc (r : rbits.R) : Eng.Leaves := mkL [r.1, r.2.1, r.2.2.1, r.2.2.2.1, r.2.2.2.2] [] [] []
abbrev rbits.loop3.R : Type := Int × Int × Int
def rbits.loop3.ann : Ann := { nx := 20, slots := [(0, .at (.ptr 0 0)), (1, .at (.fint .i64 0))], blks := [(0, .cells 11 [.froi .u8 0, .fint .u64 1, .fint .u64 2, .fint .i64 3, .fint .i64 4, .int .i64 0, .int .u64 1, .int .i64 2, .fint .i64 5, .fbool 0, .fint .u64 6])], mov := [], exId := 0, xslots := [(0, .at (.ptr 0 0))], xblks := [(0, .cells 11 [.froi .u8 0, .fint .u64 1, .fint .u64 2, .fint .i64 3, .fint .i64 4, .int .i64 0, .int .u64 1, .int .i64 2, .fint .i64 5, .fbool 0, .fint .u64 6])], T := rbits.loop3.R, dec := fun L => (L.i 0, L.i 1, L.i 2), enc := fun r => mkL [r.1, r.2.1, r.2.2] [] [] [], ret := false }
def rbits.K (N : Nat) : FCfg := { anns := [(3, rbits.loop3.ann)], unr := [], lits := [], lets := [] }
def rbits.loop3 (N : Nat) : Nat → Int → Int → Int → Int → Int → Int → Int → Bool → List Int → Int → Int → Int → Option rbits.loop3.R
  | 0, _, _, _, _, _, _, _, _, _, _, _, _ => none
  | nn + 1, n, rng, val, last, front, count, eq, bad, b, back, wait, waiting =>
  (br (decide (waiting < n))
  (br (decide (back < ↑b.length))
  (chk ((0 : Int) ≤ IntKind.i64.wrap (↑b.length - IntKind.i64.wrap (back + (1 : Int))) ∧ IntKind.i64.wrap (↑b.length - IntKind.i64.wrap (back + (1 : Int))) < ↑b.length)
  (chk ((0 : Int) ≤ IntKind.u64.wrap waiting)
  (chkI n n
  (chkL b b
  (chkI rng rng
  (chkI val val
  (chkI last last
  (chkI front front
  (chkI count count
  (chkB bad bad
  (chkI eq eq
  (rbits.loop3 N nn n rng val last front count eq bad b (IntKind.i64.wrap (back + (1 : Int))) (IntKind.u64.wrap ↑(BitVec.ofInt IntKind.u64.bits wait ||| BitVec.ofInt IntKind.u64.bits (IntKind.u64.wrap (IntKind.u64.wrap (b.getD (IntKind.i64.wrap (↑b.length - IntKind.i64.wrap (back + (1 : Int)))).toNat (0 : Int)) * (2 : Int) ^ min (IntKind.u64.wrap waiting).toNat IntKind.u64.bits))).toNat) (IntKind.i64.wrap (waiting + (8 : Int)))))))))))))))
  (chk ((0 : Int) ≤ IntKind.u64.wrap waiting)
  (chkI n n
  (chkL b b
  (chkI rng rng
  (chkI val val
  (chkI last last
  (chkI front front
  (chkI count count
  (chkB bad bad
  (chkI eq eq
  (rbits.loop3 N nn n rng val last front count eq bad b back (IntKind.u64.wrap ↑(BitVec.ofInt IntKind.u64.bits wait ||| BitVec.ofInt IntKind.u64.bits (IntKind.u64.wrap ((0 : Int) * (2 : Int) ^ min (IntKind.u64.wrap waiting).toNat IntKind.u64.bits))).toNat) (IntKind.i64.wrap (waiting + (8 : Int)))))))))))))))
  (chkL b b
  (chkI rng rng
  (chkI val val
  (chkI last last
  (chkI front front
  (chkI count count
  (chkB bad bad
  (chkI eq eq
  (some ((back, wait, waiting))))))))))))
def rbits.loop3R (N nn : Nat) (n rng val last front count eq : Int) (bad : Bool) (b : List Int) (back wait waiting : Int) : Option rbits.loop3.R := loopF rbits.loop3.ann (mkL [n, rng, val, last, front, count, eq] [bad] [b] []) (evCode ((rbits.C N).inLoop rbits.loop3.ann) (rbits.K N) (inlTab (rbits.C N) 0) (bodyAt 3 Tryz.f81)) nn (mkL [back, wait, waiting] [] [] [])
theorem rbits.loop3_eq (N : Nat) : ∀ nn, rbits.loop3R N nn = rbits.loop3 N nn
  | 0 => by funext; kernel_rfl
  | nn + 1 => by
    funext; rw [rbits.loop3, ← rbits.loop3_eq N nn]; kernel_rfl
def rbits.F (N : Nat) (n rng val last front back wait waiting count eq : Int) (bad : Bool) (b : List Int) : Option rbits.R :=
  (br (decide (n < (0 : Int)))
  (chkL b b
  (chkI rng rng
  (chkI val val
  (chkI last last
  (chkI front front
  (chkB bad bad
  (chkI eq eq
  (some (((0 : Int), back, wait, waiting, count))))))))))
  (br (decide (n > (24 : Int)))
  (chkL b b
  (chkI rng rng
  (chkI val val
  (chkI last last
  (chkI front front
  (chkB bad bad
  (chkI eq eq
  (some (((0 : Int), back, wait, waiting, count))))))))))
  (obind (rbits.loop3 N N n rng val last front count eq bad b back wait waiting) fun r0 =>
  (chk ((0 : Int) ≤ IntKind.u64.wrap n)
  (chk ((0 : Int) ≤ IntKind.u64.wrap n)
  (chkL b b
  (chkI rng rng
  (chkI val val
  (chkI last last
  (chkI front front
  (chkB bad bad
  (chkI eq eq
  (some ((IntKind.i64.wrap (IntKind.u64.wrap ↑(BitVec.ofInt IntKind.u64.bits r0.2.1 &&& BitVec.ofInt IntKind.u64.bits (IntKind.u64.wrap (IntKind.u64.wrap ((1 : Int) * (2 : Int) ^ min (IntKind.u64.wrap n).toNat IntKind.u64.bits) - (1 : Int)))).toNat), r0.1, r0.2.1.fdiv ((2 : Int) ^ min (IntKind.u64.wrap n).toNat IntKind.u64.bits), IntKind.i64.wrap (r0.2.2 - n), IntKind.i64.wrap (count + n))))))))))))))))
theorem rbits.F_eq (N : Nat) (L : Eng.Leaves) : evSig (rbits.C N) (rbits.K N) 0 Tryz.f81 rbits.sig L rbits.dec = rbits.F N (L.i 0) (L.i 1) (L.i 2) (L.i 3) (L.i 4) (L.i 5) (L.i 6) (L.i 7) (L.i 8) (L.i 9) (L.b 0) (L.l 0) := by
  rw [rbits.F, ← funext (rbits.loop3_eq N)]; kernel_rfl
def rbits.spec : Eng.Spec := rbits.sig.spec (fun N L => rbits.F N (L.i 0) (L.i 1) (L.i 2) (L.i 3) (L.i 4) (L.i 5) (L.i 6) (L.i 7) (L.i 8) (L.i 9) (L.b 0) (L.l 0)) rbits.enc
theorem rbits.cok (N : Nat) : CfgOK (rbits.C N) := cok0 wide trivial (by kernel_rfl) rfl rfl rfl rfl
theorem rbits.aok (N : Nat) : AnnsOK (rbits.K N) := aok1 ⟨fun _ _ => ⟨rfl, rfl⟩, trivial⟩
theorem rbits.ok : CallOK Tryz.prog 81 rbits.spec := ok0 rbits.cok (fun _ => iok0 rfl) rbits.aok rbits.F_eq (by kernel_rfl) (by kernel_rfl) (fun _ => rfl) (fun _ => ⟨rfl, rfl⟩) fun _ _ => ⟨rfl, rfl⟩
def ruint.sig : Eng.Sig := { args := [.at (.ptr 0 0), .at (.int .i64 0)], n := 1, pre := [(0, .cells 11 [.roi .u8 0, .int .u64 1, .int .u64 2, .int .i64 3, .int .i64 4, .int .i64 5, .int .u64 6, .int .i64 7, .int .i64 8, .bool 0, .int .u64 9])], post := [(0, .cells 11 [.froi .u8 0, .int .u64 1, .int .u64 2, .int .i64 3, .int .i64 4, .int .i64 5, .int .u64 6, .int .i64 7, .int .i64 8, .bool 0, .int .u64 9])], m := 0, ret := .at (.int .i64 0) }
def ruint.C (N : Nat) : Cfg := { P := Tryz.prog, N := N, RT := noRT, specs := [(133, rchoose.spec), (134, rtake.spec), (88, rlen.spec), (81, rbits.spec)], inl := [], hi := 1, mv := [] }
abbrev ruint.R : Type := Int × Int × Int × Int × Int × Int × Int × Int × Int × Int × Bool
def ruint.dec (L : Eng.Leaves) : ruint.R := (L.i 0, L.i 1, L.i 2, L.i 3, L.i 4, L.i 5, L.i 6, L.i 7, L.i 8, L.i 9, L.b 0)
def ruint.enc (r : ruint.R) : Eng.Leaves := mkL [r.1, r.2.1, r.2.2.1, r.2.2.2.1, r.2.2.2.2.1, r.2.2.2.2.2.1, r.2.2.2.2.2.2.1, r.2.2.2.2.2.2.2.1, r.2.2.2.2.2.2.2.2.1, r.2.2.2.2.2.2.2.2.2.1] [r.2.2.2.2.2.2.2.2.2.2] [] []
def ruint.K (N : Nat) : FCfg := { anns := [], unr := [], lits := [], lets := [] }
def ruint.F (N : Nat) (ft rng val last front back wait waiting count eq : Int) (bad : Bool) (b : List Int) : Option ruint.R :=
  (br (decide (ft < (1 : Int)))
  (chkL b b
  (some (((0 : Int), rng, val, last, front, back, wait, waiting, count, eq, bad))))
  (br (decide (ft > (4294967295 : Int)))
  (chkL b b
  (some (((0 : Int), rng, val, last, front, back, wait, waiting, count, eq, bad))))
  (br (ft == (1 : Int))
  (chkL b b
  (some (((0 : Int), rng, val, last, front, back, wait, waiting, count, eq, bad))))
  (br (decide (ft ≤ (256 : Int)))
  (obind (Rc.rchoose.F N (IntKind.u64.wrap ft) rng val last front back wait waiting count eq bad b) fun r0 =>
  (obind (Rc.rtake.F N r0.1 (IntKind.u64.wrap (r0.1 + (1 : Int))) (IntKind.u64.wrap ft) rng val last front back wait waiting count r0.2 bad b) fun r1 =>
  (chkL b b
  (some ((IntKind.i64.wrap r0.1, r1.1, r1.2.1, r1.2.2.1, r1.2.2.2.1, back, wait, waiting, r1.2.2.2.2, r0.2, bad))))))
  (obind (Rc.rlen.F N (IntKind.i64.wrap (ft - (1 : Int)))) fun r2 =>
  (chk ((0 : Int) ≤ IntKind.u64.wrap (IntKind.i64.wrap (r2 - (8 : Int))))
  (obind (Rc.rchoose.F N (IntKind.u64.wrap (IntKind.i64.wrap ((IntKind.i64.wrap (ft - (1 : Int))).fdiv ((2 : Int) ^ min (IntKind.u64.wrap (IntKind.i64.wrap (r2 - (8 : Int)))).toNat IntKind.i64.bits) + (1 : Int)))) rng val last front back wait waiting count eq bad b) fun r3 =>
  (obind (Rc.rtake.F N r3.1 (IntKind.u64.wrap (r3.1 + (1 : Int))) (IntKind.u64.wrap (IntKind.i64.wrap ((IntKind.i64.wrap (ft - (1 : Int))).fdiv ((2 : Int) ^ min (IntKind.u64.wrap (IntKind.i64.wrap (r2 - (8 : Int)))).toNat IntKind.i64.bits) + (1 : Int)))) rng val last front back wait waiting count r3.2 bad b) fun r4 =>
  (chk ((0 : Int) ≤ IntKind.u64.wrap (IntKind.i64.wrap (r2 - (8 : Int))))
  (obind (Rc.rbits.F N (IntKind.i64.wrap (r2 - (8 : Int))) r4.1 r4.2.1 r4.2.2.1 r4.2.2.2.1 back wait waiting r4.2.2.2.2 r3.2 bad b) fun r5 =>
  (br (decide (IntKind.i64.wrap ↑(BitVec.ofInt IntKind.i64.bits (IntKind.i64.wrap (IntKind.i64.wrap r3.1 * (2 : Int) ^ min (IntKind.u64.wrap (IntKind.i64.wrap (r2 - (8 : Int)))).toNat IntKind.i64.bits)) ||| BitVec.ofInt IntKind.i64.bits r5.1).toNat ≥ ft))
  (chkL b b
  (some ((IntKind.i64.wrap (ft - (1 : Int)), r4.1, r4.2.1, r4.2.2.1, r4.2.2.2.1, r5.2.1, r5.2.2.1, r5.2.2.2.1, r5.2.2.2.2, r3.2, true))))
  (chkL b b
  (some ((IntKind.i64.wrap ↑(BitVec.ofInt IntKind.i64.bits (IntKind.i64.wrap (IntKind.i64.wrap r3.1 * (2 : Int) ^ min (IntKind.u64.wrap (IntKind.i64.wrap (r2 - (8 : Int)))).toNat IntKind.i64.bits)) ||| BitVec.ofInt IntKind.i64.bits r5.1).toNat, r4.1, r4.2.1, r4.2.2.1, r4.2.2.2.1, r5.2.1, r5.2.2.1, r5.2.2.2.1, r5.2.2.2.2, r3.2, bad)))))))))))))))
theorem ruint.F_eq (N : Nat) (L : Eng.Leaves) : evSig (ruint.C N) (ruint.K N) 0 Tryz.f85 ruint.sig L ruint.dec = ruint.F N (L.i 0) (L.i 1) (L.i 2) (L.i 3) (L.i 4) (L.i 5) (L.i 6) (L.i 7) (L.i 8) (L.i 9) (L.b 0) (L.l 0) := by
  kernel_rfl
def ruint.spec : Eng.Spec := ruint.sig.spec (fun N L => ruint.F N (L.i 0) (L.i 1) (L.i 2) (L.i 3) (L.i 4) (L.i 5) (L.i 6) (L.i 7) (L.i 8) (L.i 9) (L.b 0) (L.l 0)) ruint.enc
theorem ruint.cok (N : Nat) : CfgOK (ruint.C N) := cok0 wide ⟨rchoose.ok, rtake.ok, rlen.ok, rbits.ok, trivial⟩ (by kernel_rfl) rfl rfl rfl rfl
theorem ruint.aok (N : Nat) : AnnsOK (ruint.K N) := aok1 trivial
theorem ruint.ok : CallOK Tryz.prog 85 ruint.spec := ok0 ruint.cok (fun _ => iok0 rfl) ruint.aok ruint.F_eq (by kernel_rfl) (by kernel_rfl) (fun _ => rfl) (fun _ => ⟨rfl, rfl⟩) fun _ _ => ⟨rfl, rfl⟩
def rtell.sig : Eng.Sig := { args := [.at (.ptr 0 0)], n := 1, pre := [(0, .cells 11 [.roi .u8 0, .int .u64 0, .int .u64 1, .int .i64 2, .int .i64 3, .int .i64 4, .int .u64 5, .int .i64 6, .int .i64 7, .bool 0, .int .u64 8])], post := [(0, .cells 11 [.froi .u8 0, .fint .u64 0, .fint .u64 1, .fint .i64 2, .fint .i64 3, .fint .i64 4, .fint .u64 5, .fint .i64 6, .fint .i64 7, .fbool 0, .fint .u64 8])], m := 0, ret := .at (.int .i64 0) }
def rtell.C (N : Nat) : Cfg := { P := Tryz.prog, N := N, RT := noRT, specs := [(88, rlen.spec)], inl := [], hi := 1, mv := [] }
abbrev rtell.R : Type := Int
def rtell.dec (L : Eng.Leaves) : rtell.R := (L.i 0)
def rtell.enc (r : rtell.R) : Eng.Leaves := mkL [r] [] [] []
def rtell.K (N : Nat) : FCfg := { anns := [], unr := [], lits := [], lets := [] }
def rtell.F (N : Nat) (rng val last front back wait waiting count eq : Int) (bad : Bool) (b : List Int) : Option rtell.R :=
  (obind (Rc.rlen.F N (IntKind.i64.wrap rng)) fun r0 =>
  (chkI count count
  (chkL b b
  (chkI rng rng
  (chkI val val
  (chkI last last
  (chkI front front
  (chkI back back
  (chkI wait wait
  (chkI waiting waiting
  (chkI count count
  (chkB bad bad
  (chkI eq eq
  (some (IntKind.i64.wrap (count - r0))))))))))))))))
theorem rtell.F_eq (N : Nat) (L : Eng.Leaves) : evSig (rtell.C N) (rtell.K N) 0 Tryz.f28 rtell.sig L rtell.dec = rtell.F N (L.i 0) (L.i 1) (L.i 2) (L.i 3) (L.i 4) (L.i 5) (L.i 6) (L.i 7) (L.i 8) (L.b 0) (L.l 0) := by
  kernel_rfl
def rtell.spec : Eng.Spec := rtell.sig.spec (fun N L => rtell.F N (L.i 0) (L.i 1) (L.i 2) (L.i 3) (L.i 4) (L.i 5) (L.i 6) (L.i 7) (L.i 8) (L.b 0) (L.l 0)) rtell.enc
theorem rtell.cok (N : Nat) : CfgOK (rtell.C N) := cok0 wide ⟨rlen.ok, trivial⟩ (by kernel_rfl) rfl rfl rfl rfl
theorem rtell.aok (N : Nat) : AnnsOK (rtell.K N) := aok1 trivial
theorem rtell.ok : CallOK Tryz.prog 28 rtell.spec := ok0 rtell.cok (fun _ => iok0 rfl) rtell.aok rtell.F_eq (by kernel_rfl) (by kernel_rfl) (fun _ => rfl) (fun _ => ⟨rfl, rfl⟩) fun _ _ => ⟨rfl, rfl⟩
def rbad.sig : Eng.Sig := { args := [.at (.ptr 0 0)], n := 1, pre := [(0, .cells 11 [.roi .u8 0, .int .u64 0, .int .u64 1, .int .i64 2, .int .i64 3, .int .i64 4, .int .u64 5, .int .i64 6, .int .i64 7, .bool 0, .int .u64 8])], post := [(0, .cells 11 [.froi .u8 0, .fint .u64 0, .fint .u64 1, .fint .i64 2, .fint .i64 3, .fint .i64 4, .fint .u64 5, .fint .i64 6, .fint .i64 7, .fbool 0, .fint .u64 8])], m := 0, ret := .at (.bool 0) }
def rbad.C (N : Nat) : Cfg := { P := Tryz.prog, N := N, RT := noRT, specs := [(28, rtell.spec)], inl := [], hi := 1, mv := [] }
abbrev rbad.R : Type := Bool
def rbad.dec (L : Eng.Leaves) : rbad.R := (L.b 0)
def rbad.enc (r : rbad.R) : Eng.Leaves := mkL [] [r] [] []
def rbad.K (N : Nat) : FCfg := { anns := [], unr := [], lits := [], lets := [] }
def rbad.F (N : Nat) (rng val last front back wait waiting count eq : Int) (bad : Bool) (b : List Int) : Option rbad.R :=
  (br bad
  (chkL b b
  (chkI rng rng
  (chkI val val
  (chkI last last
  (chkI front front
  (chkI back back
  (chkI wait wait
  (chkI waiting waiting
  (chkI count count
  (chkB bad bad
  (chkI eq eq
  (some true))))))))))))
  (obind (Rc.rtell.F N rng val last front back wait waiting count eq bad b) fun r0 =>
  (chkL b b
  (chkL b b
  (chkI rng rng
  (chkI val val
  (chkI last last
  (chkI front front
  (chkI back back
  (chkI wait wait
  (chkI waiting waiting
  (chkI count count
  (chkB bad bad
  (chkI eq eq
  (some (decide (r0 > IntKind.i64.wrap ((8 : Int) * ↑b.length))))))))))))))))))
theorem rbad.F_eq (N : Nat) (L : Eng.Leaves) : evSig (rbad.C N) (rbad.K N) 0 Tryz.f39 rbad.sig L rbad.dec = rbad.F N (L.i 0) (L.i 1) (L.i 2) (L.i 3) (L.i 4) (L.i 5) (L.i 6) (L.i 7) (L.i 8) (L.b 0) (L.l 0) := by
  kernel_rfl
def rbad.spec : Eng.Spec := rbad.sig.spec (fun N L => rbad.F N (L.i 0) (L.i 1) (L.i 2) (L.i 3) (L.i 4) (L.i 5) (L.i 6) (L.i 7) (L.i 8) (L.b 0) (L.l 0)) rbad.enc
theorem rbad.cok (N : Nat) : CfgOK (rbad.C N) := cok0 wide ⟨rtell.ok, trivial⟩ (by kernel_rfl) rfl rfl rfl rfl
theorem rbad.aok (N : Nat) : AnnsOK (rbad.K N) := aok1 trivial
theorem rbad.ok : CallOK Tryz.prog 39 rbad.spec := ok0 rbad.cok (fun _ => iok0 rfl) rbad.aok rbad.F_eq (by kernel_rfl) (by kernel_rfl) (fun _ => rfl) (fun _ => ⟨rfl, rfl⟩) fun _ _ => ⟨rfl, rfl⟩
def rnew.sig : Eng.Sig := { args := [.at (.roi .u8 0)], n := 0, pre := [], post := [(0, .cells 11 [.roi .u8 0, .int .u64 0, .int .u64 1, .int .i64 2, .int .i64 3, .int .i64 4, .int .u64 5, .int .i64 6, .int .i64 7, .bool 0, .int .u64 8])], m := 1, ret := .at (.ptr 0 0) }
def rnew.C (N : Nat) : Cfg := { P := Tryz.prog, N := N, RT := noRT, specs := [(79, rnext.spec), (80, ron.spec)], inl := [], hi := 0, mv := [] }
abbrev rnew.R : Type := Int × Int × Int × Int × Int × Int × Int × Int × Int × Bool × List Int
def rnew.dec (L : Eng.Leaves) : rnew.R := (L.i 0, L.i 1, L.i 2, L.i 3, L.i 4, L.i 5, L.i 6, L.i 7, L.i 8, L.b 0, L.l 0)
def rnew.enc (r : rnew.R) : Eng.Leaves := mkL [r.1, r.2.1, r.2.2.1, r.2.2.2.1, r.2.2.2.2.1, r.2.2.2.2.2.1, r.2.2.2.2.2.2.1, r.2.2.2.2.2.2.2.1, r.2.2.2.2.2.2.2.2.1] [r.2.2.2.2.2.2.2.2.2.1] [r.2.2.2.2.2.2.2.2.2.2] []
def rnew.K (N : Nat) : FCfg := { anns := [], unr := [], lits := [], lets := [] }
def rnew.F (N : Nat) (b : List Int) : Option rnew.R :=
  (obind (Rc.rnext.F N ((128 : Int)) ((0 : Int)) ((0 : Int)) ((0 : Int)) ((0 : Int)) ((0 : Int)) ((0 : Int)) ((9 : Int)) ((0 : Int)) false b) fun r0 =>
  (obind (Rc.ron.F N ((128 : Int)) (IntKind.u64.wrap (IntKind.i64.wrap ((127 : Int) - IntKind.i64.wrap (r0.1.tdiv (2 : Int))))) r0.1 r0.2 ((0 : Int)) ((0 : Int)) ((0 : Int)) ((9 : Int)) ((0 : Int)) false b) fun r1 =>
  (some ((r1.1, r1.2.1, r1.2.2.1, r1.2.2.2.1, (0 : Int), (0 : Int), (0 : Int), r1.2.2.2.2, (0 : Int), false, b)))))
theorem rnew.F_eq (N : Nat) (L : Eng.Leaves) : evSig (rnew.C N) (rnew.K N) 0 Tryz.f25 rnew.sig L rnew.dec = rnew.F N (L.l 0) := by
  kernel_rfl
def rnew.spec : Eng.Spec := rnew.sig.spec (fun N L => rnew.F N (L.l 0)) rnew.enc
theorem rnew.cok (N : Nat) : CfgOK (rnew.C N) := cok0 wide ⟨rnext.ok, ron.ok, trivial⟩ (by kernel_rfl) rfl rfl rfl rfl
theorem rnew.aok (N : Nat) : AnnsOK (rnew.K N) := aok1 trivial
theorem rnew.ok : CallOK Tryz.prog 25 rnew.spec := ok0 rnew.cok (fun _ => iok0 rfl) rnew.aok rnew.F_eq (by kernel_rfl) (by kernel_rfl) (fun _ => rfl) (fun _ => ⟨rfl, rfl⟩) fun _ _ => ⟨rfl, rfl⟩
def icdf.sig : Eng.Sig := { args := [.at (.int .i64 0)], n := 0, pre := [], post := [], m := 0, ret := .at (.roi .i64 0) }
def icdf.C (N : Nat) : Cfg := { P := Tryz.prog, N := N, RT := noRT, specs := [], inl := [], hi := 0, mv := [] }
abbrev icdf.R : Type := List Int
def icdf.dec (L : Eng.Leaves) : icdf.R := (L.l 0)
def icdf.enc (r : icdf.R) : Eng.Leaves := mkL [] [] [r] []
def icdf.K (N : Nat) : FCfg := { anns := [], unr := [], lits := [6, 9, 12, 15, 18, 21, 24, 27, 30], lets := [] }
def icdf.F (N : Nat) (n : Int) : Option icdf.R :=
  (br (n == (0 : Int))
  (some ([(192 : Int), (96 : Int), (0 : Int)]))
  (br (n == (1 : Int))
  (some ([(224 : Int), (192 : Int), (160 : Int), (128 : Int), (96 : Int), (64 : Int), (32 : Int), (0 : Int)]))
  (br (n == (2 : Int))
  (some ([(252 : Int), (247 : Int), (240 : Int), (230 : Int), (214 : Int), (190 : Int), (150 : Int), (106 : Int), (66 : Int), (42 : Int), (26 : Int), (16 : Int), (10 : Int), (6 : Int), (4 : Int), (2 : Int), (0 : Int)]))
  (br (n == (3 : Int))
  (some ([(240 : Int), (224 : Int), (208 : Int), (192 : Int), (176 : Int), (160 : Int), (144 : Int), (128 : Int), (112 : Int), (96 : Int), (80 : Int), (64 : Int), (48 : Int), (32 : Int), (16 : Int), (0 : Int)]))
  (br (n == (4 : Int))
  (some ([(253 : Int), (244 : Int), (222 : Int), (170 : Int), (86 : Int), (34 : Int), (12 : Int), (3 : Int), (0 : Int)]))
  (br (n == (5 : Int))
  (some ([(218 : Int), (180 : Int), (148 : Int), (122 : Int), (100 : Int), (82 : Int), (67 : Int), (54 : Int), (43 : Int), (34 : Int), (26 : Int), (19 : Int), (14 : Int), (10 : Int), (6 : Int), (3 : Int), (0 : Int)]))
  (br (n == (6 : Int))
  (some ([(205 : Int), (163 : Int), (128 : Int), (97 : Int), (70 : Int), (44 : Int), (20 : Int), (0 : Int)]))
  (br (n == (7 : Int))
  (some ([(231 : Int), (155 : Int), (38 : Int), (0 : Int)]))
  (br (n == (8 : Int))
  (some ([(192 : Int), (128 : Int), (64 : Int), (0 : Int)]))
  (some (([] : List Int))))))))))))
theorem icdf.F_eq (N : Nat) (L : Eng.Leaves) : evSig (icdf.C N) (icdf.K N) 0 Tryz.f83 icdf.sig L icdf.dec = icdf.F N (L.i 0) := by
  kernel_rfl
def icdf.spec : Eng.Spec := icdf.sig.spec (fun N L => icdf.F N (L.i 0)) icdf.enc
theorem icdf.cok (N : Nat) : CfgOK (icdf.C N) := cok0 wide trivial (by kernel_rfl) rfl rfl rfl rfl
theorem icdf.aok (N : Nat) : AnnsOK (icdf.K N) := aok1 trivial
theorem icdf.ok : CallOK Tryz.prog 83 icdf.spec := ok0 icdf.cok (fun _ => iok0 rfl) icdf.aok icdf.F_eq (by kernel_rfl) (by kernel_rfl) (fun _ => rfl) (fun _ => ⟨rfl, rfl⟩) fun _ _ => ⟨rfl, rfl⟩
end
end Go.Proofs.Rc
