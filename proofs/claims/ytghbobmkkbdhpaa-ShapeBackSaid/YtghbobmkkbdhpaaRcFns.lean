/-
  Functions of the program: what each comes to, and its contract (written by a program).
  Conditions: none: each contract is proved for every input of its shape.
-/
import Derived.Test.YtghbobmkkbdhpaaEngMkToEngWords
import Derived.Laws.Externs
import Derived.Test.YtghbobmkkbdhpaaProg
set_option linter.unusedVariables false
set_option linter.unusedSimpArgs false
namespace Go.Proofs.Rc
open Go.Eng
set_option maxRecDepth 100000
theorem wide : Try.prog.follows .mixedOrders = true := by kernel_rfl
noncomputable def next.sig : Eng.Sig := { args := [.at (.ptr 0 0)], n := 2, pre := [(0, .cells 10 [.full 1 false, .int .u64 0, .int .u64 1, .int .u64 2, .int .i64 3, .int .i64 4, .int .u64 5, .int .i64 6, .int .i64 7, .bool 0]), (1, .ints false .u8 0)], post := [(0, .cells 10 [.full 1 false, .fint .u64 0, .fint .u64 1, .fint .u64 2, .int .i64 1, .fint .i64 4, .fint .u64 5, .fint .i64 6, .fint .i64 7, .fbool 0]), (1, .fints false .u8 0)], m := 0, ret := .at (.int .u64 0) }
noncomputable def next.C (N : Nat) : Cfg := { P := Try.prog, N := N, RT := noRT, specs := [], inl := [], hi := 2, mv := [] }
abbrev next.R : Type := Int × Int
def next.dec (L : Eng.Leaves) : next.R := (L.i 0, L.i 1)
def next.enc (r : next.R) : Eng.Leaves := mkL [r.1, r.2] [] [] []
noncomputable def next.K (N : Nat) : FCfg := { anns := [], unr := [], lits := [], lets := [] }
noncomputable def next.F (N : Nat) (rng : Int) (val : Int) (last : Int) (front : Int) (back : Int) (window : Int) (waiting : Int) (count : Int) (bad : Bool) (b : List Int) : Option next.R :=
  (br (decide (front ≥ ↑b.length))
   (chkI rng rng
   (chkI val val
   (chkI last last
   (chkI back back
   (chkI window window
   (chkI waiting waiting
   (chkI count count
   (chkB bad bad
   (chkL b b
   (some (((0 : Int), front))))))))))))
   (chk ((0 : Int) ≤ IntKind.i64.wrap (IntKind.i64.wrap (front + (1 : Int)) - (1 : Int)) ∧ IntKind.i64.wrap (IntKind.i64.wrap (front + (1 : Int)) - (1 : Int)) < ↑b.length)
   (chkI rng rng
   (chkI val val
   (chkI last last
   (chkI back back
   (chkI window window
   (chkI waiting waiting
   (chkI count count
   (chkB bad bad
   (chkL b b
   (some ((IntKind.u64.wrap (b.getD (IntKind.i64.wrap (IntKind.i64.wrap (front + (1 : Int)) - (1 : Int))).toNat (0 : Int)), IntKind.i64.wrap (front + (1 : Int))))))))))))))))
theorem next.F_eq (N : Nat) (L : Eng.Leaves) : evSig (next.C N) (next.K N) 0 Try.f38 next.sig L next.dec = next.F N (L.i 0) (L.i 1) (L.i 2) (L.i 3) (L.i 4) (L.i 5) (L.i 6) (L.i 7) (L.b 0) (L.l 0) := by
  kernel_rfl
noncomputable def next.spec : Eng.Spec := next.sig.spec (fun N L => next.F N (L.i 0) (L.i 1) (L.i 2) (L.i 3) (L.i 4) (L.i 5) (L.i 6) (L.i 7) (L.b 0) (L.l 0)) next.enc
theorem next.cok (N : Nat) : CfgOK (next.C N) := ⟨fun _ _ _ _ h => by simp [next.C, noRT] at h, wide, by
  simp only [next.C, List.mem_cons, List.not_mem_nil, or_false, forall_eq_or_imp, forall_eq, false_imp_iff, implies_true], fun g hg => by simp [next.C] at hg, fun m hm => by simp [next.C] at hm, fun q hq => by simp [next.C] at hq⟩
theorem next.aok (N : Nat) : AnnsOK (next.K N) := by
  intro q hq
  simp only [next.K, List.mem_cons, List.not_mem_nil, or_false] at hq
theorem next.ok : CallOK Try.prog 38 next.spec :=
  callOK_of_sig (fn := Try.f38) (Cf := next.C) (K := next.K) (d := 0) (dec := next.dec) (by kernel_rfl) (fun _ => rfl) next.cok (fun _ q hq => by simp [next.C] at hq) next.aok
   (fun N L r h => (next.F_eq N L).trans h) (by kernel_rfl) (fun _ => ⟨rfl, rfl⟩) (fun _ _ => ⟨rfl, rfl⟩)
noncomputable def norm.sig : Eng.Sig := { args := [.at (.ptr 0 0)], n := 2, pre := [(0, .cells 10 [.full 1 false, .int .u64 0, .int .u64 1, .int .u64 2, .int .i64 3, .int .i64 4, .int .u64 5, .int .i64 6, .int .i64 7, .bool 0]), (1, .ints false .u8 0)], post := [(0, .cells 10 [.full 1 false, .int .u64 0, .int .u64 1, .int .u64 2, .int .i64 3, .fint .i64 4, .fint .u64 5, .fint .i64 6, .int .i64 4, .fbool 0]), (1, .fints false .u8 0)], m := 0, ret := .at (.unk) }
noncomputable def norm.C (N : Nat) : Cfg := { P := Try.prog, N := N, RT := noRT, specs := [(38, next.spec)], inl := [], hi := 2, mv := [] }
abbrev norm.R : Type := Int × Int × Int × Int × Int
def norm.dec (L : Eng.Leaves) : norm.R := (L.i 0, L.i 1, L.i 2, L.i 3, L.i 4)
def norm.enc (r : norm.R) : Eng.Leaves := mkL [r.1, r.2.1, r.2.2.1, r.2.2.2.1, r.2.2.2.2] [] [] []
abbrev norm.loop0.R : Type := Int × Int × Int × Int × Int
noncomputable def norm.loop0.ann : Ann := { nx := 20, slots := [(0, .at (.ptr 0 0))], blks := [(0, .cells 10 [.full 1 false, .int .u64 0, .int .u64 1, .int .u64 2, .int .i64 3, .fint .i64 0, .fint .u64 1, .fint .i64 2, .int .i64 4, .fbool 0]), (1, .fints false .u8 0)], mov := [], exId := 0, xslots := [(0, .at (.ptr 0 0))], xblks := [(0, .cells 10 [.full 1 false, .int .u64 0, .int .u64 1, .int .u64 2, .int .i64 3, .fint .i64 0, .fint .u64 1, .fint .i64 2, .int .i64 4, .fbool 0]), (1, .fints false .u8 0)], T := norm.loop0.R, dec := fun L => (L.i 0, L.i 1, L.i 2, L.i 3, L.i 4), enc := fun r => mkL [r.1, r.2.1, r.2.2.1, r.2.2.2.1, r.2.2.2.2] [] [] [], ret := false }
noncomputable def norm.K (N : Nat) : FCfg := { anns := [(0, norm.loop0.ann)], unr := [], lits := [], lets := [] }
noncomputable def norm.loop0 (N : Nat) : Nat → Int → Int → Int → Bool → List Int → Int → Int → Int → Int → Int → Option norm.loop0.R
  | 0, _, _, _, _, _, _, _, _, _, _ => none
  | nn + 1, back, window, waiting, bad, b, rng, val, last, front, count =>
  (br (decide (rng ≤ (8388608 : Int)))
   (obind (Rc.next.F N (IntKind.u64.wrap (rng * (2 : Int) ^ min (Int.toNat (8 : Int)) IntKind.u64.bits)) val last front back window waiting (IntKind.i64.wrap (count + (8 : Int))) bad b) fun r0 =>
   (chkI back back
   (chkI window window
   (chkI waiting waiting
   (chkB bad bad
   (chkL b b
   (norm.loop0 N nn back window waiting bad b (IntKind.u64.wrap (rng * (2 : Int) ^ min (Int.toNat (8 : Int)) IntKind.u64.bits)) (IntKind.u64.wrap ↑(BitVec.ofInt IntKind.u64.bits (IntKind.u64.wrap (IntKind.u64.wrap (IntKind.u64.wrap (val * (2 : Int) ^ min (Int.toNat (8 : Int)) IntKind.u64.bits) + (255 : Int)) - IntKind.u64.wrap ↑(BitVec.ofInt IntKind.u64.bits ((IntKind.u64.wrap ↑(BitVec.ofInt IntKind.u64.bits (IntKind.u64.wrap (last * (2 : Int) ^ min (Int.toNat (8 : Int)) IntKind.u64.bits)) ||| BitVec.ofInt IntKind.u64.bits r0.fst).toNat).fdiv ((2 : Int) ^ min (Int.toNat (1 : Int)) IntKind.u64.bits)) &&& BitVec.ofInt IntKind.u64.bits (255 : Int)).toNat)) &&& BitVec.ofInt IntKind.u64.bits (2147483647 : Int)).toNat) r0.fst r0.snd (IntKind.i64.wrap (count + (8 : Int))))))))))
   (chkI back back
   (chkI window window
   (chkI waiting waiting
   (chkB bad bad
   (chkL b b
   (some ((rng, val, last, front, count)))))))))
noncomputable def norm.loop0R (N nn : Nat) (back : Int) (window : Int) (waiting : Int) (bad : Bool) (b : List Int) (rng : Int) (val : Int) (last : Int) (front : Int) (count : Int) : Option norm.loop0.R := loopF norm.loop0.ann (mkL [back, window, waiting] [bad] [b] []) (evCode ((norm.C N).inLoop norm.loop0.ann) (norm.K N) (inlTab (norm.C N) 0) (bodyAt 0 Try.f39)) nn (mkL [rng, val, last, front, count] [] [] [])
theorem norm.loop0_eq (N : Nat) : ∀ (nn : Nat) (back : Int) (window : Int) (waiting : Int) (bad : Bool) (b : List Int) (rng : Int) (val : Int) (last : Int) (front : Int) (count : Int), norm.loop0R N nn back window waiting bad b rng val last front count = norm.loop0 N nn back window waiting bad b rng val last front count
  | 0, _, _, _, _, _, _, _, _, _, _ => by kernel_rfl
  | nn + 1, back, window, waiting, bad, b, rng, val, last, front, count => by
    have h : norm.loop0R N (nn + 1) back window waiting bad b rng val last front count =
  (br (decide (rng ≤ (8388608 : Int)))
   (obind (Rc.next.F N (IntKind.u64.wrap (rng * (2 : Int) ^ min (Int.toNat (8 : Int)) IntKind.u64.bits)) val last front back window waiting (IntKind.i64.wrap (count + (8 : Int))) bad b) fun r0 =>
   (chkI back back
   (chkI window window
   (chkI waiting waiting
   (chkB bad bad
   (chkL b b
   (norm.loop0R N nn back window waiting bad b (IntKind.u64.wrap (rng * (2 : Int) ^ min (Int.toNat (8 : Int)) IntKind.u64.bits)) (IntKind.u64.wrap ↑(BitVec.ofInt IntKind.u64.bits (IntKind.u64.wrap (IntKind.u64.wrap (IntKind.u64.wrap (val * (2 : Int) ^ min (Int.toNat (8 : Int)) IntKind.u64.bits) + (255 : Int)) - IntKind.u64.wrap ↑(BitVec.ofInt IntKind.u64.bits ((IntKind.u64.wrap ↑(BitVec.ofInt IntKind.u64.bits (IntKind.u64.wrap (last * (2 : Int) ^ min (Int.toNat (8 : Int)) IntKind.u64.bits)) ||| BitVec.ofInt IntKind.u64.bits r0.fst).toNat).fdiv ((2 : Int) ^ min (Int.toNat (1 : Int)) IntKind.u64.bits)) &&& BitVec.ofInt IntKind.u64.bits (255 : Int)).toNat)) &&& BitVec.ofInt IntKind.u64.bits (2147483647 : Int)).toNat) r0.fst r0.snd (IntKind.i64.wrap (count + (8 : Int))))))))))
   (chkI back back
   (chkI window window
   (chkI waiting waiting
   (chkB bad bad
   (chkL b b
   (some ((rng, val, last, front, count))))))))) := by kernel_rfl
    rw [h, norm.loop0]
    try simp only [norm.loop0_eq N nn]
noncomputable def norm.F (N : Nat) (rng : Int) (val : Int) (last : Int) (front : Int) (back : Int) (window : Int) (waiting : Int) (count : Int) (bad : Bool) (b : List Int) : Option norm.R :=
  (obind (norm.loop0 N N back window waiting bad b rng val last front count) fun r0 =>
   (chkI back back
   (chkI window window
   (chkI waiting waiting
   (chkB bad bad
   (chkL b b
   (some ((r0.fst, r0.snd.fst, r0.snd.snd.fst, r0.snd.snd.snd.fst, r0.snd.snd.snd.snd)))))))))
theorem norm.F_eq (N : Nat) (L : Eng.Leaves) : evSig (norm.C N) (norm.K N) 0 Try.f39 norm.sig L norm.dec = norm.F N (L.i 0) (L.i 1) (L.i 2) (L.i 3) (L.i 4) (L.i 5) (L.i 6) (L.i 7) (L.b 0) (L.l 0) := by
  have h : ∀ (rng : Int) (val : Int) (last : Int) (front : Int) (back : Int) (window : Int) (waiting : Int) (count : Int) (bad : Bool) (b : List Int), evSig (norm.C N) (norm.K N) 0 Try.f39 norm.sig (mkL [rng, val, last, front, back, window, waiting, count] [bad] [b] []) norm.dec =
  (obind (norm.loop0R N N back window waiting bad b rng val last front count) fun r0 =>
   (chkI back back
   (chkI window window
   (chkI waiting waiting
   (chkB bad bad
   (chkL b b
   (some ((r0.fst, r0.snd.fst, r0.snd.snd.fst, r0.snd.snd.snd.fst, r0.snd.snd.snd.snd))))))))) := by
    intro rng val last front back window waiting count bad b
    kernel_rfl
  have h2 : evSig (norm.C N) (norm.K N) 0 Try.f39 norm.sig L norm.dec = evSig (norm.C N) (norm.K N) 0 Try.f39 norm.sig (mkL [L.i 0, L.i 1, L.i 2, L.i 3, L.i 4, L.i 5, L.i 6, L.i 7] [L.b 0] [L.l 0] []) norm.dec := by kernel_rfl
  rw [h2, h, norm.F]
  try simp only [norm.loop0_eq N]
noncomputable def norm.spec : Eng.Spec := norm.sig.spec (fun N L => norm.F N (L.i 0) (L.i 1) (L.i 2) (L.i 3) (L.i 4) (L.i 5) (L.i 6) (L.i 7) (L.b 0) (L.l 0)) norm.enc
theorem norm.cok (N : Nat) : CfgOK (norm.C N) := ⟨fun _ _ _ _ h => by simp [norm.C, noRT] at h, wide, by
  simp only [norm.C, List.mem_cons, List.not_mem_nil, or_false, forall_eq_or_imp, forall_eq, false_imp_iff, implies_true]
  exact ⟨next.ok, by kernel_rfl⟩, fun g hg => by simp [norm.C] at hg, fun m hm => by simp [norm.C] at hm, fun q hq => by simp [norm.C] at hq⟩
theorem norm.aok (N : Nat) : AnnsOK (norm.K N) := by
  intro q hq
  simp only [norm.K, List.mem_cons, List.not_mem_nil, or_false] at hq
  subst hq
  exact fun _ _ => ⟨rfl, rfl⟩
theorem norm.ok : CallOK Try.prog 39 norm.spec :=
  callOK_of_sig (fn := Try.f39) (Cf := norm.C) (K := norm.K) (d := 0) (dec := norm.dec) (by kernel_rfl) (fun _ => rfl) norm.cok (fun _ q hq => by simp [norm.C] at hq) norm.aok
   (fun N L r h => (norm.F_eq N L).trans h) (by kernel_rfl) (fun _ => ⟨rfl, rfl⟩) (fun _ _ => ⟨rfl, rfl⟩)
noncomputable def len64.sig : Eng.Sig := { args := [.at (.int .u64 0)], n := 0, pre := [], post := [], m := 0, ret := .at (.int .i64 0) }
noncomputable def len64.C (N : Nat) : Cfg := { P := Try.prog, N := N, RT := noRT, specs := [], inl := [], hi := 0, mv := [] }
abbrev len64.R : Type := Int
def len64.dec (L : Eng.Leaves) : len64.R := (L.i 0)
def len64.enc (r : len64.R) : Eng.Leaves := mkL [r] [] [] []
noncomputable def len64.K (N : Nat) : FCfg := { anns := [], unr := [], lits := [], lets := [] }
noncomputable def len64.F (N : Nat) (x : Int) : Option len64.R :=
  (br (decide (x ≥ (4294967296 : Int)))
   (br (decide (x.fdiv ((2 : Int) ^ min (Int.toNat (32 : Int)) IntKind.u64.bits) ≥ (65536 : Int)))
   (br (decide ((x.fdiv ((2 : Int) ^ min (Int.toNat (32 : Int)) IntKind.u64.bits)).fdiv ((2 : Int) ^ min (Int.toNat (16 : Int)) IntKind.u64.bits) ≥ (256 : Int)))
   (chk ((0 : Int) ≤ IntKind.u8.wrap (((x.fdiv ((2 : Int) ^ min (Int.toNat (32 : Int)) IntKind.u64.bits)).fdiv ((2 : Int) ^ min (Int.toNat (16 : Int)) IntKind.u64.bits)).fdiv ((2 : Int) ^ min (Int.toNat (8 : Int)) IntKind.u64.bits)) ∧ IntKind.u8.wrap (((x.fdiv ((2 : Int) ^ min (Int.toNat (32 : Int)) IntKind.u64.bits)).fdiv ((2 : Int) ^ min (Int.toNat (16 : Int)) IntKind.u64.bits)).fdiv ((2 : Int) ^ min (Int.toNat (8 : Int)) IntKind.u64.bits)) < ↑(256 : Nat))
   (some (IntKind.i64.wrap (IntKind.i64.wrap (IntKind.i64.wrap ((32 : Int) + (16 : Int)) + (8 : Int)) + IntKind.i64.wrap ([(0 : Int), (1 : Int), (2 : Int), (2 : Int), (3 : Int), (3 : Int), (3 : Int), (3 : Int), (4 : Int), (4 : Int), (4 : Int), (4 : Int), (4 : Int), (4 : Int), (4 : Int), (4 : Int), (5 : Int), (5 : Int), (5 : Int), (5 : Int), (5 : Int), (5 : Int), (5 : Int), (5 : Int), (5 : Int), (5 : Int), (5 : Int), (5 : Int), (5 : Int), (5 : Int), (5 : Int), (5 : Int), (6 : Int), (6 : Int), (6 : Int), (6 : Int), (6 : Int), (6 : Int), (6 : Int), (6 : Int), (6 : Int), (6 : Int), (6 : Int), (6 : Int), (6 : Int), (6 : Int), (6 : Int), (6 : Int), (6 : Int), (6 : Int), (6 : Int), (6 : Int), (6 : Int), (6 : Int), (6 : Int), (6 : Int), (6 : Int), (6 : Int), (6 : Int), (6 : Int), (6 : Int), (6 : Int), (6 : Int), (6 : Int), (7 : Int), (7 : Int), (7 : Int), (7 : Int), (7 : Int), (7 : Int), (7 : Int), (7 : Int), (7 : Int), (7 : Int), (7 : Int), (7 : Int), (7 : Int), (7 : Int), (7 : Int), (7 : Int), (7 : Int), (7 : Int), (7 : Int), (7 : Int), (7 : Int), (7 : Int), (7 : Int), (7 : Int), (7 : Int), (7 : Int), (7 : Int), (7 : Int), (7 : Int), (7 : Int), (7 : Int), (7 : Int), (7 : Int), (7 : Int), (7 : Int), (7 : Int), (7 : Int), (7 : Int), (7 : Int), (7 : Int), (7 : Int), (7 : Int), (7 : Int), (7 : Int), (7 : Int), (7 : Int), (7 : Int), (7 : Int), (7 : Int), (7 : Int), (7 : Int), (7 : Int), (7 : Int), (7 : Int), (7 : Int), (7 : Int), (7 : Int), (7 : Int), (7 : Int), (7 : Int), (7 : Int), (7 : Int), (7 : Int), (7 : Int), (8 : Int), (8 : Int), (8 : Int), (8 : Int), (8 : Int), (8 : Int), (8 : Int), (8 : Int), (8 : Int), (8 : Int), (8 : Int), (8 : Int), (8 : Int), (8 : Int), (8 : Int), (8 : Int), (8 : Int), (8 : Int), (8 : Int), (8 : Int), (8 : Int), (8 : Int), (8 : Int), (8 : Int), (8 : Int), (8 : Int), (8 : Int), (8 : Int), (8 : Int), (8 : Int), (8 : Int), (8 : Int), (8 : Int), (8 : Int), (8 : Int), (8 : Int), (8 : Int), (8 : Int), (8 : Int), (8 : Int), (8 : Int), (8 : Int), (8 : Int), (8 : Int), (8 : Int), (8 : Int), (8 : Int), (8 : Int), (8 : Int), (8 : Int), (8 : Int), (8 : Int), (8 : Int), (8 : Int), (8 : Int), (8 : Int), (8 : Int), (8 : Int), (8 : Int), (8 : Int), (8 : Int), (8 : Int), (8 : Int), (8 : Int), (8 : Int), (8 : Int), (8 : Int), (8 : Int), (8 : Int), (8 : Int), (8 : Int), (8 : Int), (8 : Int), (8 : Int), (8 : Int), (8 : Int), (8 : Int), (8 : Int), (8 : Int), (8 : Int), (8 : Int), (8 : Int), (8 : Int), (8 : Int), (8 : Int), (8 : Int), (8 : Int), (8 : Int), (8 : Int), (8 : Int), (8 : Int), (8 : Int), (8 : Int), (8 : Int), (8 : Int), (8 : Int), (8 : Int), (8 : Int), (8 : Int), (8 : Int), (8 : Int), (8 : Int), (8 : Int), (8 : Int), (8 : Int), (8 : Int), (8 : Int), (8 : Int), (8 : Int), (8 : Int), (8 : Int), (8 : Int), (8 : Int), (8 : Int), (8 : Int), (8 : Int), (8 : Int), (8 : Int), (8 : Int), (8 : Int), (8 : Int), (8 : Int), (8 : Int), (8 : Int), (8 : Int), (8 : Int), (8 : Int), (8 : Int)].getD (IntKind.u8.wrap (((x.fdiv ((2 : Int) ^ min (Int.toNat (32 : Int)) IntKind.u64.bits)).fdiv ((2 : Int) ^ min (Int.toNat (16 : Int)) IntKind.u64.bits)).fdiv ((2 : Int) ^ min (Int.toNat (8 : Int)) IntKind.u64.bits))).toNat (0 : Int))))))
   (chk ((0 : Int) ≤ IntKind.u8.wrap ((x.fdiv ((2 : Int) ^ min (Int.toNat (32 : Int)) IntKind.u64.bits)).fdiv ((2 : Int) ^ min (Int.toNat (16 : Int)) IntKind.u64.bits)) ∧ IntKind.u8.wrap ((x.fdiv ((2 : Int) ^ min (Int.toNat (32 : Int)) IntKind.u64.bits)).fdiv ((2 : Int) ^ min (Int.toNat (16 : Int)) IntKind.u64.bits)) < ↑(256 : Nat))
   (some (IntKind.i64.wrap (IntKind.i64.wrap ((32 : Int) + (16 : Int)) + IntKind.i64.wrap ([(0 : Int), (1 : Int), (2 : Int), (2 : Int), (3 : Int), (3 : Int), (3 : Int), (3 : Int), (4 : Int), (4 : Int), (4 : Int), (4 : Int), (4 : Int), (4 : Int), (4 : Int), (4 : Int), (5 : Int), (5 : Int), (5 : Int), (5 : Int), (5 : Int), (5 : Int), (5 : Int), (5 : Int), (5 : Int), (5 : Int), (5 : Int), (5 : Int), (5 : Int), (5 : Int), (5 : Int), (5 : Int), (6 : Int), (6 : Int), (6 : Int), (6 : Int), (6 : Int), (6 : Int), (6 : Int), (6 : Int), (6 : Int), (6 : Int), (6 : Int), (6 : Int), (6 : Int), (6 : Int), (6 : Int), (6 : Int), (6 : Int), (6 : Int), (6 : Int), (6 : Int), (6 : Int), (6 : Int), (6 : Int), (6 : Int), (6 : Int), (6 : Int), (6 : Int), (6 : Int), (6 : Int), (6 : Int), (6 : Int), (6 : Int), (7 : Int), (7 : Int), (7 : Int), (7 : Int), (7 : Int), (7 : Int), (7 : Int), (7 : Int), (7 : Int), (7 : Int), (7 : Int), (7 : Int), (7 : Int), (7 : Int), (7 : Int), (7 : Int), (7 : Int), (7 : Int), (7 : Int), (7 : Int), (7 : Int), (7 : Int), (7 : Int), (7 : Int), (7 : Int), (7 : Int), (7 : Int), (7 : Int), (7 : Int), (7 : Int), (7 : Int), (7 : Int), (7 : Int), (7 : Int), (7 : Int), (7 : Int), (7 : Int), (7 : Int), (7 : Int), (7 : Int), (7 : Int), (7 : Int), (7 : Int), (7 : Int), (7 : Int), (7 : Int), (7 : Int), (7 : Int), (7 : Int), (7 : Int), (7 : Int), (7 : Int), (7 : Int), (7 : Int), (7 : Int), (7 : Int), (7 : Int), (7 : Int), (7 : Int), (7 : Int), (7 : Int), (7 : Int), (7 : Int), (7 : Int), (8 : Int), (8 : Int), (8 : Int), (8 : Int), (8 : Int), (8 : Int), (8 : Int), (8 : Int), (8 : Int), (8 : Int), (8 : Int), (8 : Int), (8 : Int), (8 : Int), (8 : Int), (8 : Int), (8 : Int), (8 : Int), (8 : Int), (8 : Int), (8 : Int), (8 : Int), (8 : Int), (8 : Int), (8 : Int), (8 : Int), (8 : Int), (8 : Int), (8 : Int), (8 : Int), (8 : Int), (8 : Int), (8 : Int), (8 : Int), (8 : Int), (8 : Int), (8 : Int), (8 : Int), (8 : Int), (8 : Int), (8 : Int), (8 : Int), (8 : Int), (8 : Int), (8 : Int), (8 : Int), (8 : Int), (8 : Int), (8 : Int), (8 : Int), (8 : Int), (8 : Int), (8 : Int), (8 : Int), (8 : Int), (8 : Int), (8 : Int), (8 : Int), (8 : Int), (8 : Int), (8 : Int), (8 : Int), (8 : Int), (8 : Int), (8 : Int), (8 : Int), (8 : Int), (8 : Int), (8 : Int), (8 : Int), (8 : Int), (8 : Int), (8 : Int), (8 : Int), (8 : Int), (8 : Int), (8 : Int), (8 : Int), (8 : Int), (8 : Int), (8 : Int), (8 : Int), (8 : Int), (8 : Int), (8 : Int), (8 : Int), (8 : Int), (8 : Int), (8 : Int), (8 : Int), (8 : Int), (8 : Int), (8 : Int), (8 : Int), (8 : Int), (8 : Int), (8 : Int), (8 : Int), (8 : Int), (8 : Int), (8 : Int), (8 : Int), (8 : Int), (8 : Int), (8 : Int), (8 : Int), (8 : Int), (8 : Int), (8 : Int), (8 : Int), (8 : Int), (8 : Int), (8 : Int), (8 : Int), (8 : Int), (8 : Int), (8 : Int), (8 : Int), (8 : Int), (8 : Int), (8 : Int), (8 : Int), (8 : Int), (8 : Int), (8 : Int), (8 : Int), (8 : Int), (8 : Int)].getD (IntKind.u8.wrap ((x.fdiv ((2 : Int) ^ min (Int.toNat (32 : Int)) IntKind.u64.bits)).fdiv ((2 : Int) ^ min (Int.toNat (16 : Int)) IntKind.u64.bits))).toNat (0 : Int)))))))
   (br (decide (x.fdiv ((2 : Int) ^ min (Int.toNat (32 : Int)) IntKind.u64.bits) ≥ (256 : Int)))
   (chk ((0 : Int) ≤ IntKind.u8.wrap ((x.fdiv ((2 : Int) ^ min (Int.toNat (32 : Int)) IntKind.u64.bits)).fdiv ((2 : Int) ^ min (Int.toNat (8 : Int)) IntKind.u64.bits)) ∧ IntKind.u8.wrap ((x.fdiv ((2 : Int) ^ min (Int.toNat (32 : Int)) IntKind.u64.bits)).fdiv ((2 : Int) ^ min (Int.toNat (8 : Int)) IntKind.u64.bits)) < ↑(256 : Nat))
   (some (IntKind.i64.wrap (IntKind.i64.wrap ((32 : Int) + (8 : Int)) + IntKind.i64.wrap ([(0 : Int), (1 : Int), (2 : Int), (2 : Int), (3 : Int), (3 : Int), (3 : Int), (3 : Int), (4 : Int), (4 : Int), (4 : Int), (4 : Int), (4 : Int), (4 : Int), (4 : Int), (4 : Int), (5 : Int), (5 : Int), (5 : Int), (5 : Int), (5 : Int), (5 : Int), (5 : Int), (5 : Int), (5 : Int), (5 : Int), (5 : Int), (5 : Int), (5 : Int), (5 : Int), (5 : Int), (5 : Int), (6 : Int), (6 : Int), (6 : Int), (6 : Int), (6 : Int), (6 : Int), (6 : Int), (6 : Int), (6 : Int), (6 : Int), (6 : Int), (6 : Int), (6 : Int), (6 : Int), (6 : Int), (6 : Int), (6 : Int), (6 : Int), (6 : Int), (6 : Int), (6 : Int), (6 : Int), (6 : Int), (6 : Int), (6 : Int), (6 : Int), (6 : Int), (6 : Int), (6 : Int), (6 : Int), (6 : Int), (6 : Int), (7 : Int), (7 : Int), (7 : Int), (7 : Int), (7 : Int), (7 : Int), (7 : Int), (7 : Int), (7 : Int), (7 : Int), (7 : Int), (7 : Int), (7 : Int), (7 : Int), (7 : Int), (7 : Int), (7 : Int), (7 : Int), (7 : Int), (7 : Int), (7 : Int), (7 : Int), (7 : Int), (7 : Int), (7 : Int), (7 : Int), (7 : Int), (7 : Int), (7 : Int), (7 : Int), (7 : Int), (7 : Int), (7 : Int), (7 : Int), (7 : Int), (7 : Int), (7 : Int), (7 : Int), (7 : Int), (7 : Int), (7 : Int), (7 : Int), (7 : Int), (7 : Int), (7 : Int), (7 : Int), (7 : Int), (7 : Int), (7 : Int), (7 : Int), (7 : Int), (7 : Int), (7 : Int), (7 : Int), (7 : Int), (7 : Int), (7 : Int), (7 : Int), (7 : Int), (7 : Int), (7 : Int), (7 : Int), (7 : Int), (7 : Int), (8 : Int), (8 : Int), (8 : Int), (8 : Int), (8 : Int), (8 : Int), (8 : Int), (8 : Int), (8 : Int), (8 : Int), (8 : Int), (8 : Int), (8 : Int), (8 : Int), (8 : Int), (8 : Int), (8 : Int), (8 : Int), (8 : Int), (8 : Int), (8 : Int), (8 : Int), (8 : Int), (8 : Int), (8 : Int), (8 : Int), (8 : Int), (8 : Int), (8 : Int), (8 : Int), (8 : Int), (8 : Int), (8 : Int), (8 : Int), (8 : Int), (8 : Int), (8 : Int), (8 : Int), (8 : Int), (8 : Int), (8 : Int), (8 : Int), (8 : Int), (8 : Int), (8 : Int), (8 : Int), (8 : Int), (8 : Int), (8 : Int), (8 : Int), (8 : Int), (8 : Int), (8 : Int), (8 : Int), (8 : Int), (8 : Int), (8 : Int), (8 : Int), (8 : Int), (8 : Int), (8 : Int), (8 : Int), (8 : Int), (8 : Int), (8 : Int), (8 : Int), (8 : Int), (8 : Int), (8 : Int), (8 : Int), (8 : Int), (8 : Int), (8 : Int), (8 : Int), (8 : Int), (8 : Int), (8 : Int), (8 : Int), (8 : Int), (8 : Int), (8 : Int), (8 : Int), (8 : Int), (8 : Int), (8 : Int), (8 : Int), (8 : Int), (8 : Int), (8 : Int), (8 : Int), (8 : Int), (8 : Int), (8 : Int), (8 : Int), (8 : Int), (8 : Int), (8 : Int), (8 : Int), (8 : Int), (8 : Int), (8 : Int), (8 : Int), (8 : Int), (8 : Int), (8 : Int), (8 : Int), (8 : Int), (8 : Int), (8 : Int), (8 : Int), (8 : Int), (8 : Int), (8 : Int), (8 : Int), (8 : Int), (8 : Int), (8 : Int), (8 : Int), (8 : Int), (8 : Int), (8 : Int), (8 : Int), (8 : Int), (8 : Int), (8 : Int), (8 : Int), (8 : Int), (8 : Int)].getD (IntKind.u8.wrap ((x.fdiv ((2 : Int) ^ min (Int.toNat (32 : Int)) IntKind.u64.bits)).fdiv ((2 : Int) ^ min (Int.toNat (8 : Int)) IntKind.u64.bits))).toNat (0 : Int))))))
   (chk ((0 : Int) ≤ IntKind.u8.wrap (x.fdiv ((2 : Int) ^ min (Int.toNat (32 : Int)) IntKind.u64.bits)) ∧ IntKind.u8.wrap (x.fdiv ((2 : Int) ^ min (Int.toNat (32 : Int)) IntKind.u64.bits)) < ↑(256 : Nat))
   (some (IntKind.i64.wrap ((32 : Int) + IntKind.i64.wrap ([(0 : Int), (1 : Int), (2 : Int), (2 : Int), (3 : Int), (3 : Int), (3 : Int), (3 : Int), (4 : Int), (4 : Int), (4 : Int), (4 : Int), (4 : Int), (4 : Int), (4 : Int), (4 : Int), (5 : Int), (5 : Int), (5 : Int), (5 : Int), (5 : Int), (5 : Int), (5 : Int), (5 : Int), (5 : Int), (5 : Int), (5 : Int), (5 : Int), (5 : Int), (5 : Int), (5 : Int), (5 : Int), (6 : Int), (6 : Int), (6 : Int), (6 : Int), (6 : Int), (6 : Int), (6 : Int), (6 : Int), (6 : Int), (6 : Int), (6 : Int), (6 : Int), (6 : Int), (6 : Int), (6 : Int), (6 : Int), (6 : Int), (6 : Int), (6 : Int), (6 : Int), (6 : Int), (6 : Int), (6 : Int), (6 : Int), (6 : Int), (6 : Int), (6 : Int), (6 : Int), (6 : Int), (6 : Int), (6 : Int), (6 : Int), (7 : Int), (7 : Int), (7 : Int), (7 : Int), (7 : Int), (7 : Int), (7 : Int), (7 : Int), (7 : Int), (7 : Int), (7 : Int), (7 : Int), (7 : Int), (7 : Int), (7 : Int), (7 : Int), (7 : Int), (7 : Int), (7 : Int), (7 : Int), (7 : Int), (7 : Int), (7 : Int), (7 : Int), (7 : Int), (7 : Int), (7 : Int), (7 : Int), (7 : Int), (7 : Int), (7 : Int), (7 : Int), (7 : Int), (7 : Int), (7 : Int), (7 : Int), (7 : Int), (7 : Int), (7 : Int), (7 : Int), (7 : Int), (7 : Int), (7 : Int), (7 : Int), (7 : Int), (7 : Int), (7 : Int), (7 : Int), (7 : Int), (7 : Int), (7 : Int), (7 : Int), (7 : Int), (7 : Int), (7 : Int), (7 : Int), (7 : Int), (7 : Int), (7 : Int), (7 : Int), (7 : Int), (7 : Int), (7 : Int), (7 : Int), (8 : Int), (8 : Int), (8 : Int), (8 : Int), (8 : Int), (8 : Int), (8 : Int), (8 : Int), (8 : Int), (8 : Int), (8 : Int), (8 : Int), (8 : Int), (8 : Int), (8 : Int), (8 : Int), (8 : Int), (8 : Int), (8 : Int), (8 : Int), (8 : Int), (8 : Int), (8 : Int), (8 : Int), (8 : Int), (8 : Int), (8 : Int), (8 : Int), (8 : Int), (8 : Int), (8 : Int), (8 : Int), (8 : Int), (8 : Int), (8 : Int), (8 : Int), (8 : Int), (8 : Int), (8 : Int), (8 : Int), (8 : Int), (8 : Int), (8 : Int), (8 : Int), (8 : Int), (8 : Int), (8 : Int), (8 : Int), (8 : Int), (8 : Int), (8 : Int), (8 : Int), (8 : Int), (8 : Int), (8 : Int), (8 : Int), (8 : Int), (8 : Int), (8 : Int), (8 : Int), (8 : Int), (8 : Int), (8 : Int), (8 : Int), (8 : Int), (8 : Int), (8 : Int), (8 : Int), (8 : Int), (8 : Int), (8 : Int), (8 : Int), (8 : Int), (8 : Int), (8 : Int), (8 : Int), (8 : Int), (8 : Int), (8 : Int), (8 : Int), (8 : Int), (8 : Int), (8 : Int), (8 : Int), (8 : Int), (8 : Int), (8 : Int), (8 : Int), (8 : Int), (8 : Int), (8 : Int), (8 : Int), (8 : Int), (8 : Int), (8 : Int), (8 : Int), (8 : Int), (8 : Int), (8 : Int), (8 : Int), (8 : Int), (8 : Int), (8 : Int), (8 : Int), (8 : Int), (8 : Int), (8 : Int), (8 : Int), (8 : Int), (8 : Int), (8 : Int), (8 : Int), (8 : Int), (8 : Int), (8 : Int), (8 : Int), (8 : Int), (8 : Int), (8 : Int), (8 : Int), (8 : Int), (8 : Int), (8 : Int), (8 : Int), (8 : Int), (8 : Int), (8 : Int), (8 : Int)].getD (IntKind.u8.wrap (x.fdiv ((2 : Int) ^ min (Int.toNat (32 : Int)) IntKind.u64.bits))).toNat (0 : Int))))))))
   (br (decide (x ≥ (65536 : Int)))
   (br (decide (x.fdiv ((2 : Int) ^ min (Int.toNat (16 : Int)) IntKind.u64.bits) ≥ (256 : Int)))
   (chk ((0 : Int) ≤ IntKind.u8.wrap ((x.fdiv ((2 : Int) ^ min (Int.toNat (16 : Int)) IntKind.u64.bits)).fdiv ((2 : Int) ^ min (Int.toNat (8 : Int)) IntKind.u64.bits)) ∧ IntKind.u8.wrap ((x.fdiv ((2 : Int) ^ min (Int.toNat (16 : Int)) IntKind.u64.bits)).fdiv ((2 : Int) ^ min (Int.toNat (8 : Int)) IntKind.u64.bits)) < ↑(256 : Nat))
   (some (IntKind.i64.wrap (IntKind.i64.wrap (IntKind.i64.wrap ((0 : Int) + (16 : Int)) + (8 : Int)) + IntKind.i64.wrap ([(0 : Int), (1 : Int), (2 : Int), (2 : Int), (3 : Int), (3 : Int), (3 : Int), (3 : Int), (4 : Int), (4 : Int), (4 : Int), (4 : Int), (4 : Int), (4 : Int), (4 : Int), (4 : Int), (5 : Int), (5 : Int), (5 : Int), (5 : Int), (5 : Int), (5 : Int), (5 : Int), (5 : Int), (5 : Int), (5 : Int), (5 : Int), (5 : Int), (5 : Int), (5 : Int), (5 : Int), (5 : Int), (6 : Int), (6 : Int), (6 : Int), (6 : Int), (6 : Int), (6 : Int), (6 : Int), (6 : Int), (6 : Int), (6 : Int), (6 : Int), (6 : Int), (6 : Int), (6 : Int), (6 : Int), (6 : Int), (6 : Int), (6 : Int), (6 : Int), (6 : Int), (6 : Int), (6 : Int), (6 : Int), (6 : Int), (6 : Int), (6 : Int), (6 : Int), (6 : Int), (6 : Int), (6 : Int), (6 : Int), (6 : Int), (7 : Int), (7 : Int), (7 : Int), (7 : Int), (7 : Int), (7 : Int), (7 : Int), (7 : Int), (7 : Int), (7 : Int), (7 : Int), (7 : Int), (7 : Int), (7 : Int), (7 : Int), (7 : Int), (7 : Int), (7 : Int), (7 : Int), (7 : Int), (7 : Int), (7 : Int), (7 : Int), (7 : Int), (7 : Int), (7 : Int), (7 : Int), (7 : Int), (7 : Int), (7 : Int), (7 : Int), (7 : Int), (7 : Int), (7 : Int), (7 : Int), (7 : Int), (7 : Int), (7 : Int), (7 : Int), (7 : Int), (7 : Int), (7 : Int), (7 : Int), (7 : Int), (7 : Int), (7 : Int), (7 : Int), (7 : Int), (7 : Int), (7 : Int), (7 : Int), (7 : Int), (7 : Int), (7 : Int), (7 : Int), (7 : Int), (7 : Int), (7 : Int), (7 : Int), (7 : Int), (7 : Int), (7 : Int), (7 : Int), (7 : Int), (8 : Int), (8 : Int), (8 : Int), (8 : Int), (8 : Int), (8 : Int), (8 : Int), (8 : Int), (8 : Int), (8 : Int), (8 : Int), (8 : Int), (8 : Int), (8 : Int), (8 : Int), (8 : Int), (8 : Int), (8 : Int), (8 : Int), (8 : Int), (8 : Int), (8 : Int), (8 : Int), (8 : Int), (8 : Int), (8 : Int), (8 : Int), (8 : Int), (8 : Int), (8 : Int), (8 : Int), (8 : Int), (8 : Int), (8 : Int), (8 : Int), (8 : Int), (8 : Int), (8 : Int), (8 : Int), (8 : Int), (8 : Int), (8 : Int), (8 : Int), (8 : Int), (8 : Int), (8 : Int), (8 : Int), (8 : Int), (8 : Int), (8 : Int), (8 : Int), (8 : Int), (8 : Int), (8 : Int), (8 : Int), (8 : Int), (8 : Int), (8 : Int), (8 : Int), (8 : Int), (8 : Int), (8 : Int), (8 : Int), (8 : Int), (8 : Int), (8 : Int), (8 : Int), (8 : Int), (8 : Int), (8 : Int), (8 : Int), (8 : Int), (8 : Int), (8 : Int), (8 : Int), (8 : Int), (8 : Int), (8 : Int), (8 : Int), (8 : Int), (8 : Int), (8 : Int), (8 : Int), (8 : Int), (8 : Int), (8 : Int), (8 : Int), (8 : Int), (8 : Int), (8 : Int), (8 : Int), (8 : Int), (8 : Int), (8 : Int), (8 : Int), (8 : Int), (8 : Int), (8 : Int), (8 : Int), (8 : Int), (8 : Int), (8 : Int), (8 : Int), (8 : Int), (8 : Int), (8 : Int), (8 : Int), (8 : Int), (8 : Int), (8 : Int), (8 : Int), (8 : Int), (8 : Int), (8 : Int), (8 : Int), (8 : Int), (8 : Int), (8 : Int), (8 : Int), (8 : Int), (8 : Int), (8 : Int), (8 : Int), (8 : Int), (8 : Int), (8 : Int), (8 : Int), (8 : Int)].getD (IntKind.u8.wrap ((x.fdiv ((2 : Int) ^ min (Int.toNat (16 : Int)) IntKind.u64.bits)).fdiv ((2 : Int) ^ min (Int.toNat (8 : Int)) IntKind.u64.bits))).toNat (0 : Int))))))
   (chk ((0 : Int) ≤ IntKind.u8.wrap (x.fdiv ((2 : Int) ^ min (Int.toNat (16 : Int)) IntKind.u64.bits)) ∧ IntKind.u8.wrap (x.fdiv ((2 : Int) ^ min (Int.toNat (16 : Int)) IntKind.u64.bits)) < ↑(256 : Nat))
   (some (IntKind.i64.wrap (IntKind.i64.wrap ((0 : Int) + (16 : Int)) + IntKind.i64.wrap ([(0 : Int), (1 : Int), (2 : Int), (2 : Int), (3 : Int), (3 : Int), (3 : Int), (3 : Int), (4 : Int), (4 : Int), (4 : Int), (4 : Int), (4 : Int), (4 : Int), (4 : Int), (4 : Int), (5 : Int), (5 : Int), (5 : Int), (5 : Int), (5 : Int), (5 : Int), (5 : Int), (5 : Int), (5 : Int), (5 : Int), (5 : Int), (5 : Int), (5 : Int), (5 : Int), (5 : Int), (5 : Int), (6 : Int), (6 : Int), (6 : Int), (6 : Int), (6 : Int), (6 : Int), (6 : Int), (6 : Int), (6 : Int), (6 : Int), (6 : Int), (6 : Int), (6 : Int), (6 : Int), (6 : Int), (6 : Int), (6 : Int), (6 : Int), (6 : Int), (6 : Int), (6 : Int), (6 : Int), (6 : Int), (6 : Int), (6 : Int), (6 : Int), (6 : Int), (6 : Int), (6 : Int), (6 : Int), (6 : Int), (6 : Int), (7 : Int), (7 : Int), (7 : Int), (7 : Int), (7 : Int), (7 : Int), (7 : Int), (7 : Int), (7 : Int), (7 : Int), (7 : Int), (7 : Int), (7 : Int), (7 : Int), (7 : Int), (7 : Int), (7 : Int), (7 : Int), (7 : Int), (7 : Int), (7 : Int), (7 : Int), (7 : Int), (7 : Int), (7 : Int), (7 : Int), (7 : Int), (7 : Int), (7 : Int), (7 : Int), (7 : Int), (7 : Int), (7 : Int), (7 : Int), (7 : Int), (7 : Int), (7 : Int), (7 : Int), (7 : Int), (7 : Int), (7 : Int), (7 : Int), (7 : Int), (7 : Int), (7 : Int), (7 : Int), (7 : Int), (7 : Int), (7 : Int), (7 : Int), (7 : Int), (7 : Int), (7 : Int), (7 : Int), (7 : Int), (7 : Int), (7 : Int), (7 : Int), (7 : Int), (7 : Int), (7 : Int), (7 : Int), (7 : Int), (7 : Int), (8 : Int), (8 : Int), (8 : Int), (8 : Int), (8 : Int), (8 : Int), (8 : Int), (8 : Int), (8 : Int), (8 : Int), (8 : Int), (8 : Int), (8 : Int), (8 : Int), (8 : Int), (8 : Int), (8 : Int), (8 : Int), (8 : Int), (8 : Int), (8 : Int), (8 : Int), (8 : Int), (8 : Int), (8 : Int), (8 : Int), (8 : Int), (8 : Int), (8 : Int), (8 : Int), (8 : Int), (8 : Int), (8 : Int), (8 : Int), (8 : Int), (8 : Int), (8 : Int), (8 : Int), (8 : Int), (8 : Int), (8 : Int), (8 : Int), (8 : Int), (8 : Int), (8 : Int), (8 : Int), (8 : Int), (8 : Int), (8 : Int), (8 : Int), (8 : Int), (8 : Int), (8 : Int), (8 : Int), (8 : Int), (8 : Int), (8 : Int), (8 : Int), (8 : Int), (8 : Int), (8 : Int), (8 : Int), (8 : Int), (8 : Int), (8 : Int), (8 : Int), (8 : Int), (8 : Int), (8 : Int), (8 : Int), (8 : Int), (8 : Int), (8 : Int), (8 : Int), (8 : Int), (8 : Int), (8 : Int), (8 : Int), (8 : Int), (8 : Int), (8 : Int), (8 : Int), (8 : Int), (8 : Int), (8 : Int), (8 : Int), (8 : Int), (8 : Int), (8 : Int), (8 : Int), (8 : Int), (8 : Int), (8 : Int), (8 : Int), (8 : Int), (8 : Int), (8 : Int), (8 : Int), (8 : Int), (8 : Int), (8 : Int), (8 : Int), (8 : Int), (8 : Int), (8 : Int), (8 : Int), (8 : Int), (8 : Int), (8 : Int), (8 : Int), (8 : Int), (8 : Int), (8 : Int), (8 : Int), (8 : Int), (8 : Int), (8 : Int), (8 : Int), (8 : Int), (8 : Int), (8 : Int), (8 : Int), (8 : Int), (8 : Int), (8 : Int), (8 : Int), (8 : Int), (8 : Int)].getD (IntKind.u8.wrap (x.fdiv ((2 : Int) ^ min (Int.toNat (16 : Int)) IntKind.u64.bits))).toNat (0 : Int)))))))
   (br (decide (x ≥ (256 : Int)))
   (chk ((0 : Int) ≤ IntKind.u8.wrap (x.fdiv ((2 : Int) ^ min (Int.toNat (8 : Int)) IntKind.u64.bits)) ∧ IntKind.u8.wrap (x.fdiv ((2 : Int) ^ min (Int.toNat (8 : Int)) IntKind.u64.bits)) < ↑(256 : Nat))
   (some (IntKind.i64.wrap (IntKind.i64.wrap ((0 : Int) + (8 : Int)) + IntKind.i64.wrap ([(0 : Int), (1 : Int), (2 : Int), (2 : Int), (3 : Int), (3 : Int), (3 : Int), (3 : Int), (4 : Int), (4 : Int), (4 : Int), (4 : Int), (4 : Int), (4 : Int), (4 : Int), (4 : Int), (5 : Int), (5 : Int), (5 : Int), (5 : Int), (5 : Int), (5 : Int), (5 : Int), (5 : Int), (5 : Int), (5 : Int), (5 : Int), (5 : Int), (5 : Int), (5 : Int), (5 : Int), (5 : Int), (6 : Int), (6 : Int), (6 : Int), (6 : Int), (6 : Int), (6 : Int), (6 : Int), (6 : Int), (6 : Int), (6 : Int), (6 : Int), (6 : Int), (6 : Int), (6 : Int), (6 : Int), (6 : Int), (6 : Int), (6 : Int), (6 : Int), (6 : Int), (6 : Int), (6 : Int), (6 : Int), (6 : Int), (6 : Int), (6 : Int), (6 : Int), (6 : Int), (6 : Int), (6 : Int), (6 : Int), (6 : Int), (7 : Int), (7 : Int), (7 : Int), (7 : Int), (7 : Int), (7 : Int), (7 : Int), (7 : Int), (7 : Int), (7 : Int), (7 : Int), (7 : Int), (7 : Int), (7 : Int), (7 : Int), (7 : Int), (7 : Int), (7 : Int), (7 : Int), (7 : Int), (7 : Int), (7 : Int), (7 : Int), (7 : Int), (7 : Int), (7 : Int), (7 : Int), (7 : Int), (7 : Int), (7 : Int), (7 : Int), (7 : Int), (7 : Int), (7 : Int), (7 : Int), (7 : Int), (7 : Int), (7 : Int), (7 : Int), (7 : Int), (7 : Int), (7 : Int), (7 : Int), (7 : Int), (7 : Int), (7 : Int), (7 : Int), (7 : Int), (7 : Int), (7 : Int), (7 : Int), (7 : Int), (7 : Int), (7 : Int), (7 : Int), (7 : Int), (7 : Int), (7 : Int), (7 : Int), (7 : Int), (7 : Int), (7 : Int), (7 : Int), (7 : Int), (8 : Int), (8 : Int), (8 : Int), (8 : Int), (8 : Int), (8 : Int), (8 : Int), (8 : Int), (8 : Int), (8 : Int), (8 : Int), (8 : Int), (8 : Int), (8 : Int), (8 : Int), (8 : Int), (8 : Int), (8 : Int), (8 : Int), (8 : Int), (8 : Int), (8 : Int), (8 : Int), (8 : Int), (8 : Int), (8 : Int), (8 : Int), (8 : Int), (8 : Int), (8 : Int), (8 : Int), (8 : Int), (8 : Int), (8 : Int), (8 : Int), (8 : Int), (8 : Int), (8 : Int), (8 : Int), (8 : Int), (8 : Int), (8 : Int), (8 : Int), (8 : Int), (8 : Int), (8 : Int), (8 : Int), (8 : Int), (8 : Int), (8 : Int), (8 : Int), (8 : Int), (8 : Int), (8 : Int), (8 : Int), (8 : Int), (8 : Int), (8 : Int), (8 : Int), (8 : Int), (8 : Int), (8 : Int), (8 : Int), (8 : Int), (8 : Int), (8 : Int), (8 : Int), (8 : Int), (8 : Int), (8 : Int), (8 : Int), (8 : Int), (8 : Int), (8 : Int), (8 : Int), (8 : Int), (8 : Int), (8 : Int), (8 : Int), (8 : Int), (8 : Int), (8 : Int), (8 : Int), (8 : Int), (8 : Int), (8 : Int), (8 : Int), (8 : Int), (8 : Int), (8 : Int), (8 : Int), (8 : Int), (8 : Int), (8 : Int), (8 : Int), (8 : Int), (8 : Int), (8 : Int), (8 : Int), (8 : Int), (8 : Int), (8 : Int), (8 : Int), (8 : Int), (8 : Int), (8 : Int), (8 : Int), (8 : Int), (8 : Int), (8 : Int), (8 : Int), (8 : Int), (8 : Int), (8 : Int), (8 : Int), (8 : Int), (8 : Int), (8 : Int), (8 : Int), (8 : Int), (8 : Int), (8 : Int), (8 : Int), (8 : Int), (8 : Int), (8 : Int), (8 : Int), (8 : Int)].getD (IntKind.u8.wrap (x.fdiv ((2 : Int) ^ min (Int.toNat (8 : Int)) IntKind.u64.bits))).toNat (0 : Int))))))
   (chk ((0 : Int) ≤ IntKind.u8.wrap x ∧ IntKind.u8.wrap x < ↑(256 : Nat))
   (some (IntKind.i64.wrap ((0 : Int) + IntKind.i64.wrap ([(0 : Int), (1 : Int), (2 : Int), (2 : Int), (3 : Int), (3 : Int), (3 : Int), (3 : Int), (4 : Int), (4 : Int), (4 : Int), (4 : Int), (4 : Int), (4 : Int), (4 : Int), (4 : Int), (5 : Int), (5 : Int), (5 : Int), (5 : Int), (5 : Int), (5 : Int), (5 : Int), (5 : Int), (5 : Int), (5 : Int), (5 : Int), (5 : Int), (5 : Int), (5 : Int), (5 : Int), (5 : Int), (6 : Int), (6 : Int), (6 : Int), (6 : Int), (6 : Int), (6 : Int), (6 : Int), (6 : Int), (6 : Int), (6 : Int), (6 : Int), (6 : Int), (6 : Int), (6 : Int), (6 : Int), (6 : Int), (6 : Int), (6 : Int), (6 : Int), (6 : Int), (6 : Int), (6 : Int), (6 : Int), (6 : Int), (6 : Int), (6 : Int), (6 : Int), (6 : Int), (6 : Int), (6 : Int), (6 : Int), (6 : Int), (7 : Int), (7 : Int), (7 : Int), (7 : Int), (7 : Int), (7 : Int), (7 : Int), (7 : Int), (7 : Int), (7 : Int), (7 : Int), (7 : Int), (7 : Int), (7 : Int), (7 : Int), (7 : Int), (7 : Int), (7 : Int), (7 : Int), (7 : Int), (7 : Int), (7 : Int), (7 : Int), (7 : Int), (7 : Int), (7 : Int), (7 : Int), (7 : Int), (7 : Int), (7 : Int), (7 : Int), (7 : Int), (7 : Int), (7 : Int), (7 : Int), (7 : Int), (7 : Int), (7 : Int), (7 : Int), (7 : Int), (7 : Int), (7 : Int), (7 : Int), (7 : Int), (7 : Int), (7 : Int), (7 : Int), (7 : Int), (7 : Int), (7 : Int), (7 : Int), (7 : Int), (7 : Int), (7 : Int), (7 : Int), (7 : Int), (7 : Int), (7 : Int), (7 : Int), (7 : Int), (7 : Int), (7 : Int), (7 : Int), (7 : Int), (8 : Int), (8 : Int), (8 : Int), (8 : Int), (8 : Int), (8 : Int), (8 : Int), (8 : Int), (8 : Int), (8 : Int), (8 : Int), (8 : Int), (8 : Int), (8 : Int), (8 : Int), (8 : Int), (8 : Int), (8 : Int), (8 : Int), (8 : Int), (8 : Int), (8 : Int), (8 : Int), (8 : Int), (8 : Int), (8 : Int), (8 : Int), (8 : Int), (8 : Int), (8 : Int), (8 : Int), (8 : Int), (8 : Int), (8 : Int), (8 : Int), (8 : Int), (8 : Int), (8 : Int), (8 : Int), (8 : Int), (8 : Int), (8 : Int), (8 : Int), (8 : Int), (8 : Int), (8 : Int), (8 : Int), (8 : Int), (8 : Int), (8 : Int), (8 : Int), (8 : Int), (8 : Int), (8 : Int), (8 : Int), (8 : Int), (8 : Int), (8 : Int), (8 : Int), (8 : Int), (8 : Int), (8 : Int), (8 : Int), (8 : Int), (8 : Int), (8 : Int), (8 : Int), (8 : Int), (8 : Int), (8 : Int), (8 : Int), (8 : Int), (8 : Int), (8 : Int), (8 : Int), (8 : Int), (8 : Int), (8 : Int), (8 : Int), (8 : Int), (8 : Int), (8 : Int), (8 : Int), (8 : Int), (8 : Int), (8 : Int), (8 : Int), (8 : Int), (8 : Int), (8 : Int), (8 : Int), (8 : Int), (8 : Int), (8 : Int), (8 : Int), (8 : Int), (8 : Int), (8 : Int), (8 : Int), (8 : Int), (8 : Int), (8 : Int), (8 : Int), (8 : Int), (8 : Int), (8 : Int), (8 : Int), (8 : Int), (8 : Int), (8 : Int), (8 : Int), (8 : Int), (8 : Int), (8 : Int), (8 : Int), (8 : Int), (8 : Int), (8 : Int), (8 : Int), (8 : Int), (8 : Int), (8 : Int), (8 : Int), (8 : Int), (8 : Int), (8 : Int), (8 : Int), (8 : Int)].getD (IntKind.u8.wrap x).toNat (0 : Int)))))))))
theorem len64.F_eq (N : Nat) (L : Eng.Leaves) : evSig (len64.C N) (len64.K N) 0 Try.f47 len64.sig L len64.dec = len64.F N (L.i 0) := by
  kernel_rfl
noncomputable def len64.spec : Eng.Spec := len64.sig.spec (fun N L => len64.F N (L.i 0)) len64.enc
theorem len64.cok (N : Nat) : CfgOK (len64.C N) := ⟨fun _ _ _ _ h => by simp [len64.C, noRT] at h, wide, by
  simp only [len64.C, List.mem_cons, List.not_mem_nil, or_false, forall_eq_or_imp, forall_eq, false_imp_iff, implies_true], fun g hg => by simp [len64.C] at hg, fun m hm => by simp [len64.C] at hm, fun q hq => by simp [len64.C] at hq⟩
theorem len64.aok (N : Nat) : AnnsOK (len64.K N) := by
  intro q hq
  simp only [len64.K, List.mem_cons, List.not_mem_nil, or_false] at hq
theorem len64.ok : CallOK Try.prog 47 len64.spec :=
  callOK_of_sig (fn := Try.f47) (Cf := len64.C) (K := len64.K) (d := 0) (dec := len64.dec) (by kernel_rfl) (fun _ => rfl) len64.cok (fun _ q hq => by simp [len64.C] at hq) len64.aok
   (fun N L r h => (len64.F_eq N L).trans h) (by kernel_rfl) (fun _ => ⟨rfl, rfl⟩) (fun _ _ => ⟨rfl, rfl⟩)
noncomputable def blen.sig : Eng.Sig := { args := [.at (.int .u64 0)], n := 0, pre := [], post := [], m := 0, ret := .at (.int .i64 0) }
noncomputable def blen.C (N : Nat) : Cfg := { P := Try.prog, N := N, RT := noRT, specs := [(47, len64.spec)], inl := [], hi := 0, mv := [] }
abbrev blen.R : Type := Int
def blen.dec (L : Eng.Leaves) : blen.R := (L.i 0)
def blen.enc (r : blen.R) : Eng.Leaves := mkL [r] [] [] []
noncomputable def blen.K (N : Nat) : FCfg := { anns := [], unr := [], lits := [], lets := [] }
noncomputable def blen.F (N : Nat) (x : Int) : Option blen.R :=
  (obind (Rc.len64.F N x) fun r0 =>
   (some r0))
theorem blen.F_eq (N : Nat) (L : Eng.Leaves) : evSig (blen.C N) (blen.K N) 0 Try.f89 blen.sig L blen.dec = blen.F N (L.i 0) := by
  kernel_rfl
noncomputable def blen.spec : Eng.Spec := blen.sig.spec (fun N L => blen.F N (L.i 0)) blen.enc
theorem blen.cok (N : Nat) : CfgOK (blen.C N) := ⟨fun _ _ _ _ h => by simp [blen.C, noRT] at h, wide, by
  simp only [blen.C, List.mem_cons, List.not_mem_nil, or_false, forall_eq_or_imp, forall_eq, false_imp_iff, implies_true]
  exact ⟨len64.ok, by kernel_rfl⟩, fun g hg => by simp [blen.C] at hg, fun m hm => by simp [blen.C] at hm, fun q hq => by simp [blen.C] at hq⟩
theorem blen.aok (N : Nat) : AnnsOK (blen.K N) := by
  intro q hq
  simp only [blen.K, List.mem_cons, List.not_mem_nil, or_false] at hq
theorem blen.ok : CallOK Try.prog 89 blen.spec :=
  callOK_of_sig (fn := Try.f89) (Cf := blen.C) (K := blen.K) (d := 0) (dec := blen.dec) (by kernel_rfl) (fun _ => rfl) blen.cok (fun _ q hq => by simp [blen.C] at hq) blen.aok
   (fun N L r h => (blen.F_eq N L).trans h) (by kernel_rfl) (fun _ => ⟨rfl, rfl⟩) (fun _ _ => ⟨rfl, rfl⟩)
noncomputable def endb.sig : Eng.Sig := { args := [.at (.ptr 0 0)], n := 2, pre := [(0, .cells 10 [.full 1 false, .int .u64 0, .int .u64 1, .int .u64 2, .int .i64 3, .int .i64 4, .int .u64 5, .int .i64 6, .int .i64 7, .bool 0]), (1, .ints false .u8 0)], post := [(0, .cells 10 [.full 1 false, .fint .u64 0, .fint .u64 1, .fint .u64 2, .fint .i64 3, .int .i64 1, .fint .u64 5, .fint .i64 6, .fint .i64 7, .fbool 0]), (1, .fints false .u8 0)], m := 0, ret := .at (.int .u64 0) }
noncomputable def endb.C (N : Nat) : Cfg := { P := Try.prog, N := N, RT := noRT, specs := [], inl := [], hi := 2, mv := [] }
abbrev endb.R : Type := Int × Int
def endb.dec (L : Eng.Leaves) : endb.R := (L.i 0, L.i 1)
def endb.enc (r : endb.R) : Eng.Leaves := mkL [r.1, r.2] [] [] []
noncomputable def endb.K (N : Nat) : FCfg := { anns := [], unr := [], lits := [], lets := [] }
noncomputable def endb.F (N : Nat) (rng : Int) (val : Int) (last : Int) (front : Int) (back : Int) (window : Int) (waiting : Int) (count : Int) (bad : Bool) (b : List Int) : Option endb.R :=
  (br (decide (back ≥ ↑b.length))
   (chkI rng rng
   (chkI val val
   (chkI last last
   (chkI front front
   (chkI window window
   (chkI waiting waiting
   (chkI count count
   (chkB bad bad
   (chkL b b
   (some (((0 : Int), back))))))))))))
   (chk ((0 : Int) ≤ IntKind.i64.wrap (↑b.length - IntKind.i64.wrap (back + (1 : Int))) ∧ IntKind.i64.wrap (↑b.length - IntKind.i64.wrap (back + (1 : Int))) < ↑b.length)
   (chkI rng rng
   (chkI val val
   (chkI last last
   (chkI front front
   (chkI window window
   (chkI waiting waiting
   (chkI count count
   (chkB bad bad
   (chkL b b
   (some ((IntKind.u64.wrap (b.getD (IntKind.i64.wrap (↑b.length - IntKind.i64.wrap (back + (1 : Int)))).toNat (0 : Int)), IntKind.i64.wrap (back + (1 : Int))))))))))))))))
theorem endb.F_eq (N : Nat) (L : Eng.Leaves) : evSig (endb.C N) (endb.K N) 0 Try.f98 endb.sig L endb.dec = endb.F N (L.i 0) (L.i 1) (L.i 2) (L.i 3) (L.i 4) (L.i 5) (L.i 6) (L.i 7) (L.b 0) (L.l 0) := by
  kernel_rfl
noncomputable def endb.spec : Eng.Spec := endb.sig.spec (fun N L => endb.F N (L.i 0) (L.i 1) (L.i 2) (L.i 3) (L.i 4) (L.i 5) (L.i 6) (L.i 7) (L.b 0) (L.l 0)) endb.enc
theorem endb.cok (N : Nat) : CfgOK (endb.C N) := ⟨fun _ _ _ _ h => by simp [endb.C, noRT] at h, wide, by
  simp only [endb.C, List.mem_cons, List.not_mem_nil, or_false, forall_eq_or_imp, forall_eq, false_imp_iff, implies_true], fun g hg => by simp [endb.C] at hg, fun m hm => by simp [endb.C] at hm, fun q hq => by simp [endb.C] at hq⟩
theorem endb.aok (N : Nat) : AnnsOK (endb.K N) := by
  intro q hq
  simp only [endb.K, List.mem_cons, List.not_mem_nil, or_false] at hq
theorem endb.ok : CallOK Try.prog 98 endb.spec :=
  callOK_of_sig (fn := Try.f98) (Cf := endb.C) (K := endb.K) (d := 0) (dec := endb.dec) (by kernel_rfl) (fun _ => rfl) endb.cok (fun _ q hq => by simp [endb.C] at hq) endb.aok
   (fun N L r h => (endb.F_eq N L).trans h) (by kernel_rfl) (fun _ => ⟨rfl, rfl⟩) (fun _ _ => ⟨rfl, rfl⟩)
noncomputable def choose.sig : Eng.Sig := { args := [.at (.ptr 0 0), .at (.int .u64 0)], n := 2, pre := [(0, .cells 10 [.full 1 false, .int .u64 1, .int .u64 2, .int .u64 3, .int .i64 4, .int .i64 5, .int .u64 6, .int .i64 7, .int .i64 8, .bool 0]), (1, .ints false .u8 0)], post := [(0, .cells 10 [.full 1 false, .fint .u64 1, .fint .u64 2, .fint .u64 3, .fint .i64 4, .fint .i64 5, .fint .u64 6, .fint .i64 7, .fint .i64 8, .fbool 0]), (1, .fints false .u8 0)], m := 0, ret := .at (.int .u64 0) }
noncomputable def choose.C (N : Nat) : Cfg := { P := Try.prog, N := N, RT := noRT, specs := [], inl := [], hi := 2, mv := [] }
abbrev choose.R : Type := Int
def choose.dec (L : Eng.Leaves) : choose.R := (L.i 0)
def choose.enc (r : choose.R) : Eng.Leaves := mkL [r] [] [] []
noncomputable def choose.K (N : Nat) : FCfg := { anns := [], unr := [], lits := [], lets := [] }
noncomputable def choose.F (N : Nat) (ft : Int) (rng : Int) (val : Int) (last : Int) (front : Int) (back : Int) (window : Int) (waiting : Int) (count : Int) (bad : Bool) (b : List Int) : Option choose.R :=
  (chk (ft ≠ (0 : Int))
   (chk (IntKind.u64.wrap (rng.tdiv ft) ≠ (0 : Int))
   (chkI rng rng
   (chkI val val
   (chkI last last
   (chkI front front
   (chkI back back
   (chkI window window
   (chkI waiting waiting
   (chkI count count
   (chkB bad bad
   (chkL b b
   (some (IntKind.u64.wrap (ft - if ft < IntKind.u64.wrap (IntKind.u64.wrap (val.tdiv (IntKind.u64.wrap (rng.tdiv ft))) + (1 : Int)) then ft else IntKind.u64.wrap (IntKind.u64.wrap (val.tdiv (IntKind.u64.wrap (rng.tdiv ft))) + (1 : Int)))))))))))))))))
theorem choose.F_eq (N : Nat) (L : Eng.Leaves) : evSig (choose.C N) (choose.K N) 0 Try.f87 choose.sig L choose.dec = choose.F N (L.i 0) (L.i 1) (L.i 2) (L.i 3) (L.i 4) (L.i 5) (L.i 6) (L.i 7) (L.i 8) (L.b 0) (L.l 0) := by
  kernel_rfl
noncomputable def choose.spec : Eng.Spec := choose.sig.spec (fun N L => choose.F N (L.i 0) (L.i 1) (L.i 2) (L.i 3) (L.i 4) (L.i 5) (L.i 6) (L.i 7) (L.i 8) (L.b 0) (L.l 0)) choose.enc
theorem choose.cok (N : Nat) : CfgOK (choose.C N) := ⟨fun _ _ _ _ h => by simp [choose.C, noRT] at h, wide, by
  simp only [choose.C, List.mem_cons, List.not_mem_nil, or_false, forall_eq_or_imp, forall_eq, false_imp_iff, implies_true], fun g hg => by simp [choose.C] at hg, fun m hm => by simp [choose.C] at hm, fun q hq => by simp [choose.C] at hq⟩
theorem choose.aok (N : Nat) : AnnsOK (choose.K N) := by
  intro q hq
  simp only [choose.K, List.mem_cons, List.not_mem_nil, or_false] at hq
theorem choose.ok : CallOK Try.prog 87 choose.spec :=
  callOK_of_sig (fn := Try.f87) (Cf := choose.C) (K := choose.K) (d := 0) (dec := choose.dec) (by kernel_rfl) (fun _ => rfl) choose.cok (fun _ q hq => by simp [choose.C] at hq) choose.aok
   (fun N L r h => (choose.F_eq N L).trans h) (by kernel_rfl) (fun _ => ⟨rfl, rfl⟩) (fun _ _ => ⟨rfl, rfl⟩)
noncomputable def take.sig : Eng.Sig := { args := [.at (.ptr 0 0), .at (.int .u64 0), .at (.int .u64 1), .at (.int .u64 2)], n := 2, pre := [(0, .cells 10 [.full 1 false, .int .u64 3, .int .u64 4, .int .u64 5, .int .i64 6, .int .i64 7, .int .u64 8, .int .i64 9, .int .i64 10, .bool 0]), (1, .ints false .u8 0)], post := [(0, .cells 10 [.full 1 false, .int .u64 0, .int .u64 1, .int .u64 2, .int .i64 3, .fint .i64 7, .fint .u64 8, .fint .i64 9, .int .i64 4, .fbool 0]), (1, .fints false .u8 0)], m := 0, ret := .at (.unk) }
noncomputable def take.C (N : Nat) : Cfg := { P := Try.prog, N := N, RT := noRT, specs := [(39, norm.spec)], inl := [], hi := 2, mv := [] }
abbrev take.R : Type := Int × Int × Int × Int × Int
def take.dec (L : Eng.Leaves) : take.R := (L.i 0, L.i 1, L.i 2, L.i 3, L.i 4)
def take.enc (r : take.R) : Eng.Leaves := mkL [r.1, r.2.1, r.2.2.1, r.2.2.2.1, r.2.2.2.2] [] [] []
noncomputable def take.K (N : Nat) : FCfg := { anns := [], unr := [], lits := [], lets := [] }
noncomputable def take.F (N : Nat) (fl : Int) (fh : Int) (ft : Int) (rng : Int) (val : Int) (last : Int) (front : Int) (back : Int) (window : Int) (waiting : Int) (count : Int) (bad : Bool) (b : List Int) : Option take.R :=
  (chk (ft ≠ (0 : Int))
   (br (decide (fl > (0 : Int)))
   (obind (Rc.norm.F N (IntKind.u64.wrap (IntKind.u64.wrap (rng.tdiv ft) * IntKind.u64.wrap (fh - fl))) (IntKind.u64.wrap (val - IntKind.u64.wrap (IntKind.u64.wrap (rng.tdiv ft) * IntKind.u64.wrap (ft - fh)))) last front back window waiting count bad b) fun r0 =>
   (chkI back back
   (chkI window window
   (chkI waiting waiting
   (chkB bad bad
   (chkL b b
   (some ((r0.fst, r0.snd.fst, r0.snd.snd.fst, r0.snd.snd.snd.fst, r0.snd.snd.snd.snd)))))))))
   (obind (Rc.norm.F N (IntKind.u64.wrap (rng - IntKind.u64.wrap (IntKind.u64.wrap (rng.tdiv ft) * IntKind.u64.wrap (ft - fh)))) (IntKind.u64.wrap (val - IntKind.u64.wrap (IntKind.u64.wrap (rng.tdiv ft) * IntKind.u64.wrap (ft - fh)))) last front back window waiting count bad b) fun r1 =>
   (chkI back back
   (chkI window window
   (chkI waiting waiting
   (chkB bad bad
   (chkL b b
   (some ((r1.fst, r1.snd.fst, r1.snd.snd.fst, r1.snd.snd.snd.fst, r1.snd.snd.snd.snd)))))))))))
theorem take.F_eq (N : Nat) (L : Eng.Leaves) : evSig (take.C N) (take.K N) 0 Try.f88 take.sig L take.dec = take.F N (L.i 0) (L.i 1) (L.i 2) (L.i 3) (L.i 4) (L.i 5) (L.i 6) (L.i 7) (L.i 8) (L.i 9) (L.i 10) (L.b 0) (L.l 0) := by
  kernel_rfl
noncomputable def take.spec : Eng.Spec := take.sig.spec (fun N L => take.F N (L.i 0) (L.i 1) (L.i 2) (L.i 3) (L.i 4) (L.i 5) (L.i 6) (L.i 7) (L.i 8) (L.i 9) (L.i 10) (L.b 0) (L.l 0)) take.enc
theorem take.cok (N : Nat) : CfgOK (take.C N) := ⟨fun _ _ _ _ h => by simp [take.C, noRT] at h, wide, by
  simp only [take.C, List.mem_cons, List.not_mem_nil, or_false, forall_eq_or_imp, forall_eq, false_imp_iff, implies_true]
  exact ⟨norm.ok, by kernel_rfl⟩, fun g hg => by simp [take.C] at hg, fun m hm => by simp [take.C] at hm, fun q hq => by simp [take.C] at hq⟩
theorem take.aok (N : Nat) : AnnsOK (take.K N) := by
  intro q hq
  simp only [take.K, List.mem_cons, List.not_mem_nil, or_false] at hq
theorem take.ok : CallOK Try.prog 88 take.spec :=
  callOK_of_sig (fn := Try.f88) (Cf := take.C) (K := take.K) (d := 0) (dec := take.dec) (by kernel_rfl) (fun _ => rfl) take.cok (fun _ q hq => by simp [take.C] at hq) take.aok
   (fun N L r h => (take.F_eq N L).trans h) (by kernel_rfl) (fun _ => ⟨rfl, rfl⟩) (fun _ _ => ⟨rfl, rfl⟩)
noncomputable def bits.sig : Eng.Sig := { args := [.at (.ptr 0 0), .at (.int .i64 0)], n := 2, pre := [(0, .cells 10 [.full 1 false, .int .u64 1, .int .u64 2, .int .u64 3, .int .i64 4, .int .i64 5, .int .u64 6, .int .i64 7, .int .i64 8, .bool 0]), (1, .ints false .u8 0)], post := [(0, .cells 10 [.full 1 false, .fint .u64 1, .fint .u64 2, .fint .u64 3, .fint .i64 4, .int .i64 1, .int .u64 2, .int .i64 3, .int .i64 4, .fbool 0]), (1, .fints false .u8 0)], m := 0, ret := .at (.int .i64 0) }
noncomputable def bits.C (N : Nat) : Cfg := { P := Try.prog, N := N, RT := noRT, specs := [(98, endb.spec)], inl := [], hi := 2, mv := [] }
abbrev bits.R : Type := Int × Int × Int × Int × Int
def bits.dec (L : Eng.Leaves) : bits.R := (L.i 0, L.i 1, L.i 2, L.i 3, L.i 4)
def bits.enc (r : bits.R) : Eng.Leaves := mkL [r.1, r.2.1, r.2.2.1, r.2.2.2.1, r.2.2.2.2] [] [] []
abbrev bits.loop3.R : Type := Int × Int × Int
noncomputable def bits.loop3.ann : Ann := { nx := 20, slots := [(0, .at (.ptr 0 0)), (1, .at (.fint .i64 0))], blks := [(0, .cells 10 [.full 1 false, .fint .u64 1, .fint .u64 2, .fint .u64 3, .fint .i64 4, .int .i64 0, .int .u64 1, .int .i64 2, .fint .i64 5, .fbool 0]), (1, .fints false .u8 0)], mov := [], exId := 0, xslots := [(0, .at (.ptr 0 0))], xblks := [(0, .cells 10 [.full 1 false, .fint .u64 1, .fint .u64 2, .fint .u64 3, .fint .i64 4, .int .i64 0, .int .u64 1, .int .i64 2, .fint .i64 5, .fbool 0]), (1, .fints false .u8 0)], T := bits.loop3.R, dec := fun L => (L.i 0, L.i 1, L.i 2), enc := fun r => mkL [r.1, r.2.1, r.2.2] [] [] [], ret := false }
noncomputable def bits.K (N : Nat) : FCfg := { anns := [(3, bits.loop3.ann)], unr := [], lits := [], lets := [] }
noncomputable def bits.loop3 (N : Nat) : Nat → Int → Int → Int → Int → Int → Int → Bool → List Int → Int → Int → Int → Option bits.loop3.R
  | 0, _, _, _, _, _, _, _, _, _, _, _ => none
  | nn + 1, n, rng, val, last, front, count, bad, b, back, window, waiting =>
  (br (decide (waiting < n))
   (obind (Rc.endb.F N rng val last front back window waiting count bad b) fun r0 =>
   (chk ((0 : Int) ≤ waiting)
   (chkI waiting waiting
   (chkI window window
   (chkI n n
   (chkI rng rng
   (chkI val val
   (chkI last last
   (chkI front front
   (chkI count count
   (chkB bad bad
   (chkL b b
   (bits.loop3 N nn n rng val last front count bad b r0.snd (IntKind.u64.wrap ↑(BitVec.ofInt IntKind.u64.bits window ||| BitVec.ofInt IntKind.u64.bits (IntKind.u64.wrap (r0.fst * (2 : Int) ^ min waiting.toNat IntKind.u64.bits))).toNat) (IntKind.i64.wrap (waiting + (8 : Int))))))))))))))))
   (chkI rng rng
   (chkI val val
   (chkI last last
   (chkI front front
   (chkI count count
   (chkB bad bad
   (chkL b b
   (some ((back, window, waiting)))))))))))
noncomputable def bits.loop3R (N nn : Nat) (n : Int) (rng : Int) (val : Int) (last : Int) (front : Int) (count : Int) (bad : Bool) (b : List Int) (back : Int) (window : Int) (waiting : Int) : Option bits.loop3.R := loopF bits.loop3.ann (mkL [n, rng, val, last, front, count] [bad] [b] []) (evCode ((bits.C N).inLoop bits.loop3.ann) (bits.K N) (inlTab (bits.C N) 0) (bodyAt 3 Try.f90)) nn (mkL [back, window, waiting] [] [] [])
theorem bits.loop3_eq (N : Nat) : ∀ (nn : Nat) (n : Int) (rng : Int) (val : Int) (last : Int) (front : Int) (count : Int) (bad : Bool) (b : List Int) (back : Int) (window : Int) (waiting : Int), bits.loop3R N nn n rng val last front count bad b back window waiting = bits.loop3 N nn n rng val last front count bad b back window waiting
  | 0, _, _, _, _, _, _, _, _, _, _, _ => by kernel_rfl
  | nn + 1, n, rng, val, last, front, count, bad, b, back, window, waiting => by
    have h : bits.loop3R N (nn + 1) n rng val last front count bad b back window waiting =
  (br (decide (waiting < n))
   (obind (Rc.endb.F N rng val last front back window waiting count bad b) fun r0 =>
   (chk ((0 : Int) ≤ waiting)
   (chkI waiting waiting
   (chkI window window
   (chkI n n
   (chkI rng rng
   (chkI val val
   (chkI last last
   (chkI front front
   (chkI count count
   (chkB bad bad
   (chkL b b
   (bits.loop3R N nn n rng val last front count bad b r0.snd (IntKind.u64.wrap ↑(BitVec.ofInt IntKind.u64.bits window ||| BitVec.ofInt IntKind.u64.bits (IntKind.u64.wrap (r0.fst * (2 : Int) ^ min waiting.toNat IntKind.u64.bits))).toNat) (IntKind.i64.wrap (waiting + (8 : Int))))))))))))))))
   (chkI rng rng
   (chkI val val
   (chkI last last
   (chkI front front
   (chkI count count
   (chkB bad bad
   (chkL b b
   (some ((back, window, waiting))))))))))) := by kernel_rfl
    rw [h, bits.loop3]
    try simp only [bits.loop3_eq N nn]
noncomputable def bits.F (N : Nat) (n : Int) (rng : Int) (val : Int) (last : Int) (front : Int) (back : Int) (window : Int) (waiting : Int) (count : Int) (bad : Bool) (b : List Int) : Option bits.R :=
  (br (decide (n < (0 : Int)))
   (chkI rng rng
   (chkI val val
   (chkI last last
   (chkI front front
   (chkB bad bad
   (chkL b b
   (some (((0 : Int), back, window, waiting, count)))))))))
   (br (decide (n > (24 : Int)))
   (chkI rng rng
   (chkI val val
   (chkI last last
   (chkI front front
   (chkB bad bad
   (chkL b b
   (some (((0 : Int), back, window, waiting, count)))))))))
   (obind (bits.loop3 N N n rng val last front count bad b back window waiting) fun r0 =>
   (chk ((0 : Int) ≤ n)
   (chk ((0 : Int) ≤ n)
   (chkI rng rng
   (chkI val val
   (chkI last last
   (chkI front front
   (chkB bad bad
   (chkL b b
   (some ((IntKind.i64.wrap (IntKind.u64.wrap ↑(BitVec.ofInt IntKind.u64.bits r0.snd.fst &&& BitVec.ofInt IntKind.u64.bits (IntKind.u64.wrap (IntKind.u64.wrap ((1 : Int) * (2 : Int) ^ min n.toNat IntKind.u64.bits) - (1 : Int)))).toNat), r0.fst, r0.snd.fst.fdiv ((2 : Int) ^ min n.toNat IntKind.u64.bits), IntKind.i64.wrap (r0.snd.snd - n), IntKind.i64.wrap (count + n)))))))))))))))
theorem bits.F_eq (N : Nat) (L : Eng.Leaves) : evSig (bits.C N) (bits.K N) 0 Try.f90 bits.sig L bits.dec = bits.F N (L.i 0) (L.i 1) (L.i 2) (L.i 3) (L.i 4) (L.i 5) (L.i 6) (L.i 7) (L.i 8) (L.b 0) (L.l 0) := by
  have h : ∀ (n : Int) (rng : Int) (val : Int) (last : Int) (front : Int) (back : Int) (window : Int) (waiting : Int) (count : Int) (bad : Bool) (b : List Int), evSig (bits.C N) (bits.K N) 0 Try.f90 bits.sig (mkL [n, rng, val, last, front, back, window, waiting, count] [bad] [b] []) bits.dec =
  (br (decide (n < (0 : Int)))
   (chkI rng rng
   (chkI val val
   (chkI last last
   (chkI front front
   (chkB bad bad
   (chkL b b
   (some (((0 : Int), back, window, waiting, count)))))))))
   (br (decide (n > (24 : Int)))
   (chkI rng rng
   (chkI val val
   (chkI last last
   (chkI front front
   (chkB bad bad
   (chkL b b
   (some (((0 : Int), back, window, waiting, count)))))))))
   (obind (bits.loop3R N N n rng val last front count bad b back window waiting) fun r0 =>
   (chk ((0 : Int) ≤ n)
   (chk ((0 : Int) ≤ n)
   (chkI rng rng
   (chkI val val
   (chkI last last
   (chkI front front
   (chkB bad bad
   (chkL b b
   (some ((IntKind.i64.wrap (IntKind.u64.wrap ↑(BitVec.ofInt IntKind.u64.bits r0.snd.fst &&& BitVec.ofInt IntKind.u64.bits (IntKind.u64.wrap (IntKind.u64.wrap ((1 : Int) * (2 : Int) ^ min n.toNat IntKind.u64.bits) - (1 : Int)))).toNat), r0.fst, r0.snd.fst.fdiv ((2 : Int) ^ min n.toNat IntKind.u64.bits), IntKind.i64.wrap (r0.snd.snd - n), IntKind.i64.wrap (count + n))))))))))))))) := by
    intro n rng val last front back window waiting count bad b
    kernel_rfl
  have h2 : evSig (bits.C N) (bits.K N) 0 Try.f90 bits.sig L bits.dec = evSig (bits.C N) (bits.K N) 0 Try.f90 bits.sig (mkL [L.i 0, L.i 1, L.i 2, L.i 3, L.i 4, L.i 5, L.i 6, L.i 7, L.i 8] [L.b 0] [L.l 0] []) bits.dec := by kernel_rfl
  rw [h2, h, bits.F]
  try simp only [bits.loop3_eq N]
noncomputable def bits.spec : Eng.Spec := bits.sig.spec (fun N L => bits.F N (L.i 0) (L.i 1) (L.i 2) (L.i 3) (L.i 4) (L.i 5) (L.i 6) (L.i 7) (L.i 8) (L.b 0) (L.l 0)) bits.enc
theorem bits.cok (N : Nat) : CfgOK (bits.C N) := ⟨fun _ _ _ _ h => by simp [bits.C, noRT] at h, wide, by
  simp only [bits.C, List.mem_cons, List.not_mem_nil, or_false, forall_eq_or_imp, forall_eq, false_imp_iff, implies_true]
  exact ⟨endb.ok, by kernel_rfl⟩, fun g hg => by simp [bits.C] at hg, fun m hm => by simp [bits.C] at hm, fun q hq => by simp [bits.C] at hq⟩
theorem bits.aok (N : Nat) : AnnsOK (bits.K N) := by
  intro q hq
  simp only [bits.K, List.mem_cons, List.not_mem_nil, or_false] at hq
  subst hq
  exact fun _ _ => ⟨rfl, rfl⟩
theorem bits.ok : CallOK Try.prog 90 bits.spec :=
  callOK_of_sig (fn := Try.f90) (Cf := bits.C) (K := bits.K) (d := 0) (dec := bits.dec) (by kernel_rfl) (fun _ => rfl) bits.cok (fun _ q hq => by simp [bits.C] at hq) bits.aok
   (fun N L r h => (bits.F_eq N L).trans h) (by kernel_rfl) (fun _ => ⟨rfl, rfl⟩) (fun _ _ => ⟨rfl, rfl⟩)
noncomputable def uint.sig : Eng.Sig := { args := [.at (.ptr 0 0), .at (.int .i64 0)], n := 2, pre := [(0, .cells 10 [.full 1 false, .int .u64 1, .int .u64 2, .int .u64 3, .int .i64 4, .int .i64 5, .int .u64 6, .int .i64 7, .int .i64 8, .bool 0]), (1, .ints false .u8 0)], post := [(0, .cells 10 [.full 1 false, .int .u64 1, .int .u64 2, .int .u64 3, .int .i64 4, .int .i64 5, .int .u64 6, .int .i64 7, .int .i64 8, .bool 0]), (1, .fints false .u8 0)], m := 0, ret := .at (.int .i64 0) }
noncomputable def uint.C (N : Nat) : Cfg := { P := Try.prog, N := N, RT := noRT, specs := [(87, choose.spec), (88, take.spec), (89, blen.spec), (90, bits.spec)], inl := [], hi := 2, mv := [] }
abbrev uint.R : Type := Int × Int × Int × Int × Int × Int × Int × Int × Int × Bool
def uint.dec (L : Eng.Leaves) : uint.R := (L.i 0, L.i 1, L.i 2, L.i 3, L.i 4, L.i 5, L.i 6, L.i 7, L.i 8, L.b 0)
def uint.enc (r : uint.R) : Eng.Leaves := mkL [r.1, r.2.1, r.2.2.1, r.2.2.2.1, r.2.2.2.2.1, r.2.2.2.2.2.1, r.2.2.2.2.2.2.1, r.2.2.2.2.2.2.2.1, r.2.2.2.2.2.2.2.2.1] [r.2.2.2.2.2.2.2.2.2] [] []
noncomputable def uint.K (N : Nat) : FCfg := { anns := [], unr := [], lits := [], lets := [] }
noncomputable def uint.F (N : Nat) (ft : Int) (rng : Int) (val : Int) (last : Int) (front : Int) (back : Int) (window : Int) (waiting : Int) (count : Int) (bad : Bool) (b : List Int) : Option uint.R :=
  (br (decide (ft ≤ (1 : Int)))
   (chkL b b
   (some (((0 : Int), rng, val, last, front, back, window, waiting, count, bad))))
   (br (decide (ft > (4294967295 : Int)))
   (chkL b b
   (some (((0 : Int), rng, val, last, front, back, window, waiting, count, bad))))
   (br (decide (ft ≤ (256 : Int)))
   (obind (Rc.choose.F N (IntKind.u64.wrap ft) rng val last front back window waiting count bad b) fun r0 =>
   (obind (Rc.take.F N r0 (IntKind.u64.wrap (r0 + (1 : Int))) (IntKind.u64.wrap ft) rng val last front back window waiting count bad b) fun r1 =>
   (chkL b b
   (some ((IntKind.i64.wrap r0, r1.fst, r1.snd.fst, r1.snd.snd.fst, r1.snd.snd.snd.fst, back, window, waiting, r1.snd.snd.snd.snd, bad))))))
   (obind (Rc.blen.F N (IntKind.u64.wrap (IntKind.i64.wrap (ft - (1 : Int))))) fun r2 =>
   (chk ((0 : Int) ≤ IntKind.i64.wrap (r2 - (8 : Int)))
   (obind (Rc.choose.F N (IntKind.u64.wrap (IntKind.i64.wrap ((IntKind.i64.wrap (ft - (1 : Int))).fdiv ((2 : Int) ^ min (IntKind.i64.wrap (r2 - (8 : Int))).toNat IntKind.i64.bits) + (1 : Int)))) rng val last front back window waiting count bad b) fun r3 =>
   (obind (Rc.take.F N r3 (IntKind.u64.wrap (r3 + (1 : Int))) (IntKind.u64.wrap (IntKind.i64.wrap ((IntKind.i64.wrap (ft - (1 : Int))).fdiv ((2 : Int) ^ min (IntKind.i64.wrap (r2 - (8 : Int))).toNat IntKind.i64.bits) + (1 : Int)))) rng val last front back window waiting count bad b) fun r4 =>
   (chk ((0 : Int) ≤ IntKind.i64.wrap (r2 - (8 : Int)))
   (obind (Rc.bits.F N (IntKind.i64.wrap (r2 - (8 : Int))) r4.fst r4.snd.fst r4.snd.snd.fst r4.snd.snd.snd.fst back window waiting r4.snd.snd.snd.snd bad b) fun r5 =>
   (br (decide (IntKind.i64.wrap (IntKind.i64.wrap (IntKind.i64.wrap r3 * (2 : Int) ^ min (IntKind.i64.wrap (r2 - (8 : Int))).toNat IntKind.i64.bits) + r5.fst) ≥ ft))
   (chkL b b
   (some ((IntKind.i64.wrap (ft - (1 : Int)), r4.fst, r4.snd.fst, r4.snd.snd.fst, r4.snd.snd.snd.fst, r5.snd.fst, r5.snd.snd.fst, r5.snd.snd.snd.fst, r5.snd.snd.snd.snd, true))))
   (chkL b b
   (some ((IntKind.i64.wrap (IntKind.i64.wrap (IntKind.i64.wrap r3 * (2 : Int) ^ min (IntKind.i64.wrap (r2 - (8 : Int))).toNat IntKind.i64.bits) + r5.fst), r4.fst, r4.snd.fst, r4.snd.snd.fst, r4.snd.snd.snd.fst, r5.snd.fst, r5.snd.snd.fst, r5.snd.snd.snd.fst, r5.snd.snd.snd.snd, bad))))))))))))))
theorem uint.F_eq (N : Nat) (L : Eng.Leaves) : evSig (uint.C N) (uint.K N) 0 Try.f70 uint.sig L uint.dec = uint.F N (L.i 0) (L.i 1) (L.i 2) (L.i 3) (L.i 4) (L.i 5) (L.i 6) (L.i 7) (L.i 8) (L.b 0) (L.l 0) := by
  kernel_rfl
noncomputable def uint.spec : Eng.Spec := uint.sig.spec (fun N L => uint.F N (L.i 0) (L.i 1) (L.i 2) (L.i 3) (L.i 4) (L.i 5) (L.i 6) (L.i 7) (L.i 8) (L.b 0) (L.l 0)) uint.enc
theorem uint.cok (N : Nat) : CfgOK (uint.C N) := ⟨fun _ _ _ _ h => by simp [uint.C, noRT] at h, wide, by
  simp only [uint.C, List.mem_cons, List.not_mem_nil, or_false, forall_eq_or_imp, forall_eq, false_imp_iff, implies_true]
  exact ⟨⟨choose.ok, by kernel_rfl⟩, ⟨take.ok, by kernel_rfl⟩, ⟨blen.ok, by kernel_rfl⟩, ⟨bits.ok, by kernel_rfl⟩⟩, fun g hg => by simp [uint.C] at hg, fun m hm => by simp [uint.C] at hm, fun q hq => by simp [uint.C] at hq⟩
theorem uint.aok (N : Nat) : AnnsOK (uint.K N) := by
  intro q hq
  simp only [uint.K, List.mem_cons, List.not_mem_nil, or_false] at hq
theorem uint.ok : CallOK Try.prog 70 uint.spec :=
  callOK_of_sig (fn := Try.f70) (Cf := uint.C) (K := uint.K) (d := 0) (dec := uint.dec) (by kernel_rfl) (fun _ => rfl) uint.cok (fun _ q hq => by simp [uint.C] at hq) uint.aok
   (fun N L r h => (uint.F_eq N L).trans h) (by kernel_rfl) (fun _ => ⟨rfl, rfl⟩) (fun _ _ => ⟨rfl, rfl⟩)
noncomputable def tell.sig : Eng.Sig := { args := [.at (.ptr 0 0)], n := 2, pre := [(0, .cells 10 [.full 1 false, .int .u64 0, .int .u64 1, .int .u64 2, .int .i64 3, .int .i64 4, .int .u64 5, .int .i64 6, .int .i64 7, .bool 0]), (1, .ints false .u8 0)], post := [(0, .cells 10 [.full 1 false, .fint .u64 0, .fint .u64 1, .fint .u64 2, .fint .i64 3, .fint .i64 4, .fint .u64 5, .fint .i64 6, .fint .i64 7, .fbool 0]), (1, .fints false .u8 0)], m := 0, ret := .at (.int .i64 0) }
noncomputable def tell.C (N : Nat) : Cfg := { P := Try.prog, N := N, RT := noRT, specs := [(47, len64.spec)], inl := [], hi := 2, mv := [] }
abbrev tell.R : Type := Int
def tell.dec (L : Eng.Leaves) : tell.R := (L.i 0)
def tell.enc (r : tell.R) : Eng.Leaves := mkL [r] [] [] []
noncomputable def tell.K (N : Nat) : FCfg := { anns := [], unr := [], lits := [], lets := [] }
noncomputable def tell.F (N : Nat) (rng : Int) (val : Int) (last : Int) (front : Int) (back : Int) (window : Int) (waiting : Int) (count : Int) (bad : Bool) (b : List Int) : Option tell.R :=
  (obind (Rc.len64.F N rng) fun r0 =>
   (chkI count count
   (chkI rng rng
   (chkI val val
   (chkI last last
   (chkI front front
   (chkI back back
   (chkI window window
   (chkI waiting waiting
   (chkI count count
   (chkB bad bad
   (chkL b b
   (some (IntKind.i64.wrap (count - r0)))))))))))))))
theorem tell.F_eq (N : Nat) (L : Eng.Leaves) : evSig (tell.C N) (tell.K N) 0 Try.f29 tell.sig L tell.dec = tell.F N (L.i 0) (L.i 1) (L.i 2) (L.i 3) (L.i 4) (L.i 5) (L.i 6) (L.i 7) (L.b 0) (L.l 0) := by
  kernel_rfl
noncomputable def tell.spec : Eng.Spec := tell.sig.spec (fun N L => tell.F N (L.i 0) (L.i 1) (L.i 2) (L.i 3) (L.i 4) (L.i 5) (L.i 6) (L.i 7) (L.b 0) (L.l 0)) tell.enc
theorem tell.cok (N : Nat) : CfgOK (tell.C N) := ⟨fun _ _ _ _ h => by simp [tell.C, noRT] at h, wide, by
  simp only [tell.C, List.mem_cons, List.not_mem_nil, or_false, forall_eq_or_imp, forall_eq, false_imp_iff, implies_true]
  exact ⟨len64.ok, by kernel_rfl⟩, fun g hg => by simp [tell.C] at hg, fun m hm => by simp [tell.C] at hm, fun q hq => by simp [tell.C] at hq⟩
theorem tell.aok (N : Nat) : AnnsOK (tell.K N) := by
  intro q hq
  simp only [tell.K, List.mem_cons, List.not_mem_nil, or_false] at hq
theorem tell.ok : CallOK Try.prog 29 tell.spec :=
  callOK_of_sig (fn := Try.f29) (Cf := tell.C) (K := tell.K) (d := 0) (dec := tell.dec) (by kernel_rfl) (fun _ => rfl) tell.cok (fun _ q hq => by simp [tell.C] at hq) tell.aok
   (fun N L r h => (tell.F_eq N L).trans h) (by kernel_rfl) (fun _ => ⟨rfl, rfl⟩) (fun _ _ => ⟨rfl, rfl⟩)
noncomputable def clone8.sig : Eng.Sig := { args := [.at (.roi .u8 0)], n := 0, pre := [], post := [(0, .ints true .u8 0)], m := 1, ret := .at (.full 0 false) }
noncomputable def clone8.C (N : Nat) : Cfg := { P := Try.prog, N := N, RT := noRT, specs := [], inl := [], hi := 0, mv := [] }
abbrev clone8.R : Type := List Int
def clone8.dec (L : Eng.Leaves) : clone8.R := (L.l 0)
def clone8.enc (r : clone8.R) : Eng.Leaves := mkL [] [] [r] []
noncomputable def clone8.K (N : Nat) : FCfg := { anns := [], unr := [], lits := [], lets := [] }
noncomputable def clone8.F (N : Nat) (b : List Int) : Option clone8.R :=
  (nilN b.length
   (some (([] : List Int)))
   (chk (([] : List Int).length + b.length ≤ (140737488351232 : Nat))
   (some (([] : List Int) ++ b))))
theorem clone8.F_eq (N : Nat) (L : Eng.Leaves) : evSig (clone8.C N) (clone8.K N) 0 Try.f37 clone8.sig L clone8.dec = clone8.F N (L.l 0) := by
  kernel_rfl
def clone8.F2 (N : Nat) (b : List Int) : Option clone8.R :=
  (chk (b.length ≤ 140737488351232) (some b))
theorem clone8.F2_F {N : Nat} {b : List Int} {r : clone8.R} (h : clone8.F2 N b = some r) : clone8.F N b = some r := by
  unfold clone8.F2 at h
  rw [chk_some] at h
  obtain ⟨h1, h2⟩ := h
  obtain rfl := Option.some.inj h2
  unfold clone8.F
  refine nilN_of (fun h => ?_) ?_
  · have : b = [] := by simpa using h
    rw [this]
  · rw [chk, if_pos (by simpa using h1)]
    rfl
noncomputable def clone8.spec : Eng.Spec := clone8.sig.spec (fun N L => clone8.F2 N (L.l 0)) clone8.enc
theorem clone8.cok (N : Nat) : CfgOK (clone8.C N) := ⟨fun _ _ _ _ h => by simp [clone8.C, noRT] at h, wide, by
  simp only [clone8.C, List.mem_cons, List.not_mem_nil, or_false, forall_eq_or_imp, forall_eq, false_imp_iff, implies_true], fun g hg => by simp [clone8.C] at hg, fun m hm => by simp [clone8.C] at hm, fun q hq => by simp [clone8.C] at hq⟩
theorem clone8.aok (N : Nat) : AnnsOK (clone8.K N) := by
  intro q hq
  simp only [clone8.K, List.mem_cons, List.not_mem_nil, or_false] at hq
theorem clone8.ok : CallOK Try.prog 37 clone8.spec :=
  callOK_of_sig (fn := Try.f37) (Cf := clone8.C) (K := clone8.K) (d := 0) (dec := clone8.dec) (by kernel_rfl) (fun _ => rfl) clone8.cok (fun _ q hq => by simp [clone8.C] at hq) clone8.aok
   (fun N L r h => (clone8.F_eq N L).trans (clone8.F2_F h)) (by kernel_rfl) (fun _ => ⟨rfl, rfl⟩) (fun _ _ => ⟨rfl, rfl⟩)
noncomputable def new.sig : Eng.Sig := { args := [.at (.roi .u8 0)], n := 0, pre := [], post := [(0, .cells 10 [.full 1 false, .int .u64 0, .int .u64 1, .int .u64 2, .int .i64 3, .int .i64 4, .int .u64 5, .int .i64 6, .int .i64 7, .bool 0]), (1, .ints false .u8 0)], m := 2, ret := .at (.ptr 0 0) }
noncomputable def new.C (N : Nat) : Cfg := { P := Try.prog, N := N, RT := noRT, specs := [(37, clone8.spec), (38, next.spec), (39, norm.spec)], inl := [], hi := 0, mv := [] }
abbrev new.R : Type := Int × Int × Int × Int × Int × Int × Int × Int × Bool × List Int
def new.dec (L : Eng.Leaves) : new.R := (L.i 0, L.i 1, L.i 2, L.i 3, L.i 4, L.i 5, L.i 6, L.i 7, L.b 0, L.l 0)
def new.enc (r : new.R) : Eng.Leaves := mkL [r.1, r.2.1, r.2.2.1, r.2.2.2.1, r.2.2.2.2.1, r.2.2.2.2.2.1, r.2.2.2.2.2.2.1, r.2.2.2.2.2.2.2.1] [r.2.2.2.2.2.2.2.2.1] [r.2.2.2.2.2.2.2.2.2] []
noncomputable def new.K (N : Nat) : FCfg := { anns := [], unr := [], lits := [], lets := [] }
noncomputable def new.F (N : Nat) (b : List Int) : Option new.R :=
  (obind (Rc.clone8.F2 N b) fun r0 =>
   (obind (Rc.next.F N ((128 : Int)) ((0 : Int)) ((0 : Int)) ((0 : Int)) ((0 : Int)) ((0 : Int)) ((0 : Int)) ((9 : Int)) false r0) fun r1 =>
   (obind (Rc.norm.F N ((128 : Int)) (IntKind.u64.wrap ((127 : Int) - r1.fst.fdiv ((2 : Int) ^ min (Int.toNat (1 : Int)) IntKind.u64.bits))) r1.fst r1.snd ((0 : Int)) ((0 : Int)) ((0 : Int)) ((9 : Int)) false r0) fun r2 =>
   (some ((r2.fst, r2.snd.fst, r2.snd.snd.fst, r2.snd.snd.snd.fst, (0 : Int), (0 : Int), (0 : Int), r2.snd.snd.snd.snd, false, r0))))))
theorem new.F_eq (N : Nat) (L : Eng.Leaves) : evSig (new.C N) (new.K N) 0 Try.f13 new.sig L new.dec = new.F N (L.l 0) := by
  kernel_rfl
noncomputable def new.spec : Eng.Spec := new.sig.spec (fun N L => new.F N (L.l 0)) new.enc
theorem new.cok (N : Nat) : CfgOK (new.C N) := ⟨fun _ _ _ _ h => by simp [new.C, noRT] at h, wide, by
  simp only [new.C, List.mem_cons, List.not_mem_nil, or_false, forall_eq_or_imp, forall_eq, false_imp_iff, implies_true]
  exact ⟨⟨clone8.ok, by kernel_rfl⟩, ⟨next.ok, by kernel_rfl⟩, ⟨norm.ok, by kernel_rfl⟩⟩, fun g hg => by simp [new.C] at hg, fun m hm => by simp [new.C] at hm, fun q hq => by simp [new.C] at hq⟩
theorem new.aok (N : Nat) : AnnsOK (new.K N) := by
  intro q hq
  simp only [new.K, List.mem_cons, List.not_mem_nil, or_false] at hq
theorem new.ok : CallOK Try.prog 13 new.spec :=
  callOK_of_sig (fn := Try.f13) (Cf := new.C) (K := new.K) (d := 0) (dec := new.dec) (by kernel_rfl) (fun _ => rfl) new.cok (fun _ q hq => by simp [new.C] at hq) new.aok
   (fun N L r h => (new.F_eq N L).trans h) (by kernel_rfl) (fun _ => ⟨rfl, rfl⟩) (fun _ _ => ⟨rfl, rfl⟩)
noncomputable def rnext.sig : Eng.Sig := { args := [.at (.ptr 0 0)], n := 1, pre := [(0, .cells 11 [.roi .u8 0, .int .u64 0, .int .u64 1, .int .i64 2, .int .i64 3, .int .i64 4, .int .u64 5, .int .i64 6, .int .i64 7, .bool 0, .int .u64 8])], post := [(0, .cells 11 [.froi .u8 0, .fint .u64 0, .fint .u64 1, .fint .i64 2, .int .i64 1, .fint .i64 4, .fint .u64 5, .fint .i64 6, .fint .i64 7, .fbool 0, .fint .u64 8])], m := 0, ret := .at (.int .i64 0) }
noncomputable def rnext.C (N : Nat) : Cfg := { P := Try.prog, N := N, RT := noRT, specs := [], inl := [], hi := 1, mv := [] }
abbrev rnext.R : Type := Int × Int
def rnext.dec (L : Eng.Leaves) : rnext.R := (L.i 0, L.i 1)
def rnext.enc (r : rnext.R) : Eng.Leaves := mkL [r.1, r.2] [] [] []
noncomputable def rnext.K (N : Nat) : FCfg := { anns := [], unr := [], lits := [], lets := [] }
noncomputable def rnext.F (N : Nat) (rng : Int) (val : Int) (last : Int) (front : Int) (back : Int) (wait : Int) (waiting : Int) (count : Int) (eq : Int) (bad : Bool) (b : List Int) : Option rnext.R :=
  (br (decide (front ≥ ↑b.length))
   (chkL b b
   (chkI rng rng
   (chkI val val
   (chkI last last
   (chkI back back
   (chkI wait wait
   (chkI waiting waiting
   (chkI count count
   (chkB bad bad
   (chkI eq eq
   (some (((0 : Int), front)))))))))))))
   (chk ((0 : Int) ≤ IntKind.i64.wrap (IntKind.i64.wrap (front + (1 : Int)) - (1 : Int)) ∧ IntKind.i64.wrap (IntKind.i64.wrap (front + (1 : Int)) - (1 : Int)) < ↑b.length)
   (chkL b b
   (chkI rng rng
   (chkI val val
   (chkI last last
   (chkI back back
   (chkI wait wait
   (chkI waiting waiting
   (chkI count count
   (chkB bad bad
   (chkI eq eq
   (some ((IntKind.i64.wrap (b.getD (IntKind.i64.wrap (IntKind.i64.wrap (front + (1 : Int)) - (1 : Int))).toNat (0 : Int)), IntKind.i64.wrap (front + (1 : Int)))))))))))))))))
theorem rnext.F_eq (N : Nat) (L : Eng.Leaves) : evSig (rnext.C N) (rnext.K N) 0 Try.f52 rnext.sig L rnext.dec = rnext.F N (L.i 0) (L.i 1) (L.i 2) (L.i 3) (L.i 4) (L.i 5) (L.i 6) (L.i 7) (L.i 8) (L.b 0) (L.l 0) := by
  kernel_rfl
noncomputable def rnext.spec : Eng.Spec := rnext.sig.spec (fun N L => rnext.F N (L.i 0) (L.i 1) (L.i 2) (L.i 3) (L.i 4) (L.i 5) (L.i 6) (L.i 7) (L.i 8) (L.b 0) (L.l 0)) rnext.enc
theorem rnext.cok (N : Nat) : CfgOK (rnext.C N) := ⟨fun _ _ _ _ h => by simp [rnext.C, noRT] at h, wide, by
  simp only [rnext.C, List.mem_cons, List.not_mem_nil, or_false, forall_eq_or_imp, forall_eq, false_imp_iff, implies_true], fun g hg => by simp [rnext.C] at hg, fun m hm => by simp [rnext.C] at hm, fun q hq => by simp [rnext.C] at hq⟩
theorem rnext.aok (N : Nat) : AnnsOK (rnext.K N) := by
  intro q hq
  simp only [rnext.K, List.mem_cons, List.not_mem_nil, or_false] at hq
theorem rnext.ok : CallOK Try.prog 52 rnext.spec :=
  callOK_of_sig (fn := Try.f52) (Cf := rnext.C) (K := rnext.K) (d := 0) (dec := rnext.dec) (by kernel_rfl) (fun _ => rfl) rnext.cok (fun _ q hq => by simp [rnext.C] at hq) rnext.aok
   (fun N L r h => (rnext.F_eq N L).trans h) (by kernel_rfl) (fun _ => ⟨rfl, rfl⟩) (fun _ _ => ⟨rfl, rfl⟩)
noncomputable def ron.sig : Eng.Sig := { args := [.at (.ptr 0 0)], n := 1, pre := [(0, .cells 11 [.roi .u8 0, .int .u64 0, .int .u64 1, .int .i64 2, .int .i64 3, .int .i64 4, .int .u64 5, .int .i64 6, .int .i64 7, .bool 0, .int .u64 8])], post := [(0, .cells 11 [.froi .u8 0, .int .u64 0, .int .u64 1, .int .i64 2, .int .i64 3, .fint .i64 4, .fint .u64 5, .fint .i64 6, .int .i64 4, .fbool 0, .fint .u64 8])], m := 0, ret := .at (.unk) }
noncomputable def ron.C (N : Nat) : Cfg := { P := Try.prog, N := N, RT := noRT, specs := [(52, rnext.spec)], inl := [], hi := 1, mv := [] }
abbrev ron.R : Type := Int × Int × Int × Int × Int
def ron.dec (L : Eng.Leaves) : ron.R := (L.i 0, L.i 1, L.i 2, L.i 3, L.i 4)
def ron.enc (r : ron.R) : Eng.Leaves := mkL [r.1, r.2.1, r.2.2.1, r.2.2.2.1, r.2.2.2.2] [] [] []
abbrev ron.loop0.R : Type := Int × Int × Int × Int × Int
noncomputable def ron.loop0.ann : Ann := { nx := 20, slots := [(0, .at (.ptr 0 0))], blks := [(0, .cells 11 [.froi .u8 0, .int .u64 0, .int .u64 1, .int .i64 2, .int .i64 3, .fint .i64 0, .fint .u64 1, .fint .i64 2, .int .i64 4, .fbool 0, .fint .u64 3])], mov := [], exId := 0, xslots := [(0, .at (.ptr 0 0))], xblks := [(0, .cells 11 [.froi .u8 0, .int .u64 0, .int .u64 1, .int .i64 2, .int .i64 3, .fint .i64 0, .fint .u64 1, .fint .i64 2, .int .i64 4, .fbool 0, .fint .u64 3])], T := ron.loop0.R, dec := fun L => (L.i 0, L.i 1, L.i 2, L.i 3, L.i 4), enc := fun r => mkL [r.1, r.2.1, r.2.2.1, r.2.2.2.1, r.2.2.2.2] [] [] [], ret := false }
noncomputable def ron.K (N : Nat) : FCfg := { anns := [(0, ron.loop0.ann)], unr := [], lits := [], lets := [] }
noncomputable def ron.loop0 (N : Nat) : Nat → Int → Int → Int → Int → Bool → List Int → Int → Int → Int → Int → Int → Option ron.loop0.R
  | 0, _, _, _, _, _, _, _, _, _, _, _ => none
  | nn + 1, back, wait, waiting, eq, bad, b, rng, val, last, front, count =>
  (br (decide (rng ≤ (8388608 : Int)))
   (obind (Rc.rnext.F N (IntKind.u64.wrap (rng * (256 : Int))) val last front back wait waiting (IntKind.i64.wrap (count + (8 : Int))) eq bad b) fun r0 =>
   (chkL b b
   (chkI back back
   (chkI wait wait
   (chkI waiting waiting
   (chkB bad bad
   (chkI eq eq
   (ron.loop0 N nn back wait waiting eq bad b (IntKind.u64.wrap (rng * (256 : Int))) ((IntKind.u64.wrap (IntKind.u64.wrap ((256 : Int) * val) + IntKind.u64.wrap (IntKind.i64.wrap ((255 : Int) - (IntKind.i64.wrap ((IntKind.i64.wrap (IntKind.i64.wrap ((256 : Int) * last) + r0.fst)).tdiv (2 : Int))).tmod (256 : Int))))).tmod (2147483648 : Int)) r0.fst r0.snd (IntKind.i64.wrap (count + (8 : Int)))))))))))
   (chkL b b
   (chkI back back
   (chkI wait wait
   (chkI waiting waiting
   (chkB bad bad
   (chkI eq eq
   (some ((rng, val, last, front, count))))))))))
noncomputable def ron.loop0R (N nn : Nat) (back : Int) (wait : Int) (waiting : Int) (eq : Int) (bad : Bool) (b : List Int) (rng : Int) (val : Int) (last : Int) (front : Int) (count : Int) : Option ron.loop0.R := loopF ron.loop0.ann (mkL [back, wait, waiting, eq] [bad] [b] []) (evCode ((ron.C N).inLoop ron.loop0.ann) (ron.K N) (inlTab (ron.C N) 0) (bodyAt 0 Try.f53)) nn (mkL [rng, val, last, front, count] [] [] [])
theorem ron.loop0_eq (N : Nat) : ∀ (nn : Nat) (back : Int) (wait : Int) (waiting : Int) (eq : Int) (bad : Bool) (b : List Int) (rng : Int) (val : Int) (last : Int) (front : Int) (count : Int), ron.loop0R N nn back wait waiting eq bad b rng val last front count = ron.loop0 N nn back wait waiting eq bad b rng val last front count
  | 0, _, _, _, _, _, _, _, _, _, _, _ => by kernel_rfl
  | nn + 1, back, wait, waiting, eq, bad, b, rng, val, last, front, count => by
    have h : ron.loop0R N (nn + 1) back wait waiting eq bad b rng val last front count =
  (br (decide (rng ≤ (8388608 : Int)))
   (obind (Rc.rnext.F N (IntKind.u64.wrap (rng * (256 : Int))) val last front back wait waiting (IntKind.i64.wrap (count + (8 : Int))) eq bad b) fun r0 =>
   (chkL b b
   (chkI back back
   (chkI wait wait
   (chkI waiting waiting
   (chkB bad bad
   (chkI eq eq
   (ron.loop0R N nn back wait waiting eq bad b (IntKind.u64.wrap (rng * (256 : Int))) ((IntKind.u64.wrap (IntKind.u64.wrap ((256 : Int) * val) + IntKind.u64.wrap (IntKind.i64.wrap ((255 : Int) - (IntKind.i64.wrap ((IntKind.i64.wrap (IntKind.i64.wrap ((256 : Int) * last) + r0.fst)).tdiv (2 : Int))).tmod (256 : Int))))).tmod (2147483648 : Int)) r0.fst r0.snd (IntKind.i64.wrap (count + (8 : Int)))))))))))
   (chkL b b
   (chkI back back
   (chkI wait wait
   (chkI waiting waiting
   (chkB bad bad
   (chkI eq eq
   (some ((rng, val, last, front, count)))))))))) := by kernel_rfl
    rw [h, ron.loop0]
    try simp only [ron.loop0_eq N nn]
noncomputable def ron.F (N : Nat) (rng : Int) (val : Int) (last : Int) (front : Int) (back : Int) (wait : Int) (waiting : Int) (count : Int) (eq : Int) (bad : Bool) (b : List Int) : Option ron.R :=
  (obind (ron.loop0 N N back wait waiting eq bad b rng val last front count) fun r0 =>
   (chkL b b
   (chkI back back
   (chkI wait wait
   (chkI waiting waiting
   (chkB bad bad
   (chkI eq eq
   (some ((r0.fst, r0.snd.fst, r0.snd.snd.fst, r0.snd.snd.snd.fst, r0.snd.snd.snd.snd))))))))))
theorem ron.F_eq (N : Nat) (L : Eng.Leaves) : evSig (ron.C N) (ron.K N) 0 Try.f53 ron.sig L ron.dec = ron.F N (L.i 0) (L.i 1) (L.i 2) (L.i 3) (L.i 4) (L.i 5) (L.i 6) (L.i 7) (L.i 8) (L.b 0) (L.l 0) := by
  have h : ∀ (rng : Int) (val : Int) (last : Int) (front : Int) (back : Int) (wait : Int) (waiting : Int) (count : Int) (eq : Int) (bad : Bool) (b : List Int), evSig (ron.C N) (ron.K N) 0 Try.f53 ron.sig (mkL [rng, val, last, front, back, wait, waiting, count, eq] [bad] [b] []) ron.dec =
  (obind (ron.loop0R N N back wait waiting eq bad b rng val last front count) fun r0 =>
   (chkL b b
   (chkI back back
   (chkI wait wait
   (chkI waiting waiting
   (chkB bad bad
   (chkI eq eq
   (some ((r0.fst, r0.snd.fst, r0.snd.snd.fst, r0.snd.snd.snd.fst, r0.snd.snd.snd.snd)))))))))) := by
    intro rng val last front back wait waiting count eq bad b
    kernel_rfl
  have h2 : evSig (ron.C N) (ron.K N) 0 Try.f53 ron.sig L ron.dec = evSig (ron.C N) (ron.K N) 0 Try.f53 ron.sig (mkL [L.i 0, L.i 1, L.i 2, L.i 3, L.i 4, L.i 5, L.i 6, L.i 7, L.i 8] [L.b 0] [L.l 0] []) ron.dec := by kernel_rfl
  rw [h2, h, ron.F]
  try simp only [ron.loop0_eq N]
noncomputable def ron.spec : Eng.Spec := ron.sig.spec (fun N L => ron.F N (L.i 0) (L.i 1) (L.i 2) (L.i 3) (L.i 4) (L.i 5) (L.i 6) (L.i 7) (L.i 8) (L.b 0) (L.l 0)) ron.enc
theorem ron.cok (N : Nat) : CfgOK (ron.C N) := ⟨fun _ _ _ _ h => by simp [ron.C, noRT] at h, wide, by
  simp only [ron.C, List.mem_cons, List.not_mem_nil, or_false, forall_eq_or_imp, forall_eq, false_imp_iff, implies_true]
  exact ⟨rnext.ok, by kernel_rfl⟩, fun g hg => by simp [ron.C] at hg, fun m hm => by simp [ron.C] at hm, fun q hq => by simp [ron.C] at hq⟩
theorem ron.aok (N : Nat) : AnnsOK (ron.K N) := by
  intro q hq
  simp only [ron.K, List.mem_cons, List.not_mem_nil, or_false] at hq
  subst hq
  exact fun _ _ => ⟨rfl, rfl⟩
theorem ron.ok : CallOK Try.prog 53 ron.spec :=
  callOK_of_sig (fn := Try.f53) (Cf := ron.C) (K := ron.K) (d := 0) (dec := ron.dec) (by kernel_rfl) (fun _ => rfl) ron.cok (fun _ q hq => by simp [ron.C] at hq) ron.aok
   (fun N L r h => (ron.F_eq N L).trans h) (by kernel_rfl) (fun _ => ⟨rfl, rfl⟩) (fun _ _ => ⟨rfl, rfl⟩)
noncomputable def rchoose.sig : Eng.Sig := { args := [.at (.ptr 0 0), .at (.int .u64 0)], n := 1, pre := [(0, .cells 11 [.roi .u8 0, .int .u64 1, .int .u64 2, .int .i64 3, .int .i64 4, .int .i64 5, .int .u64 6, .int .i64 7, .int .i64 8, .bool 0, .int .u64 9])], post := [(0, .cells 11 [.froi .u8 0, .fint .u64 1, .fint .u64 2, .fint .i64 3, .fint .i64 4, .fint .i64 5, .fint .u64 6, .fint .i64 7, .fint .i64 8, .fbool 0, .int .u64 1])], m := 0, ret := .at (.int .u64 0) }
noncomputable def rchoose.C (N : Nat) : Cfg := { P := Try.prog, N := N, RT := noRT, specs := [], inl := [], hi := 1, mv := [] }
abbrev rchoose.R : Type := Int × Int
def rchoose.dec (L : Eng.Leaves) : rchoose.R := (L.i 0, L.i 1)
def rchoose.enc (r : rchoose.R) : Eng.Leaves := mkL [r.1, r.2] [] [] []
noncomputable def rchoose.K (N : Nat) : FCfg := { anns := [], unr := [], lits := [], lets := [] }
noncomputable def rchoose.F (N : Nat) (ft : Int) (rng : Int) (val : Int) (last : Int) (front : Int) (back : Int) (wait : Int) (waiting : Int) (count : Int) (eq : Int) (bad : Bool) (b : List Int) : Option rchoose.R :=
  (chk (ft ≠ (0 : Int))
   (chk (IntKind.u64.wrap (rng.tdiv ft) ≠ (0 : Int))
   (br (decide (IntKind.u64.wrap (IntKind.u64.wrap (val.tdiv (IntKind.u64.wrap (rng.tdiv ft))) + (1 : Int)) > ft))
   (chkL b b
   (chkI rng rng
   (chkI val val
   (chkI last last
   (chkI front front
   (chkI back back
   (chkI wait wait
   (chkI waiting waiting
   (chkI count count
   (chkB bad bad
   (some ((IntKind.u64.wrap (ft - ft), IntKind.u64.wrap (rng.tdiv ft))))))))))))))
   (chkL b b
   (chkI rng rng
   (chkI val val
   (chkI last last
   (chkI front front
   (chkI back back
   (chkI wait wait
   (chkI waiting waiting
   (chkI count count
   (chkB bad bad
   (some ((IntKind.u64.wrap (ft - IntKind.u64.wrap (IntKind.u64.wrap (val.tdiv (IntKind.u64.wrap (rng.tdiv ft))) + (1 : Int))), IntKind.u64.wrap (rng.tdiv ft)))))))))))))))))
theorem rchoose.F_eq (N : Nat) (L : Eng.Leaves) : evSig (rchoose.C N) (rchoose.K N) 0 Try.f79 rchoose.sig L rchoose.dec = rchoose.F N (L.i 0) (L.i 1) (L.i 2) (L.i 3) (L.i 4) (L.i 5) (L.i 6) (L.i 7) (L.i 8) (L.i 9) (L.b 0) (L.l 0) := by
  kernel_rfl
noncomputable def rchoose.spec : Eng.Spec := rchoose.sig.spec (fun N L => rchoose.F N (L.i 0) (L.i 1) (L.i 2) (L.i 3) (L.i 4) (L.i 5) (L.i 6) (L.i 7) (L.i 8) (L.i 9) (L.b 0) (L.l 0)) rchoose.enc
theorem rchoose.cok (N : Nat) : CfgOK (rchoose.C N) := ⟨fun _ _ _ _ h => by simp [rchoose.C, noRT] at h, wide, by
  simp only [rchoose.C, List.mem_cons, List.not_mem_nil, or_false, forall_eq_or_imp, forall_eq, false_imp_iff, implies_true], fun g hg => by simp [rchoose.C] at hg, fun m hm => by simp [rchoose.C] at hm, fun q hq => by simp [rchoose.C] at hq⟩
theorem rchoose.aok (N : Nat) : AnnsOK (rchoose.K N) := by
  intro q hq
  simp only [rchoose.K, List.mem_cons, List.not_mem_nil, or_false] at hq
theorem rchoose.ok : CallOK Try.prog 79 rchoose.spec :=
  callOK_of_sig (fn := Try.f79) (Cf := rchoose.C) (K := rchoose.K) (d := 0) (dec := rchoose.dec) (by kernel_rfl) (fun _ => rfl) rchoose.cok (fun _ q hq => by simp [rchoose.C] at hq) rchoose.aok
   (fun N L r h => (rchoose.F_eq N L).trans h) (by kernel_rfl) (fun _ => ⟨rfl, rfl⟩) (fun _ _ => ⟨rfl, rfl⟩)
noncomputable def rtake.sig : Eng.Sig := { args := [.at (.ptr 0 0), .at (.int .u64 0), .at (.int .u64 1), .at (.int .u64 2)], n := 1, pre := [(0, .cells 11 [.roi .u8 0, .int .u64 3, .int .u64 4, .int .i64 5, .int .i64 6, .int .i64 7, .int .u64 8, .int .i64 9, .int .i64 10, .bool 0, .int .u64 11])], post := [(0, .cells 11 [.froi .u8 0, .int .u64 0, .int .u64 1, .int .i64 2, .int .i64 3, .fint .i64 7, .fint .u64 8, .fint .i64 9, .int .i64 4, .fbool 0, .fint .u64 11])], m := 0, ret := .at (.unk) }
noncomputable def rtake.C (N : Nat) : Cfg := { P := Try.prog, N := N, RT := noRT, specs := [(53, ron.spec)], inl := [], hi := 1, mv := [] }
abbrev rtake.R : Type := Int × Int × Int × Int × Int
def rtake.dec (L : Eng.Leaves) : rtake.R := (L.i 0, L.i 1, L.i 2, L.i 3, L.i 4)
def rtake.enc (r : rtake.R) : Eng.Leaves := mkL [r.1, r.2.1, r.2.2.1, r.2.2.2.1, r.2.2.2.2] [] [] []
noncomputable def rtake.K (N : Nat) : FCfg := { anns := [], unr := [], lits := [], lets := [] }
noncomputable def rtake.F (N : Nat) (fl : Int) (fh : Int) (ft : Int) (rng : Int) (val : Int) (last : Int) (front : Int) (back : Int) (wait : Int) (waiting : Int) (count : Int) (eq : Int) (bad : Bool) (b : List Int) : Option rtake.R :=
  (br (decide (fl > (0 : Int)))
   (obind (Rc.ron.F N (IntKind.u64.wrap (eq * IntKind.u64.wrap (fh - fl))) (IntKind.u64.wrap (val - IntKind.u64.wrap (eq * IntKind.u64.wrap (ft - fh)))) last front back wait waiting count eq bad b) fun r0 =>
   (chkL b b
   (chkI back back
   (chkI wait wait
   (chkI waiting waiting
   (chkB bad bad
   (chkI eq eq
   (some ((r0.fst, r0.snd.fst, r0.snd.snd.fst, r0.snd.snd.snd.fst, r0.snd.snd.snd.snd))))))))))
   (obind (Rc.ron.F N (IntKind.u64.wrap (rng - IntKind.u64.wrap (eq * IntKind.u64.wrap (ft - fh)))) (IntKind.u64.wrap (val - IntKind.u64.wrap (eq * IntKind.u64.wrap (ft - fh)))) last front back wait waiting count eq bad b) fun r1 =>
   (chkL b b
   (chkI back back
   (chkI wait wait
   (chkI waiting waiting
   (chkB bad bad
   (chkI eq eq
   (some ((r1.fst, r1.snd.fst, r1.snd.snd.fst, r1.snd.snd.snd.fst, r1.snd.snd.snd.snd)))))))))))
theorem rtake.F_eq (N : Nat) (L : Eng.Leaves) : evSig (rtake.C N) (rtake.K N) 0 Try.f80 rtake.sig L rtake.dec = rtake.F N (L.i 0) (L.i 1) (L.i 2) (L.i 3) (L.i 4) (L.i 5) (L.i 6) (L.i 7) (L.i 8) (L.i 9) (L.i 10) (L.i 11) (L.b 0) (L.l 0) := by
  kernel_rfl
noncomputable def rtake.spec : Eng.Spec := rtake.sig.spec (fun N L => rtake.F N (L.i 0) (L.i 1) (L.i 2) (L.i 3) (L.i 4) (L.i 5) (L.i 6) (L.i 7) (L.i 8) (L.i 9) (L.i 10) (L.i 11) (L.b 0) (L.l 0)) rtake.enc
theorem rtake.cok (N : Nat) : CfgOK (rtake.C N) := ⟨fun _ _ _ _ h => by simp [rtake.C, noRT] at h, wide, by
  simp only [rtake.C, List.mem_cons, List.not_mem_nil, or_false, forall_eq_or_imp, forall_eq, false_imp_iff, implies_true]
  exact ⟨ron.ok, by kernel_rfl⟩, fun g hg => by simp [rtake.C] at hg, fun m hm => by simp [rtake.C] at hm, fun q hq => by simp [rtake.C] at hq⟩
theorem rtake.aok (N : Nat) : AnnsOK (rtake.K N) := by
  intro q hq
  simp only [rtake.K, List.mem_cons, List.not_mem_nil, or_false] at hq
theorem rtake.ok : CallOK Try.prog 80 rtake.spec :=
  callOK_of_sig (fn := Try.f80) (Cf := rtake.C) (K := rtake.K) (d := 0) (dec := rtake.dec) (by kernel_rfl) (fun _ => rfl) rtake.cok (fun _ q hq => by simp [rtake.C] at hq) rtake.aok
   (fun N L r h => (rtake.F_eq N L).trans h) (by kernel_rfl) (fun _ => ⟨rfl, rfl⟩) (fun _ _ => ⟨rfl, rfl⟩)
noncomputable def rlen.sig : Eng.Sig := { args := [.at (.int .i64 0)], n := 0, pre := [], post := [], m := 0, ret := .at (.int .i64 0) }
noncomputable def rlen.C (N : Nat) : Cfg := { P := Try.prog, N := N, RT := noRT, specs := [], inl := [], hi := 0, mv := [] }
abbrev rlen.R : Type := Int
def rlen.dec (L : Eng.Leaves) : rlen.R := (L.i 0)
def rlen.enc (r : rlen.R) : Eng.Leaves := mkL [r] [] [] []
abbrev rlen.loop2.R : Type := Int
noncomputable def rlen.loop2.ann : Ann := { nx := 20, slots := [(0, .at (.int .i64 0)), (3, .at (.int .i64 1))], blks := [], mov := [], exId := 0, xslots := [(3, .at (.int .i64 0))], xblks := [], T := rlen.loop2.R, dec := fun L => (L.i 0), enc := fun r => mkL [r] [] [] [], ret := false }
noncomputable def rlen.K (N : Nat) : FCfg := { anns := [(2, rlen.loop2.ann)], unr := [], lits := [], lets := [] }
noncomputable def rlen.loop2 (N : Nat) : Nat → Int → Int → Option rlen.loop2.R
  | 0, _, _ => none
  | nn + 1, a, n =>
  (br (decide (a > (0 : Int)))
   (rlen.loop2 N nn (IntKind.i64.wrap (a.tdiv (2 : Int))) (IntKind.i64.wrap (n + (1 : Int))))
   (some n))
noncomputable def rlen.loop2R (N nn : Nat) (a : Int) (n : Int) : Option rlen.loop2.R := loopF rlen.loop2.ann (mkL [] [] [] []) (evCode ((rlen.C N).inLoop rlen.loop2.ann) (rlen.K N) (inlTab (rlen.C N) 0) (bodyAt 2 Try.f61)) nn (mkL [a, n] [] [] [])
theorem rlen.loop2_eq (N : Nat) : ∀ (nn : Nat) (a : Int) (n : Int), rlen.loop2R N nn a n = rlen.loop2 N nn a n
  | 0, _, _ => by kernel_rfl
  | nn + 1, a, n => by
    have h : rlen.loop2R N (nn + 1) a n =
  (br (decide (a > (0 : Int)))
   (rlen.loop2R N nn (IntKind.i64.wrap (a.tdiv (2 : Int))) (IntKind.i64.wrap (n + (1 : Int))))
   (some n)) := by kernel_rfl
    rw [h, rlen.loop2]
    try simp only [rlen.loop2_eq N nn]
noncomputable def rlen.F (N : Nat) (a : Int) : Option rlen.R :=
  (obind (rlen.loop2 N N a ((0 : Int))) fun r0 =>
   (some r0))
theorem rlen.F_eq (N : Nat) (L : Eng.Leaves) : evSig (rlen.C N) (rlen.K N) 0 Try.f61 rlen.sig L rlen.dec = rlen.F N (L.i 0) := by
  have h : ∀ (a : Int), evSig (rlen.C N) (rlen.K N) 0 Try.f61 rlen.sig (mkL [a] [] [] []) rlen.dec =
  (obind (rlen.loop2R N N a ((0 : Int))) fun r0 =>
   (some r0)) := by
    intro a
    kernel_rfl
  have h2 : evSig (rlen.C N) (rlen.K N) 0 Try.f61 rlen.sig L rlen.dec = evSig (rlen.C N) (rlen.K N) 0 Try.f61 rlen.sig (mkL [L.i 0] [] [] []) rlen.dec := by kernel_rfl
  rw [h2, h, rlen.F]
  try simp only [rlen.loop2_eq N]
noncomputable def rlen.spec : Eng.Spec := rlen.sig.spec (fun N L => rlen.F N (L.i 0)) rlen.enc
theorem rlen.cok (N : Nat) : CfgOK (rlen.C N) := ⟨fun _ _ _ _ h => by simp [rlen.C, noRT] at h, wide, by
  simp only [rlen.C, List.mem_cons, List.not_mem_nil, or_false, forall_eq_or_imp, forall_eq, false_imp_iff, implies_true], fun g hg => by simp [rlen.C] at hg, fun m hm => by simp [rlen.C] at hm, fun q hq => by simp [rlen.C] at hq⟩
theorem rlen.aok (N : Nat) : AnnsOK (rlen.K N) := by
  intro q hq
  simp only [rlen.K, List.mem_cons, List.not_mem_nil, or_false] at hq
  subst hq
  exact fun _ _ => ⟨rfl, rfl⟩
theorem rlen.ok : CallOK Try.prog 61 rlen.spec :=
  callOK_of_sig (fn := Try.f61) (Cf := rlen.C) (K := rlen.K) (d := 0) (dec := rlen.dec) (by kernel_rfl) (fun _ => rfl) rlen.cok (fun _ q hq => by simp [rlen.C] at hq) rlen.aok
   (fun N L r h => (rlen.F_eq N L).trans h) (by kernel_rfl) (fun _ => ⟨rfl, rfl⟩) (fun _ _ => ⟨rfl, rfl⟩)
noncomputable def rbits.sig : Eng.Sig := { args := [.at (.ptr 0 0), .at (.int .i64 0)], n := 1, pre := [(0, .cells 11 [.roi .u8 0, .int .u64 1, .int .u64 2, .int .i64 3, .int .i64 4, .int .i64 5, .int .u64 6, .int .i64 7, .int .i64 8, .bool 0, .int .u64 9])], post := [(0, .cells 11 [.froi .u8 0, .fint .u64 1, .fint .u64 2, .fint .i64 3, .fint .i64 4, .int .i64 1, .int .u64 2, .int .i64 3, .int .i64 4, .fbool 0, .fint .u64 9])], m := 0, ret := .at (.int .i64 0) }
noncomputable def rbits.C (N : Nat) : Cfg := { P := Try.prog, N := N, RT := noRT, specs := [], inl := [], hi := 1, mv := [] }
abbrev rbits.R : Type := Int × Int × Int × Int × Int
def rbits.dec (L : Eng.Leaves) : rbits.R := (L.i 0, L.i 1, L.i 2, L.i 3, L.i 4)
def rbits.enc (r : rbits.R) : Eng.Leaves := mkL [r.1, r.2.1, r.2.2.1, r.2.2.2.1, r.2.2.2.2] [] [] []
abbrev rbits.loop3.R : Type := Int × Int × Int
noncomputable def rbits.loop3.ann : Ann := { nx := 20, slots := [(0, .at (.ptr 0 0)), (1, .at (.fint .i64 0))], blks := [(0, .cells 11 [.froi .u8 0, .fint .u64 1, .fint .u64 2, .fint .i64 3, .fint .i64 4, .int .i64 0, .int .u64 1, .int .i64 2, .fint .i64 5, .fbool 0, .fint .u64 6])], mov := [], exId := 0, xslots := [(0, .at (.ptr 0 0))], xblks := [(0, .cells 11 [.froi .u8 0, .fint .u64 1, .fint .u64 2, .fint .i64 3, .fint .i64 4, .int .i64 0, .int .u64 1, .int .i64 2, .fint .i64 5, .fbool 0, .fint .u64 6])], T := rbits.loop3.R, dec := fun L => (L.i 0, L.i 1, L.i 2), enc := fun r => mkL [r.1, r.2.1, r.2.2] [] [] [], ret := false }
noncomputable def rbits.K (N : Nat) : FCfg := { anns := [(3, rbits.loop3.ann)], unr := [], lits := [], lets := [] }
noncomputable def rbits.loop3 (N : Nat) : Nat → Int → Int → Int → Int → Int → Int → Int → Bool → List Int → Int → Int → Int → Option rbits.loop3.R
  | 0, _, _, _, _, _, _, _, _, _, _, _, _ => none
  | nn + 1, n, rng, val, last, front, count, eq, bad, b, back, wait, waiting =>
  (br (decide (waiting < n))
   (br (decide (back < ↑b.length))
   (chk ((0 : Int) ≤ IntKind.i64.wrap (↑b.length - IntKind.i64.wrap (back + (1 : Int))) ∧ IntKind.i64.wrap (↑b.length - IntKind.i64.wrap (back + (1 : Int))) < ↑b.length)
   (chk ((0 : Int) ≤ IntKind.u64.wrap waiting)
   (chkI n n
   (chkL b b
   (chkI rng rng
   (chkI val val
   (chkI last last
   (chkI front front
   (chkI count count
   (chkB bad bad
   (chkI eq eq
   (rbits.loop3 N nn n rng val last front count eq bad b (IntKind.i64.wrap (back + (1 : Int))) (IntKind.u64.wrap ↑(BitVec.ofInt IntKind.u64.bits wait ||| BitVec.ofInt IntKind.u64.bits (IntKind.u64.wrap (IntKind.u64.wrap (b.getD (IntKind.i64.wrap (↑b.length - IntKind.i64.wrap (back + (1 : Int)))).toNat (0 : Int)) * (2 : Int) ^ min (IntKind.u64.wrap waiting).toNat IntKind.u64.bits))).toNat) (IntKind.i64.wrap (waiting + (8 : Int)))))))))))))))
   (chk ((0 : Int) ≤ IntKind.u64.wrap waiting)
   (chkI n n
   (chkL b b
   (chkI rng rng
   (chkI val val
   (chkI last last
   (chkI front front
   (chkI count count
   (chkB bad bad
   (chkI eq eq
   (rbits.loop3 N nn n rng val last front count eq bad b back (IntKind.u64.wrap ↑(BitVec.ofInt IntKind.u64.bits wait ||| BitVec.ofInt IntKind.u64.bits (IntKind.u64.wrap ((0 : Int) * (2 : Int) ^ min (IntKind.u64.wrap waiting).toNat IntKind.u64.bits))).toNat) (IntKind.i64.wrap (waiting + (8 : Int)))))))))))))))
   (chkL b b
   (chkI rng rng
   (chkI val val
   (chkI last last
   (chkI front front
   (chkI count count
   (chkB bad bad
   (chkI eq eq
   (some ((back, wait, waiting))))))))))))
noncomputable def rbits.loop3R (N nn : Nat) (n : Int) (rng : Int) (val : Int) (last : Int) (front : Int) (count : Int) (eq : Int) (bad : Bool) (b : List Int) (back : Int) (wait : Int) (waiting : Int) : Option rbits.loop3.R := loopF rbits.loop3.ann (mkL [n, rng, val, last, front, count, eq] [bad] [b] []) (evCode ((rbits.C N).inLoop rbits.loop3.ann) (rbits.K N) (inlTab (rbits.C N) 0) (bodyAt 3 Try.f81)) nn (mkL [back, wait, waiting] [] [] [])
theorem rbits.loop3_eq (N : Nat) : ∀ (nn : Nat) (n : Int) (rng : Int) (val : Int) (last : Int) (front : Int) (count : Int) (eq : Int) (bad : Bool) (b : List Int) (back : Int) (wait : Int) (waiting : Int), rbits.loop3R N nn n rng val last front count eq bad b back wait waiting = rbits.loop3 N nn n rng val last front count eq bad b back wait waiting
  | 0, _, _, _, _, _, _, _, _, _, _, _, _ => by kernel_rfl
  | nn + 1, n, rng, val, last, front, count, eq, bad, b, back, wait, waiting => by
    have h : rbits.loop3R N (nn + 1) n rng val last front count eq bad b back wait waiting =
  (br (decide (waiting < n))
   (br (decide (back < ↑b.length))
   (chk ((0 : Int) ≤ IntKind.i64.wrap (↑b.length - IntKind.i64.wrap (back + (1 : Int))) ∧ IntKind.i64.wrap (↑b.length - IntKind.i64.wrap (back + (1 : Int))) < ↑b.length)
   (chk ((0 : Int) ≤ IntKind.u64.wrap waiting)
   (chkI n n
   (chkL b b
   (chkI rng rng
   (chkI val val
   (chkI last last
   (chkI front front
   (chkI count count
   (chkB bad bad
   (chkI eq eq
   (rbits.loop3R N nn n rng val last front count eq bad b (IntKind.i64.wrap (back + (1 : Int))) (IntKind.u64.wrap ↑(BitVec.ofInt IntKind.u64.bits wait ||| BitVec.ofInt IntKind.u64.bits (IntKind.u64.wrap (IntKind.u64.wrap (b.getD (IntKind.i64.wrap (↑b.length - IntKind.i64.wrap (back + (1 : Int)))).toNat (0 : Int)) * (2 : Int) ^ min (IntKind.u64.wrap waiting).toNat IntKind.u64.bits))).toNat) (IntKind.i64.wrap (waiting + (8 : Int)))))))))))))))
   (chk ((0 : Int) ≤ IntKind.u64.wrap waiting)
   (chkI n n
   (chkL b b
   (chkI rng rng
   (chkI val val
   (chkI last last
   (chkI front front
   (chkI count count
   (chkB bad bad
   (chkI eq eq
   (rbits.loop3R N nn n rng val last front count eq bad b back (IntKind.u64.wrap ↑(BitVec.ofInt IntKind.u64.bits wait ||| BitVec.ofInt IntKind.u64.bits (IntKind.u64.wrap ((0 : Int) * (2 : Int) ^ min (IntKind.u64.wrap waiting).toNat IntKind.u64.bits))).toNat) (IntKind.i64.wrap (waiting + (8 : Int)))))))))))))))
   (chkL b b
   (chkI rng rng
   (chkI val val
   (chkI last last
   (chkI front front
   (chkI count count
   (chkB bad bad
   (chkI eq eq
   (some ((back, wait, waiting)))))))))))) := by kernel_rfl
    rw [h, rbits.loop3]
    try simp only [rbits.loop3_eq N nn]
noncomputable def rbits.F (N : Nat) (n : Int) (rng : Int) (val : Int) (last : Int) (front : Int) (back : Int) (wait : Int) (waiting : Int) (count : Int) (eq : Int) (bad : Bool) (b : List Int) : Option rbits.R :=
  (br (decide (n < (0 : Int)))
   (chkL b b
   (chkI rng rng
   (chkI val val
   (chkI last last
   (chkI front front
   (chkB bad bad
   (chkI eq eq
   (some (((0 : Int), back, wait, waiting, count))))))))))
   (br (decide (n > (24 : Int)))
   (chkL b b
   (chkI rng rng
   (chkI val val
   (chkI last last
   (chkI front front
   (chkB bad bad
   (chkI eq eq
   (some (((0 : Int), back, wait, waiting, count))))))))))
   (obind (rbits.loop3 N N n rng val last front count eq bad b back wait waiting) fun r0 =>
   (chk ((0 : Int) ≤ IntKind.u64.wrap n)
   (chk ((0 : Int) ≤ IntKind.u64.wrap n)
   (chkL b b
   (chkI rng rng
   (chkI val val
   (chkI last last
   (chkI front front
   (chkB bad bad
   (chkI eq eq
   (some ((IntKind.i64.wrap (IntKind.u64.wrap ↑(BitVec.ofInt IntKind.u64.bits r0.snd.fst &&& BitVec.ofInt IntKind.u64.bits (IntKind.u64.wrap (IntKind.u64.wrap ((1 : Int) * (2 : Int) ^ min (IntKind.u64.wrap n).toNat IntKind.u64.bits) - (1 : Int)))).toNat), r0.fst, r0.snd.fst.fdiv ((2 : Int) ^ min (IntKind.u64.wrap n).toNat IntKind.u64.bits), IntKind.i64.wrap (r0.snd.snd - n), IntKind.i64.wrap (count + n))))))))))))))))
theorem rbits.F_eq (N : Nat) (L : Eng.Leaves) : evSig (rbits.C N) (rbits.K N) 0 Try.f81 rbits.sig L rbits.dec = rbits.F N (L.i 0) (L.i 1) (L.i 2) (L.i 3) (L.i 4) (L.i 5) (L.i 6) (L.i 7) (L.i 8) (L.i 9) (L.b 0) (L.l 0) := by
  have h : ∀ (n : Int) (rng : Int) (val : Int) (last : Int) (front : Int) (back : Int) (wait : Int) (waiting : Int) (count : Int) (eq : Int) (bad : Bool) (b : List Int), evSig (rbits.C N) (rbits.K N) 0 Try.f81 rbits.sig (mkL [n, rng, val, last, front, back, wait, waiting, count, eq] [bad] [b] []) rbits.dec =
  (br (decide (n < (0 : Int)))
   (chkL b b
   (chkI rng rng
   (chkI val val
   (chkI last last
   (chkI front front
   (chkB bad bad
   (chkI eq eq
   (some (((0 : Int), back, wait, waiting, count))))))))))
   (br (decide (n > (24 : Int)))
   (chkL b b
   (chkI rng rng
   (chkI val val
   (chkI last last
   (chkI front front
   (chkB bad bad
   (chkI eq eq
   (some (((0 : Int), back, wait, waiting, count))))))))))
   (obind (rbits.loop3R N N n rng val last front count eq bad b back wait waiting) fun r0 =>
   (chk ((0 : Int) ≤ IntKind.u64.wrap n)
   (chk ((0 : Int) ≤ IntKind.u64.wrap n)
   (chkL b b
   (chkI rng rng
   (chkI val val
   (chkI last last
   (chkI front front
   (chkB bad bad
   (chkI eq eq
   (some ((IntKind.i64.wrap (IntKind.u64.wrap ↑(BitVec.ofInt IntKind.u64.bits r0.snd.fst &&& BitVec.ofInt IntKind.u64.bits (IntKind.u64.wrap (IntKind.u64.wrap ((1 : Int) * (2 : Int) ^ min (IntKind.u64.wrap n).toNat IntKind.u64.bits) - (1 : Int)))).toNat), r0.fst, r0.snd.fst.fdiv ((2 : Int) ^ min (IntKind.u64.wrap n).toNat IntKind.u64.bits), IntKind.i64.wrap (r0.snd.snd - n), IntKind.i64.wrap (count + n)))))))))))))))) := by
    intro n rng val last front back wait waiting count eq bad b
    kernel_rfl
  have h2 : evSig (rbits.C N) (rbits.K N) 0 Try.f81 rbits.sig L rbits.dec = evSig (rbits.C N) (rbits.K N) 0 Try.f81 rbits.sig (mkL [L.i 0, L.i 1, L.i 2, L.i 3, L.i 4, L.i 5, L.i 6, L.i 7, L.i 8, L.i 9] [L.b 0] [L.l 0] []) rbits.dec := by kernel_rfl
  rw [h2, h, rbits.F]
  try simp only [rbits.loop3_eq N]
noncomputable def rbits.spec : Eng.Spec := rbits.sig.spec (fun N L => rbits.F N (L.i 0) (L.i 1) (L.i 2) (L.i 3) (L.i 4) (L.i 5) (L.i 6) (L.i 7) (L.i 8) (L.i 9) (L.b 0) (L.l 0)) rbits.enc
theorem rbits.cok (N : Nat) : CfgOK (rbits.C N) := ⟨fun _ _ _ _ h => by simp [rbits.C, noRT] at h, wide, by
  simp only [rbits.C, List.mem_cons, List.not_mem_nil, or_false, forall_eq_or_imp, forall_eq, false_imp_iff, implies_true], fun g hg => by simp [rbits.C] at hg, fun m hm => by simp [rbits.C] at hm, fun q hq => by simp [rbits.C] at hq⟩
theorem rbits.aok (N : Nat) : AnnsOK (rbits.K N) := by
  intro q hq
  simp only [rbits.K, List.mem_cons, List.not_mem_nil, or_false] at hq
  subst hq
  exact fun _ _ => ⟨rfl, rfl⟩
theorem rbits.ok : CallOK Try.prog 81 rbits.spec :=
  callOK_of_sig (fn := Try.f81) (Cf := rbits.C) (K := rbits.K) (d := 0) (dec := rbits.dec) (by kernel_rfl) (fun _ => rfl) rbits.cok (fun _ q hq => by simp [rbits.C] at hq) rbits.aok
   (fun N L r h => (rbits.F_eq N L).trans h) (by kernel_rfl) (fun _ => ⟨rfl, rfl⟩) (fun _ _ => ⟨rfl, rfl⟩)
noncomputable def ruint.sig : Eng.Sig := { args := [.at (.ptr 0 0), .at (.int .i64 0)], n := 1, pre := [(0, .cells 11 [.roi .u8 0, .int .u64 1, .int .u64 2, .int .i64 3, .int .i64 4, .int .i64 5, .int .u64 6, .int .i64 7, .int .i64 8, .bool 0, .int .u64 9])], post := [(0, .cells 11 [.froi .u8 0, .int .u64 1, .int .u64 2, .int .i64 3, .int .i64 4, .int .i64 5, .int .u64 6, .int .i64 7, .int .i64 8, .bool 0, .int .u64 9])], m := 0, ret := .at (.int .i64 0) }
noncomputable def ruint.C (N : Nat) : Cfg := { P := Try.prog, N := N, RT := noRT, specs := [(79, rchoose.spec), (80, rtake.spec), (61, rlen.spec), (81, rbits.spec)], inl := [], hi := 1, mv := [] }
abbrev ruint.R : Type := Int × Int × Int × Int × Int × Int × Int × Int × Int × Int × Bool
def ruint.dec (L : Eng.Leaves) : ruint.R := (L.i 0, L.i 1, L.i 2, L.i 3, L.i 4, L.i 5, L.i 6, L.i 7, L.i 8, L.i 9, L.b 0)
def ruint.enc (r : ruint.R) : Eng.Leaves := mkL [r.1, r.2.1, r.2.2.1, r.2.2.2.1, r.2.2.2.2.1, r.2.2.2.2.2.1, r.2.2.2.2.2.2.1, r.2.2.2.2.2.2.2.1, r.2.2.2.2.2.2.2.2.1, r.2.2.2.2.2.2.2.2.2.1] [r.2.2.2.2.2.2.2.2.2.2] [] []
noncomputable def ruint.K (N : Nat) : FCfg := { anns := [], unr := [], lits := [], lets := [] }
noncomputable def ruint.F (N : Nat) (ft : Int) (rng : Int) (val : Int) (last : Int) (front : Int) (back : Int) (wait : Int) (waiting : Int) (count : Int) (eq : Int) (bad : Bool) (b : List Int) : Option ruint.R :=
  (br (decide (ft < (1 : Int)))
   (chkL b b
   (some (((0 : Int), rng, val, last, front, back, wait, waiting, count, eq, bad))))
   (br (decide (ft > (4294967295 : Int)))
   (chkL b b
   (some (((0 : Int), rng, val, last, front, back, wait, waiting, count, eq, bad))))
   (br (ft == (1 : Int))
   (chkL b b
   (some (((0 : Int), rng, val, last, front, back, wait, waiting, count, eq, bad))))
   (br (decide (ft ≤ (256 : Int)))
   (obind (Rc.rchoose.F N (IntKind.u64.wrap ft) rng val last front back wait waiting count eq bad b) fun r0 =>
   (obind (Rc.rtake.F N r0.fst (IntKind.u64.wrap (r0.fst + (1 : Int))) (IntKind.u64.wrap ft) rng val last front back wait waiting count r0.snd bad b) fun r1 =>
   (chkL b b
   (some ((IntKind.i64.wrap r0.fst, r1.fst, r1.snd.fst, r1.snd.snd.fst, r1.snd.snd.snd.fst, back, wait, waiting, r1.snd.snd.snd.snd, r0.snd, bad))))))
   (obind (Rc.rlen.F N (IntKind.i64.wrap (ft - (1 : Int)))) fun r2 =>
   (chk ((0 : Int) ≤ IntKind.u64.wrap (IntKind.i64.wrap (r2 - (8 : Int))))
   (obind (Rc.rchoose.F N (IntKind.u64.wrap (IntKind.i64.wrap ((IntKind.i64.wrap (ft - (1 : Int))).fdiv ((2 : Int) ^ min (IntKind.u64.wrap (IntKind.i64.wrap (r2 - (8 : Int)))).toNat IntKind.i64.bits) + (1 : Int)))) rng val last front back wait waiting count eq bad b) fun r3 =>
   (obind (Rc.rtake.F N r3.fst (IntKind.u64.wrap (r3.fst + (1 : Int))) (IntKind.u64.wrap (IntKind.i64.wrap ((IntKind.i64.wrap (ft - (1 : Int))).fdiv ((2 : Int) ^ min (IntKind.u64.wrap (IntKind.i64.wrap (r2 - (8 : Int)))).toNat IntKind.i64.bits) + (1 : Int)))) rng val last front back wait waiting count r3.snd bad b) fun r4 =>
   (chk ((0 : Int) ≤ IntKind.u64.wrap (IntKind.i64.wrap (r2 - (8 : Int))))
   (obind (Rc.rbits.F N (IntKind.i64.wrap (r2 - (8 : Int))) r4.fst r4.snd.fst r4.snd.snd.fst r4.snd.snd.snd.fst back wait waiting r4.snd.snd.snd.snd r3.snd bad b) fun r5 =>
   (br (decide (IntKind.i64.wrap ↑(BitVec.ofInt IntKind.i64.bits (IntKind.i64.wrap (IntKind.i64.wrap r3.fst * (2 : Int) ^ min (IntKind.u64.wrap (IntKind.i64.wrap (r2 - (8 : Int)))).toNat IntKind.i64.bits)) ||| BitVec.ofInt IntKind.i64.bits r5.fst).toNat ≥ ft))
   (chkL b b
   (some ((IntKind.i64.wrap (ft - (1 : Int)), r4.fst, r4.snd.fst, r4.snd.snd.fst, r4.snd.snd.snd.fst, r5.snd.fst, r5.snd.snd.fst, r5.snd.snd.snd.fst, r5.snd.snd.snd.snd, r3.snd, true))))
   (chkL b b
   (some ((IntKind.i64.wrap ↑(BitVec.ofInt IntKind.i64.bits (IntKind.i64.wrap (IntKind.i64.wrap r3.fst * (2 : Int) ^ min (IntKind.u64.wrap (IntKind.i64.wrap (r2 - (8 : Int)))).toNat IntKind.i64.bits)) ||| BitVec.ofInt IntKind.i64.bits r5.fst).toNat, r4.fst, r4.snd.fst, r4.snd.snd.fst, r4.snd.snd.snd.fst, r5.snd.fst, r5.snd.snd.fst, r5.snd.snd.snd.fst, r5.snd.snd.snd.snd, r3.snd, bad)))))))))))))))
theorem ruint.F_eq (N : Nat) (L : Eng.Leaves) : evSig (ruint.C N) (ruint.K N) 0 Try.f59 ruint.sig L ruint.dec = ruint.F N (L.i 0) (L.i 1) (L.i 2) (L.i 3) (L.i 4) (L.i 5) (L.i 6) (L.i 7) (L.i 8) (L.i 9) (L.b 0) (L.l 0) := by
  kernel_rfl
noncomputable def ruint.spec : Eng.Spec := ruint.sig.spec (fun N L => ruint.F N (L.i 0) (L.i 1) (L.i 2) (L.i 3) (L.i 4) (L.i 5) (L.i 6) (L.i 7) (L.i 8) (L.i 9) (L.b 0) (L.l 0)) ruint.enc
theorem ruint.cok (N : Nat) : CfgOK (ruint.C N) := ⟨fun _ _ _ _ h => by simp [ruint.C, noRT] at h, wide, by
  simp only [ruint.C, List.mem_cons, List.not_mem_nil, or_false, forall_eq_or_imp, forall_eq, false_imp_iff, implies_true]
  exact ⟨⟨rchoose.ok, by kernel_rfl⟩, ⟨rtake.ok, by kernel_rfl⟩, ⟨rlen.ok, by kernel_rfl⟩, ⟨rbits.ok, by kernel_rfl⟩⟩, fun g hg => by simp [ruint.C] at hg, fun m hm => by simp [ruint.C] at hm, fun q hq => by simp [ruint.C] at hq⟩
theorem ruint.aok (N : Nat) : AnnsOK (ruint.K N) := by
  intro q hq
  simp only [ruint.K, List.mem_cons, List.not_mem_nil, or_false] at hq
theorem ruint.ok : CallOK Try.prog 59 ruint.spec :=
  callOK_of_sig (fn := Try.f59) (Cf := ruint.C) (K := ruint.K) (d := 0) (dec := ruint.dec) (by kernel_rfl) (fun _ => rfl) ruint.cok (fun _ q hq => by simp [ruint.C] at hq) ruint.aok
   (fun N L r h => (ruint.F_eq N L).trans h) (by kernel_rfl) (fun _ => ⟨rfl, rfl⟩) (fun _ _ => ⟨rfl, rfl⟩)
noncomputable def rtell.sig : Eng.Sig := { args := [.at (.ptr 0 0)], n := 1, pre := [(0, .cells 11 [.roi .u8 0, .int .u64 0, .int .u64 1, .int .i64 2, .int .i64 3, .int .i64 4, .int .u64 5, .int .i64 6, .int .i64 7, .bool 0, .int .u64 8])], post := [(0, .cells 11 [.froi .u8 0, .fint .u64 0, .fint .u64 1, .fint .i64 2, .fint .i64 3, .fint .i64 4, .fint .u64 5, .fint .i64 6, .fint .i64 7, .fbool 0, .fint .u64 8])], m := 0, ret := .at (.int .i64 0) }
noncomputable def rtell.C (N : Nat) : Cfg := { P := Try.prog, N := N, RT := noRT, specs := [(61, rlen.spec)], inl := [], hi := 1, mv := [] }
abbrev rtell.R : Type := Int
def rtell.dec (L : Eng.Leaves) : rtell.R := (L.i 0)
def rtell.enc (r : rtell.R) : Eng.Leaves := mkL [r] [] [] []
noncomputable def rtell.K (N : Nat) : FCfg := { anns := [], unr := [], lits := [], lets := [] }
noncomputable def rtell.F (N : Nat) (rng : Int) (val : Int) (last : Int) (front : Int) (back : Int) (wait : Int) (waiting : Int) (count : Int) (eq : Int) (bad : Bool) (b : List Int) : Option rtell.R :=
  (obind (Rc.rlen.F N (IntKind.i64.wrap rng)) fun r0 =>
   (chkI count count
   (chkL b b
   (chkI rng rng
   (chkI val val
   (chkI last last
   (chkI front front
   (chkI back back
   (chkI wait wait
   (chkI waiting waiting
   (chkI count count
   (chkB bad bad
   (chkI eq eq
   (some (IntKind.i64.wrap (count - r0))))))))))))))))
theorem rtell.F_eq (N : Nat) (L : Eng.Leaves) : evSig (rtell.C N) (rtell.K N) 0 Try.f27 rtell.sig L rtell.dec = rtell.F N (L.i 0) (L.i 1) (L.i 2) (L.i 3) (L.i 4) (L.i 5) (L.i 6) (L.i 7) (L.i 8) (L.b 0) (L.l 0) := by
  kernel_rfl
noncomputable def rtell.spec : Eng.Spec := rtell.sig.spec (fun N L => rtell.F N (L.i 0) (L.i 1) (L.i 2) (L.i 3) (L.i 4) (L.i 5) (L.i 6) (L.i 7) (L.i 8) (L.b 0) (L.l 0)) rtell.enc
theorem rtell.cok (N : Nat) : CfgOK (rtell.C N) := ⟨fun _ _ _ _ h => by simp [rtell.C, noRT] at h, wide, by
  simp only [rtell.C, List.mem_cons, List.not_mem_nil, or_false, forall_eq_or_imp, forall_eq, false_imp_iff, implies_true]
  exact ⟨rlen.ok, by kernel_rfl⟩, fun g hg => by simp [rtell.C] at hg, fun m hm => by simp [rtell.C] at hm, fun q hq => by simp [rtell.C] at hq⟩
theorem rtell.aok (N : Nat) : AnnsOK (rtell.K N) := by
  intro q hq
  simp only [rtell.K, List.mem_cons, List.not_mem_nil, or_false] at hq
theorem rtell.ok : CallOK Try.prog 27 rtell.spec :=
  callOK_of_sig (fn := Try.f27) (Cf := rtell.C) (K := rtell.K) (d := 0) (dec := rtell.dec) (by kernel_rfl) (fun _ => rfl) rtell.cok (fun _ q hq => by simp [rtell.C] at hq) rtell.aok
   (fun N L r h => (rtell.F_eq N L).trans h) (by kernel_rfl) (fun _ => ⟨rfl, rfl⟩) (fun _ _ => ⟨rfl, rfl⟩)
noncomputable def rnew.sig : Eng.Sig := { args := [.at (.roi .u8 0)], n := 0, pre := [], post := [(0, .cells 11 [.roi .u8 0, .int .u64 0, .int .u64 1, .int .i64 2, .int .i64 3, .int .i64 4, .int .u64 5, .int .i64 6, .int .i64 7, .bool 0, .int .u64 8])], m := 1, ret := .at (.ptr 0 0) }
noncomputable def rnew.C (N : Nat) : Cfg := { P := Try.prog, N := N, RT := noRT, specs := [(52, rnext.spec), (53, ron.spec)], inl := [], hi := 0, mv := [] }
abbrev rnew.R : Type := Int × Int × Int × Int × Int × Int × Int × Int × Int × Bool × List Int
def rnew.dec (L : Eng.Leaves) : rnew.R := (L.i 0, L.i 1, L.i 2, L.i 3, L.i 4, L.i 5, L.i 6, L.i 7, L.i 8, L.b 0, L.l 0)
def rnew.enc (r : rnew.R) : Eng.Leaves := mkL [r.1, r.2.1, r.2.2.1, r.2.2.2.1, r.2.2.2.2.1, r.2.2.2.2.2.1, r.2.2.2.2.2.2.1, r.2.2.2.2.2.2.2.1, r.2.2.2.2.2.2.2.2.1] [r.2.2.2.2.2.2.2.2.2.1] [r.2.2.2.2.2.2.2.2.2.2] []
noncomputable def rnew.K (N : Nat) : FCfg := { anns := [], unr := [], lits := [], lets := [] }
noncomputable def rnew.F (N : Nat) (b : List Int) : Option rnew.R :=
  (obind (Rc.rnext.F N ((128 : Int)) ((0 : Int)) ((0 : Int)) ((0 : Int)) ((0 : Int)) ((0 : Int)) ((0 : Int)) ((9 : Int)) ((0 : Int)) false b) fun r0 =>
   (obind (Rc.ron.F N ((128 : Int)) (IntKind.u64.wrap (IntKind.i64.wrap ((127 : Int) - IntKind.i64.wrap (r0.fst.tdiv (2 : Int))))) r0.fst r0.snd ((0 : Int)) ((0 : Int)) ((0 : Int)) ((9 : Int)) ((0 : Int)) false b) fun r1 =>
   (some ((r1.fst, r1.snd.fst, r1.snd.snd.fst, r1.snd.snd.snd.fst, (0 : Int), (0 : Int), (0 : Int), r1.snd.snd.snd.snd, (0 : Int), false, b)))))
theorem rnew.F_eq (N : Nat) (L : Eng.Leaves) : evSig (rnew.C N) (rnew.K N) 0 Try.f25 rnew.sig L rnew.dec = rnew.F N (L.l 0) := by
  kernel_rfl
noncomputable def rnew.spec : Eng.Spec := rnew.sig.spec (fun N L => rnew.F N (L.l 0)) rnew.enc
theorem rnew.cok (N : Nat) : CfgOK (rnew.C N) := ⟨fun _ _ _ _ h => by simp [rnew.C, noRT] at h, wide, by
  simp only [rnew.C, List.mem_cons, List.not_mem_nil, or_false, forall_eq_or_imp, forall_eq, false_imp_iff, implies_true]
  exact ⟨⟨rnext.ok, by kernel_rfl⟩, ⟨ron.ok, by kernel_rfl⟩⟩, fun g hg => by simp [rnew.C] at hg, fun m hm => by simp [rnew.C] at hm, fun q hq => by simp [rnew.C] at hq⟩
theorem rnew.aok (N : Nat) : AnnsOK (rnew.K N) := by
  intro q hq
  simp only [rnew.K, List.mem_cons, List.not_mem_nil, or_false] at hq
theorem rnew.ok : CallOK Try.prog 25 rnew.spec :=
  callOK_of_sig (fn := Try.f25) (Cf := rnew.C) (K := rnew.K) (d := 0) (dec := rnew.dec) (by kernel_rfl) (fun _ => rfl) rnew.cok (fun _ q hq => by simp [rnew.C] at hq) rnew.aok
   (fun N L r h => (rnew.F_eq N L).trans h) (by kernel_rfl) (fun _ => ⟨rfl, rfl⟩) (fun _ _ => ⟨rfl, rfl⟩)
end Go.Proofs.Rc
