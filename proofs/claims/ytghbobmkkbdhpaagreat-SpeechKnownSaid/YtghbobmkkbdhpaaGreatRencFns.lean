/-
  Functions of the program: what each comes to, and its contract (written by a program).
  Conditions: none: each contract is proved for every input of its shape.
-/
import Derived.Test.YtghbobmkkbdhpaaGreatEngRegToEngWords
import Derived.Laws.Externs
import Derived.Test.YtghbobmkkbdhpaaGreatProg
import Derived.Test.YtghbobmkkbdhpaaGreatRcFns
set_option linter.unusedVariables false
set_option linter.unusedSimpArgs false
namespace Go.Proofs.Rc
noncomputable section
open Go.Eng
set_option maxRecDepth 100000
def ecarry.sig : Eng.Sig := { args := [.at (.ptr 0 0)], n := 3, pre := [(0, .cells 6 [.full 1 false, .int .u64 0, .int .u64 1, .full 2 false, .int .i64 2, .int .i64 3]), (1, .ints true .u8 0), (2, .ints true .u8 1)], post := [(0, .cells 6 [.full 1 false, .int .u64 0, .int .u64 1, .full 2 false, .int .i64 2, .int .i64 3]), (1, .ints true .u8 0), (2, .ints true .u8 1)], m := 0, ret := .at (.unk) }
def ecarry.C (N : Nat) : Cfg := { P := Tryz.prog, N := N, RT := noRT, specs := [], inl := [], hi := 3, mv := [] }
abbrev ecarry.R : Type := Int × Int × Int × Int × List Int × List Int
def ecarry.dec (L : Eng.Leaves) : ecarry.R := (L.i 0, L.i 1, L.i 2, L.i 3, L.l 0, L.l 1)
def ecarry.enc (r : ecarry.R) : Eng.Leaves := mkL [r.1, r.2.1, r.2.2.1, r.2.2.2.1] [] [r.2.2.2.2.1, r.2.2.2.2.2] []
abbrev ecarry.loop1.R : Type := List Int
def ecarry.loop1.ann : Ann := { nx := 20, slots := [(0, .at (.ptr 0 0)), (2, .at (.int .i64 0))], blks := [(0, .cells 6 [.full 1 false, .fint .u64 0, .fint .u64 1, .full 2 false, .fint .i64 2, .fint .i64 3]), (1, .ints true .u8 0), (2, .fints true .u8 0)], mov := [], exId := 0, xslots := [(0, .at (.ptr 0 0))], xblks := [(0, .cells 6 [.full 1 false, .fint .u64 0, .fint .u64 1, .full 2 false, .fint .i64 2, .fint .i64 3]), (1, .ints true .u8 0), (2, .fints true .u8 0)], T := ecarry.loop1.R, dec := fun L => (L.l 0), enc := fun r => mkL [] [] [r] [], ret := true }
def ecarry.K (N : Nat) : FCfg := { anns := [(1, ecarry.loop1.ann)], unr := [], lits := [], lets := [] }
def ecarry.loop1 (N : Nat) : Nat → Int → Int → Int → Int → List Int → List Int → Int → Int → Int → Int → List Int → Int → List Int → Option (ecarry.loop1.R ⊕ ecarry.R)
  | 0, _, _, _, _, _, _, _, _, _, _, _, _, _ => none
  | nn + 1, e_val, e_rng, e_rawBits, e_count, e_told, e_raw, val, rng, rawBits, count, raw, s2, told =>
  (br (decide (s2 ≥ (0 : Int)))
  (chk ((0 : Int) ≤ s2 ∧ s2 < ↑told.length)
  (chk ((0 : Int) ≤ s2 ∧ s2 < ↑told.length)
  (chk ((0 : Int) ≤ s2 ∧ s2 < ↑(told.set s2.toNat (IntKind.u8.wrap (told.getD s2.toNat (0 : Int) + (1 : Int)))).length)
  (br ((told.set s2.toNat (IntKind.u8.wrap (told.getD s2.toNat (0 : Int) + (1 : Int)))).getD s2.toNat (0 : Int) != (0 : Int))
  (omap
  (some ((val, rng, rawBits, count, told.set s2.toNat (IntKind.u8.wrap (told.getD s2.toNat (0 : Int) + (1 : Int))), raw))) .inr)
  (chkI val val
  (chkI rng rng
  (chkI rawBits rawBits
  (chkI count count
  (chkL raw raw
  (ecarry.loop1 N nn e_val e_rng e_rawBits e_count e_told e_raw val rng rawBits count raw (IntKind.i64.wrap (s2 - (1 : Int))) (told.set s2.toNat (IntKind.u8.wrap (told.getD s2.toNat (0 : Int) + (1 : Int))))))))))))))
  (chkI val val
  (chkI rng rng
  (chkI rawBits rawBits
  (chkI count count
  (chkL raw raw
  (some (Sum.inl told))))))))
def ecarry.loop1R (N nn : Nat) (e_val e_rng e_rawBits e_count : Int) (e_told e_raw : List Int) (val rng rawBits count : Int) (raw : List Int) (s2 : Int) (told : List Int) : Option (ecarry.loop1.R ⊕ ecarry.R) := loopR ecarry.loop1.ann (mkL [val, rng, rawBits, count] [] [raw] []) (evCode ((ecarry.C N).inLoop ecarry.loop1.ann) (ecarry.K N) (inlTab (ecarry.C N) 0) (bodyAt 1 Tryz.f162)) (sigKr Tryz.prog Tryz.f162 ecarry.sig (mkL [e_val, e_rng, e_rawBits, e_count] [] [e_told, e_raw] []) fun L => (L.i 0, L.i 1, L.i 2, L.i 3, L.l 0, L.l 1)) nn (mkL [s2] [] [told] [])
theorem ecarry.loop1_eq (N : Nat) : ∀ nn, ecarry.loop1R N nn = ecarry.loop1 N nn
  | 0 => by funext; kernel_rfl
  | nn + 1 => by
    funext; rw [ecarry.loop1, ← ecarry.loop1_eq N nn]; kernel_rfl
def ecarry.F (N : Nat) (val rng rawBits count : Int) (told raw : List Int) : Option ecarry.R :=
  (osum (ecarry.loop1 N N val rng rawBits count told raw val rng rawBits count raw (IntKind.i64.wrap (↑told.length - (1 : Int))) told) fun r0 =>
  (some ((val, rng, rawBits, count, r0, raw))))
theorem ecarry.F_eq (N : Nat) (L : Eng.Leaves) : evSig (ecarry.C N) (ecarry.K N) 0 Tryz.f162 ecarry.sig L ecarry.dec = ecarry.F N (L.i 0) (L.i 1) (L.i 2) (L.i 3) (L.l 0) (L.l 1) := by
  rw [ecarry.F, ← funext (ecarry.loop1_eq N)]; kernel_rfl
def ecarry.spec : Eng.Spec := ecarry.sig.spec (fun N L => ecarry.F N (L.i 0) (L.i 1) (L.i 2) (L.i 3) (L.l 0) (L.l 1)) ecarry.enc
theorem ecarry.cok (N : Nat) : CfgOK (ecarry.C N) := cok0 wide trivial (by kernel_rfl) rfl rfl rfl rfl
theorem ecarry.aok (N : Nat) : AnnsOK (ecarry.K N) := aok1 ⟨fun _ _ => ⟨rfl, rfl⟩, trivial⟩
theorem ecarry.ok : CallOK Tryz.prog 162 ecarry.spec := ok0 ecarry.cok (fun _ => iok0 rfl) ecarry.aok ecarry.F_eq (by kernel_rfl) (by kernel_rfl) (fun _ => rfl) (fun _ => ⟨rfl, rfl⟩) fun _ _ => ⟨rfl, rfl⟩
def enorm.sig : Eng.Sig := { args := [.at (.ptr 0 0)], n := 3, pre := [(0, .cells 6 [.full 1 false, .int .u64 0, .int .u64 1, .full 2 false, .int .i64 2, .int .i64 3]), (1, .ints true .u8 0), (2, .ints true .u8 1)], post := [(0, .cells 6 [.full 3 false, .int .u64 0, .int .u64 1, .full 2 false, .int .i64 2, .int .i64 3]), (1, .dead), (2, .ints true .u8 0), (3, .ints true .u8 1)], m := 1, ret := .at (.unk) }
def enorm.C (N : Nat) : Cfg := { P := Tryz.prog, N := N, RT := noRT, specs := [(162, ecarry.spec)], inl := [], hi := 3, mv := [] }
abbrev enorm.R : Type := Int × Int × Int × Int × List Int × List Int
def enorm.dec (L : Eng.Leaves) : enorm.R := (L.i 0, L.i 1, L.i 2, L.i 3, L.l 0, L.l 1)
def enorm.enc (r : enorm.R) : Eng.Leaves := mkL [r.1, r.2.1, r.2.2.1, r.2.2.2.1] [] [r.2.2.2.2.1, r.2.2.2.2.2] []
abbrev enorm.loop3.R : Type := Int × Int × Int × List Int
def enorm.loop3.ann : Ann := { nx := 21, slots := [(0, .at (.ptr 0 0))], blks := [(0, .cells 6 [.full 20 false, .int .u64 0, .int .u64 1, .full 2 false, .fint .i64 0, .int .i64 2]), (2, .fints true .u8 0), (20, .ints true .u8 0)], mov := [20], exId := 0, xslots := [(0, .at (.ptr 0 0))], xblks := [(0, .cells 6 [.full 20 false, .int .u64 0, .int .u64 1, .full 2 false, .fint .i64 0, .int .i64 2]), (2, .fints true .u8 0), (20, .ints true .u8 0)], T := enorm.loop3.R, dec := fun L => (L.i 0, L.i 1, L.i 2, L.l 0), enc := fun r => mkL [r.1, r.2.1, r.2.2.1] [] [r.2.2.2] [], ret := false }
def enorm.K (N : Nat) : FCfg := { anns := [(3, enorm.loop3.ann)], unr := [], lits := [], lets := [] }
def enorm.loop3 (N : Nat) : Nat → Int → List Int → Int → Int → Int → List Int → Option enorm.loop3.R
  | 0, _, _, _, _, _, _ => none
  | nn + 1, rawBits, raw, val, rng, count, told =>
  (br (decide (rng ≤ (8388608 : Int)))
  (chk (told.length + [IntKind.u8.wrap (val.fdiv ((2 : Int) ^ min (Int.toNat (23 : Int)) IntKind.u64.bits))].length ≤ (140737488351232 : Nat))
  (chkI rawBits rawBits
  (chkL raw raw
  (enorm.loop3 N nn rawBits raw (IntKind.u64.wrap ↑(BitVec.ofInt IntKind.u64.bits (IntKind.u64.wrap (val * (2 : Int) ^ min (Int.toNat (8 : Int)) IntKind.u64.bits)) &&& BitVec.ofInt IntKind.u64.bits (2147483647 : Int)).toNat) (IntKind.u64.wrap (rng * (2 : Int) ^ min (Int.toNat (8 : Int)) IntKind.u64.bits)) (IntKind.i64.wrap (count + (8 : Int))) (told ++ [IntKind.u8.wrap (val.fdiv ((2 : Int) ^ min (Int.toNat (23 : Int)) IntKind.u64.bits))])))))
  (chkI rawBits rawBits
  (chkL raw raw
  (some ((val, rng, count, told))))))
def enorm.loop3R (N nn : Nat) (rawBits : Int) (raw : List Int) (val rng count : Int) (told : List Int) : Option enorm.loop3.R := loopF enorm.loop3.ann (mkL [rawBits] [] [raw] []) (evCode ((enorm.C N).inLoop enorm.loop3.ann) (enorm.K N) (inlTab (enorm.C N) 0) (bodyAt 3 Tryz.f151)) nn (mkL [val, rng, count] [] [told] [])
theorem enorm.loop3_eq (N : Nat) : ∀ nn, enorm.loop3R N nn = enorm.loop3 N nn
  | 0 => by funext; kernel_rfl
  | nn + 1 => by
    funext; rw [enorm.loop3, ← enorm.loop3_eq N nn]; kernel_rfl
def enorm.F (N : Nat) (val rng rawBits count : Int) (told raw : List Int) : Option enorm.R :=
  (br (decide (val > (2147483647 : Int)))
  (obind (Rc.ecarry.F N val rng rawBits count told raw) fun r0 =>
  (obind (enorm.loop3 N N r0.2.2.1 r0.2.2.2.2.2 (IntKind.u64.wrap ↑(BitVec.ofInt IntKind.u64.bits r0.1 &&& BitVec.ofInt IntKind.u64.bits (2147483647 : Int)).toNat) r0.2.1 r0.2.2.2.1 r0.2.2.2.2.1) fun r1 =>
  (some ((r1.1, r1.2.1, r0.2.2.1, r1.2.2.1, r0.2.2.2.2.2, r1.2.2.2)))))
  (obind (enorm.loop3 N N rawBits raw val rng count told) fun r2 =>
  (some ((r2.1, r2.2.1, rawBits, r2.2.2.1, raw, r2.2.2.2)))))
theorem enorm.F_eq (N : Nat) (L : Eng.Leaves) : evSig (enorm.C N) (enorm.K N) 0 Tryz.f151 enorm.sig L enorm.dec = enorm.F N (L.i 0) (L.i 1) (L.i 2) (L.i 3) (L.l 0) (L.l 1) := by
  rw [enorm.F, ← funext (enorm.loop3_eq N)]; kernel_rfl
def enorm.spec : Eng.Spec := enorm.sig.spec (fun N L => enorm.F N (L.i 0) (L.i 1) (L.i 2) (L.i 3) (L.l 0) (L.l 1)) enorm.enc
theorem enorm.cok (N : Nat) : CfgOK (enorm.C N) := cok0 wide ⟨ecarry.ok, trivial⟩ (by kernel_rfl) rfl rfl rfl rfl
theorem enorm.aok (N : Nat) : AnnsOK (enorm.K N) := aok1 ⟨fun _ _ => ⟨rfl, rfl⟩, trivial⟩
theorem enorm.ok : CallOK Tryz.prog 151 enorm.spec := ok0 enorm.cok (fun _ => iok0 rfl) enorm.aok enorm.F_eq (by kernel_rfl) (by kernel_rfl) (fun _ => rfl) (fun _ => ⟨rfl, rfl⟩) fun _ _ => ⟨rfl, rfl⟩
def etake.sig : Eng.Sig := { args := [.at (.ptr 0 0), .at (.int .u64 0), .at (.int .u64 1), .at (.int .u64 2)], n := 3, pre := [(0, .cells 6 [.full 1 false, .int .u64 3, .int .u64 4, .full 2 false, .int .i64 5, .int .i64 6]), (1, .ints true .u8 0), (2, .ints true .u8 1)], post := [(0, .cells 6 [.full 3 false, .int .u64 0, .int .u64 1, .full 2 false, .int .i64 2, .int .i64 3]), (1, .dead), (2, .ints true .u8 0), (3, .ints true .u8 1)], m := 1, ret := .at (.unk) }
def etake.C (N : Nat) : Cfg := { P := Tryz.prog, N := N, RT := noRT, specs := [(151, enorm.spec)], inl := [], hi := 3, mv := [] }
abbrev etake.R : Type := Int × Int × Int × Int × List Int × List Int
def etake.dec (L : Eng.Leaves) : etake.R := (L.i 0, L.i 1, L.i 2, L.i 3, L.l 0, L.l 1)
def etake.enc (r : etake.R) : Eng.Leaves := mkL [r.1, r.2.1, r.2.2.1, r.2.2.2.1] [] [r.2.2.2.2.1, r.2.2.2.2.2] []
def etake.K (N : Nat) : FCfg := { anns := [], unr := [], lits := [], lets := [] }
def etake.F (N : Nat) (fl fh ft val rng rawBits count : Int) (told raw : List Int) : Option etake.R :=
  (chk (ft ≠ (0 : Int))
  (br (decide (fl > (0 : Int)))
  (obind (Rc.enorm.F N (IntKind.u64.wrap (val + IntKind.u64.wrap (rng - IntKind.u64.wrap (IntKind.u64.wrap (rng.tdiv ft) * IntKind.u64.wrap (ft - fl))))) (IntKind.u64.wrap (IntKind.u64.wrap (rng.tdiv ft) * IntKind.u64.wrap (fh - fl))) rawBits count told raw) fun r0 =>
  (some ((r0.1, r0.2.1, r0.2.2.1, r0.2.2.2.1, r0.2.2.2.2.1, r0.2.2.2.2.2))))
  (obind (Rc.enorm.F N val (IntKind.u64.wrap (rng - IntKind.u64.wrap (IntKind.u64.wrap (rng.tdiv ft) * IntKind.u64.wrap (ft - fh)))) rawBits count told raw) fun r1 =>
  (some ((r1.1, r1.2.1, r1.2.2.1, r1.2.2.2.1, r1.2.2.2.2.1, r1.2.2.2.2.2))))))
theorem etake.F_eq (N : Nat) (L : Eng.Leaves) : evSig (etake.C N) (etake.K N) 0 Tryz.f110 etake.sig L etake.dec = etake.F N (L.i 0) (L.i 1) (L.i 2) (L.i 3) (L.i 4) (L.i 5) (L.i 6) (L.l 0) (L.l 1) := by
  kernel_rfl
def etake.spec : Eng.Spec := etake.sig.spec (fun N L => etake.F N (L.i 0) (L.i 1) (L.i 2) (L.i 3) (L.i 4) (L.i 5) (L.i 6) (L.l 0) (L.l 1)) etake.enc
theorem etake.cok (N : Nat) : CfgOK (etake.C N) := cok0 wide ⟨enorm.ok, trivial⟩ (by kernel_rfl) rfl rfl rfl rfl
theorem etake.aok (N : Nat) : AnnsOK (etake.K N) := aok1 trivial
theorem etake.ok : CallOK Tryz.prog 110 etake.spec := ok0 etake.cok (fun _ => iok0 rfl) etake.aok etake.F_eq (by kernel_rfl) (by kernel_rfl) (fun _ => rfl) (fun _ => ⟨rfl, rfl⟩) fun _ _ => ⟨rfl, rfl⟩
def esymbol.sig : Eng.Sig := { args := [.at (.ptr 0 0), .at (.int .i64 0), .at (.roi .i64 0)], n := 3, pre := [(0, .cells 6 [.full 1 false, .int .u64 1, .int .u64 2, .full 2 false, .int .i64 3, .int .i64 4]), (1, .ints true .u8 1), (2, .ints true .u8 2)], post := [(0, .cells 6 [.full 3 false, .int .u64 1, .int .u64 2, .full 2 false, .int .i64 3, .int .i64 4]), (1, .dead), (2, .ints true .u8 0), (3, .ints true .u8 1)], m := 1, ret := .at (.int .i64 0) }
def esymbol.C (N : Nat) : Cfg := { P := Tryz.prog, N := N, RT := noRT, specs := [(100, good.spec), (110, etake.spec)], inl := [], hi := 3, mv := [] }
abbrev esymbol.R : Type := Int × Int × Int × Int × Int × List Int × List Int
def esymbol.dec (L : Eng.Leaves) : esymbol.R := (L.i 0, L.i 1, L.i 2, L.i 3, L.i 4, L.l 0, L.l 1)
def esymbol.enc (r : esymbol.R) : Eng.Leaves := mkL [r.1, r.2.1, r.2.2.1, r.2.2.2.1, r.2.2.2.2.1] [] [r.2.2.2.2.2.1, r.2.2.2.2.2.2] []
def esymbol.K (N : Nat) : FCfg := { anns := [], unr := [], lits := [], lets := [] }
def esymbol.F (N : Nat) (s val rng rawBits count : Int) (t told raw : List Int) : Option esymbol.R :=
  (obind (Rc.good.F N t) fun r0 =>
  (br (!r0)
  (some (((1 : Int), val, rng, rawBits, count, raw, told)))
  (br (decide (s < (0 : Int)))
  (some (((1 : Int), val, rng, rawBits, count, raw, told)))
  (br (decide (s ≥ ↑t.length))
  (some (((1 : Int), val, rng, rawBits, count, raw, told)))
  (br (decide (s > (0 : Int)))
  (chk ((0 : Int) ≤ IntKind.i64.wrap (s - (1 : Int)) ∧ IntKind.i64.wrap (s - (1 : Int)) < ↑t.length)
  (chk ((0 : Int) ≤ s ∧ s < ↑t.length)
  (obind (Rc.etake.F N (IntKind.u64.wrap (IntKind.i64.wrap ((256 : Int) - t.getD (IntKind.i64.wrap (s - (1 : Int))).toNat (0 : Int)))) (IntKind.u64.wrap (IntKind.i64.wrap ((256 : Int) - t.getD s.toNat (0 : Int)))) ((256 : Int)) val rng rawBits count told raw) fun r1 =>
  (some (((0 : Int), r1.1, r1.2.1, r1.2.2.1, r1.2.2.2.1, r1.2.2.2.2.1, r1.2.2.2.2.2))))))
  (chk ((0 : Int) ≤ s ∧ s < ↑t.length)
  (obind (Rc.etake.F N (IntKind.u64.wrap (0 : Int)) (IntKind.u64.wrap (IntKind.i64.wrap ((256 : Int) - t.getD s.toNat (0 : Int)))) ((256 : Int)) val rng rawBits count told raw) fun r2 =>
  (some (((0 : Int), r2.1, r2.2.1, r2.2.2.1, r2.2.2.2.1, r2.2.2.2.2.1, r2.2.2.2.2.2))))))))))
theorem esymbol.F_eq (N : Nat) (L : Eng.Leaves) : evSig (esymbol.C N) (esymbol.K N) 0 Tryz.f55 esymbol.sig L esymbol.dec = esymbol.F N (L.i 0) (L.i 1) (L.i 2) (L.i 3) (L.i 4) (L.l 0) (L.l 1) (L.l 2) := by
  kernel_rfl
def esymbol.spec : Eng.Spec := esymbol.sig.spec (fun N L => esymbol.F N (L.i 0) (L.i 1) (L.i 2) (L.i 3) (L.i 4) (L.l 0) (L.l 1) (L.l 2)) esymbol.enc
theorem esymbol.cok (N : Nat) : CfgOK (esymbol.C N) := cok0 wide ⟨good.ok, etake.ok, trivial⟩ (by kernel_rfl) rfl rfl rfl rfl
theorem esymbol.aok (N : Nat) : AnnsOK (esymbol.K N) := aok1 trivial
theorem esymbol.ok : CallOK Tryz.prog 55 esymbol.spec := ok0 esymbol.cok (fun _ => iok0 rfl) esymbol.aok esymbol.F_eq (by kernel_rfl) (by kernel_rfl) (fun _ => rfl) (fun _ => ⟨rfl, rfl⟩) fun _ _ => ⟨rfl, rfl⟩
def ebits.sig : Eng.Sig := { args := [.at (.ptr 0 0), .at (.int .i64 0), .at (.int .i64 1)], n := 3, pre := [(0, .cells 6 [.full 1 false, .int .u64 2, .int .u64 3, .full 2 false, .int .i64 4, .int .i64 5]), (1, .ints true .u8 0), (2, .ints true .u8 1)], post := [(0, .cells 6 [.full 1 false, .fint .u64 2, .fint .u64 3, .full 3 false, .int .i64 1, .int .i64 2]), (1, .fints true .u8 0), (2, .dead), (3, .ints true .u8 0)], m := 1, ret := .at (.int .i64 0) }
def ebits.C (N : Nat) : Cfg := { P := Tryz.prog, N := N, RT := noRT, specs := [], inl := [], hi := 3, mv := [] }
abbrev ebits.R : Type := Int × Int × Int × List Int
def ebits.dec (L : Eng.Leaves) : ebits.R := (L.i 0, L.i 1, L.i 2, L.l 0)
def ebits.enc (r : ebits.R) : Eng.Leaves := mkL [r.1, r.2.1, r.2.2.1] [] [r.2.2.2] []
abbrev ebits.loop4.R : Type := Int × List Int
def ebits.loop4.ann : Ann := { nx := 21, slots := [(0, .at (.ptr 0 0)), (1, .at (.fint .i64 0)), (24, .at (.fint .i64 1)), (25, .at (.int .i64 0))], blks := [(0, .cells 6 [.full 1 false, .fint .u64 2, .fint .u64 3, .full 20 false, .int .i64 1, .fint .i64 4]), (1, .fints true .u8 0), (20, .ints true .u8 0)], mov := [20], exId := 0, xslots := [(0, .at (.ptr 0 0))], xblks := [(0, .cells 6 [.full 1 false, .fint .u64 2, .fint .u64 3, .full 20 false, .int .i64 0, .fint .i64 4]), (1, .fints true .u8 0), (20, .ints true .u8 0)], T := ebits.loop4.R, dec := fun L => (L.i 0, L.l 0), enc := fun r => mkL [r.1] [] [r.2] [], ret := false }
def ebits.K (N : Nat) : FCfg := { anns := [(4, ebits.loop4.ann)], unr := [], lits := [], lets := [] }
def ebits.loop4 (N : Nat) : Nat → Int → Int → Int → Int → Int → List Int → Int → Int → List Int → Option ebits.loop4.R
  | 0, _, _, _, _, _, _, _, _, _ => none
  | nn + 1, v, s24, val, rng, count, told, s25, rawBits, raw =>
  (br (decide (s25 < s24))
  (br (rawBits.tmod (8 : Int) == (0 : Int))
  (chk (raw.length + [(0 : Int)].length ≤ (140737488351232 : Nat))
  (chk ((0 : Int) ≤ IntKind.i64.wrap (rawBits.tdiv (8 : Int)) ∧ IntKind.i64.wrap (rawBits.tdiv (8 : Int)) < ↑(raw ++ [(0 : Int)]).length)
  (chk ((0 : Int) ≤ s25)
  (chk ((0 : Int) ≤ rawBits.tmod (8 : Int))
  (chk ((0 : Int) ≤ IntKind.i64.wrap (rawBits.tdiv (8 : Int)) ∧ IntKind.i64.wrap (rawBits.tdiv (8 : Int)) < ↑(raw ++ [(0 : Int)]).length)
  (chkI v v
  (chkI s24 s24
  (chkI val val
  (chkI rng rng
  (chkI count count
  (chkL told told
  (ebits.loop4 N nn v s24 val rng count told (IntKind.i64.wrap (s25 + (1 : Int))) (IntKind.i64.wrap (rawBits + (1 : Int))) ((raw ++ [(0 : Int)]).set (IntKind.i64.wrap (rawBits.tdiv (8 : Int))).toNat (IntKind.u8.wrap ↑(BitVec.ofInt IntKind.u8.bits ((raw ++ [(0 : Int)]).getD (IntKind.i64.wrap (rawBits.tdiv (8 : Int))).toNat (0 : Int)) ||| BitVec.ofInt IntKind.u8.bits (IntKind.u8.wrap (IntKind.u8.wrap (IntKind.i64.wrap ↑(BitVec.ofInt IntKind.i64.bits (v.fdiv ((2 : Int) ^ min s25.toNat IntKind.i64.bits)) &&& BitVec.ofInt IntKind.i64.bits (1 : Int)).toNat) * (2 : Int) ^ min (rawBits.tmod (8 : Int)).toNat IntKind.u8.bits))).toNat))))))))))))))
  (chk ((0 : Int) ≤ IntKind.i64.wrap (rawBits.tdiv (8 : Int)) ∧ IntKind.i64.wrap (rawBits.tdiv (8 : Int)) < ↑raw.length)
  (chk ((0 : Int) ≤ s25)
  (chk ((0 : Int) ≤ rawBits.tmod (8 : Int))
  (chk ((0 : Int) ≤ IntKind.i64.wrap (rawBits.tdiv (8 : Int)) ∧ IntKind.i64.wrap (rawBits.tdiv (8 : Int)) < ↑raw.length)
  (chkI v v
  (chkI s24 s24
  (chkI val val
  (chkI rng rng
  (chkI count count
  (chkL told told
  (ebits.loop4 N nn v s24 val rng count told (IntKind.i64.wrap (s25 + (1 : Int))) (IntKind.i64.wrap (rawBits + (1 : Int))) (raw.set (IntKind.i64.wrap (rawBits.tdiv (8 : Int))).toNat (IntKind.u8.wrap ↑(BitVec.ofInt IntKind.u8.bits (raw.getD (IntKind.i64.wrap (rawBits.tdiv (8 : Int))).toNat (0 : Int)) ||| BitVec.ofInt IntKind.u8.bits (IntKind.u8.wrap (IntKind.u8.wrap (IntKind.i64.wrap ↑(BitVec.ofInt IntKind.i64.bits (v.fdiv ((2 : Int) ^ min s25.toNat IntKind.i64.bits)) &&& BitVec.ofInt IntKind.i64.bits (1 : Int)).toNat) * (2 : Int) ^ min (rawBits.tmod (8 : Int)).toNat IntKind.u8.bits))).toNat))))))))))))))
  (chkI val val
  (chkI rng rng
  (chkI count count
  (chkL told told
  (some ((rawBits, raw))))))))
def ebits.loop4R (N nn : Nat) (v s24 val rng count : Int) (told : List Int) (s25 rawBits : Int) (raw : List Int) : Option ebits.loop4.R := loopF ebits.loop4.ann (mkL [v, s24, val, rng, count] [] [told] []) (evCode ((ebits.C N).inLoop ebits.loop4.ann) (ebits.K N) (inlTab (ebits.C N) 0) (bodyAt 4 Tryz.f53)) nn (mkL [s25, rawBits] [] [raw] [])
theorem ebits.loop4_eq (N : Nat) : ∀ nn, ebits.loop4R N nn = ebits.loop4 N nn
  | 0 => by funext; kernel_rfl
  | nn + 1 => by
    funext; rw [ebits.loop4, ← ebits.loop4_eq N nn]; kernel_rfl
def ebits.F (N : Nat) (v n val rng rawBits count : Int) (told raw : List Int) : Option ebits.R :=
  (br (decide (n < (0 : Int)))
  (chkI val val
  (chkI rng rng
  (chkL told told
  (some (((1 : Int), rawBits, count, raw))))))
  (br (decide (n > (24 : Int)))
  (chkI val val
  (chkI rng rng
  (chkL told told
  (some (((1 : Int), rawBits, count, raw))))))
  (br (decide (v < (0 : Int)))
  (chkI val val
  (chkI rng rng
  (chkL told told
  (some (((1 : Int), rawBits, count, raw))))))
  (chk ((0 : Int) ≤ n)
  (br (decide (v ≥ IntKind.i64.wrap ((1 : Int) * (2 : Int) ^ min n.toNat IntKind.i64.bits)))
  (chkI val val
  (chkI rng rng
  (chkL told told
  (some (((1 : Int), rawBits, count, raw))))))
  (obind (ebits.loop4 N N v n val rng count told ((0 : Int)) rawBits raw) fun r0 =>
  (chkI val val
  (chkI rng rng
  (chkL told told
  (some (((0 : Int), r0.1, IntKind.i64.wrap (count + n), r0.2))))))))))))
theorem ebits.F_eq (N : Nat) (L : Eng.Leaves) : evSig (ebits.C N) (ebits.K N) 0 Tryz.f53 ebits.sig L ebits.dec = ebits.F N (L.i 0) (L.i 1) (L.i 2) (L.i 3) (L.i 4) (L.i 5) (L.l 0) (L.l 1) := by
  rw [ebits.F, ← funext (ebits.loop4_eq N)]; kernel_rfl
def ebits.spec : Eng.Spec := ebits.sig.spec (fun N L => ebits.F N (L.i 0) (L.i 1) (L.i 2) (L.i 3) (L.i 4) (L.i 5) (L.l 0) (L.l 1)) ebits.enc
theorem ebits.cok (N : Nat) : CfgOK (ebits.C N) := cok0 wide trivial (by kernel_rfl) rfl rfl rfl rfl
theorem ebits.aok (N : Nat) : AnnsOK (ebits.K N) := aok1 ⟨fun _ _ => ⟨rfl, rfl⟩, trivial⟩
theorem ebits.ok : CallOK Tryz.prog 53 ebits.spec := ok0 ebits.cok (fun _ => iok0 rfl) ebits.aok ebits.F_eq (by kernel_rfl) (by kernel_rfl) (fun _ => rfl) (fun _ => ⟨rfl, rfl⟩) fun _ _ => ⟨rfl, rfl⟩
def euint.sig : Eng.Sig := { args := [.at (.ptr 0 0), .at (.int .i64 0), .at (.int .i64 1)], n := 3, pre := [(0, .cells 6 [.full 1 false, .int .u64 2, .int .u64 3, .full 2 false, .int .i64 4, .int .i64 5]), (1, .ints true .u8 0), (2, .ints true .u8 1)], post := [(0, .cells 6 [.full 3 false, .int .u64 1, .int .u64 2, .full 4 false, .int .i64 3, .int .i64 4]), (1, .dead), (2, .dead), (3, .ints true .u8 0), (4, .ints true .u8 1)], m := 2, ret := .at (.int .i64 0) }
def euint.C (N : Nat) : Cfg := { P := Tryz.prog, N := N, RT := noRT, specs := [(110, etake.spec), (103, blen.spec), (53, ebits.spec)], inl := [], hi := 3, mv := [] }
abbrev euint.R : Type := Int × Int × Int × Int × Int × List Int × List Int
def euint.dec (L : Eng.Leaves) : euint.R := (L.i 0, L.i 1, L.i 2, L.i 3, L.i 4, L.l 0, L.l 1)
def euint.enc (r : euint.R) : Eng.Leaves := mkL [r.1, r.2.1, r.2.2.1, r.2.2.2.1, r.2.2.2.2.1] [] [r.2.2.2.2.2.1, r.2.2.2.2.2.2] []
def euint.K (N : Nat) : FCfg := { anns := [], unr := [], lits := [], lets := [] }
def euint.F (N : Nat) (v ft val rng rawBits count : Int) (told raw : List Int) : Option euint.R :=
  (br (decide (ft < (1 : Int)))
  (some (((1 : Int), val, rng, rawBits, count, told, raw)))
  (br (decide (ft > (4294967295 : Int)))
  (some (((1 : Int), val, rng, rawBits, count, told, raw)))
  (br (decide (v < (0 : Int)))
  (some (((1 : Int), val, rng, rawBits, count, told, raw)))
  (br (decide (v ≥ ft))
  (some (((1 : Int), val, rng, rawBits, count, told, raw)))
  (br (ft == (1 : Int))
  (some (((0 : Int), val, rng, rawBits, count, told, raw)))
  (br (decide (ft ≤ (256 : Int)))
  (obind (Rc.etake.F N (IntKind.u64.wrap v) (IntKind.u64.wrap (IntKind.i64.wrap (v + (1 : Int)))) (IntKind.u64.wrap ft) val rng rawBits count told raw) fun r0 =>
  (some (((0 : Int), r0.1, r0.2.1, r0.2.2.1, r0.2.2.2.1, r0.2.2.2.2.2, r0.2.2.2.2.1))))
  (obind (Rc.blen.F N (IntKind.u64.wrap (IntKind.i64.wrap (ft - (1 : Int))))) fun r1 =>
  (chk ((0 : Int) ≤ IntKind.i64.wrap (r1 - (8 : Int)))
  (chk ((0 : Int) ≤ IntKind.i64.wrap (r1 - (8 : Int)))
  (obind (Rc.etake.F N (IntKind.u64.wrap (v.fdiv ((2 : Int) ^ min (IntKind.i64.wrap (r1 - (8 : Int))).toNat IntKind.i64.bits))) (IntKind.u64.wrap (IntKind.u64.wrap (v.fdiv ((2 : Int) ^ min (IntKind.i64.wrap (r1 - (8 : Int))).toNat IntKind.i64.bits)) + (1 : Int))) (IntKind.u64.wrap (IntKind.i64.wrap ((IntKind.i64.wrap (ft - (1 : Int))).fdiv ((2 : Int) ^ min (IntKind.i64.wrap (r1 - (8 : Int))).toNat IntKind.i64.bits) + (1 : Int)))) val rng rawBits count told raw) fun r2 =>
  (chk ((0 : Int) ≤ IntKind.i64.wrap (r1 - (8 : Int)))
  (obind (Rc.ebits.F N (IntKind.i64.wrap ↑(BitVec.ofInt IntKind.i64.bits v &&& BitVec.ofInt IntKind.i64.bits (IntKind.i64.wrap (IntKind.i64.wrap ((1 : Int) * (2 : Int) ^ min (IntKind.i64.wrap (r1 - (8 : Int))).toNat IntKind.i64.bits) - (1 : Int)))).toNat) (IntKind.i64.wrap (r1 - (8 : Int))) r2.1 r2.2.1 r2.2.2.1 r2.2.2.2.1 r2.2.2.2.2.2 r2.2.2.2.2.1) fun r3 =>
  (some ((r3.1, r2.1, r2.2.1, r3.2.1, r3.2.2.1, r2.2.2.2.2.2, r3.2.2.2)))))))))))))))
theorem euint.F_eq (N : Nat) (L : Eng.Leaves) : evSig (euint.C N) (euint.K N) 0 Tryz.f56 euint.sig L euint.dec = euint.F N (L.i 0) (L.i 1) (L.i 2) (L.i 3) (L.i 4) (L.i 5) (L.l 0) (L.l 1) := by
  kernel_rfl
def euint.spec : Eng.Spec := euint.sig.spec (fun N L => euint.F N (L.i 0) (L.i 1) (L.i 2) (L.i 3) (L.i 4) (L.i 5) (L.l 0) (L.l 1)) euint.enc
theorem euint.cok (N : Nat) : CfgOK (euint.C N) := cok0 wide ⟨etake.ok, blen.ok, ebits.ok, trivial⟩ (by kernel_rfl) rfl rfl rfl rfl
theorem euint.aok (N : Nat) : AnnsOK (euint.K N) := aok1 trivial
theorem euint.ok : CallOK Tryz.prog 56 euint.spec := ok0 euint.cok (fun _ => iok0 rfl) euint.aok euint.F_eq (by kernel_rfl) (by kernel_rfl) (fun _ => rfl) (fun _ => ⟨rfl, rfl⟩) fun _ _ => ⟨rfl, rfl⟩
def etell.sig : Eng.Sig := { args := [.at (.ptr 0 0)], n := 3, pre := [(0, .cells 6 [.full 1 false, .int .u64 0, .int .u64 1, .full 2 false, .int .i64 2, .int .i64 3]), (1, .ints true .u8 0), (2, .ints true .u8 1)], post := [(0, .cells 6 [.full 1 false, .fint .u64 0, .fint .u64 1, .full 2 false, .fint .i64 2, .fint .i64 3]), (1, .fints true .u8 0), (2, .fints true .u8 1)], m := 0, ret := .at (.int .i64 0) }
def etell.C (N : Nat) : Cfg := { P := Tryz.prog, N := N, RT := noRT, specs := [(68, len64.spec)], inl := [], hi := 3, mv := [] }
abbrev etell.R : Type := Int
def etell.dec (L : Eng.Leaves) : etell.R := (L.i 0)
def etell.enc (r : etell.R) : Eng.Leaves := mkL [r] [] [] []
def etell.K (N : Nat) : FCfg := { anns := [], unr := [], lits := [], lets := [] }
def etell.F (N : Nat) (val rng rawBits count : Int) (told raw : List Int) : Option etell.R :=
  (obind (Rc.len64.F N rng) fun r0 =>
  (chkI count count
  (chkI val val
  (chkI rng rng
  (chkI rawBits rawBits
  (chkI count count
  (chkL told told
  (chkL raw raw
  (some (IntKind.i64.wrap (count - r0)))))))))))
theorem etell.F_eq (N : Nat) (L : Eng.Leaves) : evSig (etell.C N) (etell.K N) 0 Tryz.f18 etell.sig L etell.dec = etell.F N (L.i 0) (L.i 1) (L.i 2) (L.i 3) (L.l 0) (L.l 1) := by
  kernel_rfl
def etell.spec : Eng.Spec := etell.sig.spec (fun N L => etell.F N (L.i 0) (L.i 1) (L.i 2) (L.i 3) (L.l 0) (L.l 1)) etell.enc
theorem etell.cok (N : Nat) : CfgOK (etell.C N) := cok0 wide ⟨len64.ok, trivial⟩ (by kernel_rfl) rfl rfl rfl rfl
theorem etell.aok (N : Nat) : AnnsOK (etell.K N) := aok1 trivial
theorem etell.ok : CallOK Tryz.prog 18 etell.spec := ok0 etell.cok (fun _ => iok0 rfl) etell.aok etell.F_eq (by kernel_rfl) (by kernel_rfl) (fun _ => rfl) (fun _ => ⟨rfl, rfl⟩) fun _ _ => ⟨rfl, rfl⟩
def indexf8.sig : Eng.Sig := { args := [.at (.roi .u8 0), .at (.fn 76)], n := 0, pre := [], post := [], m := 0, ret := .at (.int .i64 0) }
def indexf8.C (N : Nat) : Cfg := { P := Tryz.prog, N := N, RT := noRT, specs := [], inl := [(76, FCfg.none)], hi := 0, mv := [] }
abbrev indexf8.R : Type := Int
def indexf8.dec (L : Eng.Leaves) : indexf8.R := (L.i 0)
def indexf8.enc (r : indexf8.R) : Eng.Leaves := mkL [r] [] [] []
abbrev indexf8.loop2.R : Type := Int
def indexf8.loop2.ann : Ann := { nx := 20, slots := [(0, .at (.froi .u8 0)), (1, .at (.fn 76)), (4, .at (.int .i64 0)), (7, .at (.fint .i64 0)), (8, .at (.int .i64 1))], blks := [], mov := [], exId := 0, xslots := [(4, .at (.int .i64 0))], xblks := [], T := indexf8.loop2.R, dec := fun L => (L.i 0), enc := fun r => mkL [r] [] [] [], ret := true }
def indexf8.K (N : Nat) : FCfg := { anns := [(2, indexf8.loop2.ann)], unr := [], lits := [], lets := [] }
def indexf8.loop2 (N : Nat) : Nat → List Int → Int → List Int → Int → Int → Option (indexf8.loop2.R ⊕ indexf8.R)
  | 0, _, _, _, _, _ => none
  | nn + 1, e_b, s7, b, s4, s8 =>
  (br (decide (s8 < s7))
  (chk ((0 : Int) ≤ s8 ∧ s8 < ↑b.length)
  (br (b.getD s8.toNat (0 : Int) != (0 : Int))
  (omap
  (some s8) .inr)
  (chkL b b
  (chkI s7 s7
  (indexf8.loop2 N nn e_b s7 b s4 (IntKind.i64.wrap (s8 + (1 : Int))))))))
  (some (Sum.inl s4)))
def indexf8.loop2R (N nn : Nat) (e_b : List Int) (s7 : Int) (b : List Int) (s4 s8 : Int) : Option (indexf8.loop2.R ⊕ indexf8.R) := loopR indexf8.loop2.ann (mkL [s7] [] [b] []) (evCode ((indexf8.C N).inLoop indexf8.loop2.ann) (indexf8.K N) (inlTab (indexf8.C N) 1) (bodyAt 2 Tryz.f130)) (sigKr Tryz.prog Tryz.f130 indexf8.sig (mkL [] [] [e_b] []) fun L => (L.i 0)) nn (mkL [s4, s8] [] [] [])
theorem indexf8.loop2_eq (N : Nat) : ∀ nn, indexf8.loop2R N nn = indexf8.loop2 N nn
  | 0 => by funext; kernel_rfl
  | nn + 1 => by
    funext; rw [indexf8.loop2, ← indexf8.loop2_eq N nn]; kernel_rfl
def indexf8.F (N : Nat) (b : List Int) : Option indexf8.R :=
  (osum (indexf8.loop2 N N b (↑b.length) b ((0 : Int)) ((0 : Int))) fun r0 =>
  (some ((-1 : Int))))
theorem indexf8.F_eq (N : Nat) (L : Eng.Leaves) : evSig (indexf8.C N) (indexf8.K N) 1 Tryz.f130 indexf8.sig L indexf8.dec = indexf8.F N (L.l 0) := by
  rw [indexf8.F, ← funext (indexf8.loop2_eq N)]; kernel_rfl
def indexf8.spec : Eng.Spec := indexf8.sig.spec (fun N L => indexf8.F N (L.l 0)) indexf8.enc
theorem indexf8.cok (N : Nat) : CfgOK (indexf8.C N) := cok0 wide trivial (by kernel_rfl) rfl rfl rfl rfl
theorem indexf8.aok (N : Nat) : AnnsOK (indexf8.K N) := aok1 ⟨fun _ _ => ⟨rfl, rfl⟩, trivial⟩
theorem indexf8.ok : CallOK Tryz.prog 130 indexf8.spec := ok0 indexf8.cok (fun _ q hq => by
      simp only [indexf8.C, List.mem_cons, List.not_mem_nil, or_false] at hq
      subst hq
      exact ⟨fun q hq => by simp [FCfg.none] at hq, by kernel_rfl⟩) indexf8.aok indexf8.F_eq (by kernel_rfl) (by kernel_rfl) (fun _ => rfl) (fun _ => ⟨rfl, rfl⟩) fun _ _ => ⟨rfl, rfl⟩
def contains8.sig : Eng.Sig := { args := [.at (.roi .u8 0), .at (.fn 76)], n := 0, pre := [], post := [], m := 0, ret := .at (.bool 0) }
def contains8.C (N : Nat) : Cfg := { P := Tryz.prog, N := N, RT := noRT, specs := [(130, indexf8.spec)], inl := [], hi := 0, mv := [] }
abbrev contains8.R : Type := Bool
def contains8.dec (L : Eng.Leaves) : contains8.R := (L.b 0)
def contains8.enc (r : contains8.R) : Eng.Leaves := mkL [] [r] [] []
def contains8.K (N : Nat) : FCfg := { anns := [], unr := [], lits := [], lets := [] }
def contains8.F (N : Nat) (b : List Int) : Option contains8.R :=
  (obind (Rc.indexf8.F N b) fun r0 =>
  (some (decide (r0 ≥ (0 : Int)))))
theorem contains8.F_eq (N : Nat) (L : Eng.Leaves) : evSig (contains8.C N) (contains8.K N) 0 Tryz.f75 contains8.sig L contains8.dec = contains8.F N (L.l 0) := by
  kernel_rfl
def contains8.spec : Eng.Spec := contains8.sig.spec (fun N L => contains8.F N (L.l 0)) contains8.enc
theorem contains8.cok (N : Nat) : CfgOK (contains8.C N) := cok0 wide ⟨indexf8.ok, trivial⟩ (by kernel_rfl) rfl rfl rfl rfl
theorem contains8.aok (N : Nat) : AnnsOK (contains8.K N) := aok1 trivial
theorem contains8.ok : CallOK Tryz.prog 75 contains8.spec := ok0 contains8.cok (fun _ => iok0 rfl) contains8.aok contains8.F_eq (by kernel_rfl) (by kernel_rfl) (fun _ => rfl) (fun _ => ⟨rfl, rfl⟩) fun _ _ => ⟨rfl, rfl⟩
def isnan8.sig : Eng.Sig := { args := [.at (.int .u8 0)], n := 0, pre := [], post := [], m := 0, ret := .at (.bool 0) }
def isnan8.C (N : Nat) : Cfg := { P := Tryz.prog, N := N, RT := noRT, specs := [], inl := [], hi := 0, mv := [] }
abbrev isnan8.R : Type := Bool
def isnan8.dec (L : Eng.Leaves) : isnan8.R := (L.b 0)
def isnan8.enc (r : isnan8.R) : Eng.Leaves := mkL [] [r] [] []
def isnan8.K (N : Nat) : FCfg := { anns := [], unr := [], lits := [], lets := [] }
def isnan8.F (N : Nat) (x : Int) : Option isnan8.R :=
  (some (x != x))
theorem isnan8.F_eq (N : Nat) (L : Eng.Leaves) : evSig (isnan8.C N) (isnan8.K N) 0 Tryz.f158 isnan8.sig L isnan8.dec = isnan8.F N (L.i 0) := by
  kernel_rfl
def isnan8.spec : Eng.Spec := isnan8.sig.spec (fun N L => isnan8.F N (L.i 0)) isnan8.enc
theorem isnan8.cok (N : Nat) : CfgOK (isnan8.C N) := cok0 wide trivial (by kernel_rfl) rfl rfl rfl rfl
theorem isnan8.aok (N : Nat) : AnnsOK (isnan8.K N) := aok1 trivial
theorem isnan8.ok : CallOK Tryz.prog 158 isnan8.spec := ok0 isnan8.cok (fun _ => iok0 rfl) isnan8.aok isnan8.F_eq (by kernel_rfl) (by kernel_rfl) (fun _ => rfl) (fun _ => ⟨rfl, rfl⟩) fun _ _ => ⟨rfl, rfl⟩
def cmp8.sig : Eng.Sig := { args := [.at (.int .u8 0), .at (.int .u8 1)], n := 0, pre := [], post := [], m := 0, ret := .at (.int .i64 0) }
def cmp8.C (N : Nat) : Cfg := { P := Tryz.prog, N := N, RT := noRT, specs := [(158, isnan8.spec)], inl := [], hi := 0, mv := [] }
abbrev cmp8.R : Type := Int
def cmp8.dec (L : Eng.Leaves) : cmp8.R := (L.i 0)
def cmp8.enc (r : cmp8.R) : Eng.Leaves := mkL [r] [] [] []
def cmp8.K (N : Nat) : FCfg := { anns := [], unr := [], lits := [], lets := [] }
def cmp8.F (N : Nat) (x y : Int) : Option cmp8.R :=
  (obind (Rc.isnan8.F N x) fun r0 =>
  (obind (Rc.isnan8.F N y) fun r1 =>
  (br r0
  (br r1
  (some ((0 : Int)))
  (some ((-1 : Int))))
  (br r1
  (some ((1 : Int)))
  (br (decide (x < y))
  (some ((-1 : Int)))
  (br (decide (x > y))
  (some ((1 : Int)))
  (some ((0 : Int)))))))))
theorem cmp8.F_eq (N : Nat) (L : Eng.Leaves) : evSig (cmp8.C N) (cmp8.K N) 0 Tryz.f131 cmp8.sig L cmp8.dec = cmp8.F N (L.i 0) (L.i 1) := by
  kernel_rfl
def cmp8.spec : Eng.Spec := cmp8.sig.spec (fun N L => cmp8.F N (L.i 0) (L.i 1)) cmp8.enc
theorem cmp8.cok (N : Nat) : CfgOK (cmp8.C N) := cok0 wide ⟨isnan8.ok, trivial⟩ (by kernel_rfl) rfl rfl rfl rfl
theorem cmp8.aok (N : Nat) : AnnsOK (cmp8.K N) := aok1 trivial
theorem cmp8.ok : CallOK Tryz.prog 131 cmp8.spec := ok0 cmp8.cok (fun _ => iok0 rfl) cmp8.aok cmp8.F_eq (by kernel_rfl) (by kernel_rfl) (fun _ => rfl) (fun _ => ⟨rfl, rfl⟩) fun _ _ => ⟨rfl, rfl⟩
def compare8.sig : Eng.Sig := { args := [.at (.roi .u8 0), .at (.roi .u8 1)], n := 0, pre := [], post := [], m := 0, ret := .at (.int .i64 0) }
def compare8.C (N : Nat) : Cfg := { P := Tryz.prog, N := N, RT := noRT, specs := [(131, cmp8.spec)], inl := [], hi := 0, mv := [] }
abbrev compare8.R : Type := Int
def compare8.dec (L : Eng.Leaves) : compare8.R := (L.i 0)
def compare8.enc (r : compare8.R) : Eng.Leaves := mkL [r] [] [] []
abbrev compare8.loop2.R : Type := Int
def compare8.loop2.ann : Ann := { nx := 20, slots := [(1, .at (.froi .u8 0)), (4, .at (.int .i64 0)), (9, .at (.froi .u8 1)), (10, .at (.fint .i64 0)), (11, .at (.int .i64 1))], blks := [], mov := [], exId := 0, xslots := [(4, .at (.int .i64 0))], xblks := [], T := compare8.loop2.R, dec := fun L => (L.i 0), enc := fun r => mkL [r] [] [] [], ret := true }
def compare8.K (N : Nat) : FCfg := { anns := [(2, compare8.loop2.ann)], unr := [], lits := [], lets := [] }
def compare8.loop2 (N : Nat) : Nat → List Int → List Int → Int → List Int → List Int → Int → Int → Option (compare8.loop2.R ⊕ compare8.R)
  | 0, _, _, _, _, _, _, _ => none
  | nn + 1, e_x, e_y, s10, y, s9, s4, s11 =>
  (br (decide (s11 < s10))
  (chk ((0 : Int) ≤ s11 ∧ s11 < ↑s9.length)
  (br (decide (s11 ≥ ↑y.length))
  (omap
  (some ((1 : Int))) .inr)
  (chk ((0 : Int) ≤ s11 ∧ s11 < ↑y.length)
  (obind (Rc.cmp8.F N (s9.getD s11.toNat (0 : Int)) (y.getD s11.toNat (0 : Int))) fun r0 =>
  (br (r0 != (0 : Int))
  (omap
  (some r0) .inr)
  (chkL y y
  (chkL s9 s9
  (chkI s10 s10
  (compare8.loop2 N nn e_x e_y s10 y s9 s4 (IntKind.i64.wrap (s11 + (1 : Int))))))))))))
  (some (Sum.inl s4)))
def compare8.loop2R (N nn : Nat) (e_x e_y : List Int) (s10 : Int) (y s9 : List Int) (s4 s11 : Int) : Option (compare8.loop2.R ⊕ compare8.R) := loopR compare8.loop2.ann (mkL [s10] [] [y, s9] []) (evCode ((compare8.C N).inLoop compare8.loop2.ann) (compare8.K N) (inlTab (compare8.C N) 0) (bodyAt 2 Tryz.f78)) (sigKr Tryz.prog Tryz.f78 compare8.sig (mkL [] [] [e_x, e_y] []) fun L => (L.i 0)) nn (mkL [s4, s11] [] [] [])
theorem compare8.loop2_eq (N : Nat) : ∀ nn, compare8.loop2R N nn = compare8.loop2 N nn
  | 0 => by funext; kernel_rfl
  | nn + 1 => by
    funext; rw [compare8.loop2, ← compare8.loop2_eq N nn]; kernel_rfl
def compare8.F (N : Nat) (x y : List Int) : Option compare8.R :=
  (osum (compare8.loop2 N N x y (↑x.length) y x ((0 : Int)) ((0 : Int))) fun r0 =>
  (br (decide ((x.length : Int) < ↑y.length))
  (some ((-1 : Int)))
  (some ((0 : Int)))))
theorem compare8.F_eq (N : Nat) (L : Eng.Leaves) : evSig (compare8.C N) (compare8.K N) 0 Tryz.f78 compare8.sig L compare8.dec = compare8.F N (L.l 0) (L.l 1) := by
  rw [compare8.F, ← funext (compare8.loop2_eq N)]; kernel_rfl
def compare8.spec : Eng.Spec := compare8.sig.spec (fun N L => compare8.F N (L.l 0) (L.l 1)) compare8.enc
theorem compare8.cok (N : Nat) : CfgOK (compare8.C N) := cok0 wide ⟨cmp8.ok, trivial⟩ (by kernel_rfl) rfl rfl rfl rfl
theorem compare8.aok (N : Nat) : AnnsOK (compare8.K N) := aok1 ⟨fun _ _ => ⟨rfl, rfl⟩, trivial⟩
theorem compare8.ok : CallOK Tryz.prog 78 compare8.spec := ok0 compare8.cok (fun _ => iok0 rfl) compare8.aok compare8.F_eq (by kernel_rfl) (by kernel_rfl) (fun _ => rfl) (fun _ => ⟨rfl, rfl⟩) fun _ _ => ⟨rfl, rfl⟩
def increase.sig : Eng.Sig := { args := [.at (.full 0 false), .at (.int .i64 0)], n := 1, pre := [(0, .ints false .u8 0)], post := [(0, .ints false .u8 0)], m := 0, ret := .at (.unk) }
def increase.C (N : Nat) : Cfg := { P := Tryz.prog, N := N, RT := noRT, specs := [], inl := [], hi := 1, mv := [] }
abbrev increase.R : Type := List Int
def increase.dec (L : Eng.Leaves) : increase.R := (L.l 0)
def increase.enc (r : increase.R) : Eng.Leaves := mkL [] [] [r] []
abbrev increase.loop2.R : Type := List Int
def increase.loop2.ann : Ann := { nx := 20, slots := [(0, .at (.full 0 false)), (4, .at (.int .i64 0)), (5, .at (.int .i64 1))], blks := [(0, .ints false .u8 0)], mov := [], exId := 0, xslots := [(0, .at (.full 0 false))], xblks := [(0, .ints false .u8 0)], T := increase.loop2.R, dec := fun L => (L.l 0), enc := fun r => mkL [] [] [r] [], ret := false }
def increase.K (N : Nat) : FCfg := { anns := [(2, increase.loop2.ann)], unr := [], lits := [], lets := [] }
def increase.loop2 (N : Nat) : Nat → Int → Int → List Int → Option increase.loop2.R
  | 0, _, _, _ => none
  | nn + 1, carry, i, b =>
  (br (decide (i ≥ (0 : Int)))
  (br (decide (carry > (0 : Int)))
  (chk ((0 : Int) ≤ i ∧ i < ↑b.length)
  (chk ((0 : Int) ≤ i ∧ i < ↑b.length)
  (increase.loop2 N nn ((IntKind.i64.wrap (carry + IntKind.i64.wrap (b.getD i.toNat (0 : Int)))).fdiv ((2 : Int) ^ min (Int.toNat (8 : Int)) IntKind.i64.bits)) (IntKind.i64.wrap (i - (1 : Int))) (b.set i.toNat (IntKind.u8.wrap (IntKind.i64.wrap (carry + IntKind.i64.wrap (b.getD i.toNat (0 : Int)))))))))
  (some b))
  (some b))
def increase.loop2R (N nn : Nat) (carry i : Int) (b : List Int) : Option increase.loop2.R := loopF increase.loop2.ann (mkL [] [] [] []) (evCode ((increase.C N).inLoop increase.loop2.ann) (increase.K N) (inlTab (increase.C N) 0) (bodyAt 2 Tryz.f77)) nn (mkL [carry, i] [] [b] [])
theorem increase.loop2_eq (N : Nat) : ∀ nn, increase.loop2R N nn = increase.loop2 N nn
  | 0 => by funext; kernel_rfl
  | nn + 1 => by
    funext; rw [increase.loop2, ← increase.loop2_eq N nn]; kernel_rfl
def increase.F (N : Nat) (power : Int) (b : List Int) : Option increase.R :=
  (chk ((0 : Int) ≤ power.tmod (8 : Int))
  (obind (increase.loop2 N N (IntKind.i64.wrap ((1 : Int) * (2 : Int) ^ min (power.tmod (8 : Int)).toNat IntKind.i64.bits)) (IntKind.i64.wrap (IntKind.i64.wrap (↑b.length - (1 : Int)) - IntKind.i64.wrap (power.tdiv (8 : Int)))) b) fun r0 =>
  (some r0)))
theorem increase.F_eq (N : Nat) (L : Eng.Leaves) : evSig (increase.C N) (increase.K N) 0 Tryz.f77 increase.sig L increase.dec = increase.F N (L.i 0) (L.l 0) := by
  rw [increase.F, ← funext (increase.loop2_eq N)]; kernel_rfl
def increase.spec : Eng.Spec := increase.sig.spec (fun N L => increase.F N (L.i 0) (L.l 0)) increase.enc
theorem increase.cok (N : Nat) : CfgOK (increase.C N) := cok0 wide trivial (by kernel_rfl) rfl rfl rfl rfl
theorem increase.aok (N : Nat) : AnnsOK (increase.K N) := aok1 ⟨fun _ _ => ⟨rfl, rfl⟩, trivial⟩
theorem increase.ok : CallOK Tryz.prog 77 increase.spec := ok0 increase.cok (fun _ => iok0 rfl) increase.aok increase.F_eq (by kernel_rfl) (by kernel_rfl) (fun _ => rfl) (fun _ => ⟨rfl, rfl⟩) fun _ _ => ⟨rfl, rfl⟩
def enew.sig : Eng.Sig := { args := [], n := 0, pre := [], post := [(0, .cells 6 [.full 1 false, .int .u64 0, .int .u64 1, .full 2 false, .int .i64 2, .int .i64 3]), (1, .ints true .u8 0), (2, .ints true .u8 1)], m := 3, ret := .at (.ptr 0 0) }
def enew.C (N : Nat) : Cfg := { P := Tryz.prog, N := N, RT := noRT, specs := [], inl := [], hi := 0, mv := [] }
abbrev enew.R : Type := Int × Int × Int × Int × List Int × List Int
def enew.dec (L : Eng.Leaves) : enew.R := (L.i 0, L.i 1, L.i 2, L.i 3, L.l 0, L.l 1)
def enew.enc (r : enew.R) : Eng.Leaves := mkL [r.1, r.2.1, r.2.2.1, r.2.2.2.1] [] [r.2.2.2.2.1, r.2.2.2.2.2] []
def enew.K (N : Nat) : FCfg := { anns := [], unr := [], lits := [], lets := [] }
def enew.F (N : Nat)  : Option enew.R :=
  (some (((0 : Int), (2147483648 : Int), (0 : Int), (33 : Int), ([] : List Int), ([] : List Int))))
theorem enew.F_eq (N : Nat) (L : Eng.Leaves) : evSig (enew.C N) (enew.K N) 0 Tryz.f14 enew.sig L enew.dec = enew.F N  := by
  kernel_rfl
def enew.spec : Eng.Spec := enew.sig.spec (fun N L => enew.F N ) enew.enc
theorem enew.cok (N : Nat) : CfgOK (enew.C N) := cok0 wide trivial (by kernel_rfl) rfl rfl rfl rfl
theorem enew.aok (N : Nat) : AnnsOK (enew.K N) := aok1 trivial
theorem enew.ok : CallOK Tryz.prog 14 enew.spec := ok0 enew.cok (fun _ => iok0 rfl) enew.aok enew.F_eq (by kernel_rfl) (by kernel_rfl) (fun _ => rfl) (fun _ => ⟨rfl, rfl⟩) fun _ _ => ⟨rfl, rfl⟩
def edone.sig : Eng.Sig := { args := [.at (.ptr 0 0), .at (.int .i64 0)], n := 3, pre := [(0, .cells 6 [.full 1 false, .int .u64 1, .int .u64 2, .full 2 false, .int .i64 3, .int .i64 4]), (1, .ints true .u8 0), (2, .ints true .u8 1)], post := [(0, .cells 6 [.full 1 false, .fint .u64 1, .fint .u64 2, .full 2 false, .fint .i64 3, .fint .i64 4]), (1, .fints true .u8 0), (2, .fints true .u8 1), (3, .ints false .u8 0)], m := 1, ret := .tup [(false, [.full 3 false]), (false, [.int .i64 0])] }
def edone.C (N : Nat) : Cfg := { P := Tryz.prog, N := N, RT := noRT, specs := [(18, etell.spec), (50, clone8.spec), (75, contains8.spec), (77, increase.spec), (78, compare8.spec)], inl := [], hi := 3, mv := [] }
abbrev edone.R : Type := Int × List Int
def edone.dec (L : Eng.Leaves) : edone.R := (L.i 0, L.l 0)
def edone.enc (r : edone.R) : Eng.Leaves := mkL [r.1] [] [r.2] []
abbrev edone.loop12.R : Type := List Int
def edone.loop12.ann : Ann := { nx := 20, slots := [(0, .at (.ptr 0 0)), (1, .at (.fint .i64 0)), (7, .at (.full 8 true)), (78, .at (.fint .i64 1)), (79, .at (.int .i64 0))], blks := [(0, .cells 6 [.full 1 false, .fint .u64 2, .fint .u64 3, .full 2 false, .fint .i64 4, .fint .i64 5]), (1, .fints true .u8 0), (2, .fints true .u8 1), (8, .ints false .u8 0)], mov := [], exId := 1, xslots := [(0, .at (.ptr 0 0)), (7, .at (.full 8 true))], xblks := [(0, .cells 6 [.full 1 false, .fint .u64 2, .fint .u64 3, .full 2 false, .fint .i64 4, .fint .i64 5]), (1, .fints true .u8 0), (2, .fints true .u8 1), (8, .ints false .u8 0)], T := edone.loop12.R, dec := fun L => (L.l 0), enc := fun r => mkL [] [] [r] [], ret := false }
def edone.K (N : Nat) : FCfg := { anns := [(12, edone.loop12.ann)], unr := [], lits := [54], lets := [] }
def edone.loop12 (N : Nat) : Nat → Int → Int → Int → Int → Int → Int → List Int → List Int → Int → List Int → Option edone.loop12.R
  | 0, _, _, _, _, _, _, _, _, _, _ => none
  | nn + 1, n, s78, val, rng, rawBits, count, told, raw, s79, l8 =>
  (br (decide (s79 < s78))
  (chk ((0 : Int) ≤ s79.tmod (8 : Int))
  (chk ((0 : Int) ≤ IntKind.i64.wrap (IntKind.i64.wrap (n - (1 : Int)) - IntKind.i64.wrap (s79.tdiv (8 : Int))) ∧ IntKind.i64.wrap (IntKind.i64.wrap (n - (1 : Int)) - IntKind.i64.wrap (s79.tdiv (8 : Int))) < ↑l8.length)
  (chk ((0 : Int) ≤ IntKind.i64.wrap (s79.tdiv (8 : Int)) ∧ IntKind.i64.wrap (s79.tdiv (8 : Int)) < ↑raw.length)
  (chk ((0 : Int) ≤ IntKind.i64.wrap (IntKind.i64.wrap (n - (1 : Int)) - IntKind.i64.wrap (s79.tdiv (8 : Int))) ∧ IntKind.i64.wrap (IntKind.i64.wrap (n - (1 : Int)) - IntKind.i64.wrap (s79.tdiv (8 : Int))) < ↑l8.length)
  (chkI n n
  (chkI s78 s78
  (chkI val val
  (chkI rng rng
  (chkI rawBits rawBits
  (chkI count count
  (chkL told told
  (chkL raw raw
  (edone.loop12 N nn n s78 val rng rawBits count told raw (IntKind.i64.wrap (s79 + (1 : Int))) (l8.set (IntKind.i64.wrap (IntKind.i64.wrap (n - (1 : Int)) - IntKind.i64.wrap (s79.tdiv (8 : Int)))).toNat (IntKind.u8.wrap ↑(BitVec.ofInt IntKind.u8.bits (IntKind.u8.wrap ↑(BitVec.ofInt IntKind.u8.bits (l8.getD (IntKind.i64.wrap (IntKind.i64.wrap (n - (1 : Int)) - IntKind.i64.wrap (s79.tdiv (8 : Int)))).toNat (0 : Int)) &&& ~~~BitVec.ofInt IntKind.u8.bits (IntKind.u8.wrap ((1 : Int) * (2 : Int) ^ min (s79.tmod (8 : Int)).toNat IntKind.u8.bits))).toNat) ||| BitVec.ofInt IntKind.u8.bits (IntKind.u8.wrap ↑(BitVec.ofInt IntKind.u8.bits (raw.getD (IntKind.i64.wrap (s79.tdiv (8 : Int))).toNat (0 : Int)) &&& BitVec.ofInt IntKind.u8.bits (IntKind.u8.wrap ((1 : Int) * (2 : Int) ^ min (s79.tmod (8 : Int)).toNat IntKind.u8.bits))).toNat)).toNat)))))))))))))))
  (chkI val val
  (chkI rng rng
  (chkI rawBits rawBits
  (chkI count count
  (chkL told told
  (chkL raw raw
  (some l8))))))))
def edone.loop12R (N nn : Nat) (n s78 val rng rawBits count : Int) (told raw : List Int) (s79 : Int) (l8 : List Int) : Option edone.loop12.R := loopF edone.loop12.ann (mkL [n, s78, val, rng, rawBits, count] [] [told, raw] []) (evCode ((edone.C N).inLoop edone.loop12.ann) (edone.K N) (inlTab (edone.C N) 0) (bodyAt 12 Tryz.f24)) nn (mkL [s79] [] [l8] [])
theorem edone.loop12_eq (N : Nat) : ∀ nn, edone.loop12R N nn = edone.loop12 N nn
  | 0 => by funext; kernel_rfl
  | nn + 1 => by
    funext; rw [edone.loop12, ← edone.loop12_eq N nn]; kernel_rfl
def edone.F (N : Nat) (n val rng rawBits count : Int) (told raw : List Int) : Option edone.R :=
  (br (decide (n < (0 : Int)))
  (chkI val val
  (chkI rng rng
  (chkI rawBits rawBits
  (chkI count count
  (chkL told told
  (chkL raw raw
  (some (((1 : Int), ([] : List Int))))))))))
  (br (decide (n > (1275 : Int)))
  (chkI val val
  (chkI rng rng
  (chkI rawBits rawBits
  (chkI count count
  (chkL told told
  (chkL raw raw
  (some (((1 : Int), ([] : List Int))))))))))
  (obind (Rc.etell.F N val rng rawBits count told raw) fun r0 =>
  (br (decide (r0 > IntKind.i64.wrap ((8 : Int) * n)))
  (chkI val val
  (chkI rng rng
  (chkI rawBits rawBits
  (chkI count count
  (chkL told told
  (chkL raw raw
  (some (((2 : Int), ([] : List Int))))))))))
  (obind (Rc.clone8.F2 N told) fun r1 =>
  (chk (r1.length + [IntKind.u8.wrap (val.fdiv ((2 : Int) ^ min (Int.toNat (23 : Int)) IntKind.u64.bits)), IntKind.u8.wrap (val.fdiv ((2 : Int) ^ min (Int.toNat (15 : Int)) IntKind.u64.bits)), IntKind.u8.wrap (val.fdiv ((2 : Int) ^ min (Int.toNat (7 : Int)) IntKind.u64.bits)), IntKind.u8.wrap (IntKind.u64.wrap (val * (2 : Int) ^ min (Int.toNat (1 : Int)) IntKind.u64.bits))].length ≤ (140737488351232 : Nat))
  (chkI val val
  (chkI val val
  (chkI val val
  (chkI val val
  (chk ((0 : Int) ≤ n ∧ n ≤ n ∧ n ≤ ↑(17592186043904 : Nat))
  (br (decide (↑(r1 ++ [IntKind.u8.wrap (val.fdiv ((2 : Int) ^ min (Int.toNat (23 : Int)) IntKind.u64.bits)), IntKind.u8.wrap (val.fdiv ((2 : Int) ^ min (Int.toNat (15 : Int)) IntKind.u64.bits)), IntKind.u8.wrap (val.fdiv ((2 : Int) ^ min (Int.toNat (7 : Int)) IntKind.u64.bits)), IntKind.u8.wrap (IntKind.u64.wrap (val * (2 : Int) ^ min (Int.toNat (1 : Int)) IntKind.u64.bits))]).length > n))
  (chk ((0 : Int) ≤ n ∧ n ≤ ↑(r1 ++ [IntKind.u8.wrap (val.fdiv ((2 : Int) ^ min (Int.toNat (23 : Int)) IntKind.u64.bits)), IntKind.u8.wrap (val.fdiv ((2 : Int) ^ min (Int.toNat (15 : Int)) IntKind.u64.bits)), IntKind.u8.wrap (val.fdiv ((2 : Int) ^ min (Int.toNat (7 : Int)) IntKind.u64.bits)), IntKind.u8.wrap (IntKind.u64.wrap (val * (2 : Int) ^ min (Int.toNat (1 : Int)) IntKind.u64.bits))]).length)
  (obind (Rc.contains8.F N (List.take ((r1 ++ [IntKind.u8.wrap (val.fdiv ((2 : Int) ^ min (Int.toNat (23 : Int)) IntKind.u64.bits)), IntKind.u8.wrap (val.fdiv ((2 : Int) ^ min (Int.toNat (15 : Int)) IntKind.u64.bits)), IntKind.u8.wrap (val.fdiv ((2 : Int) ^ min (Int.toNat (7 : Int)) IntKind.u64.bits)), IntKind.u8.wrap (IntKind.u64.wrap (val * (2 : Int) ^ min (Int.toNat (1 : Int)) IntKind.u64.bits))]).length - n.toNat) (List.drop n.toNat (r1 ++ [IntKind.u8.wrap (val.fdiv ((2 : Int) ^ min (Int.toNat (23 : Int)) IntKind.u64.bits)), IntKind.u8.wrap (val.fdiv ((2 : Int) ^ min (Int.toNat (15 : Int)) IntKind.u64.bits)), IntKind.u8.wrap (val.fdiv ((2 : Int) ^ min (Int.toNat (7 : Int)) IntKind.u64.bits)), IntKind.u8.wrap (IntKind.u64.wrap (val * (2 : Int) ^ min (Int.toNat (1 : Int)) IntKind.u64.bits))])))) fun r2 =>
  (br r2
  (obind (Rc.increase.F N ((0 : Int)) (List.take (List.replicate n.toNat (0 : Int)).length (r1 ++ [IntKind.u8.wrap (val.fdiv ((2 : Int) ^ min (Int.toNat (23 : Int)) IntKind.u64.bits)), IntKind.u8.wrap (val.fdiv ((2 : Int) ^ min (Int.toNat (15 : Int)) IntKind.u64.bits)), IntKind.u8.wrap (val.fdiv ((2 : Int) ^ min (Int.toNat (7 : Int)) IntKind.u64.bits)), IntKind.u8.wrap (IntKind.u64.wrap (val * (2 : Int) ^ min (Int.toNat (1 : Int)) IntKind.u64.bits))]) ++ List.drop (min (r1 ++ [IntKind.u8.wrap (val.fdiv ((2 : Int) ^ min (Int.toNat (23 : Int)) IntKind.u64.bits)), IntKind.u8.wrap (val.fdiv ((2 : Int) ^ min (Int.toNat (15 : Int)) IntKind.u64.bits)), IntKind.u8.wrap (val.fdiv ((2 : Int) ^ min (Int.toNat (7 : Int)) IntKind.u64.bits)), IntKind.u8.wrap (IntKind.u64.wrap (val * (2 : Int) ^ min (Int.toNat (1 : Int)) IntKind.u64.bits))]).length (List.replicate n.toNat (0 : Int)).length) (List.replicate n.toNat (0 : Int)))) fun r3 =>
  (obind (Rc.clone8.F2 N r3) fun r4 =>
  (obind (edone.loop12 N N n rawBits val rng rawBits count told raw ((0 : Int)) r3) fun r5 =>
  (obind (Rc.compare8.F N r5 r4) fun r6 =>
  (br (decide (r6 < (0 : Int)))
  (obind (Rc.increase.F N rawBits r5) fun r7 =>
  (chkI val val
  (chkI rng rng
  (chkI rawBits rawBits
  (chkI count count
  (chkL told told
  (chkL raw raw
  (some (((0 : Int), r7))))))))))
  (chkI val val
  (chkI rng rng
  (chkI rawBits rawBits
  (chkI count count
  (chkL told told
  (chkL raw raw
  (some (((0 : Int), r5))))))))))))))
  (obind (Rc.clone8.F2 N (List.take (List.replicate n.toNat (0 : Int)).length (r1 ++ [IntKind.u8.wrap (val.fdiv ((2 : Int) ^ min (Int.toNat (23 : Int)) IntKind.u64.bits)), IntKind.u8.wrap (val.fdiv ((2 : Int) ^ min (Int.toNat (15 : Int)) IntKind.u64.bits)), IntKind.u8.wrap (val.fdiv ((2 : Int) ^ min (Int.toNat (7 : Int)) IntKind.u64.bits)), IntKind.u8.wrap (IntKind.u64.wrap (val * (2 : Int) ^ min (Int.toNat (1 : Int)) IntKind.u64.bits))]) ++ List.drop (min (r1 ++ [IntKind.u8.wrap (val.fdiv ((2 : Int) ^ min (Int.toNat (23 : Int)) IntKind.u64.bits)), IntKind.u8.wrap (val.fdiv ((2 : Int) ^ min (Int.toNat (15 : Int)) IntKind.u64.bits)), IntKind.u8.wrap (val.fdiv ((2 : Int) ^ min (Int.toNat (7 : Int)) IntKind.u64.bits)), IntKind.u8.wrap (IntKind.u64.wrap (val * (2 : Int) ^ min (Int.toNat (1 : Int)) IntKind.u64.bits))]).length (List.replicate n.toNat (0 : Int)).length) (List.replicate n.toNat (0 : Int)))) fun r8 =>
  (obind (edone.loop12 N N n rawBits val rng rawBits count told raw ((0 : Int)) (List.take (List.replicate n.toNat (0 : Int)).length (r1 ++ [IntKind.u8.wrap (val.fdiv ((2 : Int) ^ min (Int.toNat (23 : Int)) IntKind.u64.bits)), IntKind.u8.wrap (val.fdiv ((2 : Int) ^ min (Int.toNat (15 : Int)) IntKind.u64.bits)), IntKind.u8.wrap (val.fdiv ((2 : Int) ^ min (Int.toNat (7 : Int)) IntKind.u64.bits)), IntKind.u8.wrap (IntKind.u64.wrap (val * (2 : Int) ^ min (Int.toNat (1 : Int)) IntKind.u64.bits))]) ++ List.drop (min (r1 ++ [IntKind.u8.wrap (val.fdiv ((2 : Int) ^ min (Int.toNat (23 : Int)) IntKind.u64.bits)), IntKind.u8.wrap (val.fdiv ((2 : Int) ^ min (Int.toNat (15 : Int)) IntKind.u64.bits)), IntKind.u8.wrap (val.fdiv ((2 : Int) ^ min (Int.toNat (7 : Int)) IntKind.u64.bits)), IntKind.u8.wrap (IntKind.u64.wrap (val * (2 : Int) ^ min (Int.toNat (1 : Int)) IntKind.u64.bits))]).length (List.replicate n.toNat (0 : Int)).length) (List.replicate n.toNat (0 : Int)))) fun r9 =>
  (obind (Rc.compare8.F N r9 r8) fun r10 =>
  (br (decide (r10 < (0 : Int)))
  (obind (Rc.increase.F N rawBits r9) fun r11 =>
  (chkI val val
  (chkI rng rng
  (chkI rawBits rawBits
  (chkI count count
  (chkL told told
  (chkL raw raw
  (some (((0 : Int), r11))))))))))
  (chkI val val
  (chkI rng rng
  (chkI rawBits rawBits
  (chkI count count
  (chkL told told
  (chkL raw raw
  (some (((0 : Int), r9))))))))))))))))
  (obind (Rc.clone8.F2 N (List.take (List.replicate n.toNat (0 : Int)).length (r1 ++ [IntKind.u8.wrap (val.fdiv ((2 : Int) ^ min (Int.toNat (23 : Int)) IntKind.u64.bits)), IntKind.u8.wrap (val.fdiv ((2 : Int) ^ min (Int.toNat (15 : Int)) IntKind.u64.bits)), IntKind.u8.wrap (val.fdiv ((2 : Int) ^ min (Int.toNat (7 : Int)) IntKind.u64.bits)), IntKind.u8.wrap (IntKind.u64.wrap (val * (2 : Int) ^ min (Int.toNat (1 : Int)) IntKind.u64.bits))]) ++ List.drop (min (r1 ++ [IntKind.u8.wrap (val.fdiv ((2 : Int) ^ min (Int.toNat (23 : Int)) IntKind.u64.bits)), IntKind.u8.wrap (val.fdiv ((2 : Int) ^ min (Int.toNat (15 : Int)) IntKind.u64.bits)), IntKind.u8.wrap (val.fdiv ((2 : Int) ^ min (Int.toNat (7 : Int)) IntKind.u64.bits)), IntKind.u8.wrap (IntKind.u64.wrap (val * (2 : Int) ^ min (Int.toNat (1 : Int)) IntKind.u64.bits))]).length (List.replicate n.toNat (0 : Int)).length) (List.replicate n.toNat (0 : Int)))) fun r12 =>
  (obind (edone.loop12 N N n rawBits val rng rawBits count told raw ((0 : Int)) (List.take (List.replicate n.toNat (0 : Int)).length (r1 ++ [IntKind.u8.wrap (val.fdiv ((2 : Int) ^ min (Int.toNat (23 : Int)) IntKind.u64.bits)), IntKind.u8.wrap (val.fdiv ((2 : Int) ^ min (Int.toNat (15 : Int)) IntKind.u64.bits)), IntKind.u8.wrap (val.fdiv ((2 : Int) ^ min (Int.toNat (7 : Int)) IntKind.u64.bits)), IntKind.u8.wrap (IntKind.u64.wrap (val * (2 : Int) ^ min (Int.toNat (1 : Int)) IntKind.u64.bits))]) ++ List.drop (min (r1 ++ [IntKind.u8.wrap (val.fdiv ((2 : Int) ^ min (Int.toNat (23 : Int)) IntKind.u64.bits)), IntKind.u8.wrap (val.fdiv ((2 : Int) ^ min (Int.toNat (15 : Int)) IntKind.u64.bits)), IntKind.u8.wrap (val.fdiv ((2 : Int) ^ min (Int.toNat (7 : Int)) IntKind.u64.bits)), IntKind.u8.wrap (IntKind.u64.wrap (val * (2 : Int) ^ min (Int.toNat (1 : Int)) IntKind.u64.bits))]).length (List.replicate n.toNat (0 : Int)).length) (List.replicate n.toNat (0 : Int)))) fun r13 =>
  (obind (Rc.compare8.F N r13 r12) fun r14 =>
  (br (decide (r14 < (0 : Int)))
  (obind (Rc.increase.F N rawBits r13) fun r15 =>
  (chkI val val
  (chkI rng rng
  (chkI rawBits rawBits
  (chkI count count
  (chkL told told
  (chkL raw raw
  (some (((0 : Int), r15))))))))))
  (chkI val val
  (chkI rng rng
  (chkI rawBits rawBits
  (chkI count count
  (chkL told told
  (chkL raw raw
  (some (((0 : Int), r13)))))))))))))))))))))))))
theorem edone.F_eq (N : Nat) (L : Eng.Leaves) : evSig (edone.C N) (edone.K N) 0 Tryz.f24 edone.sig L edone.dec = edone.F N (L.i 0) (L.i 1) (L.i 2) (L.i 3) (L.i 4) (L.l 0) (L.l 1) := by
  rw [edone.F, ← funext (edone.loop12_eq N)]; kernel_rfl
def edone.spec : Eng.Spec := edone.sig.spec (fun N L => edone.F N (L.i 0) (L.i 1) (L.i 2) (L.i 3) (L.i 4) (L.l 0) (L.l 1)) edone.enc
theorem edone.cok (N : Nat) : CfgOK (edone.C N) := cok0 wide ⟨etell.ok, clone8.ok, contains8.ok, increase.ok, compare8.ok, trivial⟩ (by kernel_rfl) rfl rfl rfl rfl
theorem edone.aok (N : Nat) : AnnsOK (edone.K N) := aok1 ⟨fun _ _ => ⟨rfl, rfl⟩, trivial⟩
theorem edone.ok : CallOK Tryz.prog 24 edone.spec := ok0 edone.cok (fun _ => iok0 rfl) edone.aok edone.F_eq (by kernel_rfl) (by kernel_rfl) (fun _ => rfl) (fun _ => ⟨rfl, rfl⟩) fun _ _ => ⟨rfl, rfl⟩
end
end Go.Proofs.Rc
