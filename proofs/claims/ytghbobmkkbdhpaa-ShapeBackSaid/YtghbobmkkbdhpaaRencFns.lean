/-
  Functions of the program: what each comes to, and its contract (written by a program).
  Conditions: none: each contract is proved for every input of its shape.
-/
import Derived.Test.YtghbobmkkbdhpaaEngMkToEngWords
import Derived.Laws.Externs
import Derived.Test.YtghbobmkkbdhpaaProg
import Derived.Test.YtghbobmkkbdhpaaRcFns
set_option linter.unusedVariables false
set_option linter.unusedSimpArgs false
namespace Go.Proofs.Rc
open Go.Eng
set_option maxRecDepth 100000
noncomputable def ecarry.sig : Eng.Sig := { args := [.at (.ptr 0 0)], n := 3, pre := [(0, .cells 6 [.full 1 false, .int .u64 0, .int .u64 1, .full 2 false, .int .i64 2, .int .i64 3]), (1, .ints true .u8 0), (2, .ints true .u8 1)], post := [(0, .cells 6 [.full 1 false, .int .u64 0, .int .u64 1, .full 2 false, .int .i64 2, .int .i64 3]), (1, .ints true .u8 0), (2, .ints true .u8 1)], m := 0, ret := .at (.unk) }
noncomputable def ecarry.C (N : Nat) : Cfg := { P := Try.prog, N := N, RT := noRT, specs := [], inl := [], hi := 3, mv := [] }
abbrev ecarry.R : Type := Int × Int × Int × Int × List Int × List Int
def ecarry.dec (L : Eng.Leaves) : ecarry.R := (L.i 0, L.i 1, L.i 2, L.i 3, L.l 0, L.l 1)
def ecarry.enc (r : ecarry.R) : Eng.Leaves := mkL [r.1, r.2.1, r.2.2.1, r.2.2.2.1] [] [r.2.2.2.2.1, r.2.2.2.2.2] []
abbrev ecarry.loop1.R : Type := List Int
noncomputable def ecarry.loop1.ann : Ann := { nx := 20, slots := [(0, .at (.ptr 0 0)), (2, .at (.int .i64 0))], blks := [(0, .cells 6 [.full 1 false, .fint .u64 0, .fint .u64 1, .full 2 false, .fint .i64 2, .fint .i64 3]), (1, .ints true .u8 0), (2, .fints true .u8 0)], mov := [], exId := 0, xslots := [(0, .at (.ptr 0 0))], xblks := [(0, .cells 6 [.full 1 false, .fint .u64 0, .fint .u64 1, .full 2 false, .fint .i64 2, .fint .i64 3]), (1, .ints true .u8 0), (2, .fints true .u8 0)], T := ecarry.loop1.R, dec := fun L => (L.l 0), enc := fun r => mkL [] [] [r] [], ret := true }
noncomputable def ecarry.K (N : Nat) : FCfg := { anns := [(1, ecarry.loop1.ann)], unr := [], lits := [], lets := [] }
noncomputable def ecarry.loop1 (N : Nat) : Nat → Int → Int → Int → Int → List Int → List Int → Int → Int → Int → Int → List Int → Int → List Int → Option (ecarry.loop1.R ⊕ ecarry.R)
  | 0, _, _, _, _, _, _, _, _, _, _, _, _, _ => none
  | nn + 1, e_val, e_rng, e_rawBits, e_count, e_told, e_raw, val, rng, rawBits, count, raw, s2, told =>
  (br (decide (s2 ≥ (0 : Int)))
   (chk ((0 : Int) ≤ s2 ∧ s2 < ↑told.length)
   (chk ((0 : Int) ≤ s2 ∧ s2 < ↑told.length)
   (chk ((0 : Int) ≤ s2 ∧ s2 < ↑(told.set s2.toNat (IntKind.u8.wrap (told.getD s2.toNat (0 : Int) + (1 : Int)))).length)
   (br ((told.set s2.toNat (IntKind.u8.wrap (told.getD s2.toNat (0 : Int) + (1 : Int)))).getD s2.toNat (0 : Int) != (0 : Int))
   (omap
   (some ((val, rng, rawBits, count, told.set s2.toNat (IntKind.u8.wrap (told.getD s2.toNat (0 : Int) + (1 : Int))), raw))) .inr)
   (chkI val val
   (chkI rng rng
   (chkI rawBits rawBits
   (chkI count count
   (chkL raw raw
   (ecarry.loop1 N nn e_val e_rng e_rawBits e_count e_told e_raw val rng rawBits count raw (IntKind.i64.wrap (s2 - (1 : Int))) (told.set s2.toNat (IntKind.u8.wrap (told.getD s2.toNat (0 : Int) + (1 : Int))))))))))))))
   (chkI val val
   (chkI rng rng
   (chkI rawBits rawBits
   (chkI count count
   (chkL raw raw
   (some (Sum.inl told))))))))
noncomputable def ecarry.loop1R (N nn : Nat) (e_val : Int) (e_rng : Int) (e_rawBits : Int) (e_count : Int) (e_told : List Int) (e_raw : List Int) (val : Int) (rng : Int) (rawBits : Int) (count : Int) (raw : List Int) (s2 : Int) (told : List Int) : Option (ecarry.loop1.R ⊕ ecarry.R) := loopR ecarry.loop1.ann (mkL [val, rng, rawBits, count] [] [raw] []) (evCode ((ecarry.C N).inLoop ecarry.loop1.ann) (ecarry.K N) (inlTab (ecarry.C N) 0) (bodyAt 1 Try.f100)) (sigKr Try.prog Try.f100 ecarry.sig (mkL [e_val, e_rng, e_rawBits, e_count] [] [e_told, e_raw] []) fun L => (L.i 0, L.i 1, L.i 2, L.i 3, L.l 0, L.l 1)) nn (mkL [s2] [] [told] [])
theorem ecarry.loop1_eq (N : Nat) : ∀ (nn : Nat) (e_val : Int) (e_rng : Int) (e_rawBits : Int) (e_count : Int) (e_told : List Int) (e_raw : List Int) (val : Int) (rng : Int) (rawBits : Int) (count : Int) (raw : List Int) (s2 : Int) (told : List Int), ecarry.loop1R N nn e_val e_rng e_rawBits e_count e_told e_raw val rng rawBits count raw s2 told = ecarry.loop1 N nn e_val e_rng e_rawBits e_count e_told e_raw val rng rawBits count raw s2 told
  | 0, _, _, _, _, _, _, _, _, _, _, _, _, _ => by kernel_rfl
  | nn + 1, e_val, e_rng, e_rawBits, e_count, e_told, e_raw, val, rng, rawBits, count, raw, s2, told => by
    have h : ecarry.loop1R N (nn + 1) e_val e_rng e_rawBits e_count e_told e_raw val rng rawBits count raw s2 told =
  (br (decide (s2 ≥ (0 : Int)))
   (chk ((0 : Int) ≤ s2 ∧ s2 < ↑told.length)
   (chk ((0 : Int) ≤ s2 ∧ s2 < ↑told.length)
   (chk ((0 : Int) ≤ s2 ∧ s2 < ↑(told.set s2.toNat (IntKind.u8.wrap (told.getD s2.toNat (0 : Int) + (1 : Int)))).length)
   (br ((told.set s2.toNat (IntKind.u8.wrap (told.getD s2.toNat (0 : Int) + (1 : Int)))).getD s2.toNat (0 : Int) != (0 : Int))
   (omap
   (some ((val, rng, rawBits, count, told.set s2.toNat (IntKind.u8.wrap (told.getD s2.toNat (0 : Int) + (1 : Int))), raw))) .inr)
   (chkI val val
   (chkI rng rng
   (chkI rawBits rawBits
   (chkI count count
   (chkL raw raw
   (ecarry.loop1R N nn e_val e_rng e_rawBits e_count e_told e_raw val rng rawBits count raw (IntKind.i64.wrap (s2 - (1 : Int))) (told.set s2.toNat (IntKind.u8.wrap (told.getD s2.toNat (0 : Int) + (1 : Int))))))))))))))
   (chkI val val
   (chkI rng rng
   (chkI rawBits rawBits
   (chkI count count
   (chkL raw raw
   (some (Sum.inl told)))))))) := by kernel_rfl
    rw [h, ecarry.loop1]
    try simp only [ecarry.loop1_eq N nn]
noncomputable def ecarry.F (N : Nat) (val : Int) (rng : Int) (rawBits : Int) (count : Int) (told : List Int) (raw : List Int) : Option ecarry.R :=
  (osum (ecarry.loop1 N N val rng rawBits count told raw val rng rawBits count raw (IntKind.i64.wrap (↑told.length - (1 : Int))) told) fun r0 =>
   (some ((val, rng, rawBits, count, r0, raw))))
theorem ecarry.F_eq (N : Nat) (L : Eng.Leaves) : evSig (ecarry.C N) (ecarry.K N) 0 Try.f100 ecarry.sig L ecarry.dec = ecarry.F N (L.i 0) (L.i 1) (L.i 2) (L.i 3) (L.l 0) (L.l 1) := by
  have h : ∀ (val : Int) (rng : Int) (rawBits : Int) (count : Int) (told : List Int) (raw : List Int), evSig (ecarry.C N) (ecarry.K N) 0 Try.f100 ecarry.sig (mkL [val, rng, rawBits, count] [] [told, raw] []) ecarry.dec =
  (osum (ecarry.loop1R N N val rng rawBits count told raw val rng rawBits count raw (IntKind.i64.wrap (↑told.length - (1 : Int))) told) fun r0 =>
   (some ((val, rng, rawBits, count, r0, raw)))) := by
    intro val rng rawBits count told raw
    kernel_rfl
  have h2 : evSig (ecarry.C N) (ecarry.K N) 0 Try.f100 ecarry.sig L ecarry.dec = evSig (ecarry.C N) (ecarry.K N) 0 Try.f100 ecarry.sig (mkL [L.i 0, L.i 1, L.i 2, L.i 3] [] [L.l 0, L.l 1] []) ecarry.dec := by kernel_rfl
  rw [h2, h, ecarry.F]
  try simp only [ecarry.loop1_eq N]
noncomputable def ecarry.spec : Eng.Spec := ecarry.sig.spec (fun N L => ecarry.F N (L.i 0) (L.i 1) (L.i 2) (L.i 3) (L.l 0) (L.l 1)) ecarry.enc
theorem ecarry.cok (N : Nat) : CfgOK (ecarry.C N) := ⟨fun _ _ _ _ h => by simp [ecarry.C, noRT] at h, wide, by
  simp only [ecarry.C, List.mem_cons, List.not_mem_nil, or_false, forall_eq_or_imp, forall_eq, false_imp_iff, implies_true], fun g hg => by simp [ecarry.C] at hg, fun m hm => by simp [ecarry.C] at hm, fun q hq => by simp [ecarry.C] at hq⟩
theorem ecarry.aok (N : Nat) : AnnsOK (ecarry.K N) := by
  intro q hq
  simp only [ecarry.K, List.mem_cons, List.not_mem_nil, or_false] at hq
  subst hq
  exact fun _ _ => ⟨rfl, rfl⟩
theorem ecarry.ok : CallOK Try.prog 100 ecarry.spec :=
  callOK_of_sig (fn := Try.f100) (Cf := ecarry.C) (K := ecarry.K) (d := 0) (dec := ecarry.dec) (by kernel_rfl) (fun _ => rfl) ecarry.cok (fun _ q hq => by simp [ecarry.C] at hq) ecarry.aok
   (fun N L r h => (ecarry.F_eq N L).trans h) (by kernel_rfl) (fun _ => ⟨rfl, rfl⟩) (fun _ _ => ⟨rfl, rfl⟩)
noncomputable def enorm.sig : Eng.Sig := { args := [.at (.ptr 0 0)], n := 3, pre := [(0, .cells 6 [.full 1 false, .int .u64 0, .int .u64 1, .full 2 false, .int .i64 2, .int .i64 3]), (1, .ints true .u8 0), (2, .ints true .u8 1)], post := [(0, .cells 6 [.full 3 false, .int .u64 0, .int .u64 1, .full 2 false, .int .i64 2, .int .i64 3]), (1, .dead), (2, .ints true .u8 0), (3, .ints true .u8 1)], m := 1, ret := .at (.unk) }
noncomputable def enorm.C (N : Nat) : Cfg := { P := Try.prog, N := N, RT := noRT, specs := [(100, ecarry.spec)], inl := [], hi := 3, mv := [] }
abbrev enorm.R : Type := Int × Int × Int × Int × List Int × List Int
def enorm.dec (L : Eng.Leaves) : enorm.R := (L.i 0, L.i 1, L.i 2, L.i 3, L.l 0, L.l 1)
def enorm.enc (r : enorm.R) : Eng.Leaves := mkL [r.1, r.2.1, r.2.2.1, r.2.2.2.1] [] [r.2.2.2.2.1, r.2.2.2.2.2] []
abbrev enorm.loop3.R : Type := Int × Int × Int × List Int
noncomputable def enorm.loop3.ann : Ann := { nx := 21, slots := [(0, .at (.ptr 0 0))], blks := [(0, .cells 6 [.full 20 false, .int .u64 0, .int .u64 1, .full 2 false, .fint .i64 0, .int .i64 2]), (2, .fints true .u8 0), (20, .ints true .u8 0)], mov := [20], exId := 0, xslots := [(0, .at (.ptr 0 0))], xblks := [(0, .cells 6 [.full 20 false, .int .u64 0, .int .u64 1, .full 2 false, .fint .i64 0, .int .i64 2]), (2, .fints true .u8 0), (20, .ints true .u8 0)], T := enorm.loop3.R, dec := fun L => (L.i 0, L.i 1, L.i 2, L.l 0), enc := fun r => mkL [r.1, r.2.1, r.2.2.1] [] [r.2.2.2] [], ret := false }
noncomputable def enorm.K (N : Nat) : FCfg := { anns := [(3, enorm.loop3.ann)], unr := [], lits := [], lets := [] }
noncomputable def enorm.loop3 (N : Nat) : Nat → Int → List Int → Int → Int → Int → List Int → Option enorm.loop3.R
  | 0, _, _, _, _, _, _ => none
  | nn + 1, rawBits, raw, val, rng, count, told =>
  (br (decide (rng ≤ (8388608 : Int)))
   (chk (told.length + [IntKind.u8.wrap (val.fdiv ((2 : Int) ^ min (Int.toNat (23 : Int)) IntKind.u64.bits))].length ≤ (140737488351232 : Nat))
   (chkI rawBits rawBits
   (chkL raw raw
   (enorm.loop3 N nn rawBits raw (IntKind.u64.wrap ↑(BitVec.ofInt IntKind.u64.bits (IntKind.u64.wrap (val * (2 : Int) ^ min (Int.toNat (8 : Int)) IntKind.u64.bits)) &&& BitVec.ofInt IntKind.u64.bits (2147483647 : Int)).toNat) (IntKind.u64.wrap (rng * (2 : Int) ^ min (Int.toNat (8 : Int)) IntKind.u64.bits)) (IntKind.i64.wrap (count + (8 : Int))) (told ++ [IntKind.u8.wrap (val.fdiv ((2 : Int) ^ min (Int.toNat (23 : Int)) IntKind.u64.bits))])))))
   (chkI rawBits rawBits
   (chkL raw raw
   (some ((val, rng, count, told))))))
noncomputable def enorm.loop3R (N nn : Nat) (rawBits : Int) (raw : List Int) (val : Int) (rng : Int) (count : Int) (told : List Int) : Option enorm.loop3.R := loopF enorm.loop3.ann (mkL [rawBits] [] [raw] []) (evCode ((enorm.C N).inLoop enorm.loop3.ann) (enorm.K N) (inlTab (enorm.C N) 0) (bodyAt 3 Try.f99)) nn (mkL [val, rng, count] [] [told] [])
theorem enorm.loop3_eq (N : Nat) : ∀ (nn : Nat) (rawBits : Int) (raw : List Int) (val : Int) (rng : Int) (count : Int) (told : List Int), enorm.loop3R N nn rawBits raw val rng count told = enorm.loop3 N nn rawBits raw val rng count told
  | 0, _, _, _, _, _, _ => by kernel_rfl
  | nn + 1, rawBits, raw, val, rng, count, told => by
    have h : enorm.loop3R N (nn + 1) rawBits raw val rng count told =
  (br (decide (rng ≤ (8388608 : Int)))
   (chk (told.length + [IntKind.u8.wrap (val.fdiv ((2 : Int) ^ min (Int.toNat (23 : Int)) IntKind.u64.bits))].length ≤ (140737488351232 : Nat))
   (chkI rawBits rawBits
   (chkL raw raw
   (enorm.loop3R N nn rawBits raw (IntKind.u64.wrap ↑(BitVec.ofInt IntKind.u64.bits (IntKind.u64.wrap (val * (2 : Int) ^ min (Int.toNat (8 : Int)) IntKind.u64.bits)) &&& BitVec.ofInt IntKind.u64.bits (2147483647 : Int)).toNat) (IntKind.u64.wrap (rng * (2 : Int) ^ min (Int.toNat (8 : Int)) IntKind.u64.bits)) (IntKind.i64.wrap (count + (8 : Int))) (told ++ [IntKind.u8.wrap (val.fdiv ((2 : Int) ^ min (Int.toNat (23 : Int)) IntKind.u64.bits))])))))
   (chkI rawBits rawBits
   (chkL raw raw
   (some ((val, rng, count, told)))))) := by kernel_rfl
    rw [h, enorm.loop3]
    try simp only [enorm.loop3_eq N nn]
noncomputable def enorm.F (N : Nat) (val : Int) (rng : Int) (rawBits : Int) (count : Int) (told : List Int) (raw : List Int) : Option enorm.R :=
  (br (decide (val > (2147483647 : Int)))
   (obind (Rc.ecarry.F N val rng rawBits count told raw) fun r0 =>
   (obind (enorm.loop3 N N r0.snd.snd.fst r0.snd.snd.snd.snd.snd (IntKind.u64.wrap ↑(BitVec.ofInt IntKind.u64.bits r0.fst &&& BitVec.ofInt IntKind.u64.bits (2147483647 : Int)).toNat) r0.snd.fst r0.snd.snd.snd.fst r0.snd.snd.snd.snd.fst) fun r1 =>
   (some ((r1.fst, r1.snd.fst, r0.snd.snd.fst, r1.snd.snd.fst, r0.snd.snd.snd.snd.snd, r1.snd.snd.snd)))))
   (obind (enorm.loop3 N N rawBits raw val rng count told) fun r2 =>
   (some ((r2.fst, r2.snd.fst, rawBits, r2.snd.snd.fst, raw, r2.snd.snd.snd)))))
theorem enorm.F_eq (N : Nat) (L : Eng.Leaves) : evSig (enorm.C N) (enorm.K N) 0 Try.f99 enorm.sig L enorm.dec = enorm.F N (L.i 0) (L.i 1) (L.i 2) (L.i 3) (L.l 0) (L.l 1) := by
  have h : ∀ (val : Int) (rng : Int) (rawBits : Int) (count : Int) (told : List Int) (raw : List Int), evSig (enorm.C N) (enorm.K N) 0 Try.f99 enorm.sig (mkL [val, rng, rawBits, count] [] [told, raw] []) enorm.dec =
  (br (decide (val > (2147483647 : Int)))
   (obind (Rc.ecarry.F N val rng rawBits count told raw) fun r0 =>
   (obind (enorm.loop3R N N r0.snd.snd.fst r0.snd.snd.snd.snd.snd (IntKind.u64.wrap ↑(BitVec.ofInt IntKind.u64.bits r0.fst &&& BitVec.ofInt IntKind.u64.bits (2147483647 : Int)).toNat) r0.snd.fst r0.snd.snd.snd.fst r0.snd.snd.snd.snd.fst) fun r1 =>
   (some ((r1.fst, r1.snd.fst, r0.snd.snd.fst, r1.snd.snd.fst, r0.snd.snd.snd.snd.snd, r1.snd.snd.snd)))))
   (obind (enorm.loop3R N N rawBits raw val rng count told) fun r2 =>
   (some ((r2.fst, r2.snd.fst, rawBits, r2.snd.snd.fst, raw, r2.snd.snd.snd))))) := by
    intro val rng rawBits count told raw
    kernel_rfl
  have h2 : evSig (enorm.C N) (enorm.K N) 0 Try.f99 enorm.sig L enorm.dec = evSig (enorm.C N) (enorm.K N) 0 Try.f99 enorm.sig (mkL [L.i 0, L.i 1, L.i 2, L.i 3] [] [L.l 0, L.l 1] []) enorm.dec := by kernel_rfl
  rw [h2, h, enorm.F]
  try simp only [enorm.loop3_eq N]
noncomputable def enorm.spec : Eng.Spec := enorm.sig.spec (fun N L => enorm.F N (L.i 0) (L.i 1) (L.i 2) (L.i 3) (L.l 0) (L.l 1)) enorm.enc
theorem enorm.cok (N : Nat) : CfgOK (enorm.C N) := ⟨fun _ _ _ _ h => by simp [enorm.C, noRT] at h, wide, by
  simp only [enorm.C, List.mem_cons, List.not_mem_nil, or_false, forall_eq_or_imp, forall_eq, false_imp_iff, implies_true]
  exact ⟨ecarry.ok, by kernel_rfl⟩, fun g hg => by simp [enorm.C] at hg, fun m hm => by simp [enorm.C] at hm, fun q hq => by simp [enorm.C] at hq⟩
theorem enorm.aok (N : Nat) : AnnsOK (enorm.K N) := by
  intro q hq
  simp only [enorm.K, List.mem_cons, List.not_mem_nil, or_false] at hq
  subst hq
  exact fun _ _ => ⟨rfl, rfl⟩
theorem enorm.ok : CallOK Try.prog 99 enorm.spec :=
  callOK_of_sig (fn := Try.f99) (Cf := enorm.C) (K := enorm.K) (d := 0) (dec := enorm.dec) (by kernel_rfl) (fun _ => rfl) enorm.cok (fun _ q hq => by simp [enorm.C] at hq) enorm.aok
   (fun N L r h => (enorm.F_eq N L).trans h) (by kernel_rfl) (fun _ => ⟨rfl, rfl⟩) (fun _ _ => ⟨rfl, rfl⟩)
noncomputable def etake.sig : Eng.Sig := { args := [.at (.ptr 0 0), .at (.int .u64 0), .at (.int .u64 1), .at (.int .u64 2)], n := 3, pre := [(0, .cells 6 [.full 1 false, .int .u64 3, .int .u64 4, .full 2 false, .int .i64 5, .int .i64 6]), (1, .ints true .u8 0), (2, .ints true .u8 1)], post := [(0, .cells 6 [.full 3 false, .int .u64 0, .int .u64 1, .full 2 false, .int .i64 2, .int .i64 3]), (1, .dead), (2, .ints true .u8 0), (3, .ints true .u8 1)], m := 1, ret := .at (.unk) }
noncomputable def etake.C (N : Nat) : Cfg := { P := Try.prog, N := N, RT := noRT, specs := [(99, enorm.spec)], inl := [], hi := 3, mv := [] }
abbrev etake.R : Type := Int × Int × Int × Int × List Int × List Int
def etake.dec (L : Eng.Leaves) : etake.R := (L.i 0, L.i 1, L.i 2, L.i 3, L.l 0, L.l 1)
def etake.enc (r : etake.R) : Eng.Leaves := mkL [r.1, r.2.1, r.2.2.1, r.2.2.2.1] [] [r.2.2.2.2.1, r.2.2.2.2.2] []
noncomputable def etake.K (N : Nat) : FCfg := { anns := [], unr := [], lits := [], lets := [] }
noncomputable def etake.F (N : Nat) (fl : Int) (fh : Int) (ft : Int) (val : Int) (rng : Int) (rawBits : Int) (count : Int) (told : List Int) (raw : List Int) : Option etake.R :=
  (chk (ft ≠ (0 : Int))
   (br (decide (fl > (0 : Int)))
   (obind (Rc.enorm.F N (IntKind.u64.wrap (val + IntKind.u64.wrap (rng - IntKind.u64.wrap (IntKind.u64.wrap (rng.tdiv ft) * IntKind.u64.wrap (ft - fl))))) (IntKind.u64.wrap (IntKind.u64.wrap (rng.tdiv ft) * IntKind.u64.wrap (fh - fl))) rawBits count told raw) fun r0 =>
   (some ((r0.fst, r0.snd.fst, r0.snd.snd.fst, r0.snd.snd.snd.fst, r0.snd.snd.snd.snd.fst, r0.snd.snd.snd.snd.snd))))
   (obind (Rc.enorm.F N val (IntKind.u64.wrap (rng - IntKind.u64.wrap (IntKind.u64.wrap (rng.tdiv ft) * IntKind.u64.wrap (ft - fh)))) rawBits count told raw) fun r1 =>
   (some ((r1.fst, r1.snd.fst, r1.snd.snd.fst, r1.snd.snd.snd.fst, r1.snd.snd.snd.snd.fst, r1.snd.snd.snd.snd.snd))))))
theorem etake.F_eq (N : Nat) (L : Eng.Leaves) : evSig (etake.C N) (etake.K N) 0 Try.f92 etake.sig L etake.dec = etake.F N (L.i 0) (L.i 1) (L.i 2) (L.i 3) (L.i 4) (L.i 5) (L.i 6) (L.l 0) (L.l 1) := by
  kernel_rfl
noncomputable def etake.spec : Eng.Spec := etake.sig.spec (fun N L => etake.F N (L.i 0) (L.i 1) (L.i 2) (L.i 3) (L.i 4) (L.i 5) (L.i 6) (L.l 0) (L.l 1)) etake.enc
theorem etake.cok (N : Nat) : CfgOK (etake.C N) := ⟨fun _ _ _ _ h => by simp [etake.C, noRT] at h, wide, by
  simp only [etake.C, List.mem_cons, List.not_mem_nil, or_false, forall_eq_or_imp, forall_eq, false_imp_iff, implies_true]
  exact ⟨enorm.ok, by kernel_rfl⟩, fun g hg => by simp [etake.C] at hg, fun m hm => by simp [etake.C] at hm, fun q hq => by simp [etake.C] at hq⟩
theorem etake.aok (N : Nat) : AnnsOK (etake.K N) := by
  intro q hq
  simp only [etake.K, List.mem_cons, List.not_mem_nil, or_false] at hq
theorem etake.ok : CallOK Try.prog 92 etake.spec :=
  callOK_of_sig (fn := Try.f92) (Cf := etake.C) (K := etake.K) (d := 0) (dec := etake.dec) (by kernel_rfl) (fun _ => rfl) etake.cok (fun _ q hq => by simp [etake.C] at hq) etake.aok
   (fun N L r h => (etake.F_eq N L).trans h) (by kernel_rfl) (fun _ => ⟨rfl, rfl⟩) (fun _ _ => ⟨rfl, rfl⟩)
noncomputable def ebits.sig : Eng.Sig := { args := [.at (.ptr 0 0), .at (.int .i64 0), .at (.int .i64 1)], n := 3, pre := [(0, .cells 6 [.full 1 false, .int .u64 2, .int .u64 3, .full 2 false, .int .i64 4, .int .i64 5]), (1, .ints true .u8 0), (2, .ints true .u8 1)], post := [(0, .cells 6 [.full 1 false, .fint .u64 2, .fint .u64 3, .full 3 false, .int .i64 1, .int .i64 2]), (1, .fints true .u8 0), (2, .dead), (3, .ints true .u8 0)], m := 1, ret := .at (.int .i64 0) }
noncomputable def ebits.C (N : Nat) : Cfg := { P := Try.prog, N := N, RT := noRT, specs := [], inl := [], hi := 3, mv := [] }
abbrev ebits.R : Type := Int × Int × Int × List Int
def ebits.dec (L : Eng.Leaves) : ebits.R := (L.i 0, L.i 1, L.i 2, L.l 0)
def ebits.enc (r : ebits.R) : Eng.Leaves := mkL [r.1, r.2.1, r.2.2.1] [] [r.2.2.2] []
abbrev ebits.loop4.R : Type := Int × List Int
noncomputable def ebits.loop4.ann : Ann := { nx := 21, slots := [(0, .at (.ptr 0 0)), (1, .at (.fint .i64 0)), (24, .at (.fint .i64 1)), (25, .at (.int .i64 0))], blks := [(0, .cells 6 [.full 1 false, .fint .u64 2, .fint .u64 3, .full 20 false, .int .i64 1, .fint .i64 4]), (1, .fints true .u8 0), (20, .ints true .u8 0)], mov := [20], exId := 0, xslots := [(0, .at (.ptr 0 0))], xblks := [(0, .cells 6 [.full 1 false, .fint .u64 2, .fint .u64 3, .full 20 false, .int .i64 0, .fint .i64 4]), (1, .fints true .u8 0), (20, .ints true .u8 0)], T := ebits.loop4.R, dec := fun L => (L.i 0, L.l 0), enc := fun r => mkL [r.1] [] [r.2] [], ret := false }
noncomputable def ebits.K (N : Nat) : FCfg := { anns := [(4, ebits.loop4.ann)], unr := [], lits := [], lets := [] }
noncomputable def ebits.loop4 (N : Nat) : Nat → Int → Int → Int → Int → Int → List Int → Int → Int → List Int → Option ebits.loop4.R
  | 0, _, _, _, _, _, _, _, _, _ => none
  | nn + 1, v, s24, val, rng, count, told, s25, rawBits, raw =>
  (br (decide (s25 < s24))
   (br (rawBits.tmod (8 : Int) == (0 : Int))
   (chk (raw.length + [(0 : Int)].length ≤ (140737488351232 : Nat))
   (chk ((0 : Int) ≤ IntKind.i64.wrap (rawBits.tdiv (8 : Int)) ∧ IntKind.i64.wrap (rawBits.tdiv (8 : Int)) < ↑(raw ++ [(0 : Int)]).length)
   (chk ((0 : Int) ≤ s25)
   (chk ((0 : Int) ≤ rawBits.tmod (8 : Int))
   (chk ((0 : Int) ≤ IntKind.i64.wrap (rawBits.tdiv (8 : Int)) ∧ IntKind.i64.wrap (rawBits.tdiv (8 : Int)) < ↑(raw ++ [(0 : Int)]).length)
   (chkI v v
   (chkI s24 s24
   (chkI val val
   (chkI rng rng
   (chkI count count
   (chkL told told
   (ebits.loop4 N nn v s24 val rng count told (IntKind.i64.wrap (s25 + (1 : Int))) (IntKind.i64.wrap (rawBits + (1 : Int))) ((raw ++ [(0 : Int)]).set (IntKind.i64.wrap (rawBits.tdiv (8 : Int))).toNat (IntKind.u8.wrap ↑(BitVec.ofInt IntKind.u8.bits ((raw ++ [(0 : Int)]).getD (IntKind.i64.wrap (rawBits.tdiv (8 : Int))).toNat (0 : Int)) ||| BitVec.ofInt IntKind.u8.bits (IntKind.u8.wrap (IntKind.u8.wrap (IntKind.i64.wrap ↑(BitVec.ofInt IntKind.i64.bits (v.fdiv ((2 : Int) ^ min s25.toNat IntKind.i64.bits)) &&& BitVec.ofInt IntKind.i64.bits (1 : Int)).toNat) * (2 : Int) ^ min (rawBits.tmod (8 : Int)).toNat IntKind.u8.bits))).toNat))))))))))))))
   (chk ((0 : Int) ≤ IntKind.i64.wrap (rawBits.tdiv (8 : Int)) ∧ IntKind.i64.wrap (rawBits.tdiv (8 : Int)) < ↑raw.length)
   (chk ((0 : Int) ≤ s25)
   (chk ((0 : Int) ≤ rawBits.tmod (8 : Int))
   (chk ((0 : Int) ≤ IntKind.i64.wrap (rawBits.tdiv (8 : Int)) ∧ IntKind.i64.wrap (rawBits.tdiv (8 : Int)) < ↑raw.length)
   (chkI v v
   (chkI s24 s24
   (chkI val val
   (chkI rng rng
   (chkI count count
   (chkL told told
   (ebits.loop4 N nn v s24 val rng count told (IntKind.i64.wrap (s25 + (1 : Int))) (IntKind.i64.wrap (rawBits + (1 : Int))) (raw.set (IntKind.i64.wrap (rawBits.tdiv (8 : Int))).toNat (IntKind.u8.wrap ↑(BitVec.ofInt IntKind.u8.bits (raw.getD (IntKind.i64.wrap (rawBits.tdiv (8 : Int))).toNat (0 : Int)) ||| BitVec.ofInt IntKind.u8.bits (IntKind.u8.wrap (IntKind.u8.wrap (IntKind.i64.wrap ↑(BitVec.ofInt IntKind.i64.bits (v.fdiv ((2 : Int) ^ min s25.toNat IntKind.i64.bits)) &&& BitVec.ofInt IntKind.i64.bits (1 : Int)).toNat) * (2 : Int) ^ min (rawBits.tmod (8 : Int)).toNat IntKind.u8.bits))).toNat))))))))))))))
   (chkI val val
   (chkI rng rng
   (chkI count count
   (chkL told told
   (some ((rawBits, raw))))))))
noncomputable def ebits.loop4R (N nn : Nat) (v : Int) (s24 : Int) (val : Int) (rng : Int) (count : Int) (told : List Int) (s25 : Int) (rawBits : Int) (raw : List Int) : Option ebits.loop4.R := loopF ebits.loop4.ann (mkL [v, s24, val, rng, count] [] [told] []) (evCode ((ebits.C N).inLoop ebits.loop4.ann) (ebits.K N) (inlTab (ebits.C N) 0) (bodyAt 4 Try.f93)) nn (mkL [s25, rawBits] [] [raw] [])
theorem ebits.loop4_eq (N : Nat) : ∀ (nn : Nat) (v : Int) (s24 : Int) (val : Int) (rng : Int) (count : Int) (told : List Int) (s25 : Int) (rawBits : Int) (raw : List Int), ebits.loop4R N nn v s24 val rng count told s25 rawBits raw = ebits.loop4 N nn v s24 val rng count told s25 rawBits raw
  | 0, _, _, _, _, _, _, _, _, _ => by kernel_rfl
  | nn + 1, v, s24, val, rng, count, told, s25, rawBits, raw => by
    have h : ebits.loop4R N (nn + 1) v s24 val rng count told s25 rawBits raw =
  (br (decide (s25 < s24))
   (br (rawBits.tmod (8 : Int) == (0 : Int))
   (chk (raw.length + [(0 : Int)].length ≤ (140737488351232 : Nat))
   (chk ((0 : Int) ≤ IntKind.i64.wrap (rawBits.tdiv (8 : Int)) ∧ IntKind.i64.wrap (rawBits.tdiv (8 : Int)) < ↑(raw ++ [(0 : Int)]).length)
   (chk ((0 : Int) ≤ s25)
   (chk ((0 : Int) ≤ rawBits.tmod (8 : Int))
   (chk ((0 : Int) ≤ IntKind.i64.wrap (rawBits.tdiv (8 : Int)) ∧ IntKind.i64.wrap (rawBits.tdiv (8 : Int)) < ↑(raw ++ [(0 : Int)]).length)
   (chkI v v
   (chkI s24 s24
   (chkI val val
   (chkI rng rng
   (chkI count count
   (chkL told told
   (ebits.loop4R N nn v s24 val rng count told (IntKind.i64.wrap (s25 + (1 : Int))) (IntKind.i64.wrap (rawBits + (1 : Int))) ((raw ++ [(0 : Int)]).set (IntKind.i64.wrap (rawBits.tdiv (8 : Int))).toNat (IntKind.u8.wrap ↑(BitVec.ofInt IntKind.u8.bits ((raw ++ [(0 : Int)]).getD (IntKind.i64.wrap (rawBits.tdiv (8 : Int))).toNat (0 : Int)) ||| BitVec.ofInt IntKind.u8.bits (IntKind.u8.wrap (IntKind.u8.wrap (IntKind.i64.wrap ↑(BitVec.ofInt IntKind.i64.bits (v.fdiv ((2 : Int) ^ min s25.toNat IntKind.i64.bits)) &&& BitVec.ofInt IntKind.i64.bits (1 : Int)).toNat) * (2 : Int) ^ min (rawBits.tmod (8 : Int)).toNat IntKind.u8.bits))).toNat))))))))))))))
   (chk ((0 : Int) ≤ IntKind.i64.wrap (rawBits.tdiv (8 : Int)) ∧ IntKind.i64.wrap (rawBits.tdiv (8 : Int)) < ↑raw.length)
   (chk ((0 : Int) ≤ s25)
   (chk ((0 : Int) ≤ rawBits.tmod (8 : Int))
   (chk ((0 : Int) ≤ IntKind.i64.wrap (rawBits.tdiv (8 : Int)) ∧ IntKind.i64.wrap (rawBits.tdiv (8 : Int)) < ↑raw.length)
   (chkI v v
   (chkI s24 s24
   (chkI val val
   (chkI rng rng
   (chkI count count
   (chkL told told
   (ebits.loop4R N nn v s24 val rng count told (IntKind.i64.wrap (s25 + (1 : Int))) (IntKind.i64.wrap (rawBits + (1 : Int))) (raw.set (IntKind.i64.wrap (rawBits.tdiv (8 : Int))).toNat (IntKind.u8.wrap ↑(BitVec.ofInt IntKind.u8.bits (raw.getD (IntKind.i64.wrap (rawBits.tdiv (8 : Int))).toNat (0 : Int)) ||| BitVec.ofInt IntKind.u8.bits (IntKind.u8.wrap (IntKind.u8.wrap (IntKind.i64.wrap ↑(BitVec.ofInt IntKind.i64.bits (v.fdiv ((2 : Int) ^ min s25.toNat IntKind.i64.bits)) &&& BitVec.ofInt IntKind.i64.bits (1 : Int)).toNat) * (2 : Int) ^ min (rawBits.tmod (8 : Int)).toNat IntKind.u8.bits))).toNat))))))))))))))
   (chkI val val
   (chkI rng rng
   (chkI count count
   (chkL told told
   (some ((rawBits, raw)))))))) := by kernel_rfl
    rw [h, ebits.loop4]
    try simp only [ebits.loop4_eq N nn]
noncomputable def ebits.F (N : Nat) (v : Int) (n : Int) (val : Int) (rng : Int) (rawBits : Int) (count : Int) (told : List Int) (raw : List Int) : Option ebits.R :=
  (br (decide (n < (0 : Int)))
   (chkI val val
   (chkI rng rng
   (chkL told told
   (some (((1 : Int), rawBits, count, raw))))))
   (br (decide (n > (24 : Int)))
   (chkI val val
   (chkI rng rng
   (chkL told told
   (some (((1 : Int), rawBits, count, raw))))))
   (br (decide (v < (0 : Int)))
   (chkI val val
   (chkI rng rng
   (chkL told told
   (some (((1 : Int), rawBits, count, raw))))))
   (chk ((0 : Int) ≤ n)
   (br (decide (v ≥ IntKind.i64.wrap ((1 : Int) * (2 : Int) ^ min n.toNat IntKind.i64.bits)))
   (chkI val val
   (chkI rng rng
   (chkL told told
   (some (((1 : Int), rawBits, count, raw))))))
   (obind (ebits.loop4 N N v n val rng count told ((0 : Int)) rawBits raw) fun r0 =>
   (chkI val val
   (chkI rng rng
   (chkL told told
   (some (((0 : Int), r0.fst, IntKind.i64.wrap (count + n), r0.snd))))))))))))
theorem ebits.F_eq (N : Nat) (L : Eng.Leaves) : evSig (ebits.C N) (ebits.K N) 0 Try.f93 ebits.sig L ebits.dec = ebits.F N (L.i 0) (L.i 1) (L.i 2) (L.i 3) (L.i 4) (L.i 5) (L.l 0) (L.l 1) := by
  have h : ∀ (v : Int) (n : Int) (val : Int) (rng : Int) (rawBits : Int) (count : Int) (told : List Int) (raw : List Int), evSig (ebits.C N) (ebits.K N) 0 Try.f93 ebits.sig (mkL [v, n, val, rng, rawBits, count] [] [told, raw] []) ebits.dec =
  (br (decide (n < (0 : Int)))
   (chkI val val
   (chkI rng rng
   (chkL told told
   (some (((1 : Int), rawBits, count, raw))))))
   (br (decide (n > (24 : Int)))
   (chkI val val
   (chkI rng rng
   (chkL told told
   (some (((1 : Int), rawBits, count, raw))))))
   (br (decide (v < (0 : Int)))
   (chkI val val
   (chkI rng rng
   (chkL told told
   (some (((1 : Int), rawBits, count, raw))))))
   (chk ((0 : Int) ≤ n)
   (br (decide (v ≥ IntKind.i64.wrap ((1 : Int) * (2 : Int) ^ min n.toNat IntKind.i64.bits)))
   (chkI val val
   (chkI rng rng
   (chkL told told
   (some (((1 : Int), rawBits, count, raw))))))
   (obind (ebits.loop4R N N v n val rng count told ((0 : Int)) rawBits raw) fun r0 =>
   (chkI val val
   (chkI rng rng
   (chkL told told
   (some (((0 : Int), r0.fst, IntKind.i64.wrap (count + n), r0.snd)))))))))))) := by
    intro v n val rng rawBits count told raw
    kernel_rfl
  have h2 : evSig (ebits.C N) (ebits.K N) 0 Try.f93 ebits.sig L ebits.dec = evSig (ebits.C N) (ebits.K N) 0 Try.f93 ebits.sig (mkL [L.i 0, L.i 1, L.i 2, L.i 3, L.i 4, L.i 5] [] [L.l 0, L.l 1] []) ebits.dec := by kernel_rfl
  rw [h2, h, ebits.F]
  try simp only [ebits.loop4_eq N]
noncomputable def ebits.spec : Eng.Spec := ebits.sig.spec (fun N L => ebits.F N (L.i 0) (L.i 1) (L.i 2) (L.i 3) (L.i 4) (L.i 5) (L.l 0) (L.l 1)) ebits.enc
theorem ebits.cok (N : Nat) : CfgOK (ebits.C N) := ⟨fun _ _ _ _ h => by simp [ebits.C, noRT] at h, wide, by
  simp only [ebits.C, List.mem_cons, List.not_mem_nil, or_false, forall_eq_or_imp, forall_eq, false_imp_iff, implies_true], fun g hg => by simp [ebits.C] at hg, fun m hm => by simp [ebits.C] at hm, fun q hq => by simp [ebits.C] at hq⟩
theorem ebits.aok (N : Nat) : AnnsOK (ebits.K N) := by
  intro q hq
  simp only [ebits.K, List.mem_cons, List.not_mem_nil, or_false] at hq
  subst hq
  exact fun _ _ => ⟨rfl, rfl⟩
theorem ebits.ok : CallOK Try.prog 93 ebits.spec :=
  callOK_of_sig (fn := Try.f93) (Cf := ebits.C) (K := ebits.K) (d := 0) (dec := ebits.dec) (by kernel_rfl) (fun _ => rfl) ebits.cok (fun _ q hq => by simp [ebits.C] at hq) ebits.aok
   (fun N L r h => (ebits.F_eq N L).trans h) (by kernel_rfl) (fun _ => ⟨rfl, rfl⟩) (fun _ _ => ⟨rfl, rfl⟩)
noncomputable def euint.sig : Eng.Sig := { args := [.at (.ptr 0 0), .at (.int .i64 0), .at (.int .i64 1)], n := 3, pre := [(0, .cells 6 [.full 1 false, .int .u64 2, .int .u64 3, .full 2 false, .int .i64 4, .int .i64 5]), (1, .ints true .u8 0), (2, .ints true .u8 1)], post := [(0, .cells 6 [.full 3 false, .int .u64 1, .int .u64 2, .full 4 false, .int .i64 3, .int .i64 4]), (1, .dead), (2, .dead), (3, .ints true .u8 0), (4, .ints true .u8 1)], m := 2, ret := .at (.int .i64 0) }
noncomputable def euint.C (N : Nat) : Cfg := { P := Try.prog, N := N, RT := noRT, specs := [(92, etake.spec), (89, blen.spec), (93, ebits.spec)], inl := [], hi := 3, mv := [] }
abbrev euint.R : Type := Int × Int × Int × Int × Int × List Int × List Int
def euint.dec (L : Eng.Leaves) : euint.R := (L.i 0, L.i 1, L.i 2, L.i 3, L.i 4, L.l 0, L.l 1)
def euint.enc (r : euint.R) : Eng.Leaves := mkL [r.1, r.2.1, r.2.2.1, r.2.2.2.1, r.2.2.2.2.1] [] [r.2.2.2.2.2.1, r.2.2.2.2.2.2] []
noncomputable def euint.K (N : Nat) : FCfg := { anns := [], unr := [], lits := [], lets := [] }
noncomputable def euint.F (N : Nat) (v : Int) (ft : Int) (val : Int) (rng : Int) (rawBits : Int) (count : Int) (told : List Int) (raw : List Int) : Option euint.R :=
  (br (decide (ft < (1 : Int)))
   (some (((1 : Int), val, rng, rawBits, count, told, raw)))
   (br (decide (ft > (4294967295 : Int)))
   (some (((1 : Int), val, rng, rawBits, count, told, raw)))
   (br (decide (v < (0 : Int)))
   (some (((1 : Int), val, rng, rawBits, count, told, raw)))
   (br (decide (v ≥ ft))
   (some (((1 : Int), val, rng, rawBits, count, told, raw)))
   (br (ft == (1 : Int))
   (some (((0 : Int), val, rng, rawBits, count, told, raw)))
   (br (decide (ft ≤ (256 : Int)))
   (obind (Rc.etake.F N (IntKind.u64.wrap v) (IntKind.u64.wrap (IntKind.i64.wrap (v + (1 : Int)))) (IntKind.u64.wrap ft) val rng rawBits count told raw) fun r0 =>
   (some (((0 : Int), r0.fst, r0.snd.fst, r0.snd.snd.fst, r0.snd.snd.snd.fst, r0.snd.snd.snd.snd.snd, r0.snd.snd.snd.snd.fst))))
   (obind (Rc.blen.F N (IntKind.u64.wrap (IntKind.i64.wrap (ft - (1 : Int))))) fun r1 =>
   (chk ((0 : Int) ≤ IntKind.i64.wrap (r1 - (8 : Int)))
   (chk ((0 : Int) ≤ IntKind.i64.wrap (r1 - (8 : Int)))
   (obind (Rc.etake.F N (IntKind.u64.wrap (v.fdiv ((2 : Int) ^ min (IntKind.i64.wrap (r1 - (8 : Int))).toNat IntKind.i64.bits))) (IntKind.u64.wrap (IntKind.u64.wrap (v.fdiv ((2 : Int) ^ min (IntKind.i64.wrap (r1 - (8 : Int))).toNat IntKind.i64.bits)) + (1 : Int))) (IntKind.u64.wrap (IntKind.i64.wrap ((IntKind.i64.wrap (ft - (1 : Int))).fdiv ((2 : Int) ^ min (IntKind.i64.wrap (r1 - (8 : Int))).toNat IntKind.i64.bits) + (1 : Int)))) val rng rawBits count told raw) fun r2 =>
   (chk ((0 : Int) ≤ IntKind.i64.wrap (r1 - (8 : Int)))
   (obind (Rc.ebits.F N (IntKind.i64.wrap ↑(BitVec.ofInt IntKind.i64.bits v &&& BitVec.ofInt IntKind.i64.bits (IntKind.i64.wrap (IntKind.i64.wrap ((1 : Int) * (2 : Int) ^ min (IntKind.i64.wrap (r1 - (8 : Int))).toNat IntKind.i64.bits) - (1 : Int)))).toNat) (IntKind.i64.wrap (r1 - (8 : Int))) r2.fst r2.snd.fst r2.snd.snd.fst r2.snd.snd.snd.fst r2.snd.snd.snd.snd.snd r2.snd.snd.snd.snd.fst) fun r3 =>
   (some ((r3.fst, r2.fst, r2.snd.fst, r3.snd.fst, r3.snd.snd.fst, r2.snd.snd.snd.snd.snd, r3.snd.snd.snd)))))))))))))))
theorem euint.F_eq (N : Nat) (L : Eng.Leaves) : evSig (euint.C N) (euint.K N) 0 Try.f73 euint.sig L euint.dec = euint.F N (L.i 0) (L.i 1) (L.i 2) (L.i 3) (L.i 4) (L.i 5) (L.l 0) (L.l 1) := by
  kernel_rfl
noncomputable def euint.spec : Eng.Spec := euint.sig.spec (fun N L => euint.F N (L.i 0) (L.i 1) (L.i 2) (L.i 3) (L.i 4) (L.i 5) (L.l 0) (L.l 1)) euint.enc
theorem euint.cok (N : Nat) : CfgOK (euint.C N) := ⟨fun _ _ _ _ h => by simp [euint.C, noRT] at h, wide, by
  simp only [euint.C, List.mem_cons, List.not_mem_nil, or_false, forall_eq_or_imp, forall_eq, false_imp_iff, implies_true]
  exact ⟨⟨etake.ok, by kernel_rfl⟩, ⟨blen.ok, by kernel_rfl⟩, ⟨ebits.ok, by kernel_rfl⟩⟩, fun g hg => by simp [euint.C] at hg, fun m hm => by simp [euint.C] at hm, fun q hq => by simp [euint.C] at hq⟩
theorem euint.aok (N : Nat) : AnnsOK (euint.K N) := by
  intro q hq
  simp only [euint.K, List.mem_cons, List.not_mem_nil, or_false] at hq
theorem euint.ok : CallOK Try.prog 73 euint.spec :=
  callOK_of_sig (fn := Try.f73) (Cf := euint.C) (K := euint.K) (d := 0) (dec := euint.dec) (by kernel_rfl) (fun _ => rfl) euint.cok (fun _ q hq => by simp [euint.C] at hq) euint.aok
   (fun N L r h => (euint.F_eq N L).trans h) (by kernel_rfl) (fun _ => ⟨rfl, rfl⟩) (fun _ _ => ⟨rfl, rfl⟩)
noncomputable def etell.sig : Eng.Sig := { args := [.at (.ptr 0 0)], n := 3, pre := [(0, .cells 6 [.full 1 false, .int .u64 0, .int .u64 1, .full 2 false, .int .i64 2, .int .i64 3]), (1, .ints true .u8 0), (2, .ints true .u8 1)], post := [(0, .cells 6 [.full 1 false, .fint .u64 0, .fint .u64 1, .full 2 false, .fint .i64 2, .fint .i64 3]), (1, .fints true .u8 0), (2, .fints true .u8 1)], m := 0, ret := .at (.int .i64 0) }
noncomputable def etell.C (N : Nat) : Cfg := { P := Try.prog, N := N, RT := noRT, specs := [(47, len64.spec)], inl := [], hi := 3, mv := [] }
abbrev etell.R : Type := Int
def etell.dec (L : Eng.Leaves) : etell.R := (L.i 0)
def etell.enc (r : etell.R) : Eng.Leaves := mkL [r] [] [] []
noncomputable def etell.K (N : Nat) : FCfg := { anns := [], unr := [], lits := [], lets := [] }
noncomputable def etell.F (N : Nat) (val : Int) (rng : Int) (rawBits : Int) (count : Int) (told : List Int) (raw : List Int) : Option etell.R :=
  (obind (Rc.len64.F N rng) fun r0 =>
   (chkI count count
   (chkI val val
   (chkI rng rng
   (chkI rawBits rawBits
   (chkI count count
   (chkL told told
   (chkL raw raw
   (some (IntKind.i64.wrap (count - r0)))))))))))
theorem etell.F_eq (N : Nat) (L : Eng.Leaves) : evSig (etell.C N) (etell.K N) 0 Try.f23 etell.sig L etell.dec = etell.F N (L.i 0) (L.i 1) (L.i 2) (L.i 3) (L.l 0) (L.l 1) := by
  kernel_rfl
noncomputable def etell.spec : Eng.Spec := etell.sig.spec (fun N L => etell.F N (L.i 0) (L.i 1) (L.i 2) (L.i 3) (L.l 0) (L.l 1)) etell.enc
theorem etell.cok (N : Nat) : CfgOK (etell.C N) := ⟨fun _ _ _ _ h => by simp [etell.C, noRT] at h, wide, by
  simp only [etell.C, List.mem_cons, List.not_mem_nil, or_false, forall_eq_or_imp, forall_eq, false_imp_iff, implies_true]
  exact ⟨len64.ok, by kernel_rfl⟩, fun g hg => by simp [etell.C] at hg, fun m hm => by simp [etell.C] at hm, fun q hq => by simp [etell.C] at hq⟩
theorem etell.aok (N : Nat) : AnnsOK (etell.K N) := by
  intro q hq
  simp only [etell.K, List.mem_cons, List.not_mem_nil, or_false] at hq
theorem etell.ok : CallOK Try.prog 23 etell.spec :=
  callOK_of_sig (fn := Try.f23) (Cf := etell.C) (K := etell.K) (d := 0) (dec := etell.dec) (by kernel_rfl) (fun _ => rfl) etell.cok (fun _ q hq => by simp [etell.C] at hq) etell.aok
   (fun N L r h => (etell.F_eq N L).trans h) (by kernel_rfl) (fun _ => ⟨rfl, rfl⟩) (fun _ _ => ⟨rfl, rfl⟩)
noncomputable def indexf8.sig : Eng.Sig := { args := [.at (.roi .u8 0), .at (.fn 49)], n := 0, pre := [], post := [], m := 0, ret := .at (.int .i64 0) }
noncomputable def indexf8.C (N : Nat) : Cfg := { P := Try.prog, N := N, RT := noRT, specs := [], inl := [(49, FCfg.none)], hi := 0, mv := [] }
abbrev indexf8.R : Type := Int
def indexf8.dec (L : Eng.Leaves) : indexf8.R := (L.i 0)
def indexf8.enc (r : indexf8.R) : Eng.Leaves := mkL [r] [] [] []
abbrev indexf8.loop2.R : Type := Int
noncomputable def indexf8.loop2.ann : Ann := { nx := 20, slots := [(0, .at (.froi .u8 0)), (1, .at (.fn 49)), (4, .at (.int .i64 0)), (7, .at (.fint .i64 0)), (8, .at (.int .i64 1))], blks := [], mov := [], exId := 0, xslots := [(4, .at (.int .i64 0))], xblks := [], T := indexf8.loop2.R, dec := fun L => (L.i 0), enc := fun r => mkL [r] [] [] [], ret := true }
noncomputable def indexf8.K (N : Nat) : FCfg := { anns := [(2, indexf8.loop2.ann)], unr := [], lits := [], lets := [] }
noncomputable def indexf8.loop2 (N : Nat) : Nat → List Int → Int → List Int → Int → Int → Option (indexf8.loop2.R ⊕ indexf8.R)
  | 0, _, _, _, _, _ => none
  | nn + 1, e_b, s7, b, s4, s8 =>
  (br (decide (s8 < s7))
   (chk ((0 : Int) ≤ s8 ∧ s8 < ↑b.length)
   (br (b.getD s8.toNat (0 : Int) != (0 : Int))
   (omap
   (some s8) .inr)
   (chkL b b
   (chkI s7 s7
   (indexf8.loop2 N nn e_b s7 b s4 (IntKind.i64.wrap (s8 + (1 : Int))))))))
   (some (Sum.inl s4)))
noncomputable def indexf8.loop2R (N nn : Nat) (e_b : List Int) (s7 : Int) (b : List Int) (s4 : Int) (s8 : Int) : Option (indexf8.loop2.R ⊕ indexf8.R) := loopR indexf8.loop2.ann (mkL [s7] [] [b] []) (evCode ((indexf8.C N).inLoop indexf8.loop2.ann) (indexf8.K N) (inlTab (indexf8.C N) 1) (bodyAt 2 Try.f74)) (sigKr Try.prog Try.f74 indexf8.sig (mkL [] [] [e_b] []) fun L => (L.i 0)) nn (mkL [s4, s8] [] [] [])
theorem indexf8.loop2_eq (N : Nat) : ∀ (nn : Nat) (e_b : List Int) (s7 : Int) (b : List Int) (s4 : Int) (s8 : Int), indexf8.loop2R N nn e_b s7 b s4 s8 = indexf8.loop2 N nn e_b s7 b s4 s8
  | 0, _, _, _, _, _ => by kernel_rfl
  | nn + 1, e_b, s7, b, s4, s8 => by
    have h : indexf8.loop2R N (nn + 1) e_b s7 b s4 s8 =
  (br (decide (s8 < s7))
   (chk ((0 : Int) ≤ s8 ∧ s8 < ↑b.length)
   (br (b.getD s8.toNat (0 : Int) != (0 : Int))
   (omap
   (some s8) .inr)
   (chkL b b
   (chkI s7 s7
   (indexf8.loop2R N nn e_b s7 b s4 (IntKind.i64.wrap (s8 + (1 : Int))))))))
   (some (Sum.inl s4))) := by kernel_rfl
    rw [h, indexf8.loop2]
    try simp only [indexf8.loop2_eq N nn]
noncomputable def indexf8.F (N : Nat) (b : List Int) : Option indexf8.R :=
  (osum (indexf8.loop2 N N b (↑b.length) b ((0 : Int)) ((0 : Int))) fun r0 =>
   (some ((-1 : Int))))
theorem indexf8.F_eq (N : Nat) (L : Eng.Leaves) : evSig (indexf8.C N) (indexf8.K N) 1 Try.f74 indexf8.sig L indexf8.dec = indexf8.F N (L.l 0) := by
  have h : ∀ (b : List Int), evSig (indexf8.C N) (indexf8.K N) 1 Try.f74 indexf8.sig (mkL [] [] [b] []) indexf8.dec =
  (osum (indexf8.loop2R N N b (↑b.length) b ((0 : Int)) ((0 : Int))) fun r0 =>
   (some ((-1 : Int)))) := by
    intro b
    kernel_rfl
  have h2 : evSig (indexf8.C N) (indexf8.K N) 1 Try.f74 indexf8.sig L indexf8.dec = evSig (indexf8.C N) (indexf8.K N) 1 Try.f74 indexf8.sig (mkL [] [] [L.l 0] []) indexf8.dec := by kernel_rfl
  rw [h2, h, indexf8.F]
  try simp only [indexf8.loop2_eq N]
noncomputable def indexf8.spec : Eng.Spec := indexf8.sig.spec (fun N L => indexf8.F N (L.l 0)) indexf8.enc
theorem indexf8.cok (N : Nat) : CfgOK (indexf8.C N) := ⟨fun _ _ _ _ h => by simp [indexf8.C, noRT] at h, wide, by
  simp only [indexf8.C, List.mem_cons, List.not_mem_nil, or_false, forall_eq_or_imp, forall_eq, false_imp_iff, implies_true], fun g hg => by simp [indexf8.C] at hg, fun m hm => by simp [indexf8.C] at hm, fun q hq => by simp [indexf8.C] at hq⟩
theorem indexf8.aok (N : Nat) : AnnsOK (indexf8.K N) := by
  intro q hq
  simp only [indexf8.K, List.mem_cons, List.not_mem_nil, or_false] at hq
  subst hq
  exact fun _ _ => ⟨rfl, rfl⟩
theorem indexf8.ok : CallOK Try.prog 74 indexf8.spec :=
  callOK_of_sig (fn := Try.f74) (Cf := indexf8.C) (K := indexf8.K) (d := 1) (dec := indexf8.dec) (by kernel_rfl) (fun _ => rfl) indexf8.cok (fun _ q hq => by
      simp only [indexf8.C, List.mem_cons, List.not_mem_nil, or_false] at hq
      subst hq
      exact ⟨fun q hq => by simp [FCfg.none] at hq, by kernel_rfl⟩) indexf8.aok
   (fun N L r h => (indexf8.F_eq N L).trans h) (by kernel_rfl) (fun _ => ⟨rfl, rfl⟩) (fun _ _ => ⟨rfl, rfl⟩)
noncomputable def contains8.sig : Eng.Sig := { args := [.at (.roi .u8 0), .at (.fn 49)], n := 0, pre := [], post := [], m := 0, ret := .at (.bool 0) }
noncomputable def contains8.C (N : Nat) : Cfg := { P := Try.prog, N := N, RT := noRT, specs := [(74, indexf8.spec)], inl := [], hi := 0, mv := [] }
abbrev contains8.R : Type := Bool
def contains8.dec (L : Eng.Leaves) : contains8.R := (L.b 0)
def contains8.enc (r : contains8.R) : Eng.Leaves := mkL [] [r] [] []
noncomputable def contains8.K (N : Nat) : FCfg := { anns := [], unr := [], lits := [], lets := [] }
noncomputable def contains8.F (N : Nat) (b : List Int) : Option contains8.R :=
  (obind (Rc.indexf8.F N b) fun r0 =>
   (some (decide (r0 ≥ (0 : Int)))))
theorem contains8.F_eq (N : Nat) (L : Eng.Leaves) : evSig (contains8.C N) (contains8.K N) 0 Try.f48 contains8.sig L contains8.dec = contains8.F N (L.l 0) := by
  kernel_rfl
noncomputable def contains8.spec : Eng.Spec := contains8.sig.spec (fun N L => contains8.F N (L.l 0)) contains8.enc
theorem contains8.cok (N : Nat) : CfgOK (contains8.C N) := ⟨fun _ _ _ _ h => by simp [contains8.C, noRT] at h, wide, by
  simp only [contains8.C, List.mem_cons, List.not_mem_nil, or_false, forall_eq_or_imp, forall_eq, false_imp_iff, implies_true]
  exact ⟨indexf8.ok, by kernel_rfl⟩, fun g hg => by simp [contains8.C] at hg, fun m hm => by simp [contains8.C] at hm, fun q hq => by simp [contains8.C] at hq⟩
theorem contains8.aok (N : Nat) : AnnsOK (contains8.K N) := by
  intro q hq
  simp only [contains8.K, List.mem_cons, List.not_mem_nil, or_false] at hq
theorem contains8.ok : CallOK Try.prog 48 contains8.spec :=
  callOK_of_sig (fn := Try.f48) (Cf := contains8.C) (K := contains8.K) (d := 0) (dec := contains8.dec) (by kernel_rfl) (fun _ => rfl) contains8.cok (fun _ q hq => by simp [contains8.C] at hq) contains8.aok
   (fun N L r h => (contains8.F_eq N L).trans h) (by kernel_rfl) (fun _ => ⟨rfl, rfl⟩) (fun _ _ => ⟨rfl, rfl⟩)
noncomputable def isnan8.sig : Eng.Sig := { args := [.at (.int .u8 0)], n := 0, pre := [], post := [], m := 0, ret := .at (.bool 0) }
noncomputable def isnan8.C (N : Nat) : Cfg := { P := Try.prog, N := N, RT := noRT, specs := [], inl := [], hi := 0, mv := [] }
abbrev isnan8.R : Type := Bool
def isnan8.dec (L : Eng.Leaves) : isnan8.R := (L.b 0)
def isnan8.enc (r : isnan8.R) : Eng.Leaves := mkL [] [r] [] []
noncomputable def isnan8.K (N : Nat) : FCfg := { anns := [], unr := [], lits := [], lets := [] }
noncomputable def isnan8.F (N : Nat) (x : Int) : Option isnan8.R :=
  (some (x != x))
theorem isnan8.F_eq (N : Nat) (L : Eng.Leaves) : evSig (isnan8.C N) (isnan8.K N) 0 Try.f94 isnan8.sig L isnan8.dec = isnan8.F N (L.i 0) := by
  kernel_rfl
noncomputable def isnan8.spec : Eng.Spec := isnan8.sig.spec (fun N L => isnan8.F N (L.i 0)) isnan8.enc
theorem isnan8.cok (N : Nat) : CfgOK (isnan8.C N) := ⟨fun _ _ _ _ h => by simp [isnan8.C, noRT] at h, wide, by
  simp only [isnan8.C, List.mem_cons, List.not_mem_nil, or_false, forall_eq_or_imp, forall_eq, false_imp_iff, implies_true], fun g hg => by simp [isnan8.C] at hg, fun m hm => by simp [isnan8.C] at hm, fun q hq => by simp [isnan8.C] at hq⟩
theorem isnan8.aok (N : Nat) : AnnsOK (isnan8.K N) := by
  intro q hq
  simp only [isnan8.K, List.mem_cons, List.not_mem_nil, or_false] at hq
theorem isnan8.ok : CallOK Try.prog 94 isnan8.spec :=
  callOK_of_sig (fn := Try.f94) (Cf := isnan8.C) (K := isnan8.K) (d := 0) (dec := isnan8.dec) (by kernel_rfl) (fun _ => rfl) isnan8.cok (fun _ q hq => by simp [isnan8.C] at hq) isnan8.aok
   (fun N L r h => (isnan8.F_eq N L).trans h) (by kernel_rfl) (fun _ => ⟨rfl, rfl⟩) (fun _ _ => ⟨rfl, rfl⟩)
noncomputable def cmp8.sig : Eng.Sig := { args := [.at (.int .u8 0), .at (.int .u8 1)], n := 0, pre := [], post := [], m := 0, ret := .at (.int .i64 0) }
noncomputable def cmp8.C (N : Nat) : Cfg := { P := Try.prog, N := N, RT := noRT, specs := [(94, isnan8.spec)], inl := [], hi := 0, mv := [] }
abbrev cmp8.R : Type := Int
def cmp8.dec (L : Eng.Leaves) : cmp8.R := (L.i 0)
def cmp8.enc (r : cmp8.R) : Eng.Leaves := mkL [r] [] [] []
noncomputable def cmp8.K (N : Nat) : FCfg := { anns := [], unr := [], lits := [], lets := [] }
noncomputable def cmp8.F (N : Nat) (x : Int) (y : Int) : Option cmp8.R :=
  (obind (Rc.isnan8.F N x) fun r0 =>
   (obind (Rc.isnan8.F N y) fun r1 =>
   (br r0
   (br r1
   (some ((0 : Int)))
   (some ((-1 : Int))))
   (br r1
   (some ((1 : Int)))
   (br (decide (x < y))
   (some ((-1 : Int)))
   (br (decide (x > y))
   (some ((1 : Int)))
   (some ((0 : Int)))))))))
theorem cmp8.F_eq (N : Nat) (L : Eng.Leaves) : evSig (cmp8.C N) (cmp8.K N) 0 Try.f75 cmp8.sig L cmp8.dec = cmp8.F N (L.i 0) (L.i 1) := by
  kernel_rfl
noncomputable def cmp8.spec : Eng.Spec := cmp8.sig.spec (fun N L => cmp8.F N (L.i 0) (L.i 1)) cmp8.enc
theorem cmp8.cok (N : Nat) : CfgOK (cmp8.C N) := ⟨fun _ _ _ _ h => by simp [cmp8.C, noRT] at h, wide, by
  simp only [cmp8.C, List.mem_cons, List.not_mem_nil, or_false, forall_eq_or_imp, forall_eq, false_imp_iff, implies_true]
  exact ⟨isnan8.ok, by kernel_rfl⟩, fun g hg => by simp [cmp8.C] at hg, fun m hm => by simp [cmp8.C] at hm, fun q hq => by simp [cmp8.C] at hq⟩
theorem cmp8.aok (N : Nat) : AnnsOK (cmp8.K N) := by
  intro q hq
  simp only [cmp8.K, List.mem_cons, List.not_mem_nil, or_false] at hq
theorem cmp8.ok : CallOK Try.prog 75 cmp8.spec :=
  callOK_of_sig (fn := Try.f75) (Cf := cmp8.C) (K := cmp8.K) (d := 0) (dec := cmp8.dec) (by kernel_rfl) (fun _ => rfl) cmp8.cok (fun _ q hq => by simp [cmp8.C] at hq) cmp8.aok
   (fun N L r h => (cmp8.F_eq N L).trans h) (by kernel_rfl) (fun _ => ⟨rfl, rfl⟩) (fun _ _ => ⟨rfl, rfl⟩)
noncomputable def compare8.sig : Eng.Sig := { args := [.at (.roi .u8 0), .at (.roi .u8 1)], n := 0, pre := [], post := [], m := 0, ret := .at (.int .i64 0) }
noncomputable def compare8.C (N : Nat) : Cfg := { P := Try.prog, N := N, RT := noRT, specs := [(75, cmp8.spec)], inl := [], hi := 0, mv := [] }
abbrev compare8.R : Type := Int
def compare8.dec (L : Eng.Leaves) : compare8.R := (L.i 0)
def compare8.enc (r : compare8.R) : Eng.Leaves := mkL [r] [] [] []
abbrev compare8.loop2.R : Type := Int
noncomputable def compare8.loop2.ann : Ann := { nx := 20, slots := [(1, .at (.froi .u8 0)), (4, .at (.int .i64 0)), (9, .at (.froi .u8 1)), (10, .at (.fint .i64 0)), (11, .at (.int .i64 1))], blks := [], mov := [], exId := 0, xslots := [(4, .at (.int .i64 0))], xblks := [], T := compare8.loop2.R, dec := fun L => (L.i 0), enc := fun r => mkL [r] [] [] [], ret := true }
noncomputable def compare8.K (N : Nat) : FCfg := { anns := [(2, compare8.loop2.ann)], unr := [], lits := [], lets := [] }
noncomputable def compare8.loop2 (N : Nat) : Nat → List Int → List Int → Int → List Int → List Int → Int → Int → Option (compare8.loop2.R ⊕ compare8.R)
  | 0, _, _, _, _, _, _, _ => none
  | nn + 1, e_x, e_y, s10, y, s9, s4, s11 =>
  (br (decide (s11 < s10))
   (chk ((0 : Int) ≤ s11 ∧ s11 < ↑s9.length)
   (br (decide (s11 ≥ ↑y.length))
   (omap
   (some ((1 : Int))) .inr)
   (chk ((0 : Int) ≤ s11 ∧ s11 < ↑y.length)
   (obind (Rc.cmp8.F N (s9.getD s11.toNat (0 : Int)) (y.getD s11.toNat (0 : Int))) fun r0 =>
   (br (r0 != (0 : Int))
   (omap
   (some r0) .inr)
   (chkL y y
   (chkL s9 s9
   (chkI s10 s10
   (compare8.loop2 N nn e_x e_y s10 y s9 s4 (IntKind.i64.wrap (s11 + (1 : Int))))))))))))
   (some (Sum.inl s4)))
noncomputable def compare8.loop2R (N nn : Nat) (e_x : List Int) (e_y : List Int) (s10 : Int) (y : List Int) (s9 : List Int) (s4 : Int) (s11 : Int) : Option (compare8.loop2.R ⊕ compare8.R) := loopR compare8.loop2.ann (mkL [s10] [] [y, s9] []) (evCode ((compare8.C N).inLoop compare8.loop2.ann) (compare8.K N) (inlTab (compare8.C N) 0) (bodyAt 2 Try.f51)) (sigKr Try.prog Try.f51 compare8.sig (mkL [] [] [e_x, e_y] []) fun L => (L.i 0)) nn (mkL [s4, s11] [] [] [])
theorem compare8.loop2_eq (N : Nat) : ∀ (nn : Nat) (e_x : List Int) (e_y : List Int) (s10 : Int) (y : List Int) (s9 : List Int) (s4 : Int) (s11 : Int), compare8.loop2R N nn e_x e_y s10 y s9 s4 s11 = compare8.loop2 N nn e_x e_y s10 y s9 s4 s11
  | 0, _, _, _, _, _, _, _ => by kernel_rfl
  | nn + 1, e_x, e_y, s10, y, s9, s4, s11 => by
    have h : compare8.loop2R N (nn + 1) e_x e_y s10 y s9 s4 s11 =
  (br (decide (s11 < s10))
   (chk ((0 : Int) ≤ s11 ∧ s11 < ↑s9.length)
   (br (decide (s11 ≥ ↑y.length))
   (omap
   (some ((1 : Int))) .inr)
   (chk ((0 : Int) ≤ s11 ∧ s11 < ↑y.length)
   (obind (Rc.cmp8.F N (s9.getD s11.toNat (0 : Int)) (y.getD s11.toNat (0 : Int))) fun r0 =>
   (br (r0 != (0 : Int))
   (omap
   (some r0) .inr)
   (chkL y y
   (chkL s9 s9
   (chkI s10 s10
   (compare8.loop2R N nn e_x e_y s10 y s9 s4 (IntKind.i64.wrap (s11 + (1 : Int))))))))))))
   (some (Sum.inl s4))) := by kernel_rfl
    rw [h, compare8.loop2]
    try simp only [compare8.loop2_eq N nn]
noncomputable def compare8.F (N : Nat) (x : List Int) (y : List Int) : Option compare8.R :=
  (osum (compare8.loop2 N N x y (↑x.length) y x ((0 : Int)) ((0 : Int))) fun r0 =>
   (br (decide ((x.length : Int) < ↑y.length))
   (some ((-1 : Int)))
   (some ((0 : Int)))))
theorem compare8.F_eq (N : Nat) (L : Eng.Leaves) : evSig (compare8.C N) (compare8.K N) 0 Try.f51 compare8.sig L compare8.dec = compare8.F N (L.l 0) (L.l 1) := by
  have h : ∀ (x : List Int) (y : List Int), evSig (compare8.C N) (compare8.K N) 0 Try.f51 compare8.sig (mkL [] [] [x, y] []) compare8.dec =
  (osum (compare8.loop2R N N x y (↑x.length) y x ((0 : Int)) ((0 : Int))) fun r0 =>
   (br (decide ((x.length : Int) < ↑y.length))
   (some ((-1 : Int)))
   (some ((0 : Int))))) := by
    intro x y
    kernel_rfl
  have h2 : evSig (compare8.C N) (compare8.K N) 0 Try.f51 compare8.sig L compare8.dec = evSig (compare8.C N) (compare8.K N) 0 Try.f51 compare8.sig (mkL [] [] [L.l 0, L.l 1] []) compare8.dec := by kernel_rfl
  rw [h2, h, compare8.F]
  try simp only [compare8.loop2_eq N]
noncomputable def compare8.spec : Eng.Spec := compare8.sig.spec (fun N L => compare8.F N (L.l 0) (L.l 1)) compare8.enc
theorem compare8.cok (N : Nat) : CfgOK (compare8.C N) := ⟨fun _ _ _ _ h => by simp [compare8.C, noRT] at h, wide, by
  simp only [compare8.C, List.mem_cons, List.not_mem_nil, or_false, forall_eq_or_imp, forall_eq, false_imp_iff, implies_true]
  exact ⟨cmp8.ok, by kernel_rfl⟩, fun g hg => by simp [compare8.C] at hg, fun m hm => by simp [compare8.C] at hm, fun q hq => by simp [compare8.C] at hq⟩
theorem compare8.aok (N : Nat) : AnnsOK (compare8.K N) := by
  intro q hq
  simp only [compare8.K, List.mem_cons, List.not_mem_nil, or_false] at hq
  subst hq
  exact fun _ _ => ⟨rfl, rfl⟩
theorem compare8.ok : CallOK Try.prog 51 compare8.spec :=
  callOK_of_sig (fn := Try.f51) (Cf := compare8.C) (K := compare8.K) (d := 0) (dec := compare8.dec) (by kernel_rfl) (fun _ => rfl) compare8.cok (fun _ q hq => by simp [compare8.C] at hq) compare8.aok
   (fun N L r h => (compare8.F_eq N L).trans h) (by kernel_rfl) (fun _ => ⟨rfl, rfl⟩) (fun _ _ => ⟨rfl, rfl⟩)
noncomputable def increase.sig : Eng.Sig := { args := [.at (.full 0 false), .at (.int .i64 0)], n := 1, pre := [(0, .ints false .u8 0)], post := [(0, .ints false .u8 0)], m := 0, ret := .at (.unk) }
noncomputable def increase.C (N : Nat) : Cfg := { P := Try.prog, N := N, RT := noRT, specs := [], inl := [], hi := 1, mv := [] }
abbrev increase.R : Type := List Int
def increase.dec (L : Eng.Leaves) : increase.R := (L.l 0)
def increase.enc (r : increase.R) : Eng.Leaves := mkL [] [] [r] []
abbrev increase.loop2.R : Type := List Int
noncomputable def increase.loop2.ann : Ann := { nx := 20, slots := [(0, .at (.full 0 false)), (4, .at (.int .i64 0)), (5, .at (.int .i64 1))], blks := [(0, .ints false .u8 0)], mov := [], exId := 0, xslots := [(0, .at (.full 0 false))], xblks := [(0, .ints false .u8 0)], T := increase.loop2.R, dec := fun L => (L.l 0), enc := fun r => mkL [] [] [r] [], ret := false }
noncomputable def increase.K (N : Nat) : FCfg := { anns := [(2, increase.loop2.ann)], unr := [], lits := [], lets := [] }
noncomputable def increase.loop2 (N : Nat) : Nat → Int → Int → List Int → Option increase.loop2.R
  | 0, _, _, _ => none
  | nn + 1, carry, i, b =>
  (br (decide (i ≥ (0 : Int)))
   (br (decide (carry > (0 : Int)))
   (chk ((0 : Int) ≤ i ∧ i < ↑b.length)
   (chk ((0 : Int) ≤ i ∧ i < ↑b.length)
   (increase.loop2 N nn ((IntKind.i64.wrap (carry + IntKind.i64.wrap (b.getD i.toNat (0 : Int)))).fdiv ((2 : Int) ^ min (Int.toNat (8 : Int)) IntKind.i64.bits)) (IntKind.i64.wrap (i - (1 : Int))) (b.set i.toNat (IntKind.u8.wrap (IntKind.i64.wrap (carry + IntKind.i64.wrap (b.getD i.toNat (0 : Int)))))))))
   (some b))
   (some b))
noncomputable def increase.loop2R (N nn : Nat) (carry : Int) (i : Int) (b : List Int) : Option increase.loop2.R := loopF increase.loop2.ann (mkL [] [] [] []) (evCode ((increase.C N).inLoop increase.loop2.ann) (increase.K N) (inlTab (increase.C N) 0) (bodyAt 2 Try.f50)) nn (mkL [carry, i] [] [b] [])
theorem increase.loop2_eq (N : Nat) : ∀ (nn : Nat) (carry : Int) (i : Int) (b : List Int), increase.loop2R N nn carry i b = increase.loop2 N nn carry i b
  | 0, _, _, _ => by kernel_rfl
  | nn + 1, carry, i, b => by
    have h : increase.loop2R N (nn + 1) carry i b =
  (br (decide (i ≥ (0 : Int)))
   (br (decide (carry > (0 : Int)))
   (chk ((0 : Int) ≤ i ∧ i < ↑b.length)
   (chk ((0 : Int) ≤ i ∧ i < ↑b.length)
   (increase.loop2R N nn ((IntKind.i64.wrap (carry + IntKind.i64.wrap (b.getD i.toNat (0 : Int)))).fdiv ((2 : Int) ^ min (Int.toNat (8 : Int)) IntKind.i64.bits)) (IntKind.i64.wrap (i - (1 : Int))) (b.set i.toNat (IntKind.u8.wrap (IntKind.i64.wrap (carry + IntKind.i64.wrap (b.getD i.toNat (0 : Int)))))))))
   (some b))
   (some b)) := by kernel_rfl
    rw [h, increase.loop2]
    try simp only [increase.loop2_eq N nn]
noncomputable def increase.F (N : Nat) (power : Int) (b : List Int) : Option increase.R :=
  (chk ((0 : Int) ≤ power.tmod (8 : Int))
   (obind (increase.loop2 N N (IntKind.i64.wrap ((1 : Int) * (2 : Int) ^ min (power.tmod (8 : Int)).toNat IntKind.i64.bits)) (IntKind.i64.wrap (IntKind.i64.wrap (↑b.length - (1 : Int)) - IntKind.i64.wrap (power.tdiv (8 : Int)))) b) fun r0 =>
   (some r0)))
theorem increase.F_eq (N : Nat) (L : Eng.Leaves) : evSig (increase.C N) (increase.K N) 0 Try.f50 increase.sig L increase.dec = increase.F N (L.i 0) (L.l 0) := by
  have h : ∀ (power : Int) (b : List Int), evSig (increase.C N) (increase.K N) 0 Try.f50 increase.sig (mkL [power] [] [b] []) increase.dec =
  (chk ((0 : Int) ≤ power.tmod (8 : Int))
   (obind (increase.loop2R N N (IntKind.i64.wrap ((1 : Int) * (2 : Int) ^ min (power.tmod (8 : Int)).toNat IntKind.i64.bits)) (IntKind.i64.wrap (IntKind.i64.wrap (↑b.length - (1 : Int)) - IntKind.i64.wrap (power.tdiv (8 : Int)))) b) fun r0 =>
   (some r0))) := by
    intro power b
    kernel_rfl
  have h2 : evSig (increase.C N) (increase.K N) 0 Try.f50 increase.sig L increase.dec = evSig (increase.C N) (increase.K N) 0 Try.f50 increase.sig (mkL [L.i 0] [] [L.l 0] []) increase.dec := by kernel_rfl
  rw [h2, h, increase.F]
  try simp only [increase.loop2_eq N]
noncomputable def increase.spec : Eng.Spec := increase.sig.spec (fun N L => increase.F N (L.i 0) (L.l 0)) increase.enc
theorem increase.cok (N : Nat) : CfgOK (increase.C N) := ⟨fun _ _ _ _ h => by simp [increase.C, noRT] at h, wide, by
  simp only [increase.C, List.mem_cons, List.not_mem_nil, or_false, forall_eq_or_imp, forall_eq, false_imp_iff, implies_true], fun g hg => by simp [increase.C] at hg, fun m hm => by simp [increase.C] at hm, fun q hq => by simp [increase.C] at hq⟩
theorem increase.aok (N : Nat) : AnnsOK (increase.K N) := by
  intro q hq
  simp only [increase.K, List.mem_cons, List.not_mem_nil, or_false] at hq
  subst hq
  exact fun _ _ => ⟨rfl, rfl⟩
theorem increase.ok : CallOK Try.prog 50 increase.spec :=
  callOK_of_sig (fn := Try.f50) (Cf := increase.C) (K := increase.K) (d := 0) (dec := increase.dec) (by kernel_rfl) (fun _ => rfl) increase.cok (fun _ q hq => by simp [increase.C] at hq) increase.aok
   (fun N L r h => (increase.F_eq N L).trans h) (by kernel_rfl) (fun _ => ⟨rfl, rfl⟩) (fun _ _ => ⟨rfl, rfl⟩)
noncomputable def enew.sig : Eng.Sig := { args := [], n := 0, pre := [], post := [(0, .cells 6 [.full 1 false, .int .u64 0, .int .u64 1, .full 2 false, .int .i64 2, .int .i64 3]), (1, .ints true .u8 0), (2, .ints true .u8 1)], m := 3, ret := .at (.ptr 0 0) }
noncomputable def enew.C (N : Nat) : Cfg := { P := Try.prog, N := N, RT := noRT, specs := [], inl := [], hi := 0, mv := [] }
abbrev enew.R : Type := Int × Int × Int × Int × List Int × List Int
def enew.dec (L : Eng.Leaves) : enew.R := (L.i 0, L.i 1, L.i 2, L.i 3, L.l 0, L.l 1)
def enew.enc (r : enew.R) : Eng.Leaves := mkL [r.1, r.2.1, r.2.2.1, r.2.2.2.1] [] [r.2.2.2.2.1, r.2.2.2.2.2] []
noncomputable def enew.K (N : Nat) : FCfg := { anns := [], unr := [], lits := [], lets := [] }
noncomputable def enew.F (N : Nat)  : Option enew.R :=
  (some (((0 : Int), (2147483648 : Int), (0 : Int), (33 : Int), ([] : List Int), ([] : List Int))))
theorem enew.F_eq (N : Nat) (L : Eng.Leaves) : evSig (enew.C N) (enew.K N) 0 Try.f15 enew.sig L enew.dec = enew.F N  := by
  kernel_rfl
noncomputable def enew.spec : Eng.Spec := enew.sig.spec (fun N L => enew.F N ) enew.enc
theorem enew.cok (N : Nat) : CfgOK (enew.C N) := ⟨fun _ _ _ _ h => by simp [enew.C, noRT] at h, wide, by
  simp only [enew.C, List.mem_cons, List.not_mem_nil, or_false, forall_eq_or_imp, forall_eq, false_imp_iff, implies_true], fun g hg => by simp [enew.C] at hg, fun m hm => by simp [enew.C] at hm, fun q hq => by simp [enew.C] at hq⟩
theorem enew.aok (N : Nat) : AnnsOK (enew.K N) := by
  intro q hq
  simp only [enew.K, List.mem_cons, List.not_mem_nil, or_false] at hq
theorem enew.ok : CallOK Try.prog 15 enew.spec :=
  callOK_of_sig (fn := Try.f15) (Cf := enew.C) (K := enew.K) (d := 0) (dec := enew.dec) (by kernel_rfl) (fun _ => rfl) enew.cok (fun _ q hq => by simp [enew.C] at hq) enew.aok
   (fun N L r h => (enew.F_eq N L).trans h) (by kernel_rfl) (fun _ => ⟨rfl, rfl⟩) (fun _ _ => ⟨rfl, rfl⟩)
noncomputable def edone.sig : Eng.Sig := { args := [.at (.ptr 0 0), .at (.int .i64 0)], n := 3, pre := [(0, .cells 6 [.full 1 false, .int .u64 1, .int .u64 2, .full 2 false, .int .i64 3, .int .i64 4]), (1, .ints true .u8 0), (2, .ints true .u8 1)], post := [(0, .cells 6 [.full 1 false, .fint .u64 1, .fint .u64 2, .full 2 false, .fint .i64 3, .fint .i64 4]), (1, .fints true .u8 0), (2, .fints true .u8 1), (3, .ints false .u8 0)], m := 1, ret := .tup [(false, [.full 3 false]), (false, [.int .i64 0])] }
noncomputable def edone.C (N : Nat) : Cfg := { P := Try.prog, N := N, RT := noRT, specs := [(23, etell.spec), (37, clone8.spec), (48, contains8.spec), (50, increase.spec), (51, compare8.spec)], inl := [], hi := 3, mv := [] }
abbrev edone.R : Type := Int × List Int
def edone.dec (L : Eng.Leaves) : edone.R := (L.i 0, L.l 0)
def edone.enc (r : edone.R) : Eng.Leaves := mkL [r.1] [] [r.2] []
abbrev edone.loop12.R : Type := List Int
noncomputable def edone.loop12.ann : Ann := { nx := 20, slots := [(0, .at (.ptr 0 0)), (1, .at (.fint .i64 0)), (7, .at (.full 8 true)), (78, .at (.fint .i64 1)), (79, .at (.int .i64 0))], blks := [(0, .cells 6 [.full 1 false, .fint .u64 2, .fint .u64 3, .full 2 false, .fint .i64 4, .fint .i64 5]), (1, .fints true .u8 0), (2, .fints true .u8 1), (8, .ints false .u8 0)], mov := [], exId := 1, xslots := [(0, .at (.ptr 0 0)), (7, .at (.full 8 true))], xblks := [(0, .cells 6 [.full 1 false, .fint .u64 2, .fint .u64 3, .full 2 false, .fint .i64 4, .fint .i64 5]), (1, .fints true .u8 0), (2, .fints true .u8 1), (8, .ints false .u8 0)], T := edone.loop12.R, dec := fun L => (L.l 0), enc := fun r => mkL [] [] [r] [], ret := false }
noncomputable def edone.K (N : Nat) : FCfg := { anns := [(12, edone.loop12.ann)], unr := [], lits := [54], lets := [] }
noncomputable def edone.loop12 (N : Nat) : Nat → Int → Int → Int → Int → Int → Int → List Int → List Int → Int → List Int → Option edone.loop12.R
  | 0, _, _, _, _, _, _, _, _, _, _ => none
  | nn + 1, n, s78, val, rng, rawBits, count, told, raw, s79, l8 =>
  (br (decide (s79 < s78))
   (chk ((0 : Int) ≤ s79.tmod (8 : Int))
   (chk ((0 : Int) ≤ IntKind.i64.wrap (IntKind.i64.wrap (n - (1 : Int)) - IntKind.i64.wrap (s79.tdiv (8 : Int))) ∧ IntKind.i64.wrap (IntKind.i64.wrap (n - (1 : Int)) - IntKind.i64.wrap (s79.tdiv (8 : Int))) < ↑l8.length)
   (chk ((0 : Int) ≤ IntKind.i64.wrap (s79.tdiv (8 : Int)) ∧ IntKind.i64.wrap (s79.tdiv (8 : Int)) < ↑raw.length)
   (chk ((0 : Int) ≤ IntKind.i64.wrap (IntKind.i64.wrap (n - (1 : Int)) - IntKind.i64.wrap (s79.tdiv (8 : Int))) ∧ IntKind.i64.wrap (IntKind.i64.wrap (n - (1 : Int)) - IntKind.i64.wrap (s79.tdiv (8 : Int))) < ↑l8.length)
   (chkI n n
   (chkI s78 s78
   (chkI val val
   (chkI rng rng
   (chkI rawBits rawBits
   (chkI count count
   (chkL told told
   (chkL raw raw
   (edone.loop12 N nn n s78 val rng rawBits count told raw (IntKind.i64.wrap (s79 + (1 : Int))) (l8.set (IntKind.i64.wrap (IntKind.i64.wrap (n - (1 : Int)) - IntKind.i64.wrap (s79.tdiv (8 : Int)))).toNat (IntKind.u8.wrap ↑(BitVec.ofInt IntKind.u8.bits (IntKind.u8.wrap ↑(BitVec.ofInt IntKind.u8.bits (l8.getD (IntKind.i64.wrap (IntKind.i64.wrap (n - (1 : Int)) - IntKind.i64.wrap (s79.tdiv (8 : Int)))).toNat (0 : Int)) &&& ~~~BitVec.ofInt IntKind.u8.bits (IntKind.u8.wrap ((1 : Int) * (2 : Int) ^ min (s79.tmod (8 : Int)).toNat IntKind.u8.bits))).toNat) ||| BitVec.ofInt IntKind.u8.bits (IntKind.u8.wrap ↑(BitVec.ofInt IntKind.u8.bits (raw.getD (IntKind.i64.wrap (s79.tdiv (8 : Int))).toNat (0 : Int)) &&& BitVec.ofInt IntKind.u8.bits (IntKind.u8.wrap ((1 : Int) * (2 : Int) ^ min (s79.tmod (8 : Int)).toNat IntKind.u8.bits))).toNat)).toNat)))))))))))))))
   (chkI val val
   (chkI rng rng
   (chkI rawBits rawBits
   (chkI count count
   (chkL told told
   (chkL raw raw
   (some l8))))))))
noncomputable def edone.loop12R (N nn : Nat) (n : Int) (s78 : Int) (val : Int) (rng : Int) (rawBits : Int) (count : Int) (told : List Int) (raw : List Int) (s79 : Int) (l8 : List Int) : Option edone.loop12.R := loopF edone.loop12.ann (mkL [n, s78, val, rng, rawBits, count] [] [told, raw] []) (evCode ((edone.C N).inLoop edone.loop12.ann) (edone.K N) (inlTab (edone.C N) 0) (bodyAt 12 Try.f24)) nn (mkL [s79] [] [l8] [])
theorem edone.loop12_eq (N : Nat) : ∀ (nn : Nat) (n : Int) (s78 : Int) (val : Int) (rng : Int) (rawBits : Int) (count : Int) (told : List Int) (raw : List Int) (s79 : Int) (l8 : List Int), edone.loop12R N nn n s78 val rng rawBits count told raw s79 l8 = edone.loop12 N nn n s78 val rng rawBits count told raw s79 l8
  | 0, _, _, _, _, _, _, _, _, _, _ => by kernel_rfl
  | nn + 1, n, s78, val, rng, rawBits, count, told, raw, s79, l8 => by
    have h : edone.loop12R N (nn + 1) n s78 val rng rawBits count told raw s79 l8 =
  (br (decide (s79 < s78))
   (chk ((0 : Int) ≤ s79.tmod (8 : Int))
   (chk ((0 : Int) ≤ IntKind.i64.wrap (IntKind.i64.wrap (n - (1 : Int)) - IntKind.i64.wrap (s79.tdiv (8 : Int))) ∧ IntKind.i64.wrap (IntKind.i64.wrap (n - (1 : Int)) - IntKind.i64.wrap (s79.tdiv (8 : Int))) < ↑l8.length)
   (chk ((0 : Int) ≤ IntKind.i64.wrap (s79.tdiv (8 : Int)) ∧ IntKind.i64.wrap (s79.tdiv (8 : Int)) < ↑raw.length)
   (chk ((0 : Int) ≤ IntKind.i64.wrap (IntKind.i64.wrap (n - (1 : Int)) - IntKind.i64.wrap (s79.tdiv (8 : Int))) ∧ IntKind.i64.wrap (IntKind.i64.wrap (n - (1 : Int)) - IntKind.i64.wrap (s79.tdiv (8 : Int))) < ↑l8.length)
   (chkI n n
   (chkI s78 s78
   (chkI val val
   (chkI rng rng
   (chkI rawBits rawBits
   (chkI count count
   (chkL told told
   (chkL raw raw
   (edone.loop12R N nn n s78 val rng rawBits count told raw (IntKind.i64.wrap (s79 + (1 : Int))) (l8.set (IntKind.i64.wrap (IntKind.i64.wrap (n - (1 : Int)) - IntKind.i64.wrap (s79.tdiv (8 : Int)))).toNat (IntKind.u8.wrap ↑(BitVec.ofInt IntKind.u8.bits (IntKind.u8.wrap ↑(BitVec.ofInt IntKind.u8.bits (l8.getD (IntKind.i64.wrap (IntKind.i64.wrap (n - (1 : Int)) - IntKind.i64.wrap (s79.tdiv (8 : Int)))).toNat (0 : Int)) &&& ~~~BitVec.ofInt IntKind.u8.bits (IntKind.u8.wrap ((1 : Int) * (2 : Int) ^ min (s79.tmod (8 : Int)).toNat IntKind.u8.bits))).toNat) ||| BitVec.ofInt IntKind.u8.bits (IntKind.u8.wrap ↑(BitVec.ofInt IntKind.u8.bits (raw.getD (IntKind.i64.wrap (s79.tdiv (8 : Int))).toNat (0 : Int)) &&& BitVec.ofInt IntKind.u8.bits (IntKind.u8.wrap ((1 : Int) * (2 : Int) ^ min (s79.tmod (8 : Int)).toNat IntKind.u8.bits))).toNat)).toNat)))))))))))))))
   (chkI val val
   (chkI rng rng
   (chkI rawBits rawBits
   (chkI count count
   (chkL told told
   (chkL raw raw
   (some l8)))))))) := by kernel_rfl
    rw [h, edone.loop12]
    try simp only [edone.loop12_eq N nn]
noncomputable def edone.F (N : Nat) (n : Int) (val : Int) (rng : Int) (rawBits : Int) (count : Int) (told : List Int) (raw : List Int) : Option edone.R :=
  (br (decide (n < (0 : Int)))
   (chkI val val
   (chkI rng rng
   (chkI rawBits rawBits
   (chkI count count
   (chkL told told
   (chkL raw raw
   (some (((1 : Int), ([] : List Int))))))))))
   (br (decide (n > (1275 : Int)))
   (chkI val val
   (chkI rng rng
   (chkI rawBits rawBits
   (chkI count count
   (chkL told told
   (chkL raw raw
   (some (((1 : Int), ([] : List Int))))))))))
   (obind (Rc.etell.F N val rng rawBits count told raw) fun r0 =>
   (br (decide (r0 > IntKind.i64.wrap ((8 : Int) * n)))
   (chkI val val
   (chkI rng rng
   (chkI rawBits rawBits
   (chkI count count
   (chkL told told
   (chkL raw raw
   (some (((2 : Int), ([] : List Int))))))))))
   (obind (Rc.clone8.F2 N told) fun r1 =>
   (chk (r1.length + [IntKind.u8.wrap (val.fdiv ((2 : Int) ^ min (Int.toNat (23 : Int)) IntKind.u64.bits)), IntKind.u8.wrap (val.fdiv ((2 : Int) ^ min (Int.toNat (15 : Int)) IntKind.u64.bits)), IntKind.u8.wrap (val.fdiv ((2 : Int) ^ min (Int.toNat (7 : Int)) IntKind.u64.bits)), IntKind.u8.wrap (IntKind.u64.wrap (val * (2 : Int) ^ min (Int.toNat (1 : Int)) IntKind.u64.bits))].length ≤ (140737488351232 : Nat))
   (chkI val val
   (chkI val val
   (chkI val val
   (chkI val val
   (chk ((0 : Int) ≤ n ∧ n ≤ n ∧ n ≤ ↑(17592186043904 : Nat))
   (br (decide (↑(r1 ++ [IntKind.u8.wrap (val.fdiv ((2 : Int) ^ min (Int.toNat (23 : Int)) IntKind.u64.bits)), IntKind.u8.wrap (val.fdiv ((2 : Int) ^ min (Int.toNat (15 : Int)) IntKind.u64.bits)), IntKind.u8.wrap (val.fdiv ((2 : Int) ^ min (Int.toNat (7 : Int)) IntKind.u64.bits)), IntKind.u8.wrap (IntKind.u64.wrap (val * (2 : Int) ^ min (Int.toNat (1 : Int)) IntKind.u64.bits))]).length > n))
   (chk ((0 : Int) ≤ n ∧ n ≤ ↑(r1 ++ [IntKind.u8.wrap (val.fdiv ((2 : Int) ^ min (Int.toNat (23 : Int)) IntKind.u64.bits)), IntKind.u8.wrap (val.fdiv ((2 : Int) ^ min (Int.toNat (15 : Int)) IntKind.u64.bits)), IntKind.u8.wrap (val.fdiv ((2 : Int) ^ min (Int.toNat (7 : Int)) IntKind.u64.bits)), IntKind.u8.wrap (IntKind.u64.wrap (val * (2 : Int) ^ min (Int.toNat (1 : Int)) IntKind.u64.bits))]).length)
   (obind (Rc.contains8.F N (List.take ((r1 ++ [IntKind.u8.wrap (val.fdiv ((2 : Int) ^ min (Int.toNat (23 : Int)) IntKind.u64.bits)), IntKind.u8.wrap (val.fdiv ((2 : Int) ^ min (Int.toNat (15 : Int)) IntKind.u64.bits)), IntKind.u8.wrap (val.fdiv ((2 : Int) ^ min (Int.toNat (7 : Int)) IntKind.u64.bits)), IntKind.u8.wrap (IntKind.u64.wrap (val * (2 : Int) ^ min (Int.toNat (1 : Int)) IntKind.u64.bits))]).length - n.toNat) (List.drop n.toNat (r1 ++ [IntKind.u8.wrap (val.fdiv ((2 : Int) ^ min (Int.toNat (23 : Int)) IntKind.u64.bits)), IntKind.u8.wrap (val.fdiv ((2 : Int) ^ min (Int.toNat (15 : Int)) IntKind.u64.bits)), IntKind.u8.wrap (val.fdiv ((2 : Int) ^ min (Int.toNat (7 : Int)) IntKind.u64.bits)), IntKind.u8.wrap (IntKind.u64.wrap (val * (2 : Int) ^ min (Int.toNat (1 : Int)) IntKind.u64.bits))])))) fun r2 =>
   (br r2
   (obind (Rc.increase.F N ((0 : Int)) (List.take (List.replicate n.toNat (0 : Int)).length (r1 ++ [IntKind.u8.wrap (val.fdiv ((2 : Int) ^ min (Int.toNat (23 : Int)) IntKind.u64.bits)), IntKind.u8.wrap (val.fdiv ((2 : Int) ^ min (Int.toNat (15 : Int)) IntKind.u64.bits)), IntKind.u8.wrap (val.fdiv ((2 : Int) ^ min (Int.toNat (7 : Int)) IntKind.u64.bits)), IntKind.u8.wrap (IntKind.u64.wrap (val * (2 : Int) ^ min (Int.toNat (1 : Int)) IntKind.u64.bits))]) ++ List.drop (min (r1 ++ [IntKind.u8.wrap (val.fdiv ((2 : Int) ^ min (Int.toNat (23 : Int)) IntKind.u64.bits)), IntKind.u8.wrap (val.fdiv ((2 : Int) ^ min (Int.toNat (15 : Int)) IntKind.u64.bits)), IntKind.u8.wrap (val.fdiv ((2 : Int) ^ min (Int.toNat (7 : Int)) IntKind.u64.bits)), IntKind.u8.wrap (IntKind.u64.wrap (val * (2 : Int) ^ min (Int.toNat (1 : Int)) IntKind.u64.bits))]).length (List.replicate n.toNat (0 : Int)).length) (List.replicate n.toNat (0 : Int)))) fun r3 =>
   (obind (Rc.clone8.F2 N r3) fun r4 =>
   (obind (edone.loop12 N N n rawBits val rng rawBits count told raw ((0 : Int)) r3) fun r5 =>
   (obind (Rc.compare8.F N r5 r4) fun r6 =>
   (br (decide (r6 < (0 : Int)))
   (obind (Rc.increase.F N rawBits r5) fun r7 =>
   (chkI val val
   (chkI rng rng
   (chkI rawBits rawBits
   (chkI count count
   (chkL told told
   (chkL raw raw
   (some (((0 : Int), r7))))))))))
   (chkI val val
   (chkI rng rng
   (chkI rawBits rawBits
   (chkI count count
   (chkL told told
   (chkL raw raw
   (some (((0 : Int), r5))))))))))))))
   (obind (Rc.clone8.F2 N (List.take (List.replicate n.toNat (0 : Int)).length (r1 ++ [IntKind.u8.wrap (val.fdiv ((2 : Int) ^ min (Int.toNat (23 : Int)) IntKind.u64.bits)), IntKind.u8.wrap (val.fdiv ((2 : Int) ^ min (Int.toNat (15 : Int)) IntKind.u64.bits)), IntKind.u8.wrap (val.fdiv ((2 : Int) ^ min (Int.toNat (7 : Int)) IntKind.u64.bits)), IntKind.u8.wrap (IntKind.u64.wrap (val * (2 : Int) ^ min (Int.toNat (1 : Int)) IntKind.u64.bits))]) ++ List.drop (min (r1 ++ [IntKind.u8.wrap (val.fdiv ((2 : Int) ^ min (Int.toNat (23 : Int)) IntKind.u64.bits)), IntKind.u8.wrap (val.fdiv ((2 : Int) ^ min (Int.toNat (15 : Int)) IntKind.u64.bits)), IntKind.u8.wrap (val.fdiv ((2 : Int) ^ min (Int.toNat (7 : Int)) IntKind.u64.bits)), IntKind.u8.wrap (IntKind.u64.wrap (val * (2 : Int) ^ min (Int.toNat (1 : Int)) IntKind.u64.bits))]).length (List.replicate n.toNat (0 : Int)).length) (List.replicate n.toNat (0 : Int)))) fun r8 =>
   (obind (edone.loop12 N N n rawBits val rng rawBits count told raw ((0 : Int)) (List.take (List.replicate n.toNat (0 : Int)).length (r1 ++ [IntKind.u8.wrap (val.fdiv ((2 : Int) ^ min (Int.toNat (23 : Int)) IntKind.u64.bits)), IntKind.u8.wrap (val.fdiv ((2 : Int) ^ min (Int.toNat (15 : Int)) IntKind.u64.bits)), IntKind.u8.wrap (val.fdiv ((2 : Int) ^ min (Int.toNat (7 : Int)) IntKind.u64.bits)), IntKind.u8.wrap (IntKind.u64.wrap (val * (2 : Int) ^ min (Int.toNat (1 : Int)) IntKind.u64.bits))]) ++ List.drop (min (r1 ++ [IntKind.u8.wrap (val.fdiv ((2 : Int) ^ min (Int.toNat (23 : Int)) IntKind.u64.bits)), IntKind.u8.wrap (val.fdiv ((2 : Int) ^ min (Int.toNat (15 : Int)) IntKind.u64.bits)), IntKind.u8.wrap (val.fdiv ((2 : Int) ^ min (Int.toNat (7 : Int)) IntKind.u64.bits)), IntKind.u8.wrap (IntKind.u64.wrap (val * (2 : Int) ^ min (Int.toNat (1 : Int)) IntKind.u64.bits))]).length (List.replicate n.toNat (0 : Int)).length) (List.replicate n.toNat (0 : Int)))) fun r9 =>
   (obind (Rc.compare8.F N r9 r8) fun r10 =>
   (br (decide (r10 < (0 : Int)))
   (obind (Rc.increase.F N rawBits r9) fun r11 =>
   (chkI val val
   (chkI rng rng
   (chkI rawBits rawBits
   (chkI count count
   (chkL told told
   (chkL raw raw
   (some (((0 : Int), r11))))))))))
   (chkI val val
   (chkI rng rng
   (chkI rawBits rawBits
   (chkI count count
   (chkL told told
   (chkL raw raw
   (some (((0 : Int), r9))))))))))))))))
   (obind (Rc.clone8.F2 N (List.take (List.replicate n.toNat (0 : Int)).length (r1 ++ [IntKind.u8.wrap (val.fdiv ((2 : Int) ^ min (Int.toNat (23 : Int)) IntKind.u64.bits)), IntKind.u8.wrap (val.fdiv ((2 : Int) ^ min (Int.toNat (15 : Int)) IntKind.u64.bits)), IntKind.u8.wrap (val.fdiv ((2 : Int) ^ min (Int.toNat (7 : Int)) IntKind.u64.bits)), IntKind.u8.wrap (IntKind.u64.wrap (val * (2 : Int) ^ min (Int.toNat (1 : Int)) IntKind.u64.bits))]) ++ List.drop (min (r1 ++ [IntKind.u8.wrap (val.fdiv ((2 : Int) ^ min (Int.toNat (23 : Int)) IntKind.u64.bits)), IntKind.u8.wrap (val.fdiv ((2 : Int) ^ min (Int.toNat (15 : Int)) IntKind.u64.bits)), IntKind.u8.wrap (val.fdiv ((2 : Int) ^ min (Int.toNat (7 : Int)) IntKind.u64.bits)), IntKind.u8.wrap (IntKind.u64.wrap (val * (2 : Int) ^ min (Int.toNat (1 : Int)) IntKind.u64.bits))]).length (List.replicate n.toNat (0 : Int)).length) (List.replicate n.toNat (0 : Int)))) fun r12 =>
   (obind (edone.loop12 N N n rawBits val rng rawBits count told raw ((0 : Int)) (List.take (List.replicate n.toNat (0 : Int)).length (r1 ++ [IntKind.u8.wrap (val.fdiv ((2 : Int) ^ min (Int.toNat (23 : Int)) IntKind.u64.bits)), IntKind.u8.wrap (val.fdiv ((2 : Int) ^ min (Int.toNat (15 : Int)) IntKind.u64.bits)), IntKind.u8.wrap (val.fdiv ((2 : Int) ^ min (Int.toNat (7 : Int)) IntKind.u64.bits)), IntKind.u8.wrap (IntKind.u64.wrap (val * (2 : Int) ^ min (Int.toNat (1 : Int)) IntKind.u64.bits))]) ++ List.drop (min (r1 ++ [IntKind.u8.wrap (val.fdiv ((2 : Int) ^ min (Int.toNat (23 : Int)) IntKind.u64.bits)), IntKind.u8.wrap (val.fdiv ((2 : Int) ^ min (Int.toNat (15 : Int)) IntKind.u64.bits)), IntKind.u8.wrap (val.fdiv ((2 : Int) ^ min (Int.toNat (7 : Int)) IntKind.u64.bits)), IntKind.u8.wrap (IntKind.u64.wrap (val * (2 : Int) ^ min (Int.toNat (1 : Int)) IntKind.u64.bits))]).length (List.replicate n.toNat (0 : Int)).length) (List.replicate n.toNat (0 : Int)))) fun r13 =>
   (obind (Rc.compare8.F N r13 r12) fun r14 =>
   (br (decide (r14 < (0 : Int)))
   (obind (Rc.increase.F N rawBits r13) fun r15 =>
   (chkI val val
   (chkI rng rng
   (chkI rawBits rawBits
   (chkI count count
   (chkL told told
   (chkL raw raw
   (some (((0 : Int), r15))))))))))
   (chkI val val
   (chkI rng rng
   (chkI rawBits rawBits
   (chkI count count
   (chkL told told
   (chkL raw raw
   (some (((0 : Int), r13)))))))))))))))))))))))))
theorem edone.F_eq (N : Nat) (L : Eng.Leaves) : evSig (edone.C N) (edone.K N) 0 Try.f24 edone.sig L edone.dec = edone.F N (L.i 0) (L.i 1) (L.i 2) (L.i 3) (L.i 4) (L.l 0) (L.l 1) := by
  have h : ∀ (n : Int) (val : Int) (rng : Int) (rawBits : Int) (count : Int) (told : List Int) (raw : List Int), evSig (edone.C N) (edone.K N) 0 Try.f24 edone.sig (mkL [n, val, rng, rawBits, count] [] [told, raw] []) edone.dec =
  (br (decide (n < (0 : Int)))
   (chkI val val
   (chkI rng rng
   (chkI rawBits rawBits
   (chkI count count
   (chkL told told
   (chkL raw raw
   (some (((1 : Int), ([] : List Int))))))))))
   (br (decide (n > (1275 : Int)))
   (chkI val val
   (chkI rng rng
   (chkI rawBits rawBits
   (chkI count count
   (chkL told told
   (chkL raw raw
   (some (((1 : Int), ([] : List Int))))))))))
   (obind (Rc.etell.F N val rng rawBits count told raw) fun r0 =>
   (br (decide (r0 > IntKind.i64.wrap ((8 : Int) * n)))
   (chkI val val
   (chkI rng rng
   (chkI rawBits rawBits
   (chkI count count
   (chkL told told
   (chkL raw raw
   (some (((2 : Int), ([] : List Int))))))))))
   (obind (Rc.clone8.F2 N told) fun r1 =>
   (chk (r1.length + [IntKind.u8.wrap (val.fdiv ((2 : Int) ^ min (Int.toNat (23 : Int)) IntKind.u64.bits)), IntKind.u8.wrap (val.fdiv ((2 : Int) ^ min (Int.toNat (15 : Int)) IntKind.u64.bits)), IntKind.u8.wrap (val.fdiv ((2 : Int) ^ min (Int.toNat (7 : Int)) IntKind.u64.bits)), IntKind.u8.wrap (IntKind.u64.wrap (val * (2 : Int) ^ min (Int.toNat (1 : Int)) IntKind.u64.bits))].length ≤ (140737488351232 : Nat))
   (chkI val val
   (chkI val val
   (chkI val val
   (chkI val val
   (chk ((0 : Int) ≤ n ∧ n ≤ n ∧ n ≤ ↑(17592186043904 : Nat))
   (br (decide (↑(r1 ++ [IntKind.u8.wrap (val.fdiv ((2 : Int) ^ min (Int.toNat (23 : Int)) IntKind.u64.bits)), IntKind.u8.wrap (val.fdiv ((2 : Int) ^ min (Int.toNat (15 : Int)) IntKind.u64.bits)), IntKind.u8.wrap (val.fdiv ((2 : Int) ^ min (Int.toNat (7 : Int)) IntKind.u64.bits)), IntKind.u8.wrap (IntKind.u64.wrap (val * (2 : Int) ^ min (Int.toNat (1 : Int)) IntKind.u64.bits))]).length > n))
   (chk ((0 : Int) ≤ n ∧ n ≤ ↑(r1 ++ [IntKind.u8.wrap (val.fdiv ((2 : Int) ^ min (Int.toNat (23 : Int)) IntKind.u64.bits)), IntKind.u8.wrap (val.fdiv ((2 : Int) ^ min (Int.toNat (15 : Int)) IntKind.u64.bits)), IntKind.u8.wrap (val.fdiv ((2 : Int) ^ min (Int.toNat (7 : Int)) IntKind.u64.bits)), IntKind.u8.wrap (IntKind.u64.wrap (val * (2 : Int) ^ min (Int.toNat (1 : Int)) IntKind.u64.bits))]).length)
   (obind (Rc.contains8.F N (List.take ((r1 ++ [IntKind.u8.wrap (val.fdiv ((2 : Int) ^ min (Int.toNat (23 : Int)) IntKind.u64.bits)), IntKind.u8.wrap (val.fdiv ((2 : Int) ^ min (Int.toNat (15 : Int)) IntKind.u64.bits)), IntKind.u8.wrap (val.fdiv ((2 : Int) ^ min (Int.toNat (7 : Int)) IntKind.u64.bits)), IntKind.u8.wrap (IntKind.u64.wrap (val * (2 : Int) ^ min (Int.toNat (1 : Int)) IntKind.u64.bits))]).length - n.toNat) (List.drop n.toNat (r1 ++ [IntKind.u8.wrap (val.fdiv ((2 : Int) ^ min (Int.toNat (23 : Int)) IntKind.u64.bits)), IntKind.u8.wrap (val.fdiv ((2 : Int) ^ min (Int.toNat (15 : Int)) IntKind.u64.bits)), IntKind.u8.wrap (val.fdiv ((2 : Int) ^ min (Int.toNat (7 : Int)) IntKind.u64.bits)), IntKind.u8.wrap (IntKind.u64.wrap (val * (2 : Int) ^ min (Int.toNat (1 : Int)) IntKind.u64.bits))])))) fun r2 =>
   (br r2
   (obind (Rc.increase.F N ((0 : Int)) (List.take (List.replicate n.toNat (0 : Int)).length (r1 ++ [IntKind.u8.wrap (val.fdiv ((2 : Int) ^ min (Int.toNat (23 : Int)) IntKind.u64.bits)), IntKind.u8.wrap (val.fdiv ((2 : Int) ^ min (Int.toNat (15 : Int)) IntKind.u64.bits)), IntKind.u8.wrap (val.fdiv ((2 : Int) ^ min (Int.toNat (7 : Int)) IntKind.u64.bits)), IntKind.u8.wrap (IntKind.u64.wrap (val * (2 : Int) ^ min (Int.toNat (1 : Int)) IntKind.u64.bits))]) ++ List.drop (min (r1 ++ [IntKind.u8.wrap (val.fdiv ((2 : Int) ^ min (Int.toNat (23 : Int)) IntKind.u64.bits)), IntKind.u8.wrap (val.fdiv ((2 : Int) ^ min (Int.toNat (15 : Int)) IntKind.u64.bits)), IntKind.u8.wrap (val.fdiv ((2 : Int) ^ min (Int.toNat (7 : Int)) IntKind.u64.bits)), IntKind.u8.wrap (IntKind.u64.wrap (val * (2 : Int) ^ min (Int.toNat (1 : Int)) IntKind.u64.bits))]).length (List.replicate n.toNat (0 : Int)).length) (List.replicate n.toNat (0 : Int)))) fun r3 =>
   (obind (Rc.clone8.F2 N r3) fun r4 =>
   (obind (edone.loop12R N N n rawBits val rng rawBits count told raw ((0 : Int)) r3) fun r5 =>
   (obind (Rc.compare8.F N r5 r4) fun r6 =>
   (br (decide (r6 < (0 : Int)))
   (obind (Rc.increase.F N rawBits r5) fun r7 =>
   (chkI val val
   (chkI rng rng
   (chkI rawBits rawBits
   (chkI count count
   (chkL told told
   (chkL raw raw
   (some (((0 : Int), r7))))))))))
   (chkI val val
   (chkI rng rng
   (chkI rawBits rawBits
   (chkI count count
   (chkL told told
   (chkL raw raw
   (some (((0 : Int), r5))))))))))))))
   (obind (Rc.clone8.F2 N (List.take (List.replicate n.toNat (0 : Int)).length (r1 ++ [IntKind.u8.wrap (val.fdiv ((2 : Int) ^ min (Int.toNat (23 : Int)) IntKind.u64.bits)), IntKind.u8.wrap (val.fdiv ((2 : Int) ^ min (Int.toNat (15 : Int)) IntKind.u64.bits)), IntKind.u8.wrap (val.fdiv ((2 : Int) ^ min (Int.toNat (7 : Int)) IntKind.u64.bits)), IntKind.u8.wrap (IntKind.u64.wrap (val * (2 : Int) ^ min (Int.toNat (1 : Int)) IntKind.u64.bits))]) ++ List.drop (min (r1 ++ [IntKind.u8.wrap (val.fdiv ((2 : Int) ^ min (Int.toNat (23 : Int)) IntKind.u64.bits)), IntKind.u8.wrap (val.fdiv ((2 : Int) ^ min (Int.toNat (15 : Int)) IntKind.u64.bits)), IntKind.u8.wrap (val.fdiv ((2 : Int) ^ min (Int.toNat (7 : Int)) IntKind.u64.bits)), IntKind.u8.wrap (IntKind.u64.wrap (val * (2 : Int) ^ min (Int.toNat (1 : Int)) IntKind.u64.bits))]).length (List.replicate n.toNat (0 : Int)).length) (List.replicate n.toNat (0 : Int)))) fun r8 =>
   (obind (edone.loop12R N N n rawBits val rng rawBits count told raw ((0 : Int)) (List.take (List.replicate n.toNat (0 : Int)).length (r1 ++ [IntKind.u8.wrap (val.fdiv ((2 : Int) ^ min (Int.toNat (23 : Int)) IntKind.u64.bits)), IntKind.u8.wrap (val.fdiv ((2 : Int) ^ min (Int.toNat (15 : Int)) IntKind.u64.bits)), IntKind.u8.wrap (val.fdiv ((2 : Int) ^ min (Int.toNat (7 : Int)) IntKind.u64.bits)), IntKind.u8.wrap (IntKind.u64.wrap (val * (2 : Int) ^ min (Int.toNat (1 : Int)) IntKind.u64.bits))]) ++ List.drop (min (r1 ++ [IntKind.u8.wrap (val.fdiv ((2 : Int) ^ min (Int.toNat (23 : Int)) IntKind.u64.bits)), IntKind.u8.wrap (val.fdiv ((2 : Int) ^ min (Int.toNat (15 : Int)) IntKind.u64.bits)), IntKind.u8.wrap (val.fdiv ((2 : Int) ^ min (Int.toNat (7 : Int)) IntKind.u64.bits)), IntKind.u8.wrap (IntKind.u64.wrap (val * (2 : Int) ^ min (Int.toNat (1 : Int)) IntKind.u64.bits))]).length (List.replicate n.toNat (0 : Int)).length) (List.replicate n.toNat (0 : Int)))) fun r9 =>
   (obind (Rc.compare8.F N r9 r8) fun r10 =>
   (br (decide (r10 < (0 : Int)))
   (obind (Rc.increase.F N rawBits r9) fun r11 =>
   (chkI val val
   (chkI rng rng
   (chkI rawBits rawBits
   (chkI count count
   (chkL told told
   (chkL raw raw
   (some (((0 : Int), r11))))))))))
   (chkI val val
   (chkI rng rng
   (chkI rawBits rawBits
   (chkI count count
   (chkL told told
   (chkL raw raw
   (some (((0 : Int), r9))))))))))))))))
   (obind (Rc.clone8.F2 N (List.take (List.replicate n.toNat (0 : Int)).length (r1 ++ [IntKind.u8.wrap (val.fdiv ((2 : Int) ^ min (Int.toNat (23 : Int)) IntKind.u64.bits)), IntKind.u8.wrap (val.fdiv ((2 : Int) ^ min (Int.toNat (15 : Int)) IntKind.u64.bits)), IntKind.u8.wrap (val.fdiv ((2 : Int) ^ min (Int.toNat (7 : Int)) IntKind.u64.bits)), IntKind.u8.wrap (IntKind.u64.wrap (val * (2 : Int) ^ min (Int.toNat (1 : Int)) IntKind.u64.bits))]) ++ List.drop (min (r1 ++ [IntKind.u8.wrap (val.fdiv ((2 : Int) ^ min (Int.toNat (23 : Int)) IntKind.u64.bits)), IntKind.u8.wrap (val.fdiv ((2 : Int) ^ min (Int.toNat (15 : Int)) IntKind.u64.bits)), IntKind.u8.wrap (val.fdiv ((2 : Int) ^ min (Int.toNat (7 : Int)) IntKind.u64.bits)), IntKind.u8.wrap (IntKind.u64.wrap (val * (2 : Int) ^ min (Int.toNat (1 : Int)) IntKind.u64.bits))]).length (List.replicate n.toNat (0 : Int)).length) (List.replicate n.toNat (0 : Int)))) fun r12 =>
   (obind (edone.loop12R N N n rawBits val rng rawBits count told raw ((0 : Int)) (List.take (List.replicate n.toNat (0 : Int)).length (r1 ++ [IntKind.u8.wrap (val.fdiv ((2 : Int) ^ min (Int.toNat (23 : Int)) IntKind.u64.bits)), IntKind.u8.wrap (val.fdiv ((2 : Int) ^ min (Int.toNat (15 : Int)) IntKind.u64.bits)), IntKind.u8.wrap (val.fdiv ((2 : Int) ^ min (Int.toNat (7 : Int)) IntKind.u64.bits)), IntKind.u8.wrap (IntKind.u64.wrap (val * (2 : Int) ^ min (Int.toNat (1 : Int)) IntKind.u64.bits))]) ++ List.drop (min (r1 ++ [IntKind.u8.wrap (val.fdiv ((2 : Int) ^ min (Int.toNat (23 : Int)) IntKind.u64.bits)), IntKind.u8.wrap (val.fdiv ((2 : Int) ^ min (Int.toNat (15 : Int)) IntKind.u64.bits)), IntKind.u8.wrap (val.fdiv ((2 : Int) ^ min (Int.toNat (7 : Int)) IntKind.u64.bits)), IntKind.u8.wrap (IntKind.u64.wrap (val * (2 : Int) ^ min (Int.toNat (1 : Int)) IntKind.u64.bits))]).length (List.replicate n.toNat (0 : Int)).length) (List.replicate n.toNat (0 : Int)))) fun r13 =>
   (obind (Rc.compare8.F N r13 r12) fun r14 =>
   (br (decide (r14 < (0 : Int)))
   (obind (Rc.increase.F N rawBits r13) fun r15 =>
   (chkI val val
   (chkI rng rng
   (chkI rawBits rawBits
   (chkI count count
   (chkL told told
   (chkL raw raw
   (some (((0 : Int), r15))))))))))
   (chkI val val
   (chkI rng rng
   (chkI rawBits rawBits
   (chkI count count
   (chkL told told
   (chkL raw raw
   (some (((0 : Int), r13))))))))))))))))))))))))) := by
    intro n val rng rawBits count told raw
    kernel_rfl
  have h2 : evSig (edone.C N) (edone.K N) 0 Try.f24 edone.sig L edone.dec = evSig (edone.C N) (edone.K N) 0 Try.f24 edone.sig (mkL [L.i 0, L.i 1, L.i 2, L.i 3, L.i 4] [] [L.l 0, L.l 1] []) edone.dec := by kernel_rfl
  rw [h2, h, edone.F]
  try simp only [edone.loop12_eq N]
noncomputable def edone.spec : Eng.Spec := edone.sig.spec (fun N L => edone.F N (L.i 0) (L.i 1) (L.i 2) (L.i 3) (L.i 4) (L.l 0) (L.l 1)) edone.enc
theorem edone.cok (N : Nat) : CfgOK (edone.C N) := ⟨fun _ _ _ _ h => by simp [edone.C, noRT] at h, wide, by
  simp only [edone.C, List.mem_cons, List.not_mem_nil, or_false, forall_eq_or_imp, forall_eq, false_imp_iff, implies_true]
  exact ⟨⟨etell.ok, by kernel_rfl⟩, ⟨clone8.ok, by kernel_rfl⟩, ⟨contains8.ok, by kernel_rfl⟩, ⟨increase.ok, by kernel_rfl⟩, ⟨compare8.ok, by kernel_rfl⟩⟩, fun g hg => by simp [edone.C] at hg, fun m hm => by simp [edone.C] at hm, fun q hq => by simp [edone.C] at hq⟩
theorem edone.aok (N : Nat) : AnnsOK (edone.K N) := by
  intro q hq
  simp only [edone.K, List.mem_cons, List.not_mem_nil, or_false] at hq
  subst hq
  exact fun _ _ => ⟨rfl, rfl⟩
theorem edone.ok : CallOK Try.prog 24 edone.spec :=
  callOK_of_sig (fn := Try.f24) (Cf := edone.C) (K := edone.K) (d := 0) (dec := edone.dec) (by kernel_rfl) (fun _ => rfl) edone.cok (fun _ q hq => by simp [edone.C] at hq) edone.aok
   (fun N L r h => (edone.F_eq N L).trans h) (by kernel_rfl) (fun _ => ⟨rfl, rfl⟩) (fun _ _ => ⟨rfl, rfl⟩)
end Go.Proofs.Rc
