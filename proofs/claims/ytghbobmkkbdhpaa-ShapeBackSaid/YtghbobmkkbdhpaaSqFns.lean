/-
  Functions of the program: what each comes to, and its contract (written by a program).
  Conditions: none: each contract is proved for every input of its shape.
-/
import Derived.Test.YtghbobmkkbdhpaaEngMkToEngWords
import Derived.Laws.Externs
import Derived.Test.YtghbobmkkbdhpaaProg
import Derived.Test.YtghbobmkkbdhpaaRencFns
set_option linter.unusedVariables false
set_option linter.unusedSimpArgs false
namespace Go.Proofs.Rc
open Go.Eng
set_option maxRecDepth 100000
noncomputable def clamp.sig : Eng.Sig := { args := [.at (.int .i64 0), .at (.int .i64 1), .at (.int .i64 2)], n := 0, pre := [], post := [], m := 0, ret := .at (.int .i64 0) }
noncomputable def clamp.C (N : Nat) : Cfg := { P := Try.prog, N := N, RT := noRT, specs := [], inl := [], hi := 0, mv := [] }
abbrev clamp.R : Type := Int
def clamp.dec (L : Eng.Leaves) : clamp.R := (L.i 0)
def clamp.enc (r : clamp.R) : Eng.Leaves := mkL [r] [] [] []
noncomputable def clamp.K (N : Nat) : FCfg := { anns := [], unr := [], lits := [], lets := [] }
noncomputable def clamp.F (N : Nat) (a : Int) (lo : Int) (hi : Int) : Option clamp.R :=
  (br (decide (lo > hi))
   (some lo)
   (br (decide (a < lo))
   (some lo)
   (br (decide (a > hi))
   (some hi)
   (some a))))
theorem clamp.F_eq (N : Nat) (L : Eng.Leaves) : evSig (clamp.C N) (clamp.K N) 0 Try.f43 clamp.sig L clamp.dec = clamp.F N (L.i 0) (L.i 1) (L.i 2) := by
  kernel_rfl
noncomputable def clamp.spec : Eng.Spec := clamp.sig.spec (fun N L => clamp.F N (L.i 0) (L.i 1) (L.i 2)) clamp.enc
theorem clamp.cok (N : Nat) : CfgOK (clamp.C N) := ⟨fun _ _ _ _ h => by simp [clamp.C, noRT] at h, wide, by
  simp only [clamp.C, List.mem_cons, List.not_mem_nil, or_false, forall_eq_or_imp, forall_eq, false_imp_iff, implies_true], fun g hg => by simp [clamp.C] at hg, fun m hm => by simp [clamp.C] at hm, fun q hq => by simp [clamp.C] at hq⟩
theorem clamp.aok (N : Nat) : AnnsOK (clamp.K N) := by
  intro q hq
  simp only [clamp.K, List.mem_cons, List.not_mem_nil, or_false] at hq
theorem clamp.ok : CallOK Try.prog 43 clamp.spec :=
  callOK_of_sig (fn := Try.f43) (Cf := clamp.C) (K := clamp.K) (d := 0) (dec := clamp.dec) (by kernel_rfl) (fun _ => rfl) clamp.cok (fun _ q hq => by simp [clamp.C] at hq) clamp.aok
   (fun N L r h => (clamp.F_eq N L).trans h) (by kernel_rfl) (fun _ => ⟨rfl, rfl⟩) (fun _ _ => ⟨rfl, rfl⟩)
noncomputable def pmay.sig : Eng.Sig := { args := [.at (.int .i64 0)], n := 0, pre := [], post := [], m := 0, ret := .at (.bool 0) }
noncomputable def pmay.C (N : Nat) : Cfg := { P := Try.prog, N := N, RT := noRT, specs := [], inl := [], hi := 0, mv := [] }
abbrev pmay.R : Type := Bool
def pmay.dec (L : Eng.Leaves) : pmay.R := (L.b 0)
def pmay.enc (r : pmay.R) : Eng.Leaves := mkL [] [r] [] []
noncomputable def pmay.K (N : Nat) : FCfg := { anns := [], unr := [], lits := [], lets := [] }
noncomputable def pmay.F (N : Nat) (n : Int) : Option pmay.R :=
  (br (decide (n ≥ (1 : Int)))
   (some (decide (n ≤ (16 : Int))))
   (some false))
theorem pmay.F_eq (N : Nat) (L : Eng.Leaves) : evSig (pmay.C N) (pmay.K N) 0 Try.f67 pmay.sig L pmay.dec = pmay.F N (L.i 0) := by
  kernel_rfl
noncomputable def pmay.spec : Eng.Spec := pmay.sig.spec (fun N L => pmay.F N (L.i 0)) pmay.enc
theorem pmay.cok (N : Nat) : CfgOK (pmay.C N) := ⟨fun _ _ _ _ h => by simp [pmay.C, noRT] at h, wide, by
  simp only [pmay.C, List.mem_cons, List.not_mem_nil, or_false, forall_eq_or_imp, forall_eq, false_imp_iff, implies_true], fun g hg => by simp [pmay.C] at hg, fun m hm => by simp [pmay.C] at hm, fun q hq => by simp [pmay.C] at hq⟩
theorem pmay.aok (N : Nat) : AnnsOK (pmay.K N) := by
  intro q hq
  simp only [pmay.K, List.mem_cons, List.not_mem_nil, or_false] at hq
theorem pmay.ok : CallOK Try.prog 67 pmay.spec :=
  callOK_of_sig (fn := Try.f67) (Cf := pmay.C) (K := pmay.K) (d := 0) (dec := pmay.dec) (by kernel_rfl) (fun _ => rfl) pmay.cok (fun _ q hq => by simp [pmay.C] at hq) pmay.aok
   (fun N L r h => (pmay.F_eq N L).trans h) (by kernel_rfl) (fun _ => ⟨rfl, rfl⟩) (fun _ _ => ⟨rfl, rfl⟩)
noncomputable def psize.sig : Eng.Sig := { args := [.at (.int .i64 0)], n := 0, pre := [], post := [], m := 0, ret := .at (.int .i64 0) }
noncomputable def psize.C (N : Nat) : Cfg := { P := Try.prog, N := N, RT := noRT, specs := [(43, clamp.spec)], inl := [], hi := 0, mv := [] }
abbrev psize.R : Type := Int
def psize.dec (L : Eng.Leaves) : psize.R := (L.i 0)
def psize.enc (r : psize.R) : Eng.Leaves := mkL [r] [] [] []
noncomputable def psize.K (N : Nat) : FCfg := { anns := [], unr := [], lits := [], lets := [] }
noncomputable def psize.F (N : Nat) (v : Int) : Option psize.R :=
  (obind (Rc.clamp.F N v ((-65 : Int)) ((65 : Int))) fun r0 =>
   (obind (Rc.clamp.F N v ((-65 : Int)) ((65 : Int))) fun r1 =>
   (some (if IntKind.i64.wrap ((0 : Int) - r1) > r0 then IntKind.i64.wrap ((0 : Int) - r1) else r0))))
theorem psize.F_eq (N : Nat) (L : Eng.Leaves) : evSig (psize.C N) (psize.K N) 0 Try.f91 psize.sig L psize.dec = psize.F N (L.i 0) := by
  kernel_rfl
noncomputable def psize.spec : Eng.Spec := psize.sig.spec (fun N L => psize.F N (L.i 0)) psize.enc
theorem psize.cok (N : Nat) : CfgOK (psize.C N) := ⟨fun _ _ _ _ h => by simp [psize.C, noRT] at h, wide, by
  simp only [psize.C, List.mem_cons, List.not_mem_nil, or_false, forall_eq_or_imp, forall_eq, false_imp_iff, implies_true]
  exact ⟨clamp.ok, by kernel_rfl⟩, fun g hg => by simp [psize.C] at hg, fun m hm => by simp [psize.C] at hm, fun q hq => by simp [psize.C] at hq⟩
theorem psize.aok (N : Nat) : AnnsOK (psize.K N) := by
  intro q hq
  simp only [psize.K, List.mem_cons, List.not_mem_nil, or_false] at hq
theorem psize.ok : CallOK Try.prog 91 psize.spec :=
  callOK_of_sig (fn := Try.f91) (Cf := psize.C) (K := psize.K) (d := 0) (dec := psize.dec) (by kernel_rfl) (fun _ => rfl) psize.cok (fun _ q hq => by simp [psize.C] at hq) psize.aok
   (fun N L r h => (psize.F_eq N L).trans h) (by kernel_rfl) (fun _ => ⟨rfl, rfl⟩) (fun _ _ => ⟨rfl, rfl⟩)
noncomputable def table.sig : Eng.Sig := { args := [.at (.int .i64 0), .at (.int .i64 1)], n := 0, pre := [], post := [(0, .recs false ⟨[], some .i64⟩ 0)], m := 1, ret := .at (.full 0 false) }
noncomputable def table.C (N : Nat) : Cfg := { P := Try.prog, N := N, RT := noRT, specs := [], inl := [], hi := 0, mv := [] }
abbrev table.R : Type := List (List Int)
def table.dec (L : Eng.Leaves) : table.R := (L.r 0)
def table.enc (r : table.R) : Eng.Leaves := mkL [] [] [] [r]
abbrev table.loop3.R : Type := List (List Int)
noncomputable def table.loop3.ann : Ann := { nx := 20, slots := [(1, .at (.fint .i64 0)), (5, .at (.full 0 true)), (12, .at (.fint .i64 1)), (13, .at (.int .i64 0))], blks := [(0, .recs false ⟨[], some .i64⟩ 0)], mov := [], exId := 0, xslots := [(5, .at (.full 0 true))], xblks := [(0, .recs false ⟨[], some .i64⟩ 0)], T := table.loop3.R, dec := fun L => (L.r 0), enc := fun r => mkL [] [] [] [r], ret := false }
abbrev table.loop8.R : Type := List Int
noncomputable def table.loop8.ann : Ann := { nx := 21, slots := [(1, .at (.fint .i64 0)), (5, .at (.full 0 true)), (6, .at (.fint .i64 1)), (7, .at (.int .i64 0))], blks := [(0, .fhole .i64 0 2 20), (20, .ints true .i64 0)], mov := [], exId := 2, xslots := [(5, .at (.full 0 true))], xblks := [(0, .fhole .i64 0 2 20), (20, .ints true .i64 0)], T := table.loop8.R, dec := fun L => (L.l 0), enc := fun r => mkL [] [] [r] [], ret := false }
noncomputable def table.K (N : Nat) : FCfg := { anns := [(3, table.loop3.ann), (8, table.loop8.ann)], unr := [], lits := [], lets := [] }
noncomputable def table.loop8 (N : Nat) : Nat → Int → Int → Int → List (List Int) → Int → List Int → Option table.loop8.R
  | 0, _, _, _, _, _, _ => none
  | nn + 1, k, s6, h0, l0, s7, l20 =>
  (br (decide (s7 ≤ k))
   (br (decide (s6 > (0 : Int)))
   (chk ((0 : Int) ≤ s6 ∧ s6 < ↑l0.length)
   (br (decide (s6.toNat = h0.toNat))
   (chk ((0 : Int) ≤ IntKind.i64.wrap (s6 - (1 : Int)) ∧ IntKind.i64.wrap (s6 - (1 : Int)) < ↑l0.length)
   (br (decide ((IntKind.i64.wrap (s6 - (1 : Int))).toNat = h0.toNat))
   (chk ((0 : Int) ≤ s7 ∧ s7 < ↑l20.length)
   (chk ((0 : Int) ≤ s6 ∧ s6 < ↑l0.length)
   (br (decide (s6.toNat = h0.toNat))
   (chk ((0 : Int) ≤ IntKind.i64.wrap (s7 - (1 : Int)) ∧ IntKind.i64.wrap (s7 - (1 : Int)) < ↑l20.length)
   (chk ((0 : Int) ≤ IntKind.i64.wrap (s6 - (1 : Int)) ∧ IntKind.i64.wrap (s6 - (1 : Int)) < ↑l0.length)
   (br (decide ((IntKind.i64.wrap (s6 - (1 : Int))).toNat = h0.toNat))
   (chk ((0 : Int) ≤ IntKind.i64.wrap (s7 - (1 : Int)) ∧ IntKind.i64.wrap (s7 - (1 : Int)) < ↑l20.length)
   (chk ((0 : Int) ≤ s7 ∧ s7 < ↑l20.length)
   (chkI k k
   (chkI s6 s6
   (chkR l0 l0
   (chkN h0.toNat h0.toNat
   (table.loop8 N nn k s6 h0 l0 (IntKind.i64.wrap (s7 + (1 : Int))) (l20.set s7.toNat (if (4294967296 : Int) < IntKind.i64.wrap (IntKind.i64.wrap (l20.getD s7.toNat (0 : Int) + l20.getD (IntKind.i64.wrap (s7 - (1 : Int))).toNat (0 : Int)) + l20.getD (IntKind.i64.wrap (s7 - (1 : Int))).toNat (0 : Int)) then (4294967296 : Int) else IntKind.i64.wrap (IntKind.i64.wrap (l20.getD s7.toNat (0 : Int) + l20.getD (IntKind.i64.wrap (s7 - (1 : Int))).toNat (0 : Int)) + l20.getD (IntKind.i64.wrap (s7 - (1 : Int))).toNat (0 : Int)))))))))))
   (chk ((0 : Int) ≤ IntKind.i64.wrap (s7 - (1 : Int)) ∧ IntKind.i64.wrap (s7 - (1 : Int)) < ↑(l0.getD (IntKind.i64.wrap (s6 - (1 : Int))).toNat ([] : List Int)).length)
   (chk ((0 : Int) ≤ s7 ∧ s7 < ↑l20.length)
   (chkI k k
   (chkI s6 s6
   (chkR l0 l0
   (chkN h0.toNat h0.toNat
   (table.loop8 N nn k s6 h0 l0 (IntKind.i64.wrap (s7 + (1 : Int))) (l20.set s7.toNat (if (4294967296 : Int) < IntKind.i64.wrap (IntKind.i64.wrap (l20.getD s7.toNat (0 : Int) + l20.getD (IntKind.i64.wrap (s7 - (1 : Int))).toNat (0 : Int)) + (l0.getD (IntKind.i64.wrap (s6 - (1 : Int))).toNat ([] : List Int)).getD (IntKind.i64.wrap (s7 - (1 : Int))).toNat (0 : Int)) then (4294967296 : Int) else IntKind.i64.wrap (IntKind.i64.wrap (l20.getD s7.toNat (0 : Int) + l20.getD (IntKind.i64.wrap (s7 - (1 : Int))).toNat (0 : Int)) + (l0.getD (IntKind.i64.wrap (s6 - (1 : Int))).toNat ([] : List Int)).getD (IntKind.i64.wrap (s7 - (1 : Int))).toNat (0 : Int))))))))))))))
   (chk ((0 : Int) ≤ IntKind.i64.wrap (s7 - (1 : Int)) ∧ IntKind.i64.wrap (s7 - (1 : Int)) < ↑(l0.getD s6.toNat ([] : List Int)).length)
   (chk ((0 : Int) ≤ IntKind.i64.wrap (s6 - (1 : Int)) ∧ IntKind.i64.wrap (s6 - (1 : Int)) < ↑l0.length)
   (br (decide ((IntKind.i64.wrap (s6 - (1 : Int))).toNat = h0.toNat))
   (chk ((0 : Int) ≤ IntKind.i64.wrap (s7 - (1 : Int)) ∧ IntKind.i64.wrap (s7 - (1 : Int)) < ↑l20.length)
   (chk ((0 : Int) ≤ s7 ∧ s7 < ↑l20.length)
   (chkI k k
   (chkI s6 s6
   (chkR l0 l0
   (chkN h0.toNat h0.toNat
   (table.loop8 N nn k s6 h0 l0 (IntKind.i64.wrap (s7 + (1 : Int))) (l20.set s7.toNat (if (4294967296 : Int) < IntKind.i64.wrap (IntKind.i64.wrap (l20.getD s7.toNat (0 : Int) + (l0.getD s6.toNat ([] : List Int)).getD (IntKind.i64.wrap (s7 - (1 : Int))).toNat (0 : Int)) + l20.getD (IntKind.i64.wrap (s7 - (1 : Int))).toNat (0 : Int)) then (4294967296 : Int) else IntKind.i64.wrap (IntKind.i64.wrap (l20.getD s7.toNat (0 : Int) + (l0.getD s6.toNat ([] : List Int)).getD (IntKind.i64.wrap (s7 - (1 : Int))).toNat (0 : Int)) + l20.getD (IntKind.i64.wrap (s7 - (1 : Int))).toNat (0 : Int)))))))))))
   (chk ((0 : Int) ≤ IntKind.i64.wrap (s7 - (1 : Int)) ∧ IntKind.i64.wrap (s7 - (1 : Int)) < ↑(l0.getD (IntKind.i64.wrap (s6 - (1 : Int))).toNat ([] : List Int)).length)
   (chk ((0 : Int) ≤ s7 ∧ s7 < ↑l20.length)
   (chkI k k
   (chkI s6 s6
   (chkR l0 l0
   (chkN h0.toNat h0.toNat
   (table.loop8 N nn k s6 h0 l0 (IntKind.i64.wrap (s7 + (1 : Int))) (l20.set s7.toNat (if (4294967296 : Int) < IntKind.i64.wrap (IntKind.i64.wrap (l20.getD s7.toNat (0 : Int) + (l0.getD s6.toNat ([] : List Int)).getD (IntKind.i64.wrap (s7 - (1 : Int))).toNat (0 : Int)) + (l0.getD (IntKind.i64.wrap (s6 - (1 : Int))).toNat ([] : List Int)).getD (IntKind.i64.wrap (s7 - (1 : Int))).toNat (0 : Int)) then (4294967296 : Int) else IntKind.i64.wrap (IntKind.i64.wrap (l20.getD s7.toNat (0 : Int) + (l0.getD s6.toNat ([] : List Int)).getD (IntKind.i64.wrap (s7 - (1 : Int))).toNat (0 : Int)) + (l0.getD (IntKind.i64.wrap (s6 - (1 : Int))).toNat ([] : List Int)).getD (IntKind.i64.wrap (s7 - (1 : Int))).toNat (0 : Int)))))))))))))))))
   (chk ((0 : Int) ≤ s7 ∧ s7 < ↑(l0.getD (IntKind.i64.wrap (s6 - (1 : Int))).toNat ([] : List Int)).length)
   (chk ((0 : Int) ≤ s6 ∧ s6 < ↑l0.length)
   (br (decide (s6.toNat = h0.toNat))
   (chk ((0 : Int) ≤ IntKind.i64.wrap (s7 - (1 : Int)) ∧ IntKind.i64.wrap (s7 - (1 : Int)) < ↑l20.length)
   (chk ((0 : Int) ≤ IntKind.i64.wrap (s6 - (1 : Int)) ∧ IntKind.i64.wrap (s6 - (1 : Int)) < ↑l0.length)
   (br (decide ((IntKind.i64.wrap (s6 - (1 : Int))).toNat = h0.toNat))
   (chk ((0 : Int) ≤ IntKind.i64.wrap (s7 - (1 : Int)) ∧ IntKind.i64.wrap (s7 - (1 : Int)) < ↑l20.length)
   (chk ((0 : Int) ≤ s7 ∧ s7 < ↑l20.length)
   (chkI k k
   (chkI s6 s6
   (chkR l0 l0
   (chkN h0.toNat h0.toNat
   (table.loop8 N nn k s6 h0 l0 (IntKind.i64.wrap (s7 + (1 : Int))) (l20.set s7.toNat (if (4294967296 : Int) < IntKind.i64.wrap (IntKind.i64.wrap ((l0.getD (IntKind.i64.wrap (s6 - (1 : Int))).toNat ([] : List Int)).getD s7.toNat (0 : Int) + l20.getD (IntKind.i64.wrap (s7 - (1 : Int))).toNat (0 : Int)) + l20.getD (IntKind.i64.wrap (s7 - (1 : Int))).toNat (0 : Int)) then (4294967296 : Int) else IntKind.i64.wrap (IntKind.i64.wrap ((l0.getD (IntKind.i64.wrap (s6 - (1 : Int))).toNat ([] : List Int)).getD s7.toNat (0 : Int) + l20.getD (IntKind.i64.wrap (s7 - (1 : Int))).toNat (0 : Int)) + l20.getD (IntKind.i64.wrap (s7 - (1 : Int))).toNat (0 : Int)))))))))))
   (chk ((0 : Int) ≤ IntKind.i64.wrap (s7 - (1 : Int)) ∧ IntKind.i64.wrap (s7 - (1 : Int)) < ↑(l0.getD (IntKind.i64.wrap (s6 - (1 : Int))).toNat ([] : List Int)).length)
   (chk ((0 : Int) ≤ s7 ∧ s7 < ↑l20.length)
   (chkI k k
   (chkI s6 s6
   (chkR l0 l0
   (chkN h0.toNat h0.toNat
   (table.loop8 N nn k s6 h0 l0 (IntKind.i64.wrap (s7 + (1 : Int))) (l20.set s7.toNat (if (4294967296 : Int) < IntKind.i64.wrap (IntKind.i64.wrap ((l0.getD (IntKind.i64.wrap (s6 - (1 : Int))).toNat ([] : List Int)).getD s7.toNat (0 : Int) + l20.getD (IntKind.i64.wrap (s7 - (1 : Int))).toNat (0 : Int)) + (l0.getD (IntKind.i64.wrap (s6 - (1 : Int))).toNat ([] : List Int)).getD (IntKind.i64.wrap (s7 - (1 : Int))).toNat (0 : Int)) then (4294967296 : Int) else IntKind.i64.wrap (IntKind.i64.wrap ((l0.getD (IntKind.i64.wrap (s6 - (1 : Int))).toNat ([] : List Int)).getD s7.toNat (0 : Int) + l20.getD (IntKind.i64.wrap (s7 - (1 : Int))).toNat (0 : Int)) + (l0.getD (IntKind.i64.wrap (s6 - (1 : Int))).toNat ([] : List Int)).getD (IntKind.i64.wrap (s7 - (1 : Int))).toNat (0 : Int))))))))))))))
   (chk ((0 : Int) ≤ IntKind.i64.wrap (s7 - (1 : Int)) ∧ IntKind.i64.wrap (s7 - (1 : Int)) < ↑(l0.getD s6.toNat ([] : List Int)).length)
   (chk ((0 : Int) ≤ IntKind.i64.wrap (s6 - (1 : Int)) ∧ IntKind.i64.wrap (s6 - (1 : Int)) < ↑l0.length)
   (br (decide ((IntKind.i64.wrap (s6 - (1 : Int))).toNat = h0.toNat))
   (chk ((0 : Int) ≤ IntKind.i64.wrap (s7 - (1 : Int)) ∧ IntKind.i64.wrap (s7 - (1 : Int)) < ↑l20.length)
   (chk ((0 : Int) ≤ s7 ∧ s7 < ↑l20.length)
   (chkI k k
   (chkI s6 s6
   (chkR l0 l0
   (chkN h0.toNat h0.toNat
   (table.loop8 N nn k s6 h0 l0 (IntKind.i64.wrap (s7 + (1 : Int))) (l20.set s7.toNat (if (4294967296 : Int) < IntKind.i64.wrap (IntKind.i64.wrap ((l0.getD (IntKind.i64.wrap (s6 - (1 : Int))).toNat ([] : List Int)).getD s7.toNat (0 : Int) + (l0.getD s6.toNat ([] : List Int)).getD (IntKind.i64.wrap (s7 - (1 : Int))).toNat (0 : Int)) + l20.getD (IntKind.i64.wrap (s7 - (1 : Int))).toNat (0 : Int)) then (4294967296 : Int) else IntKind.i64.wrap (IntKind.i64.wrap ((l0.getD (IntKind.i64.wrap (s6 - (1 : Int))).toNat ([] : List Int)).getD s7.toNat (0 : Int) + (l0.getD s6.toNat ([] : List Int)).getD (IntKind.i64.wrap (s7 - (1 : Int))).toNat (0 : Int)) + l20.getD (IntKind.i64.wrap (s7 - (1 : Int))).toNat (0 : Int)))))))))))
   (chk ((0 : Int) ≤ IntKind.i64.wrap (s7 - (1 : Int)) ∧ IntKind.i64.wrap (s7 - (1 : Int)) < ↑(l0.getD (IntKind.i64.wrap (s6 - (1 : Int))).toNat ([] : List Int)).length)
   (chk ((0 : Int) ≤ s7 ∧ s7 < ↑l20.length)
   (chkI k k
   (chkI s6 s6
   (chkR l0 l0
   (chkN h0.toNat h0.toNat
   (table.loop8 N nn k s6 h0 l0 (IntKind.i64.wrap (s7 + (1 : Int))) (l20.set s7.toNat (if (4294967296 : Int) < IntKind.i64.wrap (IntKind.i64.wrap ((l0.getD (IntKind.i64.wrap (s6 - (1 : Int))).toNat ([] : List Int)).getD s7.toNat (0 : Int) + (l0.getD s6.toNat ([] : List Int)).getD (IntKind.i64.wrap (s7 - (1 : Int))).toNat (0 : Int)) + (l0.getD (IntKind.i64.wrap (s6 - (1 : Int))).toNat ([] : List Int)).getD (IntKind.i64.wrap (s7 - (1 : Int))).toNat (0 : Int)) then (4294967296 : Int) else IntKind.i64.wrap (IntKind.i64.wrap ((l0.getD (IntKind.i64.wrap (s6 - (1 : Int))).toNat ([] : List Int)).getD s7.toNat (0 : Int) + (l0.getD s6.toNat ([] : List Int)).getD (IntKind.i64.wrap (s7 - (1 : Int))).toNat (0 : Int)) + (l0.getD (IntKind.i64.wrap (s6 - (1 : Int))).toNat ([] : List Int)).getD (IntKind.i64.wrap (s7 - (1 : Int))).toNat (0 : Int)))))))))))))))))))
   (chk ((0 : Int) ≤ IntKind.i64.wrap (s6 - (1 : Int)) ∧ IntKind.i64.wrap (s6 - (1 : Int)) < ↑l0.length)
   (br (decide ((IntKind.i64.wrap (s6 - (1 : Int))).toNat = h0.toNat))
   (chk ((0 : Int) ≤ s7 ∧ s7 < ↑l20.length)
   (chk ((0 : Int) ≤ s6 ∧ s6 < ↑l0.length)
   (br (decide (s6.toNat = h0.toNat))
   (chk ((0 : Int) ≤ IntKind.i64.wrap (s7 - (1 : Int)) ∧ IntKind.i64.wrap (s7 - (1 : Int)) < ↑l20.length)
   (chk ((0 : Int) ≤ IntKind.i64.wrap (s6 - (1 : Int)) ∧ IntKind.i64.wrap (s6 - (1 : Int)) < ↑l0.length)
   (br (decide ((IntKind.i64.wrap (s6 - (1 : Int))).toNat = h0.toNat))
   (chk ((0 : Int) ≤ IntKind.i64.wrap (s7 - (1 : Int)) ∧ IntKind.i64.wrap (s7 - (1 : Int)) < ↑l20.length)
   (chk ((0 : Int) ≤ s7 ∧ s7 < ↑(l0.getD s6.toNat ([] : List Int)).length)
                none /- WHY OfNat.ofNat.{0} Nat 1038 (instOfNatNat 1038) -/))
   (chk ((0 : Int) ≤ IntKind.i64.wrap (s7 - (1 : Int)) ∧ IntKind.i64.wrap (s7 - (1 : Int)) < ↑(l0.getD (IntKind.i64.wrap (s6 - (1 : Int))).toNat ([] : List Int)).length)
   (chk ((0 : Int) ≤ s7 ∧ s7 < ↑(l0.getD s6.toNat ([] : List Int)).length)
                none /- WHY OfNat.ofNat.{0} Nat 1038 (instOfNatNat 1038) -/)))))
   (chk ((0 : Int) ≤ IntKind.i64.wrap (s7 - (1 : Int)) ∧ IntKind.i64.wrap (s7 - (1 : Int)) < ↑(l0.getD s6.toNat ([] : List Int)).length)
   (chk ((0 : Int) ≤ IntKind.i64.wrap (s6 - (1 : Int)) ∧ IntKind.i64.wrap (s6 - (1 : Int)) < ↑l0.length)
   (br (decide ((IntKind.i64.wrap (s6 - (1 : Int))).toNat = h0.toNat))
   (chk ((0 : Int) ≤ IntKind.i64.wrap (s7 - (1 : Int)) ∧ IntKind.i64.wrap (s7 - (1 : Int)) < ↑l20.length)
   (chk ((0 : Int) ≤ s7 ∧ s7 < ↑(l0.getD s6.toNat ([] : List Int)).length)
                none /- WHY OfNat.ofNat.{0} Nat 1038 (instOfNatNat 1038) -/))
   (chk ((0 : Int) ≤ IntKind.i64.wrap (s7 - (1 : Int)) ∧ IntKind.i64.wrap (s7 - (1 : Int)) < ↑(l0.getD (IntKind.i64.wrap (s6 - (1 : Int))).toNat ([] : List Int)).length)
   (chk ((0 : Int) ≤ s7 ∧ s7 < ↑(l0.getD s6.toNat ([] : List Int)).length)
                none /- WHY OfNat.ofNat.{0} Nat 1038 (instOfNatNat 1038) -/))))))))
   (chk ((0 : Int) ≤ s7 ∧ s7 < ↑(l0.getD (IntKind.i64.wrap (s6 - (1 : Int))).toNat ([] : List Int)).length)
   (chk ((0 : Int) ≤ s6 ∧ s6 < ↑l0.length)
   (br (decide (s6.toNat = h0.toNat))
   (chk ((0 : Int) ≤ IntKind.i64.wrap (s7 - (1 : Int)) ∧ IntKind.i64.wrap (s7 - (1 : Int)) < ↑l20.length)
   (chk ((0 : Int) ≤ IntKind.i64.wrap (s6 - (1 : Int)) ∧ IntKind.i64.wrap (s6 - (1 : Int)) < ↑l0.length)
   (br (decide ((IntKind.i64.wrap (s6 - (1 : Int))).toNat = h0.toNat))
   (chk ((0 : Int) ≤ IntKind.i64.wrap (s7 - (1 : Int)) ∧ IntKind.i64.wrap (s7 - (1 : Int)) < ↑l20.length)
   (chk ((0 : Int) ≤ s7 ∧ s7 < ↑(l0.getD s6.toNat ([] : List Int)).length)
                none /- WHY OfNat.ofNat.{0} Nat 1038 (instOfNatNat 1038) -/))
   (chk ((0 : Int) ≤ IntKind.i64.wrap (s7 - (1 : Int)) ∧ IntKind.i64.wrap (s7 - (1 : Int)) < ↑(l0.getD (IntKind.i64.wrap (s6 - (1 : Int))).toNat ([] : List Int)).length)
   (chk ((0 : Int) ≤ s7 ∧ s7 < ↑(l0.getD s6.toNat ([] : List Int)).length)
                none /- WHY OfNat.ofNat.{0} Nat 1038 (instOfNatNat 1038) -/)))))
   (chk ((0 : Int) ≤ IntKind.i64.wrap (s7 - (1 : Int)) ∧ IntKind.i64.wrap (s7 - (1 : Int)) < ↑(l0.getD s6.toNat ([] : List Int)).length)
   (chk ((0 : Int) ≤ IntKind.i64.wrap (s6 - (1 : Int)) ∧ IntKind.i64.wrap (s6 - (1 : Int)) < ↑l0.length)
   (br (decide ((IntKind.i64.wrap (s6 - (1 : Int))).toNat = h0.toNat))
   (chk ((0 : Int) ≤ IntKind.i64.wrap (s7 - (1 : Int)) ∧ IntKind.i64.wrap (s7 - (1 : Int)) < ↑l20.length)
   (chk ((0 : Int) ≤ s7 ∧ s7 < ↑(l0.getD s6.toNat ([] : List Int)).length)
                none /- WHY OfNat.ofNat.{0} Nat 1038 (instOfNatNat 1038) -/))
   (chk ((0 : Int) ≤ IntKind.i64.wrap (s7 - (1 : Int)) ∧ IntKind.i64.wrap (s7 - (1 : Int)) < ↑(l0.getD (IntKind.i64.wrap (s6 - (1 : Int))).toNat ([] : List Int)).length)
   (chk ((0 : Int) ≤ s7 ∧ s7 < ↑(l0.getD s6.toNat ([] : List Int)).length)
                none /- WHY OfNat.ofNat.{0} Nat 1038 (instOfNatNat 1038) -/))))))))))))
   (chkR l0 l0
   (chkN h0.toNat h0.toNat
   (some l20))))
   (chkR l0 l0
   (chkN h0.toNat h0.toNat
   (some l20))))
noncomputable def table.loop8R (N nn : Nat) (k : Int) (s6 : Int) (h0 : Int) (l0 : List (List Int)) (s7 : Int) (l20 : List Int) : Option table.loop8.R := loopF table.loop8.ann (mkL [k, s6, h0] [] [] [l0]) (evCode ((table.C N).inLoop table.loop8.ann) (table.K N) (inlTab (table.C N) 0) (bodyAt 8 Try.f86)) nn (mkL [s7] [] [l20] [])
theorem table.loop8_eq (N : Nat) : ∀ (nn : Nat) (k : Int) (s6 : Int) (h0 : Int) (l0 : List (List Int)) (s7 : Int) (l20 : List Int), table.loop8R N nn k s6 h0 l0 s7 l20 = table.loop8 N nn k s6 h0 l0 s7 l20
  | 0, _, _, _, _, _, _ => by kernel_rfl
  | nn + 1, k, s6, h0, l0, s7, l20 => by
    have h : table.loop8R N (nn + 1) k s6 h0 l0 s7 l20 =
  (br (decide (s7 ≤ k))
   (br (decide (s6 > (0 : Int)))
   (chk ((0 : Int) ≤ s6 ∧ s6 < ↑l0.length)
   (br (decide (s6.toNat = h0.toNat))
   (chk ((0 : Int) ≤ IntKind.i64.wrap (s6 - (1 : Int)) ∧ IntKind.i64.wrap (s6 - (1 : Int)) < ↑l0.length)
   (br (decide ((IntKind.i64.wrap (s6 - (1 : Int))).toNat = h0.toNat))
   (chk ((0 : Int) ≤ s7 ∧ s7 < ↑l20.length)
   (chk ((0 : Int) ≤ s6 ∧ s6 < ↑l0.length)
   (br (decide (s6.toNat = h0.toNat))
   (chk ((0 : Int) ≤ IntKind.i64.wrap (s7 - (1 : Int)) ∧ IntKind.i64.wrap (s7 - (1 : Int)) < ↑l20.length)
   (chk ((0 : Int) ≤ IntKind.i64.wrap (s6 - (1 : Int)) ∧ IntKind.i64.wrap (s6 - (1 : Int)) < ↑l0.length)
   (br (decide ((IntKind.i64.wrap (s6 - (1 : Int))).toNat = h0.toNat))
   (chk ((0 : Int) ≤ IntKind.i64.wrap (s7 - (1 : Int)) ∧ IntKind.i64.wrap (s7 - (1 : Int)) < ↑l20.length)
   (chk ((0 : Int) ≤ s7 ∧ s7 < ↑l20.length)
   (chkI k k
   (chkI s6 s6
   (chkR l0 l0
   (chkN h0.toNat h0.toNat
   (table.loop8R N nn k s6 h0 l0 (IntKind.i64.wrap (s7 + (1 : Int))) (l20.set s7.toNat (if (4294967296 : Int) < IntKind.i64.wrap (IntKind.i64.wrap (l20.getD s7.toNat (0 : Int) + l20.getD (IntKind.i64.wrap (s7 - (1 : Int))).toNat (0 : Int)) + l20.getD (IntKind.i64.wrap (s7 - (1 : Int))).toNat (0 : Int)) then (4294967296 : Int) else IntKind.i64.wrap (IntKind.i64.wrap (l20.getD s7.toNat (0 : Int) + l20.getD (IntKind.i64.wrap (s7 - (1 : Int))).toNat (0 : Int)) + l20.getD (IntKind.i64.wrap (s7 - (1 : Int))).toNat (0 : Int)))))))))))
   (chk ((0 : Int) ≤ IntKind.i64.wrap (s7 - (1 : Int)) ∧ IntKind.i64.wrap (s7 - (1 : Int)) < ↑(l0.getD (IntKind.i64.wrap (s6 - (1 : Int))).toNat ([] : List Int)).length)
   (chk ((0 : Int) ≤ s7 ∧ s7 < ↑l20.length)
   (chkI k k
   (chkI s6 s6
   (chkR l0 l0
   (chkN h0.toNat h0.toNat
   (table.loop8R N nn k s6 h0 l0 (IntKind.i64.wrap (s7 + (1 : Int))) (l20.set s7.toNat (if (4294967296 : Int) < IntKind.i64.wrap (IntKind.i64.wrap (l20.getD s7.toNat (0 : Int) + l20.getD (IntKind.i64.wrap (s7 - (1 : Int))).toNat (0 : Int)) + (l0.getD (IntKind.i64.wrap (s6 - (1 : Int))).toNat ([] : List Int)).getD (IntKind.i64.wrap (s7 - (1 : Int))).toNat (0 : Int)) then (4294967296 : Int) else IntKind.i64.wrap (IntKind.i64.wrap (l20.getD s7.toNat (0 : Int) + l20.getD (IntKind.i64.wrap (s7 - (1 : Int))).toNat (0 : Int)) + (l0.getD (IntKind.i64.wrap (s6 - (1 : Int))).toNat ([] : List Int)).getD (IntKind.i64.wrap (s7 - (1 : Int))).toNat (0 : Int))))))))))))))
   (chk ((0 : Int) ≤ IntKind.i64.wrap (s7 - (1 : Int)) ∧ IntKind.i64.wrap (s7 - (1 : Int)) < ↑(l0.getD s6.toNat ([] : List Int)).length)
   (chk ((0 : Int) ≤ IntKind.i64.wrap (s6 - (1 : Int)) ∧ IntKind.i64.wrap (s6 - (1 : Int)) < ↑l0.length)
   (br (decide ((IntKind.i64.wrap (s6 - (1 : Int))).toNat = h0.toNat))
   (chk ((0 : Int) ≤ IntKind.i64.wrap (s7 - (1 : Int)) ∧ IntKind.i64.wrap (s7 - (1 : Int)) < ↑l20.length)
   (chk ((0 : Int) ≤ s7 ∧ s7 < ↑l20.length)
   (chkI k k
   (chkI s6 s6
   (chkR l0 l0
   (chkN h0.toNat h0.toNat
   (table.loop8R N nn k s6 h0 l0 (IntKind.i64.wrap (s7 + (1 : Int))) (l20.set s7.toNat (if (4294967296 : Int) < IntKind.i64.wrap (IntKind.i64.wrap (l20.getD s7.toNat (0 : Int) + (l0.getD s6.toNat ([] : List Int)).getD (IntKind.i64.wrap (s7 - (1 : Int))).toNat (0 : Int)) + l20.getD (IntKind.i64.wrap (s7 - (1 : Int))).toNat (0 : Int)) then (4294967296 : Int) else IntKind.i64.wrap (IntKind.i64.wrap (l20.getD s7.toNat (0 : Int) + (l0.getD s6.toNat ([] : List Int)).getD (IntKind.i64.wrap (s7 - (1 : Int))).toNat (0 : Int)) + l20.getD (IntKind.i64.wrap (s7 - (1 : Int))).toNat (0 : Int)))))))))))
   (chk ((0 : Int) ≤ IntKind.i64.wrap (s7 - (1 : Int)) ∧ IntKind.i64.wrap (s7 - (1 : Int)) < ↑(l0.getD (IntKind.i64.wrap (s6 - (1 : Int))).toNat ([] : List Int)).length)
   (chk ((0 : Int) ≤ s7 ∧ s7 < ↑l20.length)
   (chkI k k
   (chkI s6 s6
   (chkR l0 l0
   (chkN h0.toNat h0.toNat
   (table.loop8R N nn k s6 h0 l0 (IntKind.i64.wrap (s7 + (1 : Int))) (l20.set s7.toNat (if (4294967296 : Int) < IntKind.i64.wrap (IntKind.i64.wrap (l20.getD s7.toNat (0 : Int) + (l0.getD s6.toNat ([] : List Int)).getD (IntKind.i64.wrap (s7 - (1 : Int))).toNat (0 : Int)) + (l0.getD (IntKind.i64.wrap (s6 - (1 : Int))).toNat ([] : List Int)).getD (IntKind.i64.wrap (s7 - (1 : Int))).toNat (0 : Int)) then (4294967296 : Int) else IntKind.i64.wrap (IntKind.i64.wrap (l20.getD s7.toNat (0 : Int) + (l0.getD s6.toNat ([] : List Int)).getD (IntKind.i64.wrap (s7 - (1 : Int))).toNat (0 : Int)) + (l0.getD (IntKind.i64.wrap (s6 - (1 : Int))).toNat ([] : List Int)).getD (IntKind.i64.wrap (s7 - (1 : Int))).toNat (0 : Int)))))))))))))))))
   (chk ((0 : Int) ≤ s7 ∧ s7 < ↑(l0.getD (IntKind.i64.wrap (s6 - (1 : Int))).toNat ([] : List Int)).length)
   (chk ((0 : Int) ≤ s6 ∧ s6 < ↑l0.length)
   (br (decide (s6.toNat = h0.toNat))
   (chk ((0 : Int) ≤ IntKind.i64.wrap (s7 - (1 : Int)) ∧ IntKind.i64.wrap (s7 - (1 : Int)) < ↑l20.length)
   (chk ((0 : Int) ≤ IntKind.i64.wrap (s6 - (1 : Int)) ∧ IntKind.i64.wrap (s6 - (1 : Int)) < ↑l0.length)
   (br (decide ((IntKind.i64.wrap (s6 - (1 : Int))).toNat = h0.toNat))
   (chk ((0 : Int) ≤ IntKind.i64.wrap (s7 - (1 : Int)) ∧ IntKind.i64.wrap (s7 - (1 : Int)) < ↑l20.length)
   (chk ((0 : Int) ≤ s7 ∧ s7 < ↑l20.length)
   (chkI k k
   (chkI s6 s6
   (chkR l0 l0
   (chkN h0.toNat h0.toNat
   (table.loop8R N nn k s6 h0 l0 (IntKind.i64.wrap (s7 + (1 : Int))) (l20.set s7.toNat (if (4294967296 : Int) < IntKind.i64.wrap (IntKind.i64.wrap ((l0.getD (IntKind.i64.wrap (s6 - (1 : Int))).toNat ([] : List Int)).getD s7.toNat (0 : Int) + l20.getD (IntKind.i64.wrap (s7 - (1 : Int))).toNat (0 : Int)) + l20.getD (IntKind.i64.wrap (s7 - (1 : Int))).toNat (0 : Int)) then (4294967296 : Int) else IntKind.i64.wrap (IntKind.i64.wrap ((l0.getD (IntKind.i64.wrap (s6 - (1 : Int))).toNat ([] : List Int)).getD s7.toNat (0 : Int) + l20.getD (IntKind.i64.wrap (s7 - (1 : Int))).toNat (0 : Int)) + l20.getD (IntKind.i64.wrap (s7 - (1 : Int))).toNat (0 : Int)))))))))))
   (chk ((0 : Int) ≤ IntKind.i64.wrap (s7 - (1 : Int)) ∧ IntKind.i64.wrap (s7 - (1 : Int)) < ↑(l0.getD (IntKind.i64.wrap (s6 - (1 : Int))).toNat ([] : List Int)).length)
   (chk ((0 : Int) ≤ s7 ∧ s7 < ↑l20.length)
   (chkI k k
   (chkI s6 s6
   (chkR l0 l0
   (chkN h0.toNat h0.toNat
   (table.loop8R N nn k s6 h0 l0 (IntKind.i64.wrap (s7 + (1 : Int))) (l20.set s7.toNat (if (4294967296 : Int) < IntKind.i64.wrap (IntKind.i64.wrap ((l0.getD (IntKind.i64.wrap (s6 - (1 : Int))).toNat ([] : List Int)).getD s7.toNat (0 : Int) + l20.getD (IntKind.i64.wrap (s7 - (1 : Int))).toNat (0 : Int)) + (l0.getD (IntKind.i64.wrap (s6 - (1 : Int))).toNat ([] : List Int)).getD (IntKind.i64.wrap (s7 - (1 : Int))).toNat (0 : Int)) then (4294967296 : Int) else IntKind.i64.wrap (IntKind.i64.wrap ((l0.getD (IntKind.i64.wrap (s6 - (1 : Int))).toNat ([] : List Int)).getD s7.toNat (0 : Int) + l20.getD (IntKind.i64.wrap (s7 - (1 : Int))).toNat (0 : Int)) + (l0.getD (IntKind.i64.wrap (s6 - (1 : Int))).toNat ([] : List Int)).getD (IntKind.i64.wrap (s7 - (1 : Int))).toNat (0 : Int))))))))))))))
   (chk ((0 : Int) ≤ IntKind.i64.wrap (s7 - (1 : Int)) ∧ IntKind.i64.wrap (s7 - (1 : Int)) < ↑(l0.getD s6.toNat ([] : List Int)).length)
   (chk ((0 : Int) ≤ IntKind.i64.wrap (s6 - (1 : Int)) ∧ IntKind.i64.wrap (s6 - (1 : Int)) < ↑l0.length)
   (br (decide ((IntKind.i64.wrap (s6 - (1 : Int))).toNat = h0.toNat))
   (chk ((0 : Int) ≤ IntKind.i64.wrap (s7 - (1 : Int)) ∧ IntKind.i64.wrap (s7 - (1 : Int)) < ↑l20.length)
   (chk ((0 : Int) ≤ s7 ∧ s7 < ↑l20.length)
   (chkI k k
   (chkI s6 s6
   (chkR l0 l0
   (chkN h0.toNat h0.toNat
   (table.loop8R N nn k s6 h0 l0 (IntKind.i64.wrap (s7 + (1 : Int))) (l20.set s7.toNat (if (4294967296 : Int) < IntKind.i64.wrap (IntKind.i64.wrap ((l0.getD (IntKind.i64.wrap (s6 - (1 : Int))).toNat ([] : List Int)).getD s7.toNat (0 : Int) + (l0.getD s6.toNat ([] : List Int)).getD (IntKind.i64.wrap (s7 - (1 : Int))).toNat (0 : Int)) + l20.getD (IntKind.i64.wrap (s7 - (1 : Int))).toNat (0 : Int)) then (4294967296 : Int) else IntKind.i64.wrap (IntKind.i64.wrap ((l0.getD (IntKind.i64.wrap (s6 - (1 : Int))).toNat ([] : List Int)).getD s7.toNat (0 : Int) + (l0.getD s6.toNat ([] : List Int)).getD (IntKind.i64.wrap (s7 - (1 : Int))).toNat (0 : Int)) + l20.getD (IntKind.i64.wrap (s7 - (1 : Int))).toNat (0 : Int)))))))))))
   (chk ((0 : Int) ≤ IntKind.i64.wrap (s7 - (1 : Int)) ∧ IntKind.i64.wrap (s7 - (1 : Int)) < ↑(l0.getD (IntKind.i64.wrap (s6 - (1 : Int))).toNat ([] : List Int)).length)
   (chk ((0 : Int) ≤ s7 ∧ s7 < ↑l20.length)
   (chkI k k
   (chkI s6 s6
   (chkR l0 l0
   (chkN h0.toNat h0.toNat
   (table.loop8R N nn k s6 h0 l0 (IntKind.i64.wrap (s7 + (1 : Int))) (l20.set s7.toNat (if (4294967296 : Int) < IntKind.i64.wrap (IntKind.i64.wrap ((l0.getD (IntKind.i64.wrap (s6 - (1 : Int))).toNat ([] : List Int)).getD s7.toNat (0 : Int) + (l0.getD s6.toNat ([] : List Int)).getD (IntKind.i64.wrap (s7 - (1 : Int))).toNat (0 : Int)) + (l0.getD (IntKind.i64.wrap (s6 - (1 : Int))).toNat ([] : List Int)).getD (IntKind.i64.wrap (s7 - (1 : Int))).toNat (0 : Int)) then (4294967296 : Int) else IntKind.i64.wrap (IntKind.i64.wrap ((l0.getD (IntKind.i64.wrap (s6 - (1 : Int))).toNat ([] : List Int)).getD s7.toNat (0 : Int) + (l0.getD s6.toNat ([] : List Int)).getD (IntKind.i64.wrap (s7 - (1 : Int))).toNat (0 : Int)) + (l0.getD (IntKind.i64.wrap (s6 - (1 : Int))).toNat ([] : List Int)).getD (IntKind.i64.wrap (s7 - (1 : Int))).toNat (0 : Int)))))))))))))))))))
   (chk ((0 : Int) ≤ IntKind.i64.wrap (s6 - (1 : Int)) ∧ IntKind.i64.wrap (s6 - (1 : Int)) < ↑l0.length)
   (br (decide ((IntKind.i64.wrap (s6 - (1 : Int))).toNat = h0.toNat))
   (chk ((0 : Int) ≤ s7 ∧ s7 < ↑l20.length)
   (chk ((0 : Int) ≤ s6 ∧ s6 < ↑l0.length)
   (br (decide (s6.toNat = h0.toNat))
   (chk ((0 : Int) ≤ IntKind.i64.wrap (s7 - (1 : Int)) ∧ IntKind.i64.wrap (s7 - (1 : Int)) < ↑l20.length)
   (chk ((0 : Int) ≤ IntKind.i64.wrap (s6 - (1 : Int)) ∧ IntKind.i64.wrap (s6 - (1 : Int)) < ↑l0.length)
   (br (decide ((IntKind.i64.wrap (s6 - (1 : Int))).toNat = h0.toNat))
   (chk ((0 : Int) ≤ IntKind.i64.wrap (s7 - (1 : Int)) ∧ IntKind.i64.wrap (s7 - (1 : Int)) < ↑l20.length)
   (chk ((0 : Int) ≤ s7 ∧ s7 < ↑(l0.getD s6.toNat ([] : List Int)).length)
                none /- WHY OfNat.ofNat.{0} Nat 1038 (instOfNatNat 1038) -/))
   (chk ((0 : Int) ≤ IntKind.i64.wrap (s7 - (1 : Int)) ∧ IntKind.i64.wrap (s7 - (1 : Int)) < ↑(l0.getD (IntKind.i64.wrap (s6 - (1 : Int))).toNat ([] : List Int)).length)
   (chk ((0 : Int) ≤ s7 ∧ s7 < ↑(l0.getD s6.toNat ([] : List Int)).length)
                none /- WHY OfNat.ofNat.{0} Nat 1038 (instOfNatNat 1038) -/)))))
   (chk ((0 : Int) ≤ IntKind.i64.wrap (s7 - (1 : Int)) ∧ IntKind.i64.wrap (s7 - (1 : Int)) < ↑(l0.getD s6.toNat ([] : List Int)).length)
   (chk ((0 : Int) ≤ IntKind.i64.wrap (s6 - (1 : Int)) ∧ IntKind.i64.wrap (s6 - (1 : Int)) < ↑l0.length)
   (br (decide ((IntKind.i64.wrap (s6 - (1 : Int))).toNat = h0.toNat))
   (chk ((0 : Int) ≤ IntKind.i64.wrap (s7 - (1 : Int)) ∧ IntKind.i64.wrap (s7 - (1 : Int)) < ↑l20.length)
   (chk ((0 : Int) ≤ s7 ∧ s7 < ↑(l0.getD s6.toNat ([] : List Int)).length)
                none /- WHY OfNat.ofNat.{0} Nat 1038 (instOfNatNat 1038) -/))
   (chk ((0 : Int) ≤ IntKind.i64.wrap (s7 - (1 : Int)) ∧ IntKind.i64.wrap (s7 - (1 : Int)) < ↑(l0.getD (IntKind.i64.wrap (s6 - (1 : Int))).toNat ([] : List Int)).length)
   (chk ((0 : Int) ≤ s7 ∧ s7 < ↑(l0.getD s6.toNat ([] : List Int)).length)
                none /- WHY OfNat.ofNat.{0} Nat 1038 (instOfNatNat 1038) -/))))))))
   (chk ((0 : Int) ≤ s7 ∧ s7 < ↑(l0.getD (IntKind.i64.wrap (s6 - (1 : Int))).toNat ([] : List Int)).length)
   (chk ((0 : Int) ≤ s6 ∧ s6 < ↑l0.length)
   (br (decide (s6.toNat = h0.toNat))
   (chk ((0 : Int) ≤ IntKind.i64.wrap (s7 - (1 : Int)) ∧ IntKind.i64.wrap (s7 - (1 : Int)) < ↑l20.length)
   (chk ((0 : Int) ≤ IntKind.i64.wrap (s6 - (1 : Int)) ∧ IntKind.i64.wrap (s6 - (1 : Int)) < ↑l0.length)
   (br (decide ((IntKind.i64.wrap (s6 - (1 : Int))).toNat = h0.toNat))
   (chk ((0 : Int) ≤ IntKind.i64.wrap (s7 - (1 : Int)) ∧ IntKind.i64.wrap (s7 - (1 : Int)) < ↑l20.length)
   (chk ((0 : Int) ≤ s7 ∧ s7 < ↑(l0.getD s6.toNat ([] : List Int)).length)
                none /- WHY OfNat.ofNat.{0} Nat 1038 (instOfNatNat 1038) -/))
   (chk ((0 : Int) ≤ IntKind.i64.wrap (s7 - (1 : Int)) ∧ IntKind.i64.wrap (s7 - (1 : Int)) < ↑(l0.getD (IntKind.i64.wrap (s6 - (1 : Int))).toNat ([] : List Int)).length)
   (chk ((0 : Int) ≤ s7 ∧ s7 < ↑(l0.getD s6.toNat ([] : List Int)).length)
                none /- WHY OfNat.ofNat.{0} Nat 1038 (instOfNatNat 1038) -/)))))
   (chk ((0 : Int) ≤ IntKind.i64.wrap (s7 - (1 : Int)) ∧ IntKind.i64.wrap (s7 - (1 : Int)) < ↑(l0.getD s6.toNat ([] : List Int)).length)
   (chk ((0 : Int) ≤ IntKind.i64.wrap (s6 - (1 : Int)) ∧ IntKind.i64.wrap (s6 - (1 : Int)) < ↑l0.length)
   (br (decide ((IntKind.i64.wrap (s6 - (1 : Int))).toNat = h0.toNat))
   (chk ((0 : Int) ≤ IntKind.i64.wrap (s7 - (1 : Int)) ∧ IntKind.i64.wrap (s7 - (1 : Int)) < ↑l20.length)
   (chk ((0 : Int) ≤ s7 ∧ s7 < ↑(l0.getD s6.toNat ([] : List Int)).length)
                none /- WHY OfNat.ofNat.{0} Nat 1038 (instOfNatNat 1038) -/))
   (chk ((0 : Int) ≤ IntKind.i64.wrap (s7 - (1 : Int)) ∧ IntKind.i64.wrap (s7 - (1 : Int)) < ↑(l0.getD (IntKind.i64.wrap (s6 - (1 : Int))).toNat ([] : List Int)).length)
   (chk ((0 : Int) ≤ s7 ∧ s7 < ↑(l0.getD s6.toNat ([] : List Int)).length)
                none /- WHY OfNat.ofNat.{0} Nat 1038 (instOfNatNat 1038) -/))))))))))))
   (chkR l0 l0
   (chkN h0.toNat h0.toNat
   (some l20))))
   (chkR l0 l0
   (chkN h0.toNat h0.toNat
   (some l20)))) := by kernel_rfl
    rw [h, table.loop8]
    try simp only [table.loop8_eq N nn]
noncomputable def table.loop3 (N : Nat) : Nat → Int → Int → Int → List (List Int) → Option table.loop3.R
  | 0, _, _, _, _ => none
  | nn + 1, k, s12, s13, l0 =>
  (br (decide (s13 < s12))
   (chk ((0 : Int) ≤ IntKind.i64.wrap (k + (1 : Int)) ∧ IntKind.i64.wrap (k + (1 : Int)) ≤ IntKind.i64.wrap (k + (1 : Int)) ∧ IntKind.i64.wrap (k + (1 : Int)) ≤ ↑(17592186043904 : Nat))
   (chk ((0 : Int) ≤ s13 ∧ s13 < ↑l0.length)
   (chk ((0 : Int) ≤ s13 ∧ s13 < ↑l0.length)
   (br (decide (s13.toNat = s13.toNat))
   (chk ((0 : Int) ≤ (0 : Int) ∧ (0 : Int) < ↑(List.replicate (IntKind.i64.wrap (k + (1 : Int))).toNat (0 : Int)).length)
   (obind (table.loop8 N N k s13 (↑s13.toNat) l0 ((1 : Int)) ((List.replicate (IntKind.i64.wrap (k + (1 : Int))).toNat (0 : Int)).set (Int.toNat (0 : Int)) (1 : Int))) fun r0 =>
   (chkI k k
   (chkI s12 s12
   (table.loop3 N nn k s12 (IntKind.i64.wrap (s13 + (1 : Int))) (l0.set (↑s13.toNat : Int).toNat r0))))))
   (chk ((0 : Int) ≤ (0 : Int) ∧ (0 : Int) < ↑(l0.getD s13.toNat ([] : List Int)).length)
        none /- WHY OfNat.ofNat.{0} Nat 1038 (instOfNatNat 1038) -/)))))
   (some l0))
noncomputable def table.loop3R (N nn : Nat) (k : Int) (s12 : Int) (s13 : Int) (l0 : List (List Int)) : Option table.loop3.R := loopF table.loop3.ann (mkL [k, s12] [] [] []) (evCode ((table.C N).inLoop table.loop3.ann) (table.K N) (inlTab (table.C N) 0) (bodyAt 3 Try.f86)) nn (mkL [s13] [] [] [l0])
theorem table.loop3_eq (N : Nat) : ∀ (nn : Nat) (k : Int) (s12 : Int) (s13 : Int) (l0 : List (List Int)), table.loop3R N nn k s12 s13 l0 = table.loop3 N nn k s12 s13 l0
  | 0, _, _, _, _ => by kernel_rfl
  | nn + 1, k, s12, s13, l0 => by
    have h : table.loop3R N (nn + 1) k s12 s13 l0 =
  (br (decide (s13 < s12))
   (chk ((0 : Int) ≤ IntKind.i64.wrap (k + (1 : Int)) ∧ IntKind.i64.wrap (k + (1 : Int)) ≤ IntKind.i64.wrap (k + (1 : Int)) ∧ IntKind.i64.wrap (k + (1 : Int)) ≤ ↑(17592186043904 : Nat))
   (chk ((0 : Int) ≤ s13 ∧ s13 < ↑l0.length)
   (chk ((0 : Int) ≤ s13 ∧ s13 < ↑l0.length)
   (br (decide (s13.toNat = s13.toNat))
   (chk ((0 : Int) ≤ (0 : Int) ∧ (0 : Int) < ↑(List.replicate (IntKind.i64.wrap (k + (1 : Int))).toNat (0 : Int)).length)
   (obind (table.loop8R N N k s13 (↑s13.toNat) l0 ((1 : Int)) ((List.replicate (IntKind.i64.wrap (k + (1 : Int))).toNat (0 : Int)).set (Int.toNat (0 : Int)) (1 : Int))) fun r0 =>
   (chkI k k
   (chkI s12 s12
   (table.loop3R N nn k s12 (IntKind.i64.wrap (s13 + (1 : Int))) (l0.set (↑s13.toNat : Int).toNat r0))))))
   (chk ((0 : Int) ≤ (0 : Int) ∧ (0 : Int) < ↑(l0.getD s13.toNat ([] : List Int)).length)
        none /- WHY OfNat.ofNat.{0} Nat 1038 (instOfNatNat 1038) -/)))))
   (some l0)) := by kernel_rfl
    rw [h, table.loop3]
    try simp only [table.loop3_eq N nn, table.loop8_eq N]
noncomputable def table.F (N : Nat) (n : Int) (k : Int) : Option table.R :=
  (chk ((0 : Int) ≤ IntKind.i64.wrap (n + (1 : Int)) ∧ IntKind.i64.wrap (n + (1 : Int)) ≤ IntKind.i64.wrap (n + (1 : Int)) ∧ IntKind.i64.wrap (n + (1 : Int)) ≤ (1000000 : Int))
   (obind (table.loop3 N N k (↑(List.replicate (IntKind.i64.wrap (n + (1 : Int))).toNat ([] : List Int)).length) ((0 : Int)) (List.replicate (IntKind.i64.wrap (n + (1 : Int))).toNat ([] : List Int))) fun r0 =>
   (some r0)))
theorem table.F_eq (N : Nat) (L : Eng.Leaves) : evSig (table.C N) (table.K N) 0 Try.f86 table.sig L table.dec = table.F N (L.i 0) (L.i 1) := by
  have h : ∀ (n : Int) (k : Int), evSig (table.C N) (table.K N) 0 Try.f86 table.sig (mkL [n, k] [] [] []) table.dec =
  (chk ((0 : Int) ≤ IntKind.i64.wrap (n + (1 : Int)) ∧ IntKind.i64.wrap (n + (1 : Int)) ≤ IntKind.i64.wrap (n + (1 : Int)) ∧ IntKind.i64.wrap (n + (1 : Int)) ≤ (1000000 : Int))
   (obind (table.loop3R N N k (↑(List.replicate (IntKind.i64.wrap (n + (1 : Int))).toNat ([] : List Int)).length) ((0 : Int)) (List.replicate (IntKind.i64.wrap (n + (1 : Int))).toNat ([] : List Int))) fun r0 =>
   (some r0))) := by
    intro n k
    kernel_rfl
  have h2 : evSig (table.C N) (table.K N) 0 Try.f86 table.sig L table.dec = evSig (table.C N) (table.K N) 0 Try.f86 table.sig (mkL [L.i 0, L.i 1] [] [] []) table.dec := by kernel_rfl
  rw [h2, h, table.F]
  try simp only [table.loop3_eq N, table.loop8_eq N]
noncomputable def table.spec : Eng.Spec := table.sig.spec (fun N L => table.F N (L.i 0) (L.i 1)) table.enc
theorem table.cok (N : Nat) : CfgOK (table.C N) := ⟨fun _ _ _ _ h => by simp [table.C, noRT] at h, wide, by
  simp only [table.C, List.mem_cons, List.not_mem_nil, or_false, forall_eq_or_imp, forall_eq, false_imp_iff, implies_true], fun g hg => by simp [table.C] at hg, fun m hm => by simp [table.C] at hm, fun q hq => by simp [table.C] at hq⟩
theorem table.aok (N : Nat) : AnnsOK (table.K N) := by
  intro q hq
  simp only [table.K, List.mem_cons, List.not_mem_nil, or_false] at hq
  rcases hq with rfl | rfl
  · exact fun _ _ => ⟨rfl, rfl⟩
  · exact fun _ _ => ⟨rfl, rfl⟩
theorem table.ok : CallOK Try.prog 86 table.spec :=
  callOK_of_sig (fn := Try.f86) (Cf := table.C) (K := table.K) (d := 0) (dec := table.dec) (by kernel_rfl) (fun _ => rfl) table.cok (fun _ q hq => by simp [table.C] at hq) table.aok
   (fun N L r h => (table.F_eq N L).trans h) (by kernel_rfl) (fun _ => ⟨rfl, rfl⟩) (fun _ _ => ⟨rfl, rfl⟩)
noncomputable def prow.sig : Eng.Sig := { args := [.at (.int .i64 0), .at (.int .i64 1)], n := 0, pre := [], post := [(0, .ints false .i64 0)], m := 1, ret := .at (.full 0 false) }
noncomputable def prow.C (N : Nat) : Cfg := { P := Try.prog, N := N, RT := noRT, specs := [], inl := [], hi := 0, mv := [] }
abbrev prow.R : Type := List Int
def prow.dec (L : Eng.Leaves) : prow.R := (L.l 0)
def prow.enc (r : prow.R) : Eng.Leaves := mkL [] [] [r] []
abbrev prow.loop4.R : Type := List Int
noncomputable def prow.loop4.ann : Ann := { nx := 20, slots := [(1, .at (.fint .i64 0)), (5, .at (.full 0 true)), (13, .at (.fint .i64 1)), (14, .at (.int .i64 0))], blks := [(0, .ints true .i64 0)], mov := [], exId := 0, xslots := [(5, .at (.full 0 true))], xblks := [(0, .ints true .i64 0)], T := prow.loop4.R, dec := fun L => (L.l 0), enc := fun r => mkL [] [] [r] [], ret := false }
abbrev prow.loop7.R : Type := List Int
noncomputable def prow.loop7.ann : Ann := { nx := 20, slots := [(1, .at (.fint .i64 0)), (5, .at (.full 0 true)), (6, .at (.int .i64 0)), (7, .at (.int .i64 1))], blks := [(0, .ints true .i64 0)], mov := [], exId := 2, xslots := [(5, .at (.full 0 true))], xblks := [(0, .ints true .i64 0)], T := prow.loop7.R, dec := fun L => (L.l 0), enc := fun r => mkL [] [] [r] [], ret := false }
noncomputable def prow.K (N : Nat) : FCfg := { anns := [(4, prow.loop4.ann), (7, prow.loop7.ann)], unr := [], lits := [], lets := [] }
noncomputable def prow.loop7 (N : Nat) : Nat → Int → Int → Int → List Int → Option prow.loop7.R
  | 0, _, _, _, _ => none
  | nn + 1, k, s6, s7, l0 =>
  (br (decide (s7 ≤ k))
   (chk ((0 : Int) ≤ s7 ∧ s7 < ↑l0.length)
   (chk ((0 : Int) ≤ s7 ∧ s7 < ↑l0.length)
   (chk ((0 : Int) ≤ IntKind.i64.wrap (s7 - (1 : Int)) ∧ IntKind.i64.wrap (s7 - (1 : Int)) < ↑l0.length)
   (chk ((0 : Int) ≤ s7 ∧ s7 < ↑l0.length)
   (chkI k k
   (prow.loop7 N nn k (l0.getD s7.toNat (0 : Int)) (IntKind.i64.wrap (s7 + (1 : Int))) (l0.set s7.toNat (if (4294967296 : Int) < IntKind.i64.wrap (IntKind.i64.wrap (l0.getD s7.toNat (0 : Int) + l0.getD (IntKind.i64.wrap (s7 - (1 : Int))).toNat (0 : Int)) + s6) then (4294967296 : Int) else IntKind.i64.wrap (IntKind.i64.wrap (l0.getD s7.toNat (0 : Int) + l0.getD (IntKind.i64.wrap (s7 - (1 : Int))).toNat (0 : Int)) + s6)))))))))
   (some l0))
noncomputable def prow.loop7R (N nn : Nat) (k : Int) (s6 : Int) (s7 : Int) (l0 : List Int) : Option prow.loop7.R := loopF prow.loop7.ann (mkL [k] [] [] []) (evCode ((prow.C N).inLoop prow.loop7.ann) (prow.K N) (inlTab (prow.C N) 0) (bodyAt 7 Try.f85)) nn (mkL [s6, s7] [] [l0] [])
theorem prow.loop7_eq (N : Nat) : ∀ (nn : Nat) (k : Int) (s6 : Int) (s7 : Int) (l0 : List Int), prow.loop7R N nn k s6 s7 l0 = prow.loop7 N nn k s6 s7 l0
  | 0, _, _, _, _ => by kernel_rfl
  | nn + 1, k, s6, s7, l0 => by
    have h : prow.loop7R N (nn + 1) k s6 s7 l0 =
  (br (decide (s7 ≤ k))
   (chk ((0 : Int) ≤ s7 ∧ s7 < ↑l0.length)
   (chk ((0 : Int) ≤ s7 ∧ s7 < ↑l0.length)
   (chk ((0 : Int) ≤ IntKind.i64.wrap (s7 - (1 : Int)) ∧ IntKind.i64.wrap (s7 - (1 : Int)) < ↑l0.length)
   (chk ((0 : Int) ≤ s7 ∧ s7 < ↑l0.length)
   (chkI k k
   (prow.loop7R N nn k (l0.getD s7.toNat (0 : Int)) (IntKind.i64.wrap (s7 + (1 : Int))) (l0.set s7.toNat (if (4294967296 : Int) < IntKind.i64.wrap (IntKind.i64.wrap (l0.getD s7.toNat (0 : Int) + l0.getD (IntKind.i64.wrap (s7 - (1 : Int))).toNat (0 : Int)) + s6) then (4294967296 : Int) else IntKind.i64.wrap (IntKind.i64.wrap (l0.getD s7.toNat (0 : Int) + l0.getD (IntKind.i64.wrap (s7 - (1 : Int))).toNat (0 : Int)) + s6)))))))))
   (some l0)) := by kernel_rfl
    rw [h, prow.loop7]
    try simp only [prow.loop7_eq N nn]
noncomputable def prow.loop4 (N : Nat) : Nat → Int → Int → Int → List Int → Option prow.loop4.R
  | 0, _, _, _, _ => none
  | nn + 1, k, s13, s14, l0 =>
  (br (decide (s14 < s13))
   (obind (prow.loop7 N N k ((1 : Int)) ((1 : Int)) l0) fun r0 =>
   (chkI k k
   (chkI s13 s13
   (prow.loop4 N nn k s13 (IntKind.i64.wrap (s14 + (1 : Int))) r0))))
   (some l0))
noncomputable def prow.loop4R (N nn : Nat) (k : Int) (s13 : Int) (s14 : Int) (l0 : List Int) : Option prow.loop4.R := loopF prow.loop4.ann (mkL [k, s13] [] [] []) (evCode ((prow.C N).inLoop prow.loop4.ann) (prow.K N) (inlTab (prow.C N) 0) (bodyAt 4 Try.f85)) nn (mkL [s14] [] [l0] [])
theorem prow.loop4_eq (N : Nat) : ∀ (nn : Nat) (k : Int) (s13 : Int) (s14 : Int) (l0 : List Int), prow.loop4R N nn k s13 s14 l0 = prow.loop4 N nn k s13 s14 l0
  | 0, _, _, _, _ => by kernel_rfl
  | nn + 1, k, s13, s14, l0 => by
    have h : prow.loop4R N (nn + 1) k s13 s14 l0 =
  (br (decide (s14 < s13))
   (obind (prow.loop7R N N k ((1 : Int)) ((1 : Int)) l0) fun r0 =>
   (chkI k k
   (chkI s13 s13
   (prow.loop4R N nn k s13 (IntKind.i64.wrap (s14 + (1 : Int))) r0))))
   (some l0)) := by kernel_rfl
    rw [h, prow.loop4]
    try simp only [prow.loop4_eq N nn, prow.loop7_eq N]
noncomputable def prow.F (N : Nat) (n : Int) (k : Int) : Option prow.R :=
  (chk ((0 : Int) ≤ IntKind.i64.wrap (k + (1 : Int)) ∧ IntKind.i64.wrap (k + (1 : Int)) ≤ IntKind.i64.wrap (k + (1 : Int)) ∧ IntKind.i64.wrap (k + (1 : Int)) ≤ ↑(17592186043904 : Nat))
   (chk ((0 : Int) ≤ (0 : Int) ∧ (0 : Int) < ↑(List.replicate (IntKind.i64.wrap (k + (1 : Int))).toNat (0 : Int)).length)
   (obind (prow.loop4 N N k n ((0 : Int)) ((List.replicate (IntKind.i64.wrap (k + (1 : Int))).toNat (0 : Int)).set (Int.toNat (0 : Int)) (1 : Int))) fun r0 =>
   (some r0))))
theorem prow.F_eq (N : Nat) (L : Eng.Leaves) : evSig (prow.C N) (prow.K N) 0 Try.f85 prow.sig L prow.dec = prow.F N (L.i 0) (L.i 1) := by
  have h : ∀ (n : Int) (k : Int), evSig (prow.C N) (prow.K N) 0 Try.f85 prow.sig (mkL [n, k] [] [] []) prow.dec =
  (chk ((0 : Int) ≤ IntKind.i64.wrap (k + (1 : Int)) ∧ IntKind.i64.wrap (k + (1 : Int)) ≤ IntKind.i64.wrap (k + (1 : Int)) ∧ IntKind.i64.wrap (k + (1 : Int)) ≤ ↑(17592186043904 : Nat))
   (chk ((0 : Int) ≤ (0 : Int) ∧ (0 : Int) < ↑(List.replicate (IntKind.i64.wrap (k + (1 : Int))).toNat (0 : Int)).length)
   (obind (prow.loop4R N N k n ((0 : Int)) ((List.replicate (IntKind.i64.wrap (k + (1 : Int))).toNat (0 : Int)).set (Int.toNat (0 : Int)) (1 : Int))) fun r0 =>
   (some r0)))) := by
    intro n k
    kernel_rfl
  have h2 : evSig (prow.C N) (prow.K N) 0 Try.f85 prow.sig L prow.dec = evSig (prow.C N) (prow.K N) 0 Try.f85 prow.sig (mkL [L.i 0, L.i 1] [] [] []) prow.dec := by kernel_rfl
  rw [h2, h, prow.F]
  try simp only [prow.loop4_eq N, prow.loop7_eq N]
noncomputable def prow.spec : Eng.Spec := prow.sig.spec (fun N L => prow.F N (L.i 0) (L.i 1)) prow.enc
theorem prow.cok (N : Nat) : CfgOK (prow.C N) := ⟨fun _ _ _ _ h => by simp [prow.C, noRT] at h, wide, by
  simp only [prow.C, List.mem_cons, List.not_mem_nil, or_false, forall_eq_or_imp, forall_eq, false_imp_iff, implies_true], fun g hg => by simp [prow.C] at hg, fun m hm => by simp [prow.C] at hm, fun q hq => by simp [prow.C] at hq⟩
theorem prow.aok (N : Nat) : AnnsOK (prow.K N) := by
  intro q hq
  simp only [prow.K, List.mem_cons, List.not_mem_nil, or_false] at hq
  rcases hq with rfl | rfl
  · exact fun _ _ => ⟨rfl, rfl⟩
  · exact fun _ _ => ⟨rfl, rfl⟩
theorem prow.ok : CallOK Try.prog 85 prow.spec :=
  callOK_of_sig (fn := Try.f85) (Cf := prow.C) (K := prow.K) (d := 0) (dec := prow.dec) (by kernel_rfl) (fun _ => rfl) prow.cok (fun _ q hq => by simp [prow.C] at hq) prow.aok
   (fun N L r h => (prow.F_eq N L).trans h) (by kernel_rfl) (fun _ => ⟨rfl, rfl⟩) (fun _ _ => ⟨rfl, rfl⟩)
noncomputable def pcount.sig : Eng.Sig := { args := [.at (.int .i64 0), .at (.int .i64 1)], n := 0, pre := [], post := [], m := 0, ret := .at (.int .i64 0) }
noncomputable def pcount.C (N : Nat) : Cfg := { P := Try.prog, N := N, RT := noRT, specs := [(67, pmay.spec), (85, prow.spec)], inl := [], hi := 0, mv := [] }
abbrev pcount.R : Type := Int
def pcount.dec (L : Eng.Leaves) : pcount.R := (L.i 0)
def pcount.enc (r : pcount.R) : Eng.Leaves := mkL [r] [] [] []
noncomputable def pcount.K (N : Nat) : FCfg := { anns := [], unr := [], lits := [], lets := [] }
noncomputable def pcount.F (N : Nat) (n : Int) (k : Int) : Option pcount.R :=
  (obind (Rc.pmay.F N n) fun r0 =>
   (br (!r0)
   (some ((0 : Int)))
   (br (decide (k < (0 : Int)))
   (some ((0 : Int)))
   (br (decide (k > (64 : Int)))
   (some ((0 : Int)))
   (obind (Rc.prow.F N n k) fun r1 =>
   (chk ((0 : Int) ≤ k ∧ k < ↑r1.length)
   (some (r1.getD k.toNat (0 : Int)))))))))
theorem pcount.F_eq (N : Nat) (L : Eng.Leaves) : evSig (pcount.C N) (pcount.K N) 0 Try.f71 pcount.sig L pcount.dec = pcount.F N (L.i 0) (L.i 1) := by
  kernel_rfl
noncomputable def pcount.spec : Eng.Spec := pcount.sig.spec (fun N L => pcount.F N (L.i 0) (L.i 1)) pcount.enc
theorem pcount.cok (N : Nat) : CfgOK (pcount.C N) := ⟨fun _ _ _ _ h => by simp [pcount.C, noRT] at h, wide, by
  simp only [pcount.C, List.mem_cons, List.not_mem_nil, or_false, forall_eq_or_imp, forall_eq, false_imp_iff, implies_true]
  exact ⟨⟨pmay.ok, by kernel_rfl⟩, ⟨prow.ok, by kernel_rfl⟩⟩, fun g hg => by simp [pcount.C] at hg, fun m hm => by simp [pcount.C] at hm, fun q hq => by simp [pcount.C] at hq⟩
theorem pcount.aok (N : Nat) : AnnsOK (pcount.K N) := by
  intro q hq
  simp only [pcount.K, List.mem_cons, List.not_mem_nil, or_false] at hq
theorem pcount.ok : CallOK Try.prog 71 pcount.spec :=
  callOK_of_sig (fn := Try.f71) (Cf := pcount.C) (K := pcount.K) (d := 0) (dec := pcount.dec) (by kernel_rfl) (fun _ => rfl) pcount.cok (fun _ q hq => by simp [pcount.C] at hq) pcount.aok
   (fun N L r h => (pcount.F_eq N L).trans h) (by kernel_rfl) (fun _ => ⟨rfl, rfl⟩) (fun _ _ => ⟨rfl, rfl⟩)
noncomputable def pmost.sig : Eng.Sig := { args := [.at (.int .i64 0)], n := 0, pre := [], post := [], m := 0, ret := .at (.int .i64 0) }
noncomputable def pmost.C (N : Nat) : Cfg := { P := Try.prog, N := N, RT := noRT, specs := [(67, pmay.spec), (85, prow.spec)], inl := [], hi := 0, mv := [] }
abbrev pmost.R : Type := Int
def pmost.dec (L : Eng.Leaves) : pmost.R := (L.i 0)
def pmost.enc (r : pmost.R) : Eng.Leaves := mkL [r] [] [] []
abbrev pmost.loop5.R : Type := Int
noncomputable def pmost.loop5.ann : Ann := { nx := 20, slots := [(3, .at (.full 0 false)), (4, .at (.int .i64 0))], blks := [(0, .fints false .i64 0)], mov := [], exId := 0, xslots := [(3, .at (.full 0 false)), (4, .at (.int .i64 0))], xblks := [(0, .fints false .i64 0)], T := pmost.loop5.R, dec := fun L => (L.i 0), enc := fun r => mkL [r] [] [] [], ret := false }
noncomputable def pmost.K (N : Nat) : FCfg := { anns := [(5, pmost.loop5.ann)], unr := [], lits := [], lets := [] }
noncomputable def pmost.loop5 (N : Nat) : Nat → List Int → Int → Option pmost.loop5.R
  | 0, _, _ => none
  | nn + 1, l0, s4 =>
  (chk ((0 : Int) ≤ s4 ∧ s4 < ↑l0.length)
   (br (decide (l0.getD s4.toNat (0 : Int) ≥ (4294967296 : Int)))
   (chkL l0 l0
   (pmost.loop5 N nn l0 (IntKind.i64.wrap (s4 - (1 : Int)))))
   (chkL l0 l0
   (some s4))))
noncomputable def pmost.loop5R (N nn : Nat) (l0 : List Int) (s4 : Int) : Option pmost.loop5.R := loopF pmost.loop5.ann (mkL [] [] [l0] []) (evCode ((pmost.C N).inLoop pmost.loop5.ann) (pmost.K N) (inlTab (pmost.C N) 0) (bodyAt 5 Try.f68)) nn (mkL [s4] [] [] [])
theorem pmost.loop5_eq (N : Nat) : ∀ (nn : Nat) (l0 : List Int) (s4 : Int), pmost.loop5R N nn l0 s4 = pmost.loop5 N nn l0 s4
  | 0, _, _ => by kernel_rfl
  | nn + 1, l0, s4 => by
    have h : pmost.loop5R N (nn + 1) l0 s4 =
  (chk ((0 : Int) ≤ s4 ∧ s4 < ↑l0.length)
   (br (decide (l0.getD s4.toNat (0 : Int) ≥ (4294967296 : Int)))
   (chkL l0 l0
   (pmost.loop5R N nn l0 (IntKind.i64.wrap (s4 - (1 : Int)))))
   (chkL l0 l0
   (some s4)))) := by kernel_rfl
    rw [h, pmost.loop5]
    try simp only [pmost.loop5_eq N nn]
noncomputable def pmost.F (N : Nat) (n : Int) : Option pmost.R :=
  (obind (Rc.pmay.F N n) fun r0 =>
   (br (!r0)
   (some ((0 : Int)))
   (obind (Rc.prow.F N n ((64 : Int))) fun r1 =>
   (obind (pmost.loop5 N N r1 ((64 : Int))) fun r2 =>
   (some r2)))))
theorem pmost.F_eq (N : Nat) (L : Eng.Leaves) : evSig (pmost.C N) (pmost.K N) 0 Try.f68 pmost.sig L pmost.dec = pmost.F N (L.i 0) := by
  have h : ∀ (n : Int), evSig (pmost.C N) (pmost.K N) 0 Try.f68 pmost.sig (mkL [n] [] [] []) pmost.dec =
  (obind (Rc.pmay.F N n) fun r0 =>
   (br (!r0)
   (some ((0 : Int)))
   (obind (Rc.prow.F N n ((64 : Int))) fun r1 =>
   (obind (pmost.loop5R N N r1 ((64 : Int))) fun r2 =>
   (some r2))))) := by
    intro n
    kernel_rfl
  have h2 : evSig (pmost.C N) (pmost.K N) 0 Try.f68 pmost.sig L pmost.dec = evSig (pmost.C N) (pmost.K N) 0 Try.f68 pmost.sig (mkL [L.i 0] [] [] []) pmost.dec := by kernel_rfl
  rw [h2, h, pmost.F]
  try simp only [pmost.loop5_eq N]
noncomputable def pmost.spec : Eng.Spec := pmost.sig.spec (fun N L => pmost.F N (L.i 0)) pmost.enc
theorem pmost.cok (N : Nat) : CfgOK (pmost.C N) := ⟨fun _ _ _ _ h => by simp [pmost.C, noRT] at h, wide, by
  simp only [pmost.C, List.mem_cons, List.not_mem_nil, or_false, forall_eq_or_imp, forall_eq, false_imp_iff, implies_true]
  exact ⟨⟨pmay.ok, by kernel_rfl⟩, ⟨prow.ok, by kernel_rfl⟩⟩, fun g hg => by simp [pmost.C] at hg, fun m hm => by simp [pmost.C] at hm, fun q hq => by simp [pmost.C] at hq⟩
theorem pmost.aok (N : Nat) : AnnsOK (pmost.K N) := by
  intro q hq
  simp only [pmost.K, List.mem_cons, List.not_mem_nil, or_false] at hq
  subst hq
  exact fun _ _ => ⟨rfl, rfl⟩
theorem pmost.ok : CallOK Try.prog 68 pmost.spec :=
  callOK_of_sig (fn := Try.f68) (Cf := pmost.C) (K := pmost.K) (d := 0) (dec := pmost.dec) (by kernel_rfl) (fun _ => rfl) pmost.cok (fun _ q hq => by simp [pmost.C] at hq) pmost.aok
   (fun N L r h => (pmost.F_eq N L).trans h) (by kernel_rfl) (fun _ => ⟨rfl, rfl⟩) (fun _ _ => ⟨rfl, rfl⟩)
noncomputable def pindex.sig : Eng.Sig := { args := [.at (.roi .i64 0)], n := 0, pre := [], post := [], m := 0, ret := .tup [(false, [.int .i64 0]), (false, [.int .i64 1]), (false, [.int .i64 2])] }
noncomputable def pindex.C (N : Nat) : Cfg := { P := Try.prog, N := N, RT := noRT, specs := [(67, pmay.spec), (91, psize.spec), (68, pmost.spec), (86, table.spec)], inl := [], hi := 0, mv := [] }
abbrev pindex.R : Type := Int × Int × Int
def pindex.dec (L : Eng.Leaves) : pindex.R := (L.i 0, L.i 1, L.i 2)
def pindex.enc (r : pindex.R) : Eng.Leaves := mkL [r.1, r.2.1, r.2.2] [] [] []
abbrev pindex.loop5.R : Type := Int
noncomputable def pindex.loop5.ann : Ann := { nx := 20, slots := [(5, .at (.int .i64 0)), (19, .at (.froi .i64 0)), (20, .at (.fint .i64 0)), (21, .at (.int .i64 1))], blks := [], mov := [], exId := 0, xslots := [(5, .at (.int .i64 0))], xblks := [], T := pindex.loop5.R, dec := fun L => (L.i 0), enc := fun r => mkL [r] [] [] [], ret := false }
abbrev pindex.loop13.R : Type := Int
noncomputable def pindex.loop13.ann : Ann := { nx := 21, slots := [(0, .at (.froi .i64 0)), (8, .at (.full 20 false)), (9, .at (.int .i64 0)), (10, .at (.int .i64 1)), (40, .at (.froi .i64 1)), (41, .at (.fint .i64 0)), (42, .at (.int .i64 2))], blks := [(20, .frecs false ⟨[], some .i64⟩ 0)], mov := [], exId := 2, xslots := [(8, .at (.full 20 false)), (9, .at (.int .i64 0))], xblks := [(20, .frecs false ⟨[], some .i64⟩ 0)], T := pindex.loop13.R, dec := fun L => (L.i 0), enc := fun r => mkL [r] [] [] [], ret := false }
abbrev pindex.loop17.R : Type := Int
noncomputable def pindex.loop17.ann : Ann := { nx := 21, slots := [(9, .at (.int .i64 0)), (10, .at (.fint .i64 0)), (13, .at (.froi .i64 0)), (56, .at (.fint .i64 1)), (57, .at (.int .i64 1))], blks := [], mov := [], exId := 4, xslots := [(9, .at (.int .i64 0))], xblks := [], T := pindex.loop17.R, dec := fun L => (L.i 0), enc := fun r => mkL [r] [] [] [], ret := false }
noncomputable def pindex.K (N : Nat) : FCfg := { anns := [(5, pindex.loop5.ann), (13, pindex.loop13.ann), (17, pindex.loop17.ann)], unr := [], lits := [], lets := [] }
noncomputable def pindex.loop17 (N : Nat) : Nat → Int → Int → List Int → Int → Int → Option pindex.loop17.R
  | 0, _, _, _, _, _ => none
  | nn + 1, s10, s56, s13, s9, s57 =>
  (br (decide (s57 < s56))
   (chk ((0 : Int) ≤ IntKind.i64.wrap (s10 - s57) ∧ IntKind.i64.wrap (s10 - s57) < ↑s13.length)
   (br (decide (s57 > (0 : Int)))
   (chk ((0 : Int) ≤ IntKind.i64.wrap (s10 - s57) ∧ IntKind.i64.wrap (s10 - s57) < ↑s13.length)
   (chkI s10 s10
   (chkL s13 s13
   (chkI s56 s56
   (pindex.loop17 N nn s10 s56 s13 (IntKind.i64.wrap (IntKind.i64.wrap (s9 + s13.getD (IntKind.i64.wrap (s10 - s57)).toNat (0 : Int)) + s13.getD (IntKind.i64.wrap (s10 - s57)).toNat (0 : Int))) (IntKind.i64.wrap (s57 + (1 : Int))))))))
   (chkI s10 s10
   (chkL s13 s13
   (chkI s56 s56
   (pindex.loop17 N nn s10 s56 s13 (IntKind.i64.wrap (s9 + s13.getD (IntKind.i64.wrap (s10 - s57)).toNat (0 : Int))) (IntKind.i64.wrap (s57 + (1 : Int)))))))))
   (some s9))
noncomputable def pindex.loop17R (N nn : Nat) (s10 : Int) (s56 : Int) (s13 : List Int) (s9 : Int) (s57 : Int) : Option pindex.loop17.R := loopF pindex.loop17.ann (mkL [s10, s56] [] [s13] []) (evCode ((pindex.C N).inLoop pindex.loop17.ann) (pindex.K N) (inlTab (pindex.C N) 0) (bodyAt 17 Try.f72)) nn (mkL [s9, s57] [] [] [])
theorem pindex.loop17_eq (N : Nat) : ∀ (nn : Nat) (s10 : Int) (s56 : Int) (s13 : List Int) (s9 : Int) (s57 : Int), pindex.loop17R N nn s10 s56 s13 s9 s57 = pindex.loop17 N nn s10 s56 s13 s9 s57
  | 0, _, _, _, _, _ => by kernel_rfl
  | nn + 1, s10, s56, s13, s9, s57 => by
    have h : pindex.loop17R N (nn + 1) s10 s56 s13 s9 s57 =
  (br (decide (s57 < s56))
   (chk ((0 : Int) ≤ IntKind.i64.wrap (s10 - s57) ∧ IntKind.i64.wrap (s10 - s57) < ↑s13.length)
   (br (decide (s57 > (0 : Int)))
   (chk ((0 : Int) ≤ IntKind.i64.wrap (s10 - s57) ∧ IntKind.i64.wrap (s10 - s57) < ↑s13.length)
   (chkI s10 s10
   (chkL s13 s13
   (chkI s56 s56
   (pindex.loop17R N nn s10 s56 s13 (IntKind.i64.wrap (IntKind.i64.wrap (s9 + s13.getD (IntKind.i64.wrap (s10 - s57)).toNat (0 : Int)) + s13.getD (IntKind.i64.wrap (s10 - s57)).toNat (0 : Int))) (IntKind.i64.wrap (s57 + (1 : Int))))))))
   (chkI s10 s10
   (chkL s13 s13
   (chkI s56 s56
   (pindex.loop17R N nn s10 s56 s13 (IntKind.i64.wrap (s9 + s13.getD (IntKind.i64.wrap (s10 - s57)).toNat (0 : Int))) (IntKind.i64.wrap (s57 + (1 : Int)))))))))
   (some s9)) := by kernel_rfl
    rw [h, pindex.loop17]
    try simp only [pindex.loop17_eq N nn]
noncomputable def pindex.loop13 (N : Nat) : Nat → Int → List Int → List Int → List (List Int) → Int → Int → Int → Option pindex.loop13.R
  | 0, _, _, _, _, _, _, _ => none
  | nn + 1, s41, y, s40, l20, s9, s10, s42 =>
  (br (decide (s42 < s41))
   (chk ((0 : Int) ≤ s42 ∧ s42 < ↑s40.length)
   (chk ((0 : Int) ≤ IntKind.i64.wrap (IntKind.i64.wrap (↑y.length - (1 : Int)) - s42) ∧ IntKind.i64.wrap (IntKind.i64.wrap (↑y.length - (1 : Int)) - s42) < ↑l20.length)
   (obind (Rc.psize.F N (s40.getD s42.toNat (0 : Int))) fun r0 =>
   (obind (pindex.loop17 N N s10 r0 (l20.getD (IntKind.i64.wrap (IntKind.i64.wrap (↑y.length - (1 : Int)) - s42)).toNat ([] : List Int)) s9 ((0 : Int))) fun r1 =>
   (obind (Rc.psize.F N (s40.getD s42.toNat (0 : Int))) fun r2 =>
   (br (decide (s40.getD s42.toNat (0 : Int) < (0 : Int)))
   (chk ((0 : Int) ≤ IntKind.i64.wrap (s10 - r2) ∧ IntKind.i64.wrap (s10 - r2) < ↑(l20.getD (IntKind.i64.wrap (IntKind.i64.wrap (↑y.length - (1 : Int)) - s42)).toNat ([] : List Int)).length)
   (chkL y y
   (chkL s40 s40
   (chkI s41 s41
   (chkR l20 l20
   (pindex.loop13 N nn s41 y s40 l20 (IntKind.i64.wrap (r1 + (l20.getD (IntKind.i64.wrap (IntKind.i64.wrap (↑y.length - (1 : Int)) - s42)).toNat ([] : List Int)).getD (IntKind.i64.wrap (s10 - r2)).toNat (0 : Int))) (IntKind.i64.wrap (s10 - r2)) (IntKind.i64.wrap (s42 + (1 : Int)))))))))
   (chkL y y
   (chkL s40 s40
   (chkI s41 s41
   (chkR l20 l20
   (pindex.loop13 N nn s41 y s40 l20 r1 (IntKind.i64.wrap (s10 - r2)) (IntKind.i64.wrap (s42 + (1 : Int))))))))))))))
   (chkR l20 l20
   (some s9)))
noncomputable def pindex.loop13R (N nn : Nat) (s41 : Int) (y : List Int) (s40 : List Int) (l20 : List (List Int)) (s9 : Int) (s10 : Int) (s42 : Int) : Option pindex.loop13.R := loopF pindex.loop13.ann (mkL [s41] [] [y, s40] [l20]) (evCode ((pindex.C N).inLoop pindex.loop13.ann) (pindex.K N) (inlTab (pindex.C N) 0) (bodyAt 13 Try.f72)) nn (mkL [s9, s10, s42] [] [] [])
theorem pindex.loop13_eq (N : Nat) : ∀ (nn : Nat) (s41 : Int) (y : List Int) (s40 : List Int) (l20 : List (List Int)) (s9 : Int) (s10 : Int) (s42 : Int), pindex.loop13R N nn s41 y s40 l20 s9 s10 s42 = pindex.loop13 N nn s41 y s40 l20 s9 s10 s42
  | 0, _, _, _, _, _, _, _ => by kernel_rfl
  | nn + 1, s41, y, s40, l20, s9, s10, s42 => by
    have h : pindex.loop13R N (nn + 1) s41 y s40 l20 s9 s10 s42 =
  (br (decide (s42 < s41))
   (chk ((0 : Int) ≤ s42 ∧ s42 < ↑s40.length)
   (chk ((0 : Int) ≤ IntKind.i64.wrap (IntKind.i64.wrap (↑y.length - (1 : Int)) - s42) ∧ IntKind.i64.wrap (IntKind.i64.wrap (↑y.length - (1 : Int)) - s42) < ↑l20.length)
   (obind (Rc.psize.F N (s40.getD s42.toNat (0 : Int))) fun r0 =>
   (obind (pindex.loop17R N N s10 r0 (l20.getD (IntKind.i64.wrap (IntKind.i64.wrap (↑y.length - (1 : Int)) - s42)).toNat ([] : List Int)) s9 ((0 : Int))) fun r1 =>
   (obind (Rc.psize.F N (s40.getD s42.toNat (0 : Int))) fun r2 =>
   (br (decide (s40.getD s42.toNat (0 : Int) < (0 : Int)))
   (chk ((0 : Int) ≤ IntKind.i64.wrap (s10 - r2) ∧ IntKind.i64.wrap (s10 - r2) < ↑(l20.getD (IntKind.i64.wrap (IntKind.i64.wrap (↑y.length - (1 : Int)) - s42)).toNat ([] : List Int)).length)
   (chkL y y
   (chkL s40 s40
   (chkI s41 s41
   (chkR l20 l20
   (pindex.loop13R N nn s41 y s40 l20 (IntKind.i64.wrap (r1 + (l20.getD (IntKind.i64.wrap (IntKind.i64.wrap (↑y.length - (1 : Int)) - s42)).toNat ([] : List Int)).getD (IntKind.i64.wrap (s10 - r2)).toNat (0 : Int))) (IntKind.i64.wrap (s10 - r2)) (IntKind.i64.wrap (s42 + (1 : Int)))))))))
   (chkL y y
   (chkL s40 s40
   (chkI s41 s41
   (chkR l20 l20
   (pindex.loop13R N nn s41 y s40 l20 r1 (IntKind.i64.wrap (s10 - r2)) (IntKind.i64.wrap (s42 + (1 : Int))))))))))))))
   (chkR l20 l20
   (some s9))) := by kernel_rfl
    rw [h, pindex.loop13]
    try simp only [pindex.loop13_eq N nn, pindex.loop17_eq N]
noncomputable def pindex.loop5 (N : Nat) : Nat → Int → List Int → Int → Int → Option pindex.loop5.R
  | 0, _, _, _, _ => none
  | nn + 1, s20, s19, s5, s21 =>
  (br (decide (s21 < s20))
   (chk ((0 : Int) ≤ s21 ∧ s21 < ↑s19.length)
   (obind (Rc.psize.F N (s19.getD s21.toNat (0 : Int))) fun r0 =>
   (chkL s19 s19
   (chkI s20 s20
   (pindex.loop5 N nn s20 s19 (IntKind.i64.wrap (s5 + r0)) (IntKind.i64.wrap (s21 + (1 : Int))))))))
   (some s5))
noncomputable def pindex.loop5R (N nn : Nat) (s20 : Int) (s19 : List Int) (s5 : Int) (s21 : Int) : Option pindex.loop5.R := loopF pindex.loop5.ann (mkL [s20] [] [s19] []) (evCode ((pindex.C N).inLoop pindex.loop5.ann) (pindex.K N) (inlTab (pindex.C N) 0) (bodyAt 5 Try.f72)) nn (mkL [s5, s21] [] [] [])
theorem pindex.loop5_eq (N : Nat) : ∀ (nn : Nat) (s20 : Int) (s19 : List Int) (s5 : Int) (s21 : Int), pindex.loop5R N nn s20 s19 s5 s21 = pindex.loop5 N nn s20 s19 s5 s21
  | 0, _, _, _, _ => by kernel_rfl
  | nn + 1, s20, s19, s5, s21 => by
    have h : pindex.loop5R N (nn + 1) s20 s19 s5 s21 =
  (br (decide (s21 < s20))
   (chk ((0 : Int) ≤ s21 ∧ s21 < ↑s19.length)
   (obind (Rc.psize.F N (s19.getD s21.toNat (0 : Int))) fun r0 =>
   (chkL s19 s19
   (chkI s20 s20
   (pindex.loop5R N nn s20 s19 (IntKind.i64.wrap (s5 + r0)) (IntKind.i64.wrap (s21 + (1 : Int))))))))
   (some s5)) := by kernel_rfl
    rw [h, pindex.loop5]
    try simp only [pindex.loop5_eq N nn]
noncomputable def pindex.F (N : Nat) (y : List Int) : Option pindex.R :=
  (obind (Rc.pmay.F N (↑y.length)) fun r0 =>
   (br (!r0)
   (some (((0 : Int), (0 : Int), (1 : Int))))
   (obind (pindex.loop5 N N (↑y.length) y ((0 : Int)) ((0 : Int))) fun r1 =>
   (obind (Rc.pmost.F N (↑y.length)) fun r2 =>
   (br (decide (r1 > r2))
   (some (((0 : Int), (0 : Int), (1 : Int))))
   (obind (Rc.table.F N (↑y.length) r1) fun r3 =>
   (obind (pindex.loop13 N N (↑y.length) y y r3 ((0 : Int)) r1 ((0 : Int))) fun r4 =>
   (some ((r1, r4, (0 : Int)))))))))))
theorem pindex.F_eq (N : Nat) (L : Eng.Leaves) : evSig (pindex.C N) (pindex.K N) 0 Try.f72 pindex.sig L pindex.dec = pindex.F N (L.l 0) := by
  have h : ∀ (y : List Int), evSig (pindex.C N) (pindex.K N) 0 Try.f72 pindex.sig (mkL [] [] [y] []) pindex.dec =
  (obind (Rc.pmay.F N (↑y.length)) fun r0 =>
   (br (!r0)
   (some (((0 : Int), (0 : Int), (1 : Int))))
   (obind (pindex.loop5R N N (↑y.length) y ((0 : Int)) ((0 : Int))) fun r1 =>
   (obind (Rc.pmost.F N (↑y.length)) fun r2 =>
   (br (decide (r1 > r2))
   (some (((0 : Int), (0 : Int), (1 : Int))))
   (obind (Rc.table.F N (↑y.length) r1) fun r3 =>
   (obind (pindex.loop13R N N (↑y.length) y y r3 ((0 : Int)) r1 ((0 : Int))) fun r4 =>
   (some ((r1, r4, (0 : Int))))))))))) := by
    intro y
    kernel_rfl
  have h2 : evSig (pindex.C N) (pindex.K N) 0 Try.f72 pindex.sig L pindex.dec = evSig (pindex.C N) (pindex.K N) 0 Try.f72 pindex.sig (mkL [] [] [L.l 0] []) pindex.dec := by kernel_rfl
  rw [h2, h, pindex.F]
  try simp only [pindex.loop5_eq N, pindex.loop13_eq N, pindex.loop17_eq N]
noncomputable def pindex.spec : Eng.Spec := pindex.sig.spec (fun N L => pindex.F N (L.l 0)) pindex.enc
theorem pindex.cok (N : Nat) : CfgOK (pindex.C N) := ⟨fun _ _ _ _ h => by simp [pindex.C, noRT] at h, wide, by
  simp only [pindex.C, List.mem_cons, List.not_mem_nil, or_false, forall_eq_or_imp, forall_eq, false_imp_iff, implies_true]
  exact ⟨⟨pmay.ok, by kernel_rfl⟩, ⟨psize.ok, by kernel_rfl⟩, ⟨pmost.ok, by kernel_rfl⟩, ⟨table.ok, by kernel_rfl⟩⟩, fun g hg => by simp [pindex.C] at hg, fun m hm => by simp [pindex.C] at hm, fun q hq => by simp [pindex.C] at hq⟩
theorem pindex.aok (N : Nat) : AnnsOK (pindex.K N) := by
  intro q hq
  simp only [pindex.K, List.mem_cons, List.not_mem_nil, or_false] at hq
  rcases hq with rfl | rfl | rfl
  · exact fun _ _ => ⟨rfl, rfl⟩
  · exact fun _ _ => ⟨rfl, rfl⟩
  · exact fun _ _ => ⟨rfl, rfl⟩
theorem pindex.ok : CallOK Try.prog 72 pindex.spec :=
  callOK_of_sig (fn := Try.f72) (Cf := pindex.C) (K := pindex.K) (d := 0) (dec := pindex.dec) (by kernel_rfl) (fun _ => rfl) pindex.cok (fun _ q hq => by simp [pindex.C] at hq) pindex.aok
   (fun N L r h => (pindex.F_eq N L).trans h) (by kernel_rfl) (fun _ => ⟨rfl, rfl⟩) (fun _ _ => ⟨rfl, rfl⟩)
noncomputable def pvector.sig : Eng.Sig := { args := [.at (.int .i64 0), .at (.int .i64 1), .at (.int .i64 2)], n := 0, pre := [], post := [(0, .ints true .i64 0)], m := 1, ret := .tup [(false, [.full 0 false]), (false, [.int .i64 0])] }
noncomputable def pvector.C (N : Nat) : Cfg := { P := Try.prog, N := N, RT := noRT, specs := [(67, pmay.spec), (68, pmost.spec), (71, pcount.spec), (86, table.spec)], inl := [], hi := 0, mv := [] }
abbrev pvector.R : Type := Int × List Int
def pvector.dec (L : Eng.Leaves) : pvector.R := (L.i 0, L.l 0)
def pvector.enc (r : pvector.R) : Eng.Leaves := mkL [r.1] [] [r.2] []
abbrev pvector.loop6.R : Type := Int × Int × List Int
noncomputable def pvector.loop6.ann : Ann := { nx := 20, slots := [(0, .at (.fint .i64 0)), (1, .at (.int .i64 0)), (2, .at (.int .i64 1)), (8, .at (.full 0 false)), (9, .at (.full 1 true)), (44, .at (.fint .i64 1)), (45, .at (.int .i64 2))], blks := [(0, .frecs false ⟨[], some .i64⟩ 0), (1, .ints true .i64 0)], mov := [], exId := 0, xslots := [(8, .at (.full 0 false)), (9, .at (.full 1 true)), (1, .at (.int .i64 0)), (2, .at (.int .i64 1))], xblks := [(0, .frecs false ⟨[], some .i64⟩ 0), (1, .ints true .i64 0)], T := pvector.loop6.R, dec := fun L => (L.i 0, L.i 1, L.l 0), enc := fun r => mkL [r.1, r.2.1] [] [r.2.2] [], ret := false }
abbrev pvector.loop11.R : Type := Int × Int
noncomputable def pvector.loop11.ann : Ann := { nx := 20, slots := [(1, .at (.fint .i64 0)), (2, .at (.int .i64 0)), (11, .at (.froi .i64 0)), (12, .at (.int .i64 1)), (13, .at (.int .i64 2))], blks := [], mov := [], exId := 2, xslots := [(2, .at (.int .i64 0)), (12, .at (.int .i64 1))], xblks := [], T := pvector.loop11.R, dec := fun L => (L.i 0, L.i 1), enc := fun r => mkL [r.1, r.2] [] [] [], ret := false }
noncomputable def pvector.K (N : Nat) : FCfg := { anns := [(6, pvector.loop6.ann), (11, pvector.loop11.ann)], unr := [], lits := [], lets := [] }
noncomputable def pvector.loop11 (N : Nat) : Nat → Int → List Int → Int → Int → Int → Option pvector.loop11.R
  | 0, _, _, _, _, _ => none
  | nn + 1, k, s11, i, s12, s13 =>
  (br (decide (i ≥ s13))
   (chk ((0 : Int) ≤ IntKind.i64.wrap (k - IntKind.i64.wrap (s12 + (1 : Int))) ∧ IntKind.i64.wrap (k - IntKind.i64.wrap (s12 + (1 : Int))) < ↑s11.length)
   (chkI k k
   (chkL s11 s11
   (pvector.loop11 N nn k s11 (IntKind.i64.wrap (i - s13)) (IntKind.i64.wrap (s12 + (1 : Int))) (IntKind.i64.wrap ((2 : Int) * s11.getD (IntKind.i64.wrap (k - IntKind.i64.wrap (s12 + (1 : Int)))).toNat (0 : Int)))))))
   (some ((i, s12))))
noncomputable def pvector.loop11R (N nn : Nat) (k : Int) (s11 : List Int) (i : Int) (s12 : Int) (s13 : Int) : Option pvector.loop11.R := loopF pvector.loop11.ann (mkL [k] [] [s11] []) (evCode ((pvector.C N).inLoop pvector.loop11.ann) (pvector.K N) (inlTab (pvector.C N) 0) (bodyAt 11 Try.f69)) nn (mkL [i, s12, s13] [] [] [])
theorem pvector.loop11_eq (N : Nat) : ∀ (nn : Nat) (k : Int) (s11 : List Int) (i : Int) (s12 : Int) (s13 : Int), pvector.loop11R N nn k s11 i s12 s13 = pvector.loop11 N nn k s11 i s12 s13
  | 0, _, _, _, _, _ => by kernel_rfl
  | nn + 1, k, s11, i, s12, s13 => by
    have h : pvector.loop11R N (nn + 1) k s11 i s12 s13 =
  (br (decide (i ≥ s13))
   (chk ((0 : Int) ≤ IntKind.i64.wrap (k - IntKind.i64.wrap (s12 + (1 : Int))) ∧ IntKind.i64.wrap (k - IntKind.i64.wrap (s12 + (1 : Int))) < ↑s11.length)
   (chkI k k
   (chkL s11 s11
   (pvector.loop11R N nn k s11 (IntKind.i64.wrap (i - s13)) (IntKind.i64.wrap (s12 + (1 : Int))) (IntKind.i64.wrap ((2 : Int) * s11.getD (IntKind.i64.wrap (k - IntKind.i64.wrap (s12 + (1 : Int)))).toNat (0 : Int)))))))
   (some ((i, s12)))) := by kernel_rfl
    rw [h, pvector.loop11]
    try simp only [pvector.loop11_eq N nn]
noncomputable def pvector.loop6 (N : Nat) : Nat → Int → Int → List (List Int) → Int → Int → Int → List Int → Option pvector.loop6.R
  | 0, _, _, _, _, _, _, _ => none
  | nn + 1, n, s44, l0, k, i, s45, l1 =>
  (br (decide (s45 < s44))
   (chk ((0 : Int) ≤ IntKind.i64.wrap (IntKind.i64.wrap (n - (1 : Int)) - s45) ∧ IntKind.i64.wrap (IntKind.i64.wrap (n - (1 : Int)) - s45) < ↑l0.length)
   (chk ((0 : Int) ≤ k ∧ k < ↑(l0.getD (IntKind.i64.wrap (IntKind.i64.wrap (n - (1 : Int)) - s45)).toNat ([] : List Int)).length)
   (obind (pvector.loop11 N N k (l0.getD (IntKind.i64.wrap (IntKind.i64.wrap (n - (1 : Int)) - s45)).toNat ([] : List Int)) i ((0 : Int)) ((l0.getD (IntKind.i64.wrap (IntKind.i64.wrap (n - (1 : Int)) - s45)).toNat ([] : List Int)).getD k.toNat (0 : Int))) fun r0 =>
   (chk ((0 : Int) ≤ s45 ∧ s45 < ↑l1.length)
   (br (decide (r0.snd > (0 : Int)))
   (chk ((0 : Int) ≤ IntKind.i64.wrap (k - r0.snd) ∧ IntKind.i64.wrap (k - r0.snd) < ↑(l0.getD (IntKind.i64.wrap (IntKind.i64.wrap (n - (1 : Int)) - s45)).toNat ([] : List Int)).length)
   (br (decide (r0.fst ≥ (l0.getD (IntKind.i64.wrap (IntKind.i64.wrap (n - (1 : Int)) - s45)).toNat ([] : List Int)).getD (IntKind.i64.wrap (k - r0.snd)).toNat (0 : Int)))
   (chk ((0 : Int) ≤ IntKind.i64.wrap (k - r0.snd) ∧ IntKind.i64.wrap (k - r0.snd) < ↑(l0.getD (IntKind.i64.wrap (IntKind.i64.wrap (n - (1 : Int)) - s45)).toNat ([] : List Int)).length)
   (chk ((0 : Int) ≤ s45 ∧ s45 < ↑(l1.set s45.toNat r0.snd).length)
   (chk ((0 : Int) ≤ s45 ∧ s45 < ↑(l1.set s45.toNat r0.snd).length)
   (chkI n n
   (chkI s44 s44
   (chkR l0 l0
   (pvector.loop6 N nn n s44 l0 (IntKind.i64.wrap (k - r0.snd)) (IntKind.i64.wrap (r0.fst - (l0.getD (IntKind.i64.wrap (IntKind.i64.wrap (n - (1 : Int)) - s45)).toNat ([] : List Int)).getD (IntKind.i64.wrap (k - r0.snd)).toNat (0 : Int))) (IntKind.i64.wrap (s45 + (1 : Int))) ((l1.set s45.toNat r0.snd).set s45.toNat (IntKind.i64.wrap ((0 : Int) - (l1.set s45.toNat r0.snd).getD s45.toNat (0 : Int)))))))))))
   (chkI n n
   (chkI s44 s44
   (chkR l0 l0
   (pvector.loop6 N nn n s44 l0 (IntKind.i64.wrap (k - r0.snd)) r0.fst (IntKind.i64.wrap (s45 + (1 : Int))) (l1.set s45.toNat r0.snd)))))))
   (chkI n n
   (chkI s44 s44
   (chkR l0 l0
   (pvector.loop6 N nn n s44 l0 (IntKind.i64.wrap (k - r0.snd)) r0.fst (IntKind.i64.wrap (s45 + (1 : Int))) (l1.set s45.toNat r0.snd))))))))))
   (chkR l0 l0
   (some ((k, i, l1)))))
noncomputable def pvector.loop6R (N nn : Nat) (n : Int) (s44 : Int) (l0 : List (List Int)) (k : Int) (i : Int) (s45 : Int) (l1 : List Int) : Option pvector.loop6.R := loopF pvector.loop6.ann (mkL [n, s44] [] [] [l0]) (evCode ((pvector.C N).inLoop pvector.loop6.ann) (pvector.K N) (inlTab (pvector.C N) 0) (bodyAt 6 Try.f69)) nn (mkL [k, i, s45] [] [l1] [])
theorem pvector.loop6_eq (N : Nat) : ∀ (nn : Nat) (n : Int) (s44 : Int) (l0 : List (List Int)) (k : Int) (i : Int) (s45 : Int) (l1 : List Int), pvector.loop6R N nn n s44 l0 k i s45 l1 = pvector.loop6 N nn n s44 l0 k i s45 l1
  | 0, _, _, _, _, _, _, _ => by kernel_rfl
  | nn + 1, n, s44, l0, k, i, s45, l1 => by
    have h : pvector.loop6R N (nn + 1) n s44 l0 k i s45 l1 =
  (br (decide (s45 < s44))
   (chk ((0 : Int) ≤ IntKind.i64.wrap (IntKind.i64.wrap (n - (1 : Int)) - s45) ∧ IntKind.i64.wrap (IntKind.i64.wrap (n - (1 : Int)) - s45) < ↑l0.length)
   (chk ((0 : Int) ≤ k ∧ k < ↑(l0.getD (IntKind.i64.wrap (IntKind.i64.wrap (n - (1 : Int)) - s45)).toNat ([] : List Int)).length)
   (obind (pvector.loop11R N N k (l0.getD (IntKind.i64.wrap (IntKind.i64.wrap (n - (1 : Int)) - s45)).toNat ([] : List Int)) i ((0 : Int)) ((l0.getD (IntKind.i64.wrap (IntKind.i64.wrap (n - (1 : Int)) - s45)).toNat ([] : List Int)).getD k.toNat (0 : Int))) fun r0 =>
   (chk ((0 : Int) ≤ s45 ∧ s45 < ↑l1.length)
   (br (decide (r0.snd > (0 : Int)))
   (chk ((0 : Int) ≤ IntKind.i64.wrap (k - r0.snd) ∧ IntKind.i64.wrap (k - r0.snd) < ↑(l0.getD (IntKind.i64.wrap (IntKind.i64.wrap (n - (1 : Int)) - s45)).toNat ([] : List Int)).length)
   (br (decide (r0.fst ≥ (l0.getD (IntKind.i64.wrap (IntKind.i64.wrap (n - (1 : Int)) - s45)).toNat ([] : List Int)).getD (IntKind.i64.wrap (k - r0.snd)).toNat (0 : Int)))
   (chk ((0 : Int) ≤ IntKind.i64.wrap (k - r0.snd) ∧ IntKind.i64.wrap (k - r0.snd) < ↑(l0.getD (IntKind.i64.wrap (IntKind.i64.wrap (n - (1 : Int)) - s45)).toNat ([] : List Int)).length)
   (chk ((0 : Int) ≤ s45 ∧ s45 < ↑(l1.set s45.toNat r0.snd).length)
   (chk ((0 : Int) ≤ s45 ∧ s45 < ↑(l1.set s45.toNat r0.snd).length)
   (chkI n n
   (chkI s44 s44
   (chkR l0 l0
   (pvector.loop6R N nn n s44 l0 (IntKind.i64.wrap (k - r0.snd)) (IntKind.i64.wrap (r0.fst - (l0.getD (IntKind.i64.wrap (IntKind.i64.wrap (n - (1 : Int)) - s45)).toNat ([] : List Int)).getD (IntKind.i64.wrap (k - r0.snd)).toNat (0 : Int))) (IntKind.i64.wrap (s45 + (1 : Int))) ((l1.set s45.toNat r0.snd).set s45.toNat (IntKind.i64.wrap ((0 : Int) - (l1.set s45.toNat r0.snd).getD s45.toNat (0 : Int)))))))))))
   (chkI n n
   (chkI s44 s44
   (chkR l0 l0
   (pvector.loop6R N nn n s44 l0 (IntKind.i64.wrap (k - r0.snd)) r0.fst (IntKind.i64.wrap (s45 + (1 : Int))) (l1.set s45.toNat r0.snd)))))))
   (chkI n n
   (chkI s44 s44
   (chkR l0 l0
   (pvector.loop6R N nn n s44 l0 (IntKind.i64.wrap (k - r0.snd)) r0.fst (IntKind.i64.wrap (s45 + (1 : Int))) (l1.set s45.toNat r0.snd))))))))))
   (chkR l0 l0
   (some ((k, i, l1))))) := by kernel_rfl
    rw [h, pvector.loop6]
    try simp only [pvector.loop6_eq N nn, pvector.loop11_eq N]
noncomputable def pvector.F (N : Nat) (n : Int) (k : Int) (i : Int) : Option pvector.R :=
  (obind (Rc.pmay.F N n) fun r0 =>
   (br (!r0)
   (some (((1 : Int), ([] : List Int))))
   (br (decide (k < (0 : Int)))
   (some (((1 : Int), ([] : List Int))))
   (obind (Rc.pmost.F N n) fun r1 =>
   (br (decide (k > r1))
   (some (((1 : Int), ([] : List Int))))
   (br (decide (i < (0 : Int)))
   (some (((1 : Int), ([] : List Int))))
   (obind (Rc.pcount.F N n k) fun r2 =>
   (br (decide (i ≥ r2))
   (some (((1 : Int), ([] : List Int))))
   (obind (Rc.table.F N n k) fun r3 =>
   (chk ((0 : Int) ≤ n ∧ n ≤ n ∧ n ≤ ↑(17592186043904 : Nat))
   (obind (pvector.loop6 N N n (↑(List.replicate n.toNat (0 : Int)).length) r3 k i ((0 : Int)) (List.replicate n.toNat (0 : Int))) fun r4 =>
   (some (((0 : Int), r4.snd.snd))))))))))))))
theorem pvector.F_eq (N : Nat) (L : Eng.Leaves) : evSig (pvector.C N) (pvector.K N) 0 Try.f69 pvector.sig L pvector.dec = pvector.F N (L.i 0) (L.i 1) (L.i 2) := by
  have h : ∀ (n : Int) (k : Int) (i : Int), evSig (pvector.C N) (pvector.K N) 0 Try.f69 pvector.sig (mkL [n, k, i] [] [] []) pvector.dec =
  (obind (Rc.pmay.F N n) fun r0 =>
   (br (!r0)
   (some (((1 : Int), ([] : List Int))))
   (br (decide (k < (0 : Int)))
   (some (((1 : Int), ([] : List Int))))
   (obind (Rc.pmost.F N n) fun r1 =>
   (br (decide (k > r1))
   (some (((1 : Int), ([] : List Int))))
   (br (decide (i < (0 : Int)))
   (some (((1 : Int), ([] : List Int))))
   (obind (Rc.pcount.F N n k) fun r2 =>
   (br (decide (i ≥ r2))
   (some (((1 : Int), ([] : List Int))))
   (obind (Rc.table.F N n k) fun r3 =>
   (chk ((0 : Int) ≤ n ∧ n ≤ n ∧ n ≤ ↑(17592186043904 : Nat))
   (obind (pvector.loop6R N N n (↑(List.replicate n.toNat (0 : Int)).length) r3 k i ((0 : Int)) (List.replicate n.toNat (0 : Int))) fun r4 =>
   (some (((0 : Int), r4.snd.snd)))))))))))))) := by
    intro n k i
    kernel_rfl
  have h2 : evSig (pvector.C N) (pvector.K N) 0 Try.f69 pvector.sig L pvector.dec = evSig (pvector.C N) (pvector.K N) 0 Try.f69 pvector.sig (mkL [L.i 0, L.i 1, L.i 2] [] [] []) pvector.dec := by kernel_rfl
  rw [h2, h, pvector.F]
  try simp only [pvector.loop6_eq N, pvector.loop11_eq N]
noncomputable def pvector.spec : Eng.Spec := pvector.sig.spec (fun N L => pvector.F N (L.i 0) (L.i 1) (L.i 2)) pvector.enc
theorem pvector.cok (N : Nat) : CfgOK (pvector.C N) := ⟨fun _ _ _ _ h => by simp [pvector.C, noRT] at h, wide, by
  simp only [pvector.C, List.mem_cons, List.not_mem_nil, or_false, forall_eq_or_imp, forall_eq, false_imp_iff, implies_true]
  exact ⟨⟨pmay.ok, by kernel_rfl⟩, ⟨pmost.ok, by kernel_rfl⟩, ⟨pcount.ok, by kernel_rfl⟩, ⟨table.ok, by kernel_rfl⟩⟩, fun g hg => by simp [pvector.C] at hg, fun m hm => by simp [pvector.C] at hm, fun q hq => by simp [pvector.C] at hq⟩
theorem pvector.aok (N : Nat) : AnnsOK (pvector.K N) := by
  intro q hq
  simp only [pvector.K, List.mem_cons, List.not_mem_nil, or_false] at hq
  rcases hq with rfl | rfl
  · exact fun _ _ => ⟨rfl, rfl⟩
  · exact fun _ _ => ⟨rfl, rfl⟩
theorem pvector.ok : CallOK Try.prog 69 pvector.spec :=
  callOK_of_sig (fn := Try.f69) (Cf := pvector.C) (K := pvector.K) (d := 0) (dec := pvector.dec) (by kernel_rfl) (fun _ => rfl) pvector.cok (fun _ q hq => by simp [pvector.C] at hq) pvector.aok
   (fun N L r h => (pvector.F_eq N L).trans h) (by kernel_rfl) (fun _ => ⟨rfl, rfl⟩) (fun _ _ => ⟨rfl, rfl⟩)
noncomputable def pread.sig : Eng.Sig := { args := [.at (.ptr 0 0), .at (.int .i64 0), .at (.int .i64 1)], n := 2, pre := [(0, .cells 10 [.full 1 false, .int .u64 2, .int .u64 3, .int .u64 4, .int .i64 5, .int .i64 6, .int .u64 7, .int .i64 8, .int .i64 9, .bool 0]), (1, .ints false .u8 0)], post := [(0, .cells 10 [.full 1 false, .int .u64 1, .int .u64 2, .int .u64 3, .int .i64 4, .int .i64 5, .int .u64 6, .int .i64 7, .int .i64 8, .bool 0]), (1, .fints false .u8 0), (2, .ints true .i64 0)], m := 1, ret := .tup [(false, [.full 2 false]), (false, [.int .i64 0])] }
noncomputable def pread.C (N : Nat) : Cfg := { P := Try.prog, N := N, RT := noRT, specs := [(67, pmay.spec), (68, pmost.spec), (71, pcount.spec), (70, uint.spec), (69, pvector.spec)], inl := [], hi := 2, mv := [] }
abbrev pread.R : Type := Int × Int × Int × Int × Int × Int × Int × Int × Int × Bool × List Int
def pread.dec (L : Eng.Leaves) : pread.R := (L.i 0, L.i 1, L.i 2, L.i 3, L.i 4, L.i 5, L.i 6, L.i 7, L.i 8, L.b 0, L.l 0)
def pread.enc (r : pread.R) : Eng.Leaves := mkL [r.1, r.2.1, r.2.2.1, r.2.2.2.1, r.2.2.2.2.1, r.2.2.2.2.2.1, r.2.2.2.2.2.2.1, r.2.2.2.2.2.2.2.1, r.2.2.2.2.2.2.2.2.1] [r.2.2.2.2.2.2.2.2.2.1] [r.2.2.2.2.2.2.2.2.2.2] []
noncomputable def pread.K (N : Nat) : FCfg := { anns := [], unr := [], lits := [], lets := [] }
noncomputable def pread.F (N : Nat) (n : Int) (k : Int) (rng : Int) (val : Int) (last : Int) (front : Int) (back : Int) (window : Int) (waiting : Int) (count : Int) (bad : Bool) (b : List Int) : Option pread.R :=
  (obind (Rc.pmay.F N n) fun r0 =>
   (br (!r0)
   (chkL b b
   (some (((1 : Int), rng, val, last, front, back, window, waiting, count, bad, ([] : List Int)))))
   (br (decide (k < (0 : Int)))
   (chkL b b
   (some (((1 : Int), rng, val, last, front, back, window, waiting, count, bad, ([] : List Int)))))
   (obind (Rc.pmost.F N n) fun r1 =>
   (br (decide (k > r1))
   (chkL b b
   (some (((1 : Int), rng, val, last, front, back, window, waiting, count, bad, ([] : List Int)))))
   (obind (Rc.pcount.F N n k) fun r2 =>
   (obind (Rc.uint.F N r2 rng val last front back window waiting count bad b) fun r3 =>
   (obind (Rc.pvector.F N n k r3.fst) fun r4 =>
   (chkL b b
   (some ((r4.fst, r3.snd.fst, r3.snd.snd.fst, r3.snd.snd.snd.fst, r3.snd.snd.snd.snd.fst, r3.snd.snd.snd.snd.snd.fst, r3.snd.snd.snd.snd.snd.snd.fst, r3.snd.snd.snd.snd.snd.snd.snd.fst, r3.snd.snd.snd.snd.snd.snd.snd.snd.fst, r3.snd.snd.snd.snd.snd.snd.snd.snd.snd, r4.snd))))))))))))
theorem pread.F_eq (N : Nat) (L : Eng.Leaves) : evSig (pread.C N) (pread.K N) 0 Try.f35 pread.sig L pread.dec = pread.F N (L.i 0) (L.i 1) (L.i 2) (L.i 3) (L.i 4) (L.i 5) (L.i 6) (L.i 7) (L.i 8) (L.i 9) (L.b 0) (L.l 0) := by
  kernel_rfl
noncomputable def pread.spec : Eng.Spec := pread.sig.spec (fun N L => pread.F N (L.i 0) (L.i 1) (L.i 2) (L.i 3) (L.i 4) (L.i 5) (L.i 6) (L.i 7) (L.i 8) (L.i 9) (L.b 0) (L.l 0)) pread.enc
theorem pread.cok (N : Nat) : CfgOK (pread.C N) := ⟨fun _ _ _ _ h => by simp [pread.C, noRT] at h, wide, by
  simp only [pread.C, List.mem_cons, List.not_mem_nil, or_false, forall_eq_or_imp, forall_eq, false_imp_iff, implies_true]
  exact ⟨⟨pmay.ok, by kernel_rfl⟩, ⟨pmost.ok, by kernel_rfl⟩, ⟨pcount.ok, by kernel_rfl⟩, ⟨uint.ok, by kernel_rfl⟩, ⟨pvector.ok, by kernel_rfl⟩⟩, fun g hg => by simp [pread.C] at hg, fun m hm => by simp [pread.C] at hm, fun q hq => by simp [pread.C] at hq⟩
theorem pread.aok (N : Nat) : AnnsOK (pread.K N) := by
  intro q hq
  simp only [pread.K, List.mem_cons, List.not_mem_nil, or_false] at hq
theorem pread.ok : CallOK Try.prog 35 pread.spec :=
  callOK_of_sig (fn := Try.f35) (Cf := pread.C) (K := pread.K) (d := 0) (dec := pread.dec) (by kernel_rfl) (fun _ => rfl) pread.cok (fun _ q hq => by simp [pread.C] at hq) pread.aok
   (fun N L r h => (pread.F_eq N L).trans h) (by kernel_rfl) (fun _ => ⟨rfl, rfl⟩) (fun _ _ => ⟨rfl, rfl⟩)
noncomputable def pwrite.sig : Eng.Sig := { args := [.at (.ptr 0 0), .at (.roi .i64 0)], n := 3, pre := [(0, .cells 6 [.full 1 false, .int .u64 0, .int .u64 1, .full 2 false, .int .i64 2, .int .i64 3]), (1, .ints true .u8 1), (2, .ints true .u8 2)], post := [(0, .cells 6 [.full 3 false, .int .u64 1, .int .u64 2, .full 4 false, .int .i64 3, .int .i64 4]), (1, .dead), (2, .dead), (3, .ints true .u8 0), (4, .ints true .u8 1)], m := 2, ret := .at (.int .i64 0) }
noncomputable def pwrite.C (N : Nat) : Cfg := { P := Try.prog, N := N, RT := noRT, specs := [(72, pindex.spec), (71, pcount.spec), (73, euint.spec)], inl := [], hi := 3, mv := [] }
abbrev pwrite.R : Type := Int × Int × Int × Int × Int × List Int × List Int
def pwrite.dec (L : Eng.Leaves) : pwrite.R := (L.i 0, L.i 1, L.i 2, L.i 3, L.i 4, L.l 0, L.l 1)
def pwrite.enc (r : pwrite.R) : Eng.Leaves := mkL [r.1, r.2.1, r.2.2.1, r.2.2.2.1, r.2.2.2.2.1] [] [r.2.2.2.2.2.1, r.2.2.2.2.2.2] []
noncomputable def pwrite.K (N : Nat) : FCfg := { anns := [], unr := [], lits := [], lets := [] }
noncomputable def pwrite.F (N : Nat) (val : Int) (rng : Int) (rawBits : Int) (count : Int) (y : List Int) (told : List Int) (raw : List Int) : Option pwrite.R :=
  (obind (Rc.pindex.F N y) fun r0 =>
   (br (r0.snd.snd != (0 : Int))
   (some ((r0.snd.snd, val, rng, rawBits, count, told, raw)))
   (obind (Rc.pcount.F N (↑y.length) r0.fst) fun r1 =>
   (obind (Rc.euint.F N r0.snd.fst r1 val rng rawBits count told raw) fun r2 =>
   (some ((r2.fst, r2.snd.fst, r2.snd.snd.fst, r2.snd.snd.snd.fst, r2.snd.snd.snd.snd.fst, r2.snd.snd.snd.snd.snd.fst, r2.snd.snd.snd.snd.snd.snd)))))))
theorem pwrite.F_eq (N : Nat) (L : Eng.Leaves) : evSig (pwrite.C N) (pwrite.K N) 0 Try.f42 pwrite.sig L pwrite.dec = pwrite.F N (L.i 0) (L.i 1) (L.i 2) (L.i 3) (L.l 0) (L.l 1) (L.l 2) := by
  kernel_rfl
noncomputable def pwrite.spec : Eng.Spec := pwrite.sig.spec (fun N L => pwrite.F N (L.i 0) (L.i 1) (L.i 2) (L.i 3) (L.l 0) (L.l 1) (L.l 2)) pwrite.enc
theorem pwrite.cok (N : Nat) : CfgOK (pwrite.C N) := ⟨fun _ _ _ _ h => by simp [pwrite.C, noRT] at h, wide, by
  simp only [pwrite.C, List.mem_cons, List.not_mem_nil, or_false, forall_eq_or_imp, forall_eq, false_imp_iff, implies_true]
  exact ⟨⟨pindex.ok, by kernel_rfl⟩, ⟨pcount.ok, by kernel_rfl⟩, ⟨euint.ok, by kernel_rfl⟩⟩, fun g hg => by simp [pwrite.C] at hg, fun m hm => by simp [pwrite.C] at hm, fun q hq => by simp [pwrite.C] at hq⟩
theorem pwrite.aok (N : Nat) : AnnsOK (pwrite.K N) := by
  intro q hq
  simp only [pwrite.K, List.mem_cons, List.not_mem_nil, or_false] at hq
theorem pwrite.ok : CallOK Try.prog 42 pwrite.spec :=
  callOK_of_sig (fn := Try.f42) (Cf := pwrite.C) (K := pwrite.K) (d := 0) (dec := pwrite.dec) (by kernel_rfl) (fun _ => rfl) pwrite.cok (fun _ q hq => by simp [pwrite.C] at hq) pwrite.aok
   (fun N L r h => (pwrite.F_eq N L).trans h) (by kernel_rfl) (fun _ => ⟨rfl, rfl⟩) (fun _ _ => ⟨rfl, rfl⟩)
noncomputable def pnear.sig : Eng.Sig := { args := [.at (.roi .i64 0), .at (.int .i64 0)], n := 0, pre := [], post := [(0, .ints true .i64 0)], m := 1, ret := .tup [(false, [.full 0 false]), (false, [.int .i64 0])] }
noncomputable def pnear.C (N : Nat) : Cfg := { P := Try.prog, N := N, RT := noRT, specs := [(67, pmay.spec), (68, pmost.spec), (43, clamp.spec)], inl := [], hi := 0, mv := [] }
abbrev pnear.R : Type := Int × List Int
def pnear.dec (L : Eng.Leaves) : pnear.R := (L.i 0, L.l 0)
def pnear.enc (r : pnear.R) : Eng.Leaves := mkL [r.1] [] [r.2] []
abbrev pnear.loop6.R : Type := Int × List Int
noncomputable def pnear.loop6.ann : Ann := { nx := 20, slots := [(6, .at (.full 2 true)), (8, .at (.int .i64 0)), (40, .at (.froi .i64 0)), (41, .at (.fint .i64 0)), (42, .at (.int .i64 1))], blks := [(2, .ints true .i64 0)], mov := [], exId := 0, xslots := [(6, .at (.full 2 true)), (8, .at (.int .i64 0))], xblks := [(2, .ints true .i64 0)], T := pnear.loop6.R, dec := fun L => (L.i 0, L.l 0), enc := fun r => mkL [r.1] [] [r.2] [], ret := false }
abbrev pnear.loop17.R : Type := Int × List Int
noncomputable def pnear.loop17.ann : Ann := { nx := 20, slots := [(1, .at (.fint .i64 0)), (7, .at (.full 5 true)), (8, .at (.fint .i64 1)), (11, .at (.int .i64 0)), (70, .at (.full 2 true)), (71, .at (.fint .i64 2)), (72, .at (.int .i64 1))], blks := [(2, .fints true .i64 0), (5, .ints true .i64 0)], mov := [], exId := 2, xslots := [(7, .at (.full 5 true)), (70, .at (.full 2 true)), (11, .at (.int .i64 0))], xblks := [(2, .fints true .i64 0), (5, .ints true .i64 0)], T := pnear.loop17.R, dec := fun L => (L.i 0, L.l 0), enc := fun r => mkL [r.1] [] [r.2] [], ret := false }
abbrev pnear.loop22.R : Type := Int × List Int
noncomputable def pnear.loop22.ann : Ann := { nx := 20, slots := [(1, .at (.fint .i64 0)), (6, .at (.full 2 true)), (7, .at (.full 5 true)), (8, .at (.fint .i64 1)), (11, .at (.int .i64 0))], blks := [(2, .fints true .i64 0), (5, .ints true .i64 0)], mov := [], exId := 4, xslots := [(6, .at (.full 2 true)), (7, .at (.full 5 true)), (11, .at (.int .i64 0))], xblks := [(2, .fints true .i64 0), (5, .ints true .i64 0)], T := pnear.loop22.R, dec := fun L => (L.i 0, L.l 0), enc := fun r => mkL [r.1] [] [r.2] [], ret := false }
abbrev pnear.loop33.R : Type := List Int
noncomputable def pnear.loop33.ann : Ann := { nx := 20, slots := [(7, .at (.full 5 true)), (135, .at (.froi .i64 0)), (136, .at (.fint .i64 0)), (137, .at (.int .i64 0))], blks := [(5, .ints true .i64 0)], mov := [], exId := 8, xslots := [(7, .at (.full 5 true))], xblks := [(5, .ints true .i64 0)], T := pnear.loop33.R, dec := fun L => (L.l 0), enc := fun r => mkL [] [] [r] [], ret := false }
abbrev pnear.loop26.R : Type := Int
noncomputable def pnear.loop26.ann : Ann := { nx := 20, slots := [(1, .at (.fint .i64 0)), (6, .at (.full 2 true)), (7, .at (.full 5 true)), (8, .at (.fint .i64 1)), (14, .at (.int .i64 0)), (96, .at (.full 2 true)), (97, .at (.fint .i64 2)), (98, .at (.int .i64 1))], blks := [(2, .fints true .i64 0), (5, .fints true .i64 1)], mov := [], exId := 6, xslots := [(6, .at (.full 2 true)), (7, .at (.full 5 true)), (96, .at (.full 2 true)), (14, .at (.int .i64 0))], xblks := [(2, .fints true .i64 0), (5, .fints true .i64 1)], T := pnear.loop26.R, dec := fun L => (L.i 0), enc := fun r => mkL [r] [] [] [], ret := false }
noncomputable def pnear.K (N : Nat) : FCfg := { anns := [(6, pnear.loop6.ann), (17, pnear.loop17.ann), (22, pnear.loop22.ann), (33, pnear.loop33.ann), (26, pnear.loop26.ann)], unr := [], lits := [], lets := [], mks := [36, 39] }
noncomputable def pnear.loop33 (N : Nat) : Nat → Int → List Int → Int → List Int → Option pnear.loop33.R
  | 0, _, _, _, _ => none
  | nn + 1, s136, s135, s137, l5 =>
  (br (decide (s137 < s136))
   (chk ((0 : Int) ≤ s137 ∧ s137 < ↑s135.length)
   (br (decide (s135.getD s137.toNat (0 : Int) < (0 : Int)))
   (chk ((0 : Int) ≤ s137 ∧ s137 < ↑l5.length)
   (chk ((0 : Int) ≤ s137 ∧ s137 < ↑l5.length)
   (chkL s135 s135
   (chkI s136 s136
   (pnear.loop33 N nn s136 s135 (IntKind.i64.wrap (s137 + (1 : Int))) (l5.set s137.toNat (IntKind.i64.wrap ((0 : Int) - l5.getD s137.toNat (0 : Int)))))))))
   (chkL s135 s135
   (chkI s136 s136
   (pnear.loop33 N nn s136 s135 (IntKind.i64.wrap (s137 + (1 : Int))) l5)))))
   (some l5))
noncomputable def pnear.loop33R (N nn : Nat) (s136 : Int) (s135 : List Int) (s137 : Int) (l5 : List Int) : Option pnear.loop33.R := loopF pnear.loop33.ann (mkL [s136] [] [s135] []) (evCode ((pnear.C N).inLoop pnear.loop33.ann) (pnear.K N) (inlTab (pnear.C N) 0) (bodyAt 33 Try.f41)) nn (mkL [s137] [] [l5] [])
theorem pnear.loop33_eq (N : Nat) : ∀ (nn : Nat) (s136 : Int) (s135 : List Int) (s137 : Int) (l5 : List Int), pnear.loop33R N nn s136 s135 s137 l5 = pnear.loop33 N nn s136 s135 s137 l5
  | 0, _, _, _, _ => by kernel_rfl
  | nn + 1, s136, s135, s137, l5 => by
    have h : pnear.loop33R N (nn + 1) s136 s135 s137 l5 =
  (br (decide (s137 < s136))
   (chk ((0 : Int) ≤ s137 ∧ s137 < ↑s135.length)
   (br (decide (s135.getD s137.toNat (0 : Int) < (0 : Int)))
   (chk ((0 : Int) ≤ s137 ∧ s137 < ↑l5.length)
   (chk ((0 : Int) ≤ s137 ∧ s137 < ↑l5.length)
   (chkL s135 s135
   (chkI s136 s136
   (pnear.loop33R N nn s136 s135 (IntKind.i64.wrap (s137 + (1 : Int))) (l5.set s137.toNat (IntKind.i64.wrap ((0 : Int) - l5.getD s137.toNat (0 : Int)))))))))
   (chkL s135 s135
   (chkI s136 s136
   (pnear.loop33R N nn s136 s135 (IntKind.i64.wrap (s137 + (1 : Int))) l5)))))
   (some l5)) := by kernel_rfl
    rw [h, pnear.loop33]
    try simp only [pnear.loop33_eq N nn]
noncomputable def pnear.loop26 (N : Nat) : Nat → Int → Int → Int → List Int → List Int → Int → Int → Option pnear.loop26.R
  | 0, _, _, _, _, _, _, _ => none
  | nn + 1, k, s8, s97, l2, l5, s14, s98 =>
  (br (decide (s98 < s97))
   (chk ((0 : Int) ≤ s98 ∧ s98 < ↑l2.length)
   (chk ((0 : Int) ≤ s98 ∧ s98 < ↑l5.length)
   (chk ((0 : Int) ≤ s14 ∧ s14 < ↑l2.length)
   (chk ((0 : Int) ≤ s14 ∧ s14 < ↑l5.length)
   (br (decide (IntKind.i64.wrap (IntKind.i64.wrap (l2.getD s98.toNat (0 : Int) * k) - IntKind.i64.wrap (s8 * l5.getD s98.toNat (0 : Int))) > IntKind.i64.wrap (IntKind.i64.wrap (l2.getD s14.toNat (0 : Int) * k) - IntKind.i64.wrap (s8 * l5.getD s14.toNat (0 : Int)))))
   (chkI k k
   (chkI s8 s8
   (chkI s97 s97
   (chkL l2 l2
   (chkL l5 l5
   (pnear.loop26 N nn k s8 s97 l2 l5 s98 (IntKind.i64.wrap (s98 + (1 : Int)))))))))
   (chkI k k
   (chkI s8 s8
   (chkI s97 s97
   (chkL l2 l2
   (chkL l5 l5
   (pnear.loop26 N nn k s8 s97 l2 l5 s14 (IntKind.i64.wrap (s98 + (1 : Int))))))))))))))
   (chkL l2 l2
   (chkL l5 l5
   (some s14))))
noncomputable def pnear.loop26R (N nn : Nat) (k : Int) (s8 : Int) (s97 : Int) (l2 : List Int) (l5 : List Int) (s14 : Int) (s98 : Int) : Option pnear.loop26.R := loopF pnear.loop26.ann (mkL [k, s8, s97] [] [l2, l5] []) (evCode ((pnear.C N).inLoop pnear.loop26.ann) (pnear.K N) (inlTab (pnear.C N) 0) (bodyAt 26 Try.f41)) nn (mkL [s14, s98] [] [] [])
theorem pnear.loop26_eq (N : Nat) : ∀ (nn : Nat) (k : Int) (s8 : Int) (s97 : Int) (l2 : List Int) (l5 : List Int) (s14 : Int) (s98 : Int), pnear.loop26R N nn k s8 s97 l2 l5 s14 s98 = pnear.loop26 N nn k s8 s97 l2 l5 s14 s98
  | 0, _, _, _, _, _, _, _ => by kernel_rfl
  | nn + 1, k, s8, s97, l2, l5, s14, s98 => by
    have h : pnear.loop26R N (nn + 1) k s8 s97 l2 l5 s14 s98 =
  (br (decide (s98 < s97))
   (chk ((0 : Int) ≤ s98 ∧ s98 < ↑l2.length)
   (chk ((0 : Int) ≤ s98 ∧ s98 < ↑l5.length)
   (chk ((0 : Int) ≤ s14 ∧ s14 < ↑l2.length)
   (chk ((0 : Int) ≤ s14 ∧ s14 < ↑l5.length)
   (br (decide (IntKind.i64.wrap (IntKind.i64.wrap (l2.getD s98.toNat (0 : Int) * k) - IntKind.i64.wrap (s8 * l5.getD s98.toNat (0 : Int))) > IntKind.i64.wrap (IntKind.i64.wrap (l2.getD s14.toNat (0 : Int) * k) - IntKind.i64.wrap (s8 * l5.getD s14.toNat (0 : Int)))))
   (chkI k k
   (chkI s8 s8
   (chkI s97 s97
   (chkL l2 l2
   (chkL l5 l5
   (pnear.loop26R N nn k s8 s97 l2 l5 s98 (IntKind.i64.wrap (s98 + (1 : Int)))))))))
   (chkI k k
   (chkI s8 s8
   (chkI s97 s97
   (chkL l2 l2
   (chkL l5 l5
   (pnear.loop26R N nn k s8 s97 l2 l5 s14 (IntKind.i64.wrap (s98 + (1 : Int))))))))))))))
   (chkL l2 l2
   (chkL l5 l5
   (some s14)))) := by kernel_rfl
    rw [h, pnear.loop26]
    try simp only [pnear.loop26_eq N nn]
noncomputable def pnear.loop22 (N : Nat) : Nat → Int → Int → List Int → Int → List Int → Option pnear.loop22.R
  | 0, _, _, _, _, _ => none
  | nn + 1, k, s8, l2, s11, l5 =>
  (br (decide (s11 > (0 : Int)))
   (obind (pnear.loop26 N N k s8 (↑l2.length) l2 l5 ((0 : Int)) ((0 : Int))) fun r0 =>
   (chk ((0 : Int) ≤ r0 ∧ r0 < ↑l5.length)
   (chk ((0 : Int) ≤ r0 ∧ r0 < ↑l5.length)
   (chkI k k
   (chkI s8 s8
   (chkL l2 l2
   (pnear.loop22 N nn k s8 l2 (IntKind.i64.wrap (s11 - (1 : Int))) (l5.set r0.toNat (IntKind.i64.wrap (l5.getD r0.toNat (0 : Int) + (1 : Int)))))))))))
   (chkL l2 l2
   (some ((s11, l5)))))
noncomputable def pnear.loop22R (N nn : Nat) (k : Int) (s8 : Int) (l2 : List Int) (s11 : Int) (l5 : List Int) : Option pnear.loop22.R := loopF pnear.loop22.ann (mkL [k, s8] [] [l2] []) (evCode ((pnear.C N).inLoop pnear.loop22.ann) (pnear.K N) (inlTab (pnear.C N) 0) (bodyAt 22 Try.f41)) nn (mkL [s11] [] [l5] [])
theorem pnear.loop22_eq (N : Nat) : ∀ (nn : Nat) (k : Int) (s8 : Int) (l2 : List Int) (s11 : Int) (l5 : List Int), pnear.loop22R N nn k s8 l2 s11 l5 = pnear.loop22 N nn k s8 l2 s11 l5
  | 0, _, _, _, _, _ => by kernel_rfl
  | nn + 1, k, s8, l2, s11, l5 => by
    have h : pnear.loop22R N (nn + 1) k s8 l2 s11 l5 =
  (br (decide (s11 > (0 : Int)))
   (obind (pnear.loop26R N N k s8 (↑l2.length) l2 l5 ((0 : Int)) ((0 : Int))) fun r0 =>
   (chk ((0 : Int) ≤ r0 ∧ r0 < ↑l5.length)
   (chk ((0 : Int) ≤ r0 ∧ r0 < ↑l5.length)
   (chkI k k
   (chkI s8 s8
   (chkL l2 l2
   (pnear.loop22R N nn k s8 l2 (IntKind.i64.wrap (s11 - (1 : Int))) (l5.set r0.toNat (IntKind.i64.wrap (l5.getD r0.toNat (0 : Int) + (1 : Int)))))))))))
   (chkL l2 l2
   (some ((s11, l5))))) := by kernel_rfl
    rw [h, pnear.loop22]
    try simp only [pnear.loop22_eq N nn, pnear.loop26_eq N]
noncomputable def pnear.loop17 (N : Nat) : Nat → Int → Int → Int → List Int → Int → Int → List Int → Option pnear.loop17.R
  | 0, _, _, _, _, _, _, _ => none
  | nn + 1, k, s8, s71, l2, s11, s72, l5 =>
  (br (decide (s72 < s71))
   (chk ((0 : Int) ≤ s72 ∧ s72 < ↑l2.length)
   (chk (s8 ≠ (0 : Int))
   (chk ((0 : Int) ≤ s72 ∧ s72 < ↑l5.length)
   (chk ((0 : Int) ≤ s72 ∧ s72 < ↑(l5.set s72.toNat (IntKind.i64.wrap ((IntKind.i64.wrap (k * l2.getD s72.toNat (0 : Int))).tdiv s8))).length)
   (chkI k k
   (chkI s8 s8
   (chkI s71 s71
   (chkL l2 l2
   (pnear.loop17 N nn k s8 s71 l2 (IntKind.i64.wrap (s11 - (l5.set s72.toNat (IntKind.i64.wrap ((IntKind.i64.wrap (k * l2.getD s72.toNat (0 : Int))).tdiv s8))).getD s72.toNat (0 : Int))) (IntKind.i64.wrap (s72 + (1 : Int))) (l5.set s72.toNat (IntKind.i64.wrap ((IntKind.i64.wrap (k * l2.getD s72.toNat (0 : Int))).tdiv s8))))))))))))
   (chkL l2 l2
   (some ((s11, l5)))))
noncomputable def pnear.loop17R (N nn : Nat) (k : Int) (s8 : Int) (s71 : Int) (l2 : List Int) (s11 : Int) (s72 : Int) (l5 : List Int) : Option pnear.loop17.R := loopF pnear.loop17.ann (mkL [k, s8, s71] [] [l2] []) (evCode ((pnear.C N).inLoop pnear.loop17.ann) (pnear.K N) (inlTab (pnear.C N) 0) (bodyAt 17 Try.f41)) nn (mkL [s11, s72] [] [l5] [])
theorem pnear.loop17_eq (N : Nat) : ∀ (nn : Nat) (k : Int) (s8 : Int) (s71 : Int) (l2 : List Int) (s11 : Int) (s72 : Int) (l5 : List Int), pnear.loop17R N nn k s8 s71 l2 s11 s72 l5 = pnear.loop17 N nn k s8 s71 l2 s11 s72 l5
  | 0, _, _, _, _, _, _, _ => by kernel_rfl
  | nn + 1, k, s8, s71, l2, s11, s72, l5 => by
    have h : pnear.loop17R N (nn + 1) k s8 s71 l2 s11 s72 l5 =
  (br (decide (s72 < s71))
   (chk ((0 : Int) ≤ s72 ∧ s72 < ↑l2.length)
   (chk (s8 ≠ (0 : Int))
   (chk ((0 : Int) ≤ s72 ∧ s72 < ↑l5.length)
   (chk ((0 : Int) ≤ s72 ∧ s72 < ↑(l5.set s72.toNat (IntKind.i64.wrap ((IntKind.i64.wrap (k * l2.getD s72.toNat (0 : Int))).tdiv s8))).length)
   (chkI k k
   (chkI s8 s8
   (chkI s71 s71
   (chkL l2 l2
   (pnear.loop17R N nn k s8 s71 l2 (IntKind.i64.wrap (s11 - (l5.set s72.toNat (IntKind.i64.wrap ((IntKind.i64.wrap (k * l2.getD s72.toNat (0 : Int))).tdiv s8))).getD s72.toNat (0 : Int))) (IntKind.i64.wrap (s72 + (1 : Int))) (l5.set s72.toNat (IntKind.i64.wrap ((IntKind.i64.wrap (k * l2.getD s72.toNat (0 : Int))).tdiv s8))))))))))))
   (chkL l2 l2
   (some ((s11, l5))))) := by kernel_rfl
    rw [h, pnear.loop17]
    try simp only [pnear.loop17_eq N nn]
noncomputable def pnear.loop6 (N : Nat) : Nat → Int → List Int → Int → Int → List Int → Option pnear.loop6.R
  | 0, _, _, _, _, _ => none
  | nn + 1, s41, s40, s8, s42, l2 =>
  (br (decide (s42 < s41))
   (chk ((0 : Int) ≤ s42 ∧ s42 < ↑s40.length)
   (obind (Rc.clamp.F N (s40.getD s42.toNat (0 : Int)) ((-16777216 : Int)) ((16777216 : Int))) fun r0 =>
   (chk ((0 : Int) ≤ s42 ∧ s42 < ↑l2.length)
   (chk ((0 : Int) ≤ s42 ∧ s42 < ↑(l2.set s42.toNat (if IntKind.i64.wrap ((0 : Int) - r0) > r0 then IntKind.i64.wrap ((0 : Int) - r0) else r0)).length)
   (chkL s40 s40
   (chkI s41 s41
   (pnear.loop6 N nn s41 s40 (IntKind.i64.wrap (s8 + (l2.set s42.toNat (if IntKind.i64.wrap ((0 : Int) - r0) > r0 then IntKind.i64.wrap ((0 : Int) - r0) else r0)).getD s42.toNat (0 : Int))) (IntKind.i64.wrap (s42 + (1 : Int))) (l2.set s42.toNat (if IntKind.i64.wrap ((0 : Int) - r0) > r0 then IntKind.i64.wrap ((0 : Int) - r0) else r0)))))))))
   (some ((s8, l2))))
noncomputable def pnear.loop6R (N nn : Nat) (s41 : Int) (s40 : List Int) (s8 : Int) (s42 : Int) (l2 : List Int) : Option pnear.loop6.R := loopF pnear.loop6.ann (mkL [s41] [] [s40] []) (evCode ((pnear.C N).inLoop pnear.loop6.ann) (pnear.K N) (inlTab (pnear.C N) 0) (bodyAt 6 Try.f41)) nn (mkL [s8, s42] [] [l2] [])
theorem pnear.loop6_eq (N : Nat) : ∀ (nn : Nat) (s41 : Int) (s40 : List Int) (s8 : Int) (s42 : Int) (l2 : List Int), pnear.loop6R N nn s41 s40 s8 s42 l2 = pnear.loop6 N nn s41 s40 s8 s42 l2
  | 0, _, _, _, _, _ => by kernel_rfl
  | nn + 1, s41, s40, s8, s42, l2 => by
    have h : pnear.loop6R N (nn + 1) s41 s40 s8 s42 l2 =
  (br (decide (s42 < s41))
   (chk ((0 : Int) ≤ s42 ∧ s42 < ↑s40.length)
   (obind (Rc.clamp.F N (s40.getD s42.toNat (0 : Int)) ((-16777216 : Int)) ((16777216 : Int))) fun r0 =>
   (chk ((0 : Int) ≤ s42 ∧ s42 < ↑l2.length)
   (chk ((0 : Int) ≤ s42 ∧ s42 < ↑(l2.set s42.toNat (if IntKind.i64.wrap ((0 : Int) - r0) > r0 then IntKind.i64.wrap ((0 : Int) - r0) else r0)).length)
   (chkL s40 s40
   (chkI s41 s41
   (pnear.loop6R N nn s41 s40 (IntKind.i64.wrap (s8 + (l2.set s42.toNat (if IntKind.i64.wrap ((0 : Int) - r0) > r0 then IntKind.i64.wrap ((0 : Int) - r0) else r0)).getD s42.toNat (0 : Int))) (IntKind.i64.wrap (s42 + (1 : Int))) (l2.set s42.toNat (if IntKind.i64.wrap ((0 : Int) - r0) > r0 then IntKind.i64.wrap ((0 : Int) - r0) else r0)))))))))
   (some ((s8, l2)))) := by kernel_rfl
    rw [h, pnear.loop6]
    try simp only [pnear.loop6_eq N nn]
noncomputable def pnear.F (N : Nat) (k : Int) (x : List Int) : Option pnear.R :=
  (obind (Rc.pmay.F N (↑x.length)) fun r0 =>
   (br (!r0)
   (some (((1 : Int), ([] : List Int))))
   (br (decide (k < (0 : Int)))
   (some (((1 : Int), ([] : List Int))))
   (obind (Rc.pmost.F N (↑x.length)) fun r1 =>
   (br (decide (k > r1))
   (some (((1 : Int), ([] : List Int))))
   (chk ((0 : Int) ≤ ↑x.length ∧ (x.length : Int) ≤ ↑x.length ∧ (x.length : Int) ≤ ↑(17592186043904 : Nat))
   (chk ((0 : Int) ≤ ↑x.length ∧ (x.length : Int) ≤ ↑x.length ∧ (x.length : Int) ≤ ↑(17592186043904 : Nat))
   (obind (pnear.loop6 N N (↑x.length) x ((0 : Int)) ((0 : Int)) (List.replicate (↑x.length : Int).toNat (0 : Int))) fun r2 =>
   (br (r2.fst == (0 : Int))
   (chk ((0 : Int) ≤ (0 : Int) ∧ (0 : Int) < ↑(List.replicate (↑x.length : Int).toNat (0 : Int)).length)
   (some (((0 : Int), (List.replicate (↑x.length : Int).toNat (0 : Int)).set (Int.toNat (0 : Int)) k))))
   (obind (pnear.loop17 N N k r2.fst (↑r2.snd.length) r2.snd k ((0 : Int)) (List.replicate (↑x.length : Int).toNat (0 : Int))) fun r3 =>
   (obind (pnear.loop22 N N k r2.fst r2.snd r3.fst r3.snd) fun r4 =>
   (obind (pnear.loop33 N N (↑x.length) x ((0 : Int)) r4.snd) fun r5 =>
   (some (((0 : Int), r5)))))))))))))))
theorem pnear.F_eq (N : Nat) (L : Eng.Leaves) : evSig (pnear.C N) (pnear.K N) 0 Try.f41 pnear.sig L pnear.dec = pnear.F N (L.i 0) (L.l 0) := by
  have h : ∀ (k : Int) (x : List Int), evSig (pnear.C N) (pnear.K N) 0 Try.f41 pnear.sig (mkL [k] [] [x] []) pnear.dec =
  (obind (Rc.pmay.F N (↑x.length)) fun r0 =>
   (br (!r0)
   (some (((1 : Int), ([] : List Int))))
   (br (decide (k < (0 : Int)))
   (some (((1 : Int), ([] : List Int))))
   (obind (Rc.pmost.F N (↑x.length)) fun r1 =>
   (br (decide (k > r1))
   (some (((1 : Int), ([] : List Int))))
   (chk ((0 : Int) ≤ ↑x.length ∧ (x.length : Int) ≤ ↑x.length ∧ (x.length : Int) ≤ ↑(17592186043904 : Nat))
   (chk ((0 : Int) ≤ ↑x.length ∧ (x.length : Int) ≤ ↑x.length ∧ (x.length : Int) ≤ ↑(17592186043904 : Nat))
   (obind (pnear.loop6R N N (↑x.length) x ((0 : Int)) ((0 : Int)) (List.replicate (↑x.length : Int).toNat (0 : Int))) fun r2 =>
   (br (r2.fst == (0 : Int))
   (chk ((0 : Int) ≤ (0 : Int) ∧ (0 : Int) < ↑(List.replicate (↑x.length : Int).toNat (0 : Int)).length)
   (some (((0 : Int), (List.replicate (↑x.length : Int).toNat (0 : Int)).set (Int.toNat (0 : Int)) k))))
   (obind (pnear.loop17R N N k r2.fst (↑r2.snd.length) r2.snd k ((0 : Int)) (List.replicate (↑x.length : Int).toNat (0 : Int))) fun r3 =>
   (obind (pnear.loop22R N N k r2.fst r2.snd r3.fst r3.snd) fun r4 =>
   (obind (pnear.loop33R N N (↑x.length) x ((0 : Int)) r4.snd) fun r5 =>
   (some (((0 : Int), r5))))))))))))))) := by
    intro k x
    kernel_rfl
  have h2 : evSig (pnear.C N) (pnear.K N) 0 Try.f41 pnear.sig L pnear.dec = evSig (pnear.C N) (pnear.K N) 0 Try.f41 pnear.sig (mkL [L.i 0] [] [L.l 0] []) pnear.dec := by kernel_rfl
  rw [h2, h, pnear.F]
  try simp only [pnear.loop6_eq N, pnear.loop17_eq N, pnear.loop22_eq N, pnear.loop33_eq N, pnear.loop26_eq N]
noncomputable def pnear.spec : Eng.Spec := pnear.sig.spec (fun N L => pnear.F N (L.i 0) (L.l 0)) pnear.enc
theorem pnear.cok (N : Nat) : CfgOK (pnear.C N) := ⟨fun _ _ _ _ h => by simp [pnear.C, noRT] at h, wide, by
  simp only [pnear.C, List.mem_cons, List.not_mem_nil, or_false, forall_eq_or_imp, forall_eq, false_imp_iff, implies_true]
  exact ⟨⟨pmay.ok, by kernel_rfl⟩, ⟨pmost.ok, by kernel_rfl⟩, ⟨clamp.ok, by kernel_rfl⟩⟩, fun g hg => by simp [pnear.C] at hg, fun m hm => by simp [pnear.C] at hm, fun q hq => by simp [pnear.C] at hq⟩
theorem pnear.aok (N : Nat) : AnnsOK (pnear.K N) := by
  intro q hq
  simp only [pnear.K, List.mem_cons, List.not_mem_nil, or_false] at hq
  rcases hq with rfl | rfl | rfl | rfl | rfl
  · exact fun _ _ => ⟨rfl, rfl⟩
  · exact fun _ _ => ⟨rfl, rfl⟩
  · exact fun _ _ => ⟨rfl, rfl⟩
  · exact fun _ _ => ⟨rfl, rfl⟩
  · exact fun _ _ => ⟨rfl, rfl⟩
theorem pnear.ok : CallOK Try.prog 41 pnear.spec :=
  callOK_of_sig (fn := Try.f41) (Cf := pnear.C) (K := pnear.K) (d := 0) (dec := pnear.dec) (by kernel_rfl) (fun _ => rfl) pnear.cok (fun _ q hq => by simp [pnear.C] at hq) pnear.aok
   (fun N L r h => (pnear.F_eq N L).trans h) (by kernel_rfl) (fun _ => ⟨rfl, rfl⟩) (fun _ _ => ⟨rfl, rfl⟩)
noncomputable def qcount.sig : Eng.Sig := { args := [.at (.int .i64 0), .at (.int .i64 1)], n := 0, pre := [], post := [], m := 0, ret := .at (.int .i64 0) }
noncomputable def qcount.C (N : Nat) : Cfg := { P := Try.prog, N := N, RT := noRT, specs := [], inl := [], hi := 0, mv := [] }
abbrev qcount.R : Type := Int
def qcount.dec (L : Eng.Leaves) : qcount.R := (L.i 0)
def qcount.enc (r : qcount.R) : Eng.Leaves := mkL [r] [] [] []
abbrev qcount.loop6.R : Type := List Int
noncomputable def qcount.loop6.ann : Ann := { nx := 20, slots := [(0, .at (.fint .i64 0)), (1, .at (.fint .i64 1)), (5, .at (.full 0 false)), (6, .at (.int .i64 0))], blks := [(0, .ints true .i64 0)], mov := [0], exId := 0, xslots := [(5, .at (.full 0 false))], xblks := [(0, .ints true .i64 0)], T := qcount.loop6.R, dec := fun L => (L.l 0), enc := fun r => mkL [] [] [r] [], ret := false }
abbrev qcount.loop11.R : Type := List Int
noncomputable def qcount.loop11.ann : Ann := { nx := 21, slots := [(1, .at (.fint .i64 0)), (5, .at (.full 0 false)), (7, .at (.full 20 true)), (8, .at (.int .i64 0))], blks := [(0, .fints true .i64 0), (20, .ints true .i64 0)], mov := [], exId := 2, xslots := [(5, .at (.full 0 false)), (7, .at (.full 20 true))], xblks := [(0, .fints true .i64 0), (20, .ints true .i64 0)], T := qcount.loop11.R, dec := fun L => (L.l 0), enc := fun r => mkL [] [] [r] [], ret := false }
noncomputable def qcount.K (N : Nat) : FCfg := { anns := [(6, qcount.loop6.ann), (11, qcount.loop11.ann)], unr := [], lits := [], lets := [] }
noncomputable def qcount.loop11 (N : Nat) : Nat → Int → List Int → Int → List Int → Option qcount.loop11.R
  | 0, _, _, _, _ => none
  | nn + 1, k, l0, s8, l20 =>
  (br (decide (s8 ≤ k))
   (chk ((0 : Int) ≤ s8 ∧ s8 < ↑l0.length)
   (chk ((0 : Int) ≤ IntKind.i64.wrap (s8 - (1 : Int)) ∧ IntKind.i64.wrap (s8 - (1 : Int)) < ↑l20.length)
   (chk ((0 : Int) ≤ IntKind.i64.wrap (s8 - (1 : Int)) ∧ IntKind.i64.wrap (s8 - (1 : Int)) < ↑l0.length)
   (chk ((0 : Int) ≤ s8 ∧ s8 < ↑l20.length)
   (chk ((0 : Int) ≤ s8 ∧ s8 < ↑(l20.set s8.toNat (IntKind.i64.wrap (IntKind.i64.wrap (l0.getD s8.toNat (0 : Int) + l20.getD (IntKind.i64.wrap (s8 - (1 : Int))).toNat (0 : Int)) + l0.getD (IntKind.i64.wrap (s8 - (1 : Int))).toNat (0 : Int)))).length)
   (br (decide ((l20.set s8.toNat (IntKind.i64.wrap (IntKind.i64.wrap (l0.getD s8.toNat (0 : Int) + l20.getD (IntKind.i64.wrap (s8 - (1 : Int))).toNat (0 : Int)) + l0.getD (IntKind.i64.wrap (s8 - (1 : Int))).toNat (0 : Int)))).getD s8.toNat (0 : Int) > (4294967296 : Int)))
   (chk ((0 : Int) ≤ s8 ∧ s8 < ↑(l20.set s8.toNat (IntKind.i64.wrap (IntKind.i64.wrap (l0.getD s8.toNat (0 : Int) + l20.getD (IntKind.i64.wrap (s8 - (1 : Int))).toNat (0 : Int)) + l0.getD (IntKind.i64.wrap (s8 - (1 : Int))).toNat (0 : Int)))).length)
   (chkI k k
   (chkL l0 l0
   (qcount.loop11 N nn k l0 (IntKind.i64.wrap (s8 + (1 : Int))) ((l20.set s8.toNat (IntKind.i64.wrap (IntKind.i64.wrap (l0.getD s8.toNat (0 : Int) + l20.getD (IntKind.i64.wrap (s8 - (1 : Int))).toNat (0 : Int)) + l0.getD (IntKind.i64.wrap (s8 - (1 : Int))).toNat (0 : Int)))).set s8.toNat (4294967296 : Int))))))
   (chkI k k
   (chkL l0 l0
   (qcount.loop11 N nn k l0 (IntKind.i64.wrap (s8 + (1 : Int))) (l20.set s8.toNat (IntKind.i64.wrap (IntKind.i64.wrap (l0.getD s8.toNat (0 : Int) + l20.getD (IntKind.i64.wrap (s8 - (1 : Int))).toNat (0 : Int)) + l0.getD (IntKind.i64.wrap (s8 - (1 : Int))).toNat (0 : Int)))))))))))))
   (chkL l0 l0
   (some l20)))
noncomputable def qcount.loop11R (N nn : Nat) (k : Int) (l0 : List Int) (s8 : Int) (l20 : List Int) : Option qcount.loop11.R := loopF qcount.loop11.ann (mkL [k] [] [l0] []) (evCode ((qcount.C N).inLoop qcount.loop11.ann) (qcount.K N) (inlTab (qcount.C N) 0) (bodyAt 11 Try.f60)) nn (mkL [s8] [] [l20] [])
theorem qcount.loop11_eq (N : Nat) : ∀ (nn : Nat) (k : Int) (l0 : List Int) (s8 : Int) (l20 : List Int), qcount.loop11R N nn k l0 s8 l20 = qcount.loop11 N nn k l0 s8 l20
  | 0, _, _, _, _ => by kernel_rfl
  | nn + 1, k, l0, s8, l20 => by
    have h : qcount.loop11R N (nn + 1) k l0 s8 l20 =
  (br (decide (s8 ≤ k))
   (chk ((0 : Int) ≤ s8 ∧ s8 < ↑l0.length)
   (chk ((0 : Int) ≤ IntKind.i64.wrap (s8 - (1 : Int)) ∧ IntKind.i64.wrap (s8 - (1 : Int)) < ↑l20.length)
   (chk ((0 : Int) ≤ IntKind.i64.wrap (s8 - (1 : Int)) ∧ IntKind.i64.wrap (s8 - (1 : Int)) < ↑l0.length)
   (chk ((0 : Int) ≤ s8 ∧ s8 < ↑l20.length)
   (chk ((0 : Int) ≤ s8 ∧ s8 < ↑(l20.set s8.toNat (IntKind.i64.wrap (IntKind.i64.wrap (l0.getD s8.toNat (0 : Int) + l20.getD (IntKind.i64.wrap (s8 - (1 : Int))).toNat (0 : Int)) + l0.getD (IntKind.i64.wrap (s8 - (1 : Int))).toNat (0 : Int)))).length)
   (br (decide ((l20.set s8.toNat (IntKind.i64.wrap (IntKind.i64.wrap (l0.getD s8.toNat (0 : Int) + l20.getD (IntKind.i64.wrap (s8 - (1 : Int))).toNat (0 : Int)) + l0.getD (IntKind.i64.wrap (s8 - (1 : Int))).toNat (0 : Int)))).getD s8.toNat (0 : Int) > (4294967296 : Int)))
   (chk ((0 : Int) ≤ s8 ∧ s8 < ↑(l20.set s8.toNat (IntKind.i64.wrap (IntKind.i64.wrap (l0.getD s8.toNat (0 : Int) + l20.getD (IntKind.i64.wrap (s8 - (1 : Int))).toNat (0 : Int)) + l0.getD (IntKind.i64.wrap (s8 - (1 : Int))).toNat (0 : Int)))).length)
   (chkI k k
   (chkL l0 l0
   (qcount.loop11R N nn k l0 (IntKind.i64.wrap (s8 + (1 : Int))) ((l20.set s8.toNat (IntKind.i64.wrap (IntKind.i64.wrap (l0.getD s8.toNat (0 : Int) + l20.getD (IntKind.i64.wrap (s8 - (1 : Int))).toNat (0 : Int)) + l0.getD (IntKind.i64.wrap (s8 - (1 : Int))).toNat (0 : Int)))).set s8.toNat (4294967296 : Int))))))
   (chkI k k
   (chkL l0 l0
   (qcount.loop11R N nn k l0 (IntKind.i64.wrap (s8 + (1 : Int))) (l20.set s8.toNat (IntKind.i64.wrap (IntKind.i64.wrap (l0.getD s8.toNat (0 : Int) + l20.getD (IntKind.i64.wrap (s8 - (1 : Int))).toNat (0 : Int)) + l0.getD (IntKind.i64.wrap (s8 - (1 : Int))).toNat (0 : Int)))))))))))))
   (chkL l0 l0
   (some l20))) := by kernel_rfl
    rw [h, qcount.loop11]
    try simp only [qcount.loop11_eq N nn]
noncomputable def qcount.loop6 (N : Nat) : Nat → Int → Int → Int → List Int → Option qcount.loop6.R
  | 0, _, _, _, _ => none
  | nn + 1, n, k, s6, l0 =>
  (br (decide (s6 < n))
   (chk ((0 : Int) ≤ IntKind.i64.wrap (k + (1 : Int)) ∧ IntKind.i64.wrap (k + (1 : Int)) ≤ IntKind.i64.wrap (k + (1 : Int)) ∧ IntKind.i64.wrap (k + (1 : Int)) ≤ ↑(17592186043904 : Nat))
   (chk ((0 : Int) ≤ (0 : Int) ∧ (0 : Int) < ↑(List.replicate (IntKind.i64.wrap (k + (1 : Int))).toNat (0 : Int)).length)
   (obind (qcount.loop11 N N k l0 ((1 : Int)) ((List.replicate (IntKind.i64.wrap (k + (1 : Int))).toNat (0 : Int)).set (Int.toNat (0 : Int)) (1 : Int))) fun r0 =>
   (chkI n n
   (chkI k k
   (qcount.loop6 N nn n k (IntKind.i64.wrap (s6 + (1 : Int))) r0))))))
   (some l0))
noncomputable def qcount.loop6R (N nn : Nat) (n : Int) (k : Int) (s6 : Int) (l0 : List Int) : Option qcount.loop6.R := loopF qcount.loop6.ann (mkL [n, k] [] [] []) (evCode ((qcount.C N).inLoop qcount.loop6.ann) (qcount.K N) (inlTab (qcount.C N) 0) (bodyAt 6 Try.f60)) nn (mkL [s6] [] [l0] [])
theorem qcount.loop6_eq (N : Nat) : ∀ (nn : Nat) (n : Int) (k : Int) (s6 : Int) (l0 : List Int), qcount.loop6R N nn n k s6 l0 = qcount.loop6 N nn n k s6 l0
  | 0, _, _, _, _ => by kernel_rfl
  | nn + 1, n, k, s6, l0 => by
    have h : qcount.loop6R N (nn + 1) n k s6 l0 =
  (br (decide (s6 < n))
   (chk ((0 : Int) ≤ IntKind.i64.wrap (k + (1 : Int)) ∧ IntKind.i64.wrap (k + (1 : Int)) ≤ IntKind.i64.wrap (k + (1 : Int)) ∧ IntKind.i64.wrap (k + (1 : Int)) ≤ ↑(17592186043904 : Nat))
   (chk ((0 : Int) ≤ (0 : Int) ∧ (0 : Int) < ↑(List.replicate (IntKind.i64.wrap (k + (1 : Int))).toNat (0 : Int)).length)
   (obind (qcount.loop11R N N k l0 ((1 : Int)) ((List.replicate (IntKind.i64.wrap (k + (1 : Int))).toNat (0 : Int)).set (Int.toNat (0 : Int)) (1 : Int))) fun r0 =>
   (chkI n n
   (chkI k k
   (qcount.loop6R N nn n k (IntKind.i64.wrap (s6 + (1 : Int))) r0))))))
   (some l0)) := by kernel_rfl
    rw [h, qcount.loop6]
    try simp only [qcount.loop6_eq N nn, qcount.loop11_eq N]
noncomputable def qcount.F (N : Nat) (n : Int) (k : Int) : Option qcount.R :=
  (br (decide (n < (1 : Int)))
   (some ((0 : Int)))
   (br (decide (n > (16 : Int)))
   (some ((0 : Int)))
   (br (decide (k < (0 : Int)))
   (some ((0 : Int)))
   (br (decide (k > (64 : Int)))
   (some ((0 : Int)))
   (chk ((0 : Int) ≤ IntKind.i64.wrap (k + (1 : Int)) ∧ IntKind.i64.wrap (k + (1 : Int)) ≤ IntKind.i64.wrap (k + (1 : Int)) ∧ IntKind.i64.wrap (k + (1 : Int)) ≤ ↑(17592186043904 : Nat))
   (chk ((0 : Int) ≤ (0 : Int) ∧ (0 : Int) < ↑(List.replicate (IntKind.i64.wrap (k + (1 : Int))).toNat (0 : Int)).length)
   (obind (qcount.loop6 N N n k ((0 : Int)) ((List.replicate (IntKind.i64.wrap (k + (1 : Int))).toNat (0 : Int)).set (Int.toNat (0 : Int)) (1 : Int))) fun r0 =>
   (chk ((0 : Int) ≤ k ∧ k < ↑r0.length)
   (some (r0.getD k.toNat (0 : Int)))))))))))
theorem qcount.F_eq (N : Nat) (L : Eng.Leaves) : evSig (qcount.C N) (qcount.K N) 0 Try.f60 qcount.sig L qcount.dec = qcount.F N (L.i 0) (L.i 1) := by
  have h : ∀ (n : Int) (k : Int), evSig (qcount.C N) (qcount.K N) 0 Try.f60 qcount.sig (mkL [n, k] [] [] []) qcount.dec =
  (br (decide (n < (1 : Int)))
   (some ((0 : Int)))
   (br (decide (n > (16 : Int)))
   (some ((0 : Int)))
   (br (decide (k < (0 : Int)))
   (some ((0 : Int)))
   (br (decide (k > (64 : Int)))
   (some ((0 : Int)))
   (chk ((0 : Int) ≤ IntKind.i64.wrap (k + (1 : Int)) ∧ IntKind.i64.wrap (k + (1 : Int)) ≤ IntKind.i64.wrap (k + (1 : Int)) ∧ IntKind.i64.wrap (k + (1 : Int)) ≤ ↑(17592186043904 : Nat))
   (chk ((0 : Int) ≤ (0 : Int) ∧ (0 : Int) < ↑(List.replicate (IntKind.i64.wrap (k + (1 : Int))).toNat (0 : Int)).length)
   (obind (qcount.loop6R N N n k ((0 : Int)) ((List.replicate (IntKind.i64.wrap (k + (1 : Int))).toNat (0 : Int)).set (Int.toNat (0 : Int)) (1 : Int))) fun r0 =>
   (chk ((0 : Int) ≤ k ∧ k < ↑r0.length)
   (some (r0.getD k.toNat (0 : Int))))))))))) := by
    intro n k
    kernel_rfl
  have h2 : evSig (qcount.C N) (qcount.K N) 0 Try.f60 qcount.sig L qcount.dec = evSig (qcount.C N) (qcount.K N) 0 Try.f60 qcount.sig (mkL [L.i 0, L.i 1] [] [] []) qcount.dec := by kernel_rfl
  rw [h2, h, qcount.F]
  try simp only [qcount.loop6_eq N, qcount.loop11_eq N]
noncomputable def qcount.spec : Eng.Spec := qcount.sig.spec (fun N L => qcount.F N (L.i 0) (L.i 1)) qcount.enc
theorem qcount.cok (N : Nat) : CfgOK (qcount.C N) := ⟨fun _ _ _ _ h => by simp [qcount.C, noRT] at h, wide, by
  simp only [qcount.C, List.mem_cons, List.not_mem_nil, or_false, forall_eq_or_imp, forall_eq, false_imp_iff, implies_true], fun g hg => by simp [qcount.C] at hg, fun m hm => by simp [qcount.C] at hm, fun q hq => by simp [qcount.C] at hq⟩
theorem qcount.aok (N : Nat) : AnnsOK (qcount.K N) := by
  intro q hq
  simp only [qcount.K, List.mem_cons, List.not_mem_nil, or_false] at hq
  rcases hq with rfl | rfl
  · exact fun _ _ => ⟨rfl, rfl⟩
  · exact fun _ _ => ⟨rfl, rfl⟩
theorem qcount.ok : CallOK Try.prog 60 qcount.spec :=
  callOK_of_sig (fn := Try.f60) (Cf := qcount.C) (K := qcount.K) (d := 0) (dec := qcount.dec) (by kernel_rfl) (fun _ => rfl) qcount.cok (fun _ q hq => by simp [qcount.C] at hq) qcount.aok
   (fun N L r h => (qcount.F_eq N L).trans h) (by kernel_rfl) (fun _ => ⟨rfl, rfl⟩) (fun _ _ => ⟨rfl, rfl⟩)
noncomputable def qmost.sig : Eng.Sig := { args := [.at (.int .i64 0)], n := 0, pre := [], post := [], m := 0, ret := .at (.int .i64 0) }
noncomputable def qmost.C (N : Nat) : Cfg := { P := Try.prog, N := N, RT := noRT, specs := [], inl := [], hi := 0, mv := [] }
abbrev qmost.R : Type := Int
def qmost.dec (L : Eng.Leaves) : qmost.R := (L.i 0)
def qmost.enc (r : qmost.R) : Eng.Leaves := mkL [r] [] [] []
noncomputable def qmost.K (N : Nat) : FCfg := { anns := [], unr := [], lits := [], lets := [] }
noncomputable def qmost.F (N : Nat) (n : Int) : Option qmost.R :=
  (br (decide (n < (1 : Int)))
   (some ((0 : Int)))
   (br (decide (n > (16 : Int)))
   (some ((0 : Int)))
   (chk ((0 : Int) ≤ IntKind.i64.wrap (n - (1 : Int)) ∧ IntKind.i64.wrap (n - (1 : Int)) < ↑[(64 : Int), (64 : Int), (64 : Int), (64 : Int), (64 : Int), (64 : Int), (53 : Int), (36 : Int), (27 : Int), (22 : Int), (18 : Int), (16 : Int), (15 : Int), (13 : Int), (12 : Int), (12 : Int)].length)
   (some ([(64 : Int), (64 : Int), (64 : Int), (64 : Int), (64 : Int), (64 : Int), (53 : Int), (36 : Int), (27 : Int), (22 : Int), (18 : Int), (16 : Int), (15 : Int), (13 : Int), (12 : Int), (12 : Int)].getD (IntKind.i64.wrap (n - (1 : Int))).toNat (0 : Int))))))
theorem qmost.F_eq (N : Nat) (L : Eng.Leaves) : evSig (qmost.C N) (qmost.K N) 0 Try.f76 qmost.sig L qmost.dec = qmost.F N (L.i 0) := by
  kernel_rfl
noncomputable def qmost.spec : Eng.Spec := qmost.sig.spec (fun N L => qmost.F N (L.i 0)) qmost.enc
theorem qmost.cok (N : Nat) : CfgOK (qmost.C N) := ⟨fun _ _ _ _ h => by simp [qmost.C, noRT] at h, wide, by
  simp only [qmost.C, List.mem_cons, List.not_mem_nil, or_false, forall_eq_or_imp, forall_eq, false_imp_iff, implies_true], fun g hg => by simp [qmost.C] at hg, fun m hm => by simp [qmost.C] at hm, fun q hq => by simp [qmost.C] at hq⟩
theorem qmost.aok (N : Nat) : AnnsOK (qmost.K N) := by
  intro q hq
  simp only [qmost.K, List.mem_cons, List.not_mem_nil, or_false] at hq
theorem qmost.ok : CallOK Try.prog 76 qmost.spec :=
  callOK_of_sig (fn := Try.f76) (Cf := qmost.C) (K := qmost.K) (d := 0) (dec := qmost.dec) (by kernel_rfl) (fun _ => rfl) qmost.cok (fun _ q hq => by simp [qmost.C] at hq) qmost.aok
   (fun N L r h => (qmost.F_eq N L).trans h) (by kernel_rfl) (fun _ => ⟨rfl, rfl⟩) (fun _ _ => ⟨rfl, rfl⟩)
noncomputable def qrest.sig : Eng.Sig := { args := [.at (.int .i64 0), .at (.int .i64 1)], n := 0, pre := [], post := [], m := 0, ret := .at (.int .i64 0) }
noncomputable def qrest.C (N : Nat) : Cfg := { P := Try.prog, N := N, RT := noRT, specs := [(60, qcount.spec)], inl := [], hi := 0, mv := [] }
abbrev qrest.R : Type := Int
def qrest.dec (L : Eng.Leaves) : qrest.R := (L.i 0)
def qrest.enc (r : qrest.R) : Eng.Leaves := mkL [r] [] [] []
noncomputable def qrest.K (N : Nat) : FCfg := { anns := [], unr := [], lits := [], lets := [] }
noncomputable def qrest.F (N : Nat) (n : Int) (k : Int) : Option qrest.R :=
  (br (n == (0 : Int))
   (br (k == (0 : Int))
   (some ((1 : Int)))
   (some ((0 : Int))))
   (obind (Rc.qcount.F N n k) fun r0 =>
   (some r0)))
theorem qrest.F_eq (N : Nat) (L : Eng.Leaves) : evSig (qrest.C N) (qrest.K N) 0 Try.f78 qrest.sig L qrest.dec = qrest.F N (L.i 0) (L.i 1) := by
  kernel_rfl
noncomputable def qrest.spec : Eng.Spec := qrest.sig.spec (fun N L => qrest.F N (L.i 0) (L.i 1)) qrest.enc
theorem qrest.cok (N : Nat) : CfgOK (qrest.C N) := ⟨fun _ _ _ _ h => by simp [qrest.C, noRT] at h, wide, by
  simp only [qrest.C, List.mem_cons, List.not_mem_nil, or_false, forall_eq_or_imp, forall_eq, false_imp_iff, implies_true]
  exact ⟨qcount.ok, by kernel_rfl⟩, fun g hg => by simp [qrest.C] at hg, fun m hm => by simp [qrest.C] at hm, fun q hq => by simp [qrest.C] at hq⟩
theorem qrest.aok (N : Nat) : AnnsOK (qrest.K N) := by
  intro q hq
  simp only [qrest.K, List.mem_cons, List.not_mem_nil, or_false] at hq
theorem qrest.ok : CallOK Try.prog 78 qrest.spec :=
  callOK_of_sig (fn := Try.f78) (Cf := qrest.C) (K := qrest.K) (d := 0) (dec := qrest.dec) (by kernel_rfl) (fun _ => rfl) qrest.cok (fun _ q hq => by simp [qrest.C] at hq) qrest.aok
   (fun N L r h => (qrest.F_eq N L).trans h) (by kernel_rfl) (fun _ => ⟨rfl, rfl⟩) (fun _ _ => ⟨rfl, rfl⟩)
noncomputable def qvector.sig : Eng.Sig := { args := [.at (.int .i64 0), .at (.int .i64 1), .at (.int .i64 2)], n := 0, pre := [], post := [(0, .ints true .i64 0)], m := 1, ret := .at (.full 0 false) }
noncomputable def qvector.C (N : Nat) : Cfg := { P := Try.prog, N := N, RT := noRT, specs := [(78, qrest.spec)], inl := [], hi := 0, mv := [] }
abbrev qvector.R : Type := List Int
def qvector.dec (L : Eng.Leaves) : qvector.R := (L.l 0)
def qvector.enc (r : qvector.R) : Eng.Leaves := mkL [] [] [r] []
abbrev qvector.loop3.R : Type := List Int
noncomputable def qvector.loop3.ann : Ann := { nx := 21, slots := [(0, .at (.fint .i64 0)), (1, .at (.int .i64 0)), (2, .at (.int .i64 1)), (7, .at (.full 20 false)), (8, .at (.int .i64 2))], blks := [(20, .ints true .i64 0)], mov := [20], exId := 0, xslots := [(7, .at (.full 20 false))], xblks := [(20, .ints true .i64 0)], T := qvector.loop3.R, dec := fun L => (L.l 0), enc := fun r => mkL [] [] [r] [], ret := false }
abbrev qvector.loop7.R : Type := Int × Int × Int
noncomputable def qvector.loop7.ann : Ann := { nx := 21, slots := [(0, .at (.fint .i64 0)), (1, .at (.fint .i64 1)), (2, .at (.int .i64 0)), (8, .at (.fint .i64 2)), (9, .at (.int .i64 1)), (10, .at (.int .i64 2))], blks := [], mov := [], exId := 2, xslots := [(2, .at (.int .i64 0)), (9, .at (.int .i64 1)), (10, .at (.int .i64 2))], xblks := [], T := qvector.loop7.R, dec := fun L => (L.i 0, L.i 1, L.i 2), enc := fun r => mkL [r.1, r.2.1, r.2.2] [] [] [], ret := false }
noncomputable def qvector.K (N : Nat) : FCfg := { anns := [(3, qvector.loop3.ann), (7, qvector.loop7.ann)], unr := [], lits := [], lets := [] }
noncomputable def qvector.loop7 (N : Nat) : Nat → Int → Int → Int → Int → Int → Int → Option qvector.loop7.R
  | 0, _, _, _, _, _, _ => none
  | nn + 1, n, k, s8, i, s9, s10 =>
  (obind (Rc.qrest.F N (IntKind.i64.wrap (IntKind.i64.wrap (n - s8) - (1 : Int))) (IntKind.i64.wrap (k - s9))) fun r0 =>
   (br (decide (i < r0))
   (some ((i, s9, s10)))
   (br (decide (s9 > (0 : Int)))
   (br (decide (s10 > (0 : Int)))
   (chkI n n
   (chkI k k
   (chkI s8 s8
   (qvector.loop7 N nn n k s8 (IntKind.i64.wrap (i - r0)) s9 ((-1 : Int))))))
   (chkI n n
   (chkI k k
   (chkI s8 s8
   (qvector.loop7 N nn n k s8 (IntKind.i64.wrap (i - r0)) (IntKind.i64.wrap (s9 + (1 : Int))) ((1 : Int)))))))
   (chkI n n
   (chkI k k
   (chkI s8 s8
   (qvector.loop7 N nn n k s8 (IntKind.i64.wrap (i - r0)) (IntKind.i64.wrap (s9 + (1 : Int))) ((1 : Int)))))))))
noncomputable def qvector.loop7R (N nn : Nat) (n : Int) (k : Int) (s8 : Int) (i : Int) (s9 : Int) (s10 : Int) : Option qvector.loop7.R := loopF qvector.loop7.ann (mkL [n, k, s8] [] [] []) (evCode ((qvector.C N).inLoop qvector.loop7.ann) (qvector.K N) (inlTab (qvector.C N) 0) (bodyAt 7 Try.f58)) nn (mkL [i, s9, s10] [] [] [])
theorem qvector.loop7_eq (N : Nat) : ∀ (nn : Nat) (n : Int) (k : Int) (s8 : Int) (i : Int) (s9 : Int) (s10 : Int), qvector.loop7R N nn n k s8 i s9 s10 = qvector.loop7 N nn n k s8 i s9 s10
  | 0, _, _, _, _, _, _ => by kernel_rfl
  | nn + 1, n, k, s8, i, s9, s10 => by
    have h : qvector.loop7R N (nn + 1) n k s8 i s9 s10 =
  (obind (Rc.qrest.F N (IntKind.i64.wrap (IntKind.i64.wrap (n - s8) - (1 : Int))) (IntKind.i64.wrap (k - s9))) fun r0 =>
   (br (decide (i < r0))
   (some ((i, s9, s10)))
   (br (decide (s9 > (0 : Int)))
   (br (decide (s10 > (0 : Int)))
   (chkI n n
   (chkI k k
   (chkI s8 s8
   (qvector.loop7R N nn n k s8 (IntKind.i64.wrap (i - r0)) s9 ((-1 : Int))))))
   (chkI n n
   (chkI k k
   (chkI s8 s8
   (qvector.loop7R N nn n k s8 (IntKind.i64.wrap (i - r0)) (IntKind.i64.wrap (s9 + (1 : Int))) ((1 : Int)))))))
   (chkI n n
   (chkI k k
   (chkI s8 s8
   (qvector.loop7R N nn n k s8 (IntKind.i64.wrap (i - r0)) (IntKind.i64.wrap (s9 + (1 : Int))) ((1 : Int))))))))) := by kernel_rfl
    rw [h, qvector.loop7]
    try simp only [qvector.loop7_eq N nn]
noncomputable def qvector.loop3 (N : Nat) : Nat → Int → Int → Int → Int → List Int → Option qvector.loop3.R
  | 0, _, _, _, _, _ => none
  | nn + 1, n, k, i, s8, s7 =>
  (br (decide (s8 < n))
   (obind (qvector.loop7 N N n k s8 i ((0 : Int)) ((1 : Int))) fun r0 =>
   (chk (s7.length + [IntKind.i64.wrap (r0.snd.snd * r0.snd.fst)].length ≤ (17592186043904 : Nat))
   (chkI n n
   (qvector.loop3 N nn n (IntKind.i64.wrap (k - r0.snd.fst)) r0.fst (IntKind.i64.wrap (s8 + (1 : Int))) (s7 ++ [IntKind.i64.wrap (r0.snd.snd * r0.snd.fst)])))))
   (some s7))
noncomputable def qvector.loop3R (N nn : Nat) (n : Int) (k : Int) (i : Int) (s8 : Int) (s7 : List Int) : Option qvector.loop3.R := loopF qvector.loop3.ann (mkL [n] [] [] []) (evCode ((qvector.C N).inLoop qvector.loop3.ann) (qvector.K N) (inlTab (qvector.C N) 0) (bodyAt 3 Try.f58)) nn (mkL [k, i, s8] [] [s7] [])
theorem qvector.loop3_eq (N : Nat) : ∀ (nn : Nat) (n : Int) (k : Int) (i : Int) (s8 : Int) (s7 : List Int), qvector.loop3R N nn n k i s8 s7 = qvector.loop3 N nn n k i s8 s7
  | 0, _, _, _, _, _ => by kernel_rfl
  | nn + 1, n, k, i, s8, s7 => by
    have h : qvector.loop3R N (nn + 1) n k i s8 s7 =
  (br (decide (s8 < n))
   (obind (qvector.loop7R N N n k s8 i ((0 : Int)) ((1 : Int))) fun r0 =>
   (chk (s7.length + [IntKind.i64.wrap (r0.snd.snd * r0.snd.fst)].length ≤ (17592186043904 : Nat))
   (chkI n n
   (qvector.loop3R N nn n (IntKind.i64.wrap (k - r0.snd.fst)) r0.fst (IntKind.i64.wrap (s8 + (1 : Int))) (s7 ++ [IntKind.i64.wrap (r0.snd.snd * r0.snd.fst)])))))
   (some s7)) := by kernel_rfl
    rw [h, qvector.loop3]
    try simp only [qvector.loop3_eq N nn, qvector.loop7_eq N]
noncomputable def qvector.F (N : Nat) (n : Int) (k : Int) (i : Int) : Option qvector.R :=
  (obind (qvector.loop3 N N n k i ((0 : Int)) (([] : List Int))) fun r0 =>
   (some r0))
theorem qvector.F_eq (N : Nat) (L : Eng.Leaves) : evSig (qvector.C N) (qvector.K N) 0 Try.f58 qvector.sig L qvector.dec = qvector.F N (L.i 0) (L.i 1) (L.i 2) := by
  have h : ∀ (n : Int) (k : Int) (i : Int), evSig (qvector.C N) (qvector.K N) 0 Try.f58 qvector.sig (mkL [n, k, i] [] [] []) qvector.dec =
  (obind (qvector.loop3R N N n k i ((0 : Int)) (([] : List Int))) fun r0 =>
   (some r0)) := by
    intro n k i
    kernel_rfl
  have h2 : evSig (qvector.C N) (qvector.K N) 0 Try.f58 qvector.sig L qvector.dec = evSig (qvector.C N) (qvector.K N) 0 Try.f58 qvector.sig (mkL [L.i 0, L.i 1, L.i 2] [] [] []) qvector.dec := by kernel_rfl
  rw [h2, h, qvector.F]
  try simp only [qvector.loop3_eq N, qvector.loop7_eq N]
noncomputable def qvector.spec : Eng.Spec := qvector.sig.spec (fun N L => qvector.F N (L.i 0) (L.i 1) (L.i 2)) qvector.enc
theorem qvector.cok (N : Nat) : CfgOK (qvector.C N) := ⟨fun _ _ _ _ h => by simp [qvector.C, noRT] at h, wide, by
  simp only [qvector.C, List.mem_cons, List.not_mem_nil, or_false, forall_eq_or_imp, forall_eq, false_imp_iff, implies_true]
  exact ⟨qrest.ok, by kernel_rfl⟩, fun g hg => by simp [qvector.C] at hg, fun m hm => by simp [qvector.C] at hm, fun q hq => by simp [qvector.C] at hq⟩
theorem qvector.aok (N : Nat) : AnnsOK (qvector.K N) := by
  intro q hq
  simp only [qvector.K, List.mem_cons, List.not_mem_nil, or_false] at hq
  rcases hq with rfl | rfl
  · exact fun _ _ => ⟨rfl, rfl⟩
  · exact fun _ _ => ⟨rfl, rfl⟩
theorem qvector.ok : CallOK Try.prog 58 qvector.spec :=
  callOK_of_sig (fn := Try.f58) (Cf := qvector.C) (K := qvector.K) (d := 0) (dec := qvector.dec) (by kernel_rfl) (fun _ => rfl) qvector.cok (fun _ q hq => by simp [qvector.C] at hq) qvector.aok
   (fun N L r h => (qvector.F_eq N L).trans h) (by kernel_rfl) (fun _ => ⟨rfl, rfl⟩) (fun _ _ => ⟨rfl, rfl⟩)
noncomputable def rclamp.sig : Eng.Sig := { args := [.at (.int .i64 0), .at (.int .i64 1), .at (.int .i64 2)], n := 0, pre := [], post := [], m := 0, ret := .at (.int .i64 0) }
noncomputable def rclamp.C (N : Nat) : Cfg := { P := Try.prog, N := N, RT := noRT, specs := [], inl := [], hi := 0, mv := [] }
abbrev rclamp.R : Type := Int
def rclamp.dec (L : Eng.Leaves) : rclamp.R := (L.i 0)
def rclamp.enc (r : rclamp.R) : Eng.Leaves := mkL [r] [] [] []
noncomputable def rclamp.K (N : Nat) : FCfg := { anns := [], unr := [], lits := [], lets := [] }
noncomputable def rclamp.F (N : Nat) (a : Int) (lo : Int) (hi : Int) : Option rclamp.R :=
  (br (decide (a < lo))
   (some lo)
   (br (decide (lo > hi))
   (some lo)
   (br (decide (a > hi))
   (some hi)
   (some a))))
theorem rclamp.F_eq (N : Nat) (L : Eng.Leaves) : evSig (rclamp.C N) (rclamp.K N) 0 Try.f44 rclamp.sig L rclamp.dec = rclamp.F N (L.i 0) (L.i 1) (L.i 2) := by
  kernel_rfl
noncomputable def rclamp.spec : Eng.Spec := rclamp.sig.spec (fun N L => rclamp.F N (L.i 0) (L.i 1) (L.i 2)) rclamp.enc
theorem rclamp.cok (N : Nat) : CfgOK (rclamp.C N) := ⟨fun _ _ _ _ h => by simp [rclamp.C, noRT] at h, wide, by
  simp only [rclamp.C, List.mem_cons, List.not_mem_nil, or_false, forall_eq_or_imp, forall_eq, false_imp_iff, implies_true], fun g hg => by simp [rclamp.C] at hg, fun m hm => by simp [rclamp.C] at hm, fun q hq => by simp [rclamp.C] at hq⟩
theorem rclamp.aok (N : Nat) : AnnsOK (rclamp.K N) := by
  intro q hq
  simp only [rclamp.K, List.mem_cons, List.not_mem_nil, or_false] at hq
theorem rclamp.ok : CallOK Try.prog 44 rclamp.spec :=
  callOK_of_sig (fn := Try.f44) (Cf := rclamp.C) (K := rclamp.K) (d := 0) (dec := rclamp.dec) (by kernel_rfl) (fun _ => rfl) rclamp.cok (fun _ q hq => by simp [rclamp.C] at hq) rclamp.aok
   (fun N L r h => (rclamp.F_eq N L).trans h) (by kernel_rfl) (fun _ => ⟨rfl, rfl⟩) (fun _ _ => ⟨rfl, rfl⟩)
end Go.Proofs.Rc
