/-
  Functions of the program: what each comes to, and its contract (written by a program).
  Conditions: none: each contract is proved for every input of its shape.
-/
import Derived.Test.YtghbobmkkbdhpaaGreatEngRegToEngWords
import Derived.Laws.Externs
import Derived.Test.YtghbobmkkbdhpaaGreatProg
import Derived.Test.YtghbobmkkbdhpaaGreatSpBFns
set_option linter.unusedVariables false
set_option linter.unusedSimpArgs false
namespace Go.Proofs.Rc
noncomputable section
open Go.Eng
set_option maxRecDepth 100000
def spmay.sig : Eng.Sig := { args := [.at (.int .i64 0), .at (.int .i64 1)], n := 0, pre := [], post := [], m := 0, ret := .at (.bool 0) }
def spmay.C (N : Nat) : Cfg := { P := Tryz.prog, N := N, RT := noRT, specs := [(34, torder.spec)], inl := [], hi := 0, mv := [] }
abbrev spmay.R : Type := Bool
def spmay.dec (L : Eng.Leaves) : spmay.R := (L.b 0)
def spmay.enc (r : spmay.R) : Eng.Leaves := mkL [] [r] [] []
def spmay.K (N : Nat) : FCfg := { anns := [], unr := [], lits := [], lets := [] }
def spmay.F (N : Nat) (rate ms : Int) : Option spmay.R :=
  (obind (Rc.torder.F N rate) fun r0 =>
  (br (decide (r0 > (0 : Int)))
  (br (ms == (10 : Int))
  (some true)
  (some (ms == (20 : Int))))
  (some false)))
theorem spmay.F_eq (N : Nat) (L : Eng.Leaves) : evSig (spmay.C N) (spmay.K N) 0 Tryz.f41 spmay.sig L spmay.dec = spmay.F N (L.i 0) (L.i 1) := by
  kernel_rfl
def spmay.spec : Eng.Spec := spmay.sig.spec (fun N L => spmay.F N (L.i 0) (L.i 1)) spmay.enc
theorem spmay.cok (N : Nat) : CfgOK (spmay.C N) := cok0 wide ⟨torder.ok, trivial⟩ (by kernel_rfl) rfl rfl rfl rfl
theorem spmay.aok (N : Nat) : AnnsOK (spmay.K N) := aok1 trivial
theorem spmay.ok : CallOK Tryz.prog 41 spmay.spec := ok0 spmay.cok (fun _ => iok0 rfl) spmay.aok spmay.F_eq (by kernel_rfl) (by kernel_rfl) (fun _ => rfl) (fun _ => ⟨rfl, rfl⟩) fun _ _ => ⟨rfl, rfl⟩
def spbit.sig : Eng.Sig := { args := [.at (.bool 0)], n := 0, pre := [], post := [], m := 0, ret := .at (.int .i64 0) }
def spbit.C (N : Nat) : Cfg := { P := Tryz.prog, N := N, RT := noRT, specs := [], inl := [], hi := 0, mv := [] }
abbrev spbit.R : Type := Int
def spbit.dec (L : Eng.Leaves) : spbit.R := (L.i 0)
def spbit.enc (r : spbit.R) : Eng.Leaves := mkL [r] [] [] []
def spbit.K (N : Nat) : FCfg := { anns := [], unr := [], lits := [], lets := [] }
def spbit.F (N : Nat) (b : Bool) : Option spbit.R :=
  (br b
  (some ((1 : Int)))
  (some ((0 : Int))))
theorem spbit.F_eq (N : Nat) (L : Eng.Leaves) : evSig (spbit.C N) (spbit.K N) 0 Tryz.f54 spbit.sig L spbit.dec = spbit.F N (L.b 0) := by
  kernel_rfl
def spbit.spec : Eng.Spec := spbit.sig.spec (fun N L => spbit.F N (L.b 0)) spbit.enc
theorem spbit.cok (N : Nat) : CfgOK (spbit.C N) := cok0 wide trivial (by kernel_rfl) rfl rfl rfl rfl
theorem spbit.aok (N : Nat) : AnnsOK (spbit.K N) := aok1 trivial
theorem spbit.ok : CallOK Tryz.prog 54 spbit.spec := ok0 spbit.cok (fun _ => iok0 rfl) spbit.aok spbit.F_eq (by kernel_rfl) (by kernel_rfl) (fun _ => rfl) (fun _ => ⟨rfl, rfl⟩) fun _ _ => ⟨rfl, rfl⟩
def spltps.sig : Eng.Sig := { args := [.at (.int .i64 0), .agg [.bool 0, .int .i64 1, .int .i64 2, .roi .i64 0, .int .i64 3, .roi .i64 1, .rro ⟨[.i64, .i64], none, false⟩ 0, .roi .i64 2]], n := 0, pre := [], post := [], m := 0, ret := .at (.bool 0) }
def spltps.C (N : Nat) : Cfg := { P := Tryz.prog, N := N, RT := noRT, specs := [(107, glags.spec), (111, tfilters.spec)], inl := [], hi := 0, mv := [] }
abbrev spltps.R : Type := Bool
def spltps.dec (L : Eng.Leaves) : spltps.R := (L.b 0)
def spltps.enc (r : spltps.R) : Eng.Leaves := mkL [] [r] [] []
abbrev spltps.loop5.R : Type := Bool
def spltps.loop5.ann : Ann := { nx := 20, slots := [(4, .at (.bool 0)), (5, .at (.fint .i64 0)), (6, .at (.fint .i64 1)), (22, .at (.frro ⟨[.i64, .i64], none, false⟩ 0)), (23, .at (.fint .i64 2)), (24, .at (.int .i64 0))], blks := [], mov := [], exId := 0, xslots := [(4, .at (.bool 0))], xblks := [], T := spltps.loop5.R, dec := fun L => (L.b 0), enc := fun r => mkL [] [r] [] [], ret := true }
def spltps.K (N : Nat) : FCfg := { anns := [(5, spltps.loop5.ann)], unr := [], lits := [], lets := [] }
def spltps.loop5 (N : Nat) : Nat → Int → Int → Int → Int → Bool → List Int → List Int → List Int → List (List Int) → Int → Int → Int → List (List Int) → Int → Bool → Option (spltps.loop5.R ⊕ spltps.R)
  | 0, _, _, _, _, _, _, _, _, _, _, _, _, _, _, _ => none
  | nn + 1, e_rate, e_f_Kind, e_f_Lsf_One, e_f_Between, e_f_Fresh, e_f_Lsf_Two, e_f_Gains, e_f_Pulses, e_f_Ltps, s5, s6, s23, s22, s24, s4 =>
  (br (decide (s24 < s23))
  (chk ((0 : Int) ≤ s24 ∧ s24 < ↑s22.length)
  (br (decide ((s22.getD s24.toNat ([] : List Int)).headD (0 : Int) < s5))
  (omap
  (some false) .inr)
  (br (decide ((s22.getD s24.toNat ([] : List Int)).headD (0 : Int) > s6))
  (omap
  (some false) .inr)
  (br (decide ((s22.getD s24.toNat ([] : List Int)).tail.headD (0 : Int) < (0 : Int)))
  (omap
  (some false) .inr)
  (obind (Rc.tfilters.F N) fun r0 =>
  (chkI ((s22.getD s24.toNat ([] : List Int)).tail.headD (0 : Int)) ((s22.getD s24.toNat ([] : List Int)).tail.headD (0 : Int))
  (br (decide ((s22.getD s24.toNat ([] : List Int)).tail.headD (0 : Int) ≥ r0))
  (omap
  (some false) .inr)
  (chkI s5 s5
  (chkI s6 s6
  (chkR s22 s22
  (chkI s23 s23
  (spltps.loop5 N nn e_rate e_f_Kind e_f_Lsf_One e_f_Between e_f_Fresh e_f_Lsf_Two e_f_Gains e_f_Pulses e_f_Ltps s5 s6 s23 s22 (IntKind.i64.wrap (s24 + (1 : Int))) s4))))))))))))
  (some (Sum.inl s4)))
def spltps.loop5R (N nn : Nat) (e_rate e_f_Kind e_f_Lsf_One e_f_Between : Int) (e_f_Fresh : Bool) (e_f_Lsf_Two e_f_Gains e_f_Pulses : List Int) (e_f_Ltps : List (List Int)) (s5 s6 s23 : Int) (s22 : List (List Int)) (s24 : Int) (s4 : Bool) : Option (spltps.loop5.R ⊕ spltps.R) := loopR spltps.loop5.ann (mkL [s5, s6, s23] [] [] [s22]) (evCode ((spltps.C N).inLoop spltps.loop5.ann) (spltps.K N) (inlTab (spltps.C N) 0) (bodyAt 5 Tryz.f73)) (sigKr Tryz.prog Tryz.f73 spltps.sig (mkL [e_rate, e_f_Kind, e_f_Lsf_One, e_f_Between] [e_f_Fresh] [e_f_Lsf_Two, e_f_Gains, e_f_Pulses] [e_f_Ltps]) fun L => (L.b 0)) nn (mkL [s24] [s4] [] [])
theorem spltps.loop5_eq (N : Nat) : ∀ nn, spltps.loop5R N nn = spltps.loop5 N nn
  | 0 => by funext; kernel_rfl
  | nn + 1 => by
    funext; rw [spltps.loop5, ← spltps.loop5_eq N nn]; kernel_rfl
def spltps.F (N : Nat) (rate f_Kind f_Lsf_One f_Between : Int) (f_Fresh : Bool) (f_Lsf_Two f_Gains f_Pulses : List Int) (f_Ltps : List (List Int)) : Option spltps.R :=
  (br (f_Kind != (2 : Int))
  (some (↑f_Ltps.length == (0 : Int)))
  (obind (Rc.glags.F N rate) fun r0 =>
  (osum (spltps.loop5 N N rate f_Kind f_Lsf_One f_Between f_Fresh f_Lsf_Two f_Gains f_Pulses f_Ltps r0.1 r0.2 (↑f_Ltps.length) f_Ltps ((0 : Int)) false) fun r1 =>
  (some ((f_Ltps.length : Int) == ↑f_Gains.length)))))
theorem spltps.F_eq (N : Nat) (L : Eng.Leaves) : evSig (spltps.C N) (spltps.K N) 0 Tryz.f73 spltps.sig L spltps.dec = spltps.F N (L.i 0) (L.i 1) (L.i 2) (L.i 3) (L.b 0) (L.l 0) (L.l 1) (L.l 2) (L.r 0) := by
  rw [spltps.F, ← funext (spltps.loop5_eq N)]; kernel_rfl
def spltps.spec : Eng.Spec := spltps.sig.spec (fun N L => spltps.F N (L.i 0) (L.i 1) (L.i 2) (L.i 3) (L.b 0) (L.l 0) (L.l 1) (L.l 2) (L.r 0)) spltps.enc
theorem spltps.cok (N : Nat) : CfgOK (spltps.C N) := cok0 wide ⟨glags.ok, tfilters.ok, trivial⟩ (by kernel_rfl) rfl rfl rfl rfl
theorem spltps.aok (N : Nat) : AnnsOK (spltps.K N) := aok1 ⟨fun _ _ => ⟨rfl, rfl⟩, trivial⟩
theorem spltps.ok : CallOK Tryz.prog 73 spltps.spec := ok0 spltps.cok (fun _ => iok0 rfl) spltps.aok spltps.F_eq (by kernel_rfl) (by kernel_rfl) (fun _ => rfl) (fun _ => ⟨rfl, rfl⟩) fun _ _ => ⟨rfl, rfl⟩
def sppulses.sig : Eng.Sig := { args := [.at (.int .i64 0), .at (.int .i64 1), .agg [.bool 0, .int .i64 2, .int .i64 3, .roi .i64 0, .int .i64 4, .roi .i64 1, .rro ⟨[.i64, .i64], none, false⟩ 0, .roi .i64 2]], n := 0, pre := [], post := [], m := 0, ret := .at (.bool 0) }
def sppulses.C (N : Nat) : Cfg := { P := Tryz.prog, N := N, RT := noRT, specs := [(112, good9.spec)], inl := [], hi := 0, mv := [] }
abbrev sppulses.R : Type := Bool
def sppulses.dec (L : Eng.Leaves) : sppulses.R := (L.b 0)
def sppulses.enc (r : sppulses.R) : Eng.Leaves := mkL [] [r] [] []
def sppulses.K (N : Nat) : FCfg := { anns := [], unr := [], lits := [], lets := [] }
def sppulses.F (N : Nat) (rate ms f_Kind f_Lsf_One f_Between : Int) (f_Fresh : Bool) (f_Lsf_Two f_Gains f_Pulses : List Int) (f_Ltps : List (List Int)) : Option sppulses.R :=
  (br (f_Kind == (0 : Int))
  (some (↑f_Pulses.length == (0 : Int)))
  (br (↑f_Pulses.length == IntKind.i64.wrap ((IntKind.i64.wrap (rate * ms)).tdiv (1000 : Int)))
  (obind (Rc.good9.F N f_Pulses) fun r0 =>
  (some r0))
  (some false)))
theorem sppulses.F_eq (N : Nat) (L : Eng.Leaves) : evSig (sppulses.C N) (sppulses.K N) 0 Tryz.f74 sppulses.sig L sppulses.dec = sppulses.F N (L.i 0) (L.i 1) (L.i 2) (L.i 3) (L.i 4) (L.b 0) (L.l 0) (L.l 1) (L.l 2) (L.r 0) := by
  kernel_rfl
def sppulses.spec : Eng.Spec := sppulses.sig.spec (fun N L => sppulses.F N (L.i 0) (L.i 1) (L.i 2) (L.i 3) (L.i 4) (L.b 0) (L.l 0) (L.l 1) (L.l 2) (L.r 0)) sppulses.enc
theorem sppulses.cok (N : Nat) : CfgOK (sppulses.C N) := cok0 wide ⟨good9.ok, trivial⟩ (by kernel_rfl) rfl rfl rfl rfl
theorem sppulses.aok (N : Nat) : AnnsOK (sppulses.K N) := aok1 trivial
theorem sppulses.ok : CallOK Tryz.prog 74 sppulses.spec := ok0 sppulses.cok (fun _ => iok0 rfl) sppulses.aok sppulses.F_eq (by kernel_rfl) (by kernel_rfl) (fun _ => rfl) (fun _ => ⟨rfl, rfl⟩) fun _ _ => ⟨rfl, rfl⟩
def spgood.sig : Eng.Sig := { args := [.at (.int .i64 0), .at (.int .i64 1), .agg [.bool 0, .int .i64 2, .int .i64 3, .roi .i64 0, .int .i64 4, .roi .i64 1, .rro ⟨[.i64, .i64], none, false⟩ 0, .roi .i64 2]], n := 0, pre := [], post := [], m := 0, ret := .at (.bool 0) }
def spgood.C (N : Nat) : Cfg := { P := Tryz.prog, N := N, RT := noRT, specs := [(41, spmay.spec), (34, torder.spec), (72, lgood.spec), (73, spltps.spec), (74, sppulses.spec)], inl := [], hi := 0, mv := [] }
abbrev spgood.R : Type := Bool
def spgood.dec (L : Eng.Leaves) : spgood.R := (L.b 0)
def spgood.enc (r : spgood.R) : Eng.Leaves := mkL [] [r] [] []
abbrev spgood.loop4.R : Type := Bool
def spgood.loop4.ann : Ann := { nx := 20, slots := [(6, .at (.bool 0)), (50, .at (.froi .i64 0)), (51, .at (.fint .i64 0)), (52, .at (.int .i64 0))], blks := [], mov := [], exId := 0, xslots := [(6, .at (.bool 0))], xblks := [], T := spgood.loop4.R, dec := fun L => (L.b 0), enc := fun r => mkL [] [r] [] [], ret := true }
def spgood.K (N : Nat) : FCfg := { anns := [(4, spgood.loop4.ann)], unr := [], lits := [], lets := [] }
def spgood.loop4 (N : Nat) : Nat → Int → Int → Int → Int → Int → Bool → List Int → List Int → List Int → List (List Int) → Int → List Int → Int → Bool → Option (spgood.loop4.R ⊕ spgood.R)
  | 0, _, _, _, _, _, _, _, _, _, _, _, _, _, _ => none
  | nn + 1, e_rate, e_ms, e_f_Kind, e_f_Lsf_One, e_f_Between, e_f_Fresh, e_f_Lsf_Two, e_f_Gains, e_f_Pulses, e_f_Ltps, s51, s50, s52, s6 =>
  (br (decide (s52 < s51))
  (chk ((0 : Int) ≤ s52 ∧ s52 < ↑s50.length)
  (br (decide (s50.getD s52.toNat (0 : Int) < (0 : Int)))
  (omap
  (some false) .inr)
  (br (decide (s50.getD s52.toNat (0 : Int) > (63 : Int)))
  (omap
  (some false) .inr)
  (chkL s50 s50
  (chkI s51 s51
  (spgood.loop4 N nn e_rate e_ms e_f_Kind e_f_Lsf_One e_f_Between e_f_Fresh e_f_Lsf_Two e_f_Gains e_f_Pulses e_f_Ltps s51 s50 (IntKind.i64.wrap (s52 + (1 : Int))) s6))))))
  (some (Sum.inl s6)))
def spgood.loop4R (N nn : Nat) (e_rate e_ms e_f_Kind e_f_Lsf_One e_f_Between : Int) (e_f_Fresh : Bool) (e_f_Lsf_Two e_f_Gains e_f_Pulses : List Int) (e_f_Ltps : List (List Int)) (s51 : Int) (s50 : List Int) (s52 : Int) (s6 : Bool) : Option (spgood.loop4.R ⊕ spgood.R) := loopR spgood.loop4.ann (mkL [s51] [] [s50] []) (evCode ((spgood.C N).inLoop spgood.loop4.ann) (spgood.K N) (inlTab (spgood.C N) 0) (bodyAt 4 Tryz.f21)) (sigKr Tryz.prog Tryz.f21 spgood.sig (mkL [e_rate, e_ms, e_f_Kind, e_f_Lsf_One, e_f_Between] [e_f_Fresh] [e_f_Lsf_Two, e_f_Gains, e_f_Pulses] [e_f_Ltps]) fun L => (L.b 0)) nn (mkL [s52] [s6] [] [])
theorem spgood.loop4_eq (N : Nat) : ∀ nn, spgood.loop4R N nn = spgood.loop4 N nn
  | 0 => by funext; kernel_rfl
  | nn + 1 => by
    funext; rw [spgood.loop4, ← spgood.loop4_eq N nn]; kernel_rfl
def spgood.F (N : Nat) (rate ms f_Kind f_Lsf_One f_Between : Int) (f_Fresh : Bool) (f_Lsf_Two f_Gains f_Pulses : List Int) (f_Ltps : List (List Int)) : Option spgood.R :=
  (obind (Rc.spmay.F N rate ms) fun r0 =>
  (br (!r0)
  (some false)
  (br (decide (f_Kind < (0 : Int)))
  (some false)
  (br (decide (f_Kind > (2 : Int)))
  (some false)
  (obind (Rc.torder.F N rate) fun r1 =>
  (obind (Rc.lgood.F N r1 f_Lsf_One f_Lsf_Two) fun r2 =>
  (br (!r2)
  (chkI f_Lsf_One f_Lsf_One
  (chkL f_Lsf_Two f_Lsf_Two
  (some false)))
  (br (decide (f_Between < (0 : Int)))
  (chkI f_Lsf_One f_Lsf_One
  (chkL f_Lsf_Two f_Lsf_Two
  (some false)))
  (br (decide (f_Between ≥ (5 : Int)))
  (chkI f_Lsf_One f_Lsf_One
  (chkL f_Lsf_Two f_Lsf_Two
  (some false)))
  (chkI f_Lsf_One f_Lsf_One
  (chkL f_Lsf_Two f_Lsf_Two
  (br (↑f_Gains.length != IntKind.i64.wrap (ms.tdiv (5 : Int)))
  (some false)
  (osum (spgood.loop4 N N rate ms f_Kind f_Lsf_One f_Between f_Fresh f_Lsf_Two f_Gains f_Pulses f_Ltps (↑f_Gains.length) f_Gains ((0 : Int)) false) fun r3 =>
  (obind (Rc.spltps.F N rate f_Kind f_Lsf_One f_Between f_Fresh f_Lsf_Two f_Gains f_Pulses f_Ltps) fun r4 =>
  (br r4
  (obind (Rc.sppulses.F N rate ms f_Kind f_Lsf_One f_Between f_Fresh f_Lsf_Two f_Gains f_Pulses f_Ltps) fun r5 =>
  (some r5))
  (some false))))))))))))))))
theorem spgood.F_eq (N : Nat) (L : Eng.Leaves) : evSig (spgood.C N) (spgood.K N) 0 Tryz.f21 spgood.sig L spgood.dec = spgood.F N (L.i 0) (L.i 1) (L.i 2) (L.i 3) (L.i 4) (L.b 0) (L.l 0) (L.l 1) (L.l 2) (L.r 0) := by
  rw [spgood.F, ← funext (spgood.loop4_eq N)]; kernel_rfl
def spgood.spec : Eng.Spec := spgood.sig.spec (fun N L => spgood.F N (L.i 0) (L.i 1) (L.i 2) (L.i 3) (L.i 4) (L.b 0) (L.l 0) (L.l 1) (L.l 2) (L.r 0)) spgood.enc
theorem spgood.cok (N : Nat) : CfgOK (spgood.C N) := cok0 wide ⟨spmay.ok, torder.ok, lgood.ok, spltps.ok, sppulses.ok, trivial⟩ (by kernel_rfl) rfl rfl rfl rfl
theorem spgood.aok (N : Nat) : AnnsOK (spgood.K N) := aok1 ⟨fun _ _ => ⟨rfl, rfl⟩, trivial⟩
theorem spgood.ok : CallOK Tryz.prog 21 spgood.spec := ok0 spgood.cok (fun _ => iok0 rfl) spgood.aok spgood.F_eq (by kernel_rfl) (by kernel_rfl) (fun _ => rfl) (fun _ => ⟨rfl, rfl⟩) fun _ _ => ⟨rfl, rfl⟩
def spreadf.sig : Eng.Sig := { args := [.at (.ptr 0 0), .at (.int .i64 0), .at (.int .i64 1), .at (.int .i64 2)], n := 2, pre := [(0, .cells 10 [.full 1 false, .int .u64 3, .int .u64 4, .int .u64 5, .int .i64 6, .int .i64 7, .int .u64 8, .int .i64 9, .int .i64 10, .bool 0]), (1, .ints false .u8 0)], post := [(0, .cells 10 [.full 1 false, .int .u64 4, .int .u64 5, .int .u64 6, .int .i64 7, .int .i64 8, .int .u64 9, .int .i64 10, .int .i64 11, .bool 1]), (1, .fints false .u8 0)], m := 0, ret := .tup [(true, [.bool 0, .int .i64 0, .int .i64 1, .roi .i64 0, .int .i64 2, .roi .i64 1, .rro ⟨[.i64, .i64], none, false⟩ 0, .roi .i64 2]), (false, [.int .i64 3])] }
def spreadf.C (N : Nat) : Cfg := { P := Tryz.prog, N := N, RT := noRT, specs := [(41, spmay.spec), (42, bits.spec), (44, ticdf.spec), (43, symbol.spec), (34, torder.spec), (45, uint.spec), (46, greadfirst.spec), (47, greadnext.spec), (48, greadltp.spec), (49, read9.spec)], inl := [], hi := 2, mv := [] }
abbrev spreadf.R : Type := Int × Int × Int × Int × Int × Int × Int × Int × Int × Int × Int × Int × Bool × Bool × List Int × List Int × List Int × List (List Int)
def spreadf.dec (L : Eng.Leaves) : spreadf.R := (L.i 0, L.i 1, L.i 2, L.i 3, L.i 4, L.i 5, L.i 6, L.i 7, L.i 8, L.i 9, L.i 10, L.i 11, L.b 0, L.b 1, L.l 0, L.l 1, L.l 2, L.r 0)
def spreadf.enc (r : spreadf.R) : Eng.Leaves := mkL [r.1, r.2.1, r.2.2.1, r.2.2.2.1, r.2.2.2.2.1, r.2.2.2.2.2.1, r.2.2.2.2.2.2.1, r.2.2.2.2.2.2.2.1, r.2.2.2.2.2.2.2.2.1, r.2.2.2.2.2.2.2.2.2.1, r.2.2.2.2.2.2.2.2.2.2.1, r.2.2.2.2.2.2.2.2.2.2.2.1] [r.2.2.2.2.2.2.2.2.2.2.2.2.1, r.2.2.2.2.2.2.2.2.2.2.2.2.2.1] [r.2.2.2.2.2.2.2.2.2.2.2.2.2.2.1, r.2.2.2.2.2.2.2.2.2.2.2.2.2.2.2.1, r.2.2.2.2.2.2.2.2.2.2.2.2.2.2.2.2.1] [r.2.2.2.2.2.2.2.2.2.2.2.2.2.2.2.2.2]
abbrev spreadf.loop6.R : Type := Int × Int × Int × Int × Int × List Int × List Int × List (List Int)
def spreadf.loop6.ann : Ann := { nx := 23, slots := [(0, .at (.ptr 0 0)), (10, .at (.ptr 8 0)), (30, .at (.fint .i64 0)), (31, .at (.int .i64 0))], blks := [(0, .cells 10 [.full 1 false, .int .u64 1, .int .u64 2, .int .u64 3, .int .i64 4, .fint .i64 1, .fint .u64 2, .fint .i64 3, .int .i64 5, .fbool 0]), (1, .fints false .u8 0), (8, .cells 8 [.fbool 1, .fint .i64 4, .fint .i64 5, .full 20 false, .fint .i64 6, .full 21 false, .full 22 false, .nils]), (20, .ints true .i64 0), (21, .ints true .i64 1), (22, .recs true ⟨[.i64, .i64], none, false⟩ 0)], mov := [20, 21, 22], exId := 0, xslots := [(0, .at (.ptr 0 0)), (10, .at (.ptr 8 0))], xblks := [(0, .cells 10 [.full 1 false, .int .u64 0, .int .u64 1, .int .u64 2, .int .i64 3, .fint .i64 1, .fint .u64 2, .fint .i64 3, .int .i64 4, .fbool 0]), (1, .fints false .u8 0), (8, .cells 8 [.fbool 1, .fint .i64 4, .fint .i64 5, .full 20 false, .fint .i64 6, .full 21 false, .full 22 false, .nils]), (20, .ints true .i64 0), (21, .ints true .i64 1), (22, .recs true ⟨[.i64, .i64], none, false⟩ 0)], T := spreadf.loop6.R, dec := fun L => (L.i 0, L.i 1, L.i 2, L.i 3, L.i 4, L.l 0, L.l 1, L.r 0), enc := fun r => mkL [r.1, r.2.1, r.2.2.1, r.2.2.2.1, r.2.2.2.2.1] [] [r.2.2.2.2.2.1, r.2.2.2.2.2.2.1] [r.2.2.2.2.2.2.2], ret := false }
abbrev spreadf.loop11.R : Type := Int × Int × Int × Int × Int × Int × Int × Int × Bool × List Int × List Int × List (List Int)
def spreadf.loop11.ann : Ann := { nx := 28, slots := [(0, .at (.ptr 0 0)), (3, .at (.int .i64 0)), (10, .at (.ptr 8 0)), (49, .at (.fint .i64 0)), (50, .at (.int .i64 1))], blks := [(0, .cells 10 [.full 1 false, .int .u64 2, .int .u64 3, .int .u64 4, .int .i64 5, .int .i64 6, .int .u64 7, .int .i64 8, .int .i64 9, .bool 0]), (1, .fints false .u8 0), (8, .cells 8 [.fbool 0, .fint .i64 1, .fint .i64 2, .full 25 false, .fint .i64 3, .full 26 false, .full 27 false, .nils]), (25, .ints true .i64 0), (26, .ints true .i64 1), (27, .recs true ⟨[.i64, .i64], none, false⟩ 0)], mov := [25, 26, 27], exId := 2, xslots := [(0, .at (.ptr 0 0)), (10, .at (.ptr 8 0))], xblks := [(0, .cells 10 [.full 1 false, .int .u64 0, .int .u64 1, .int .u64 2, .int .i64 3, .int .i64 4, .int .u64 5, .int .i64 6, .int .i64 7, .bool 0]), (1, .fints false .u8 0), (8, .cells 8 [.fbool 0, .fint .i64 1, .fint .i64 2, .full 25 false, .fint .i64 3, .full 26 false, .full 27 false, .nils]), (25, .ints true .i64 0), (26, .ints true .i64 1), (27, .recs true ⟨[.i64, .i64], none, false⟩ 0)], T := spreadf.loop11.R, dec := fun L => (L.i 0, L.i 1, L.i 2, L.i 3, L.i 4, L.i 5, L.i 6, L.i 7, L.b 0, L.l 0, L.l 1, L.r 0), enc := fun r => mkL [r.1, r.2.1, r.2.2.1, r.2.2.2.1, r.2.2.2.2.1, r.2.2.2.2.2.1, r.2.2.2.2.2.2.1, r.2.2.2.2.2.2.2.1] [r.2.2.2.2.2.2.2.2.1] [r.2.2.2.2.2.2.2.2.2.1, r.2.2.2.2.2.2.2.2.2.2.1] [r.2.2.2.2.2.2.2.2.2.2.2], ret := false }
abbrev spreadf.loop20.R : Type := Int × Int × Int × Int × Int × Int × Int × Int × Bool × List Int × List Int × List (List Int)
def spreadf.loop20.ann : Ann := { nx := 31, slots := [(0, .at (.ptr 0 0)), (1, .at (.fint .i64 0)), (10, .at (.ptr 8 0)), (76, .at (.fint .i64 1)), (77, .at (.int .i64 0))], blks := [(0, .cells 10 [.full 1 false, .int .u64 1, .int .u64 2, .int .u64 3, .int .i64 4, .int .i64 5, .int .u64 6, .int .i64 7, .int .i64 8, .bool 0]), (1, .fints false .u8 0), (8, .cells 8 [.fbool 0, .fint .i64 2, .fint .i64 3, .full 28 false, .fint .i64 4, .full 29 false, .full 30 false, .nils]), (28, .ints true .i64 0), (29, .ints true .i64 1), (30, .recs true ⟨[.i64, .i64], none, false⟩ 0)], mov := [28, 29, 30], exId := 4, xslots := [(0, .at (.ptr 0 0)), (10, .at (.ptr 8 0))], xblks := [(0, .cells 10 [.full 1 false, .int .u64 0, .int .u64 1, .int .u64 2, .int .i64 3, .int .i64 4, .int .u64 5, .int .i64 6, .int .i64 7, .bool 0]), (1, .fints false .u8 0), (8, .cells 8 [.fbool 0, .fint .i64 2, .fint .i64 3, .full 28 false, .fint .i64 4, .full 29 false, .full 30 false, .nils]), (28, .ints true .i64 0), (29, .ints true .i64 1), (30, .recs true ⟨[.i64, .i64], none, false⟩ 0)], T := spreadf.loop20.R, dec := fun L => (L.i 0, L.i 1, L.i 2, L.i 3, L.i 4, L.i 5, L.i 6, L.i 7, L.b 0, L.l 0, L.l 1, L.r 0), enc := fun r => mkL [r.1, r.2.1, r.2.2.1, r.2.2.2.1, r.2.2.2.2.1, r.2.2.2.2.2.1, r.2.2.2.2.2.2.1, r.2.2.2.2.2.2.2.1] [r.2.2.2.2.2.2.2.2.1] [r.2.2.2.2.2.2.2.2.2.1, r.2.2.2.2.2.2.2.2.2.2.1] [r.2.2.2.2.2.2.2.2.2.2.2], ret := false }
def spreadf.K (N : Nat) : FCfg := { anns := [(6, spreadf.loop6.ann), (11, spreadf.loop11.ann), (20, spreadf.loop20.ann)], unr := [], lits := [], lets := [], frz := [101], emps := [(23, ⟨[.i64, .i64], none, false⟩)], empi := [(23, 6)] }
def spreadf.loop20 (N : Nat) : Nat → Int → Int → Int → Int → Int → Bool → List Int → Int → Int → Int → Int → Int → Int → Int → Int → Int → Bool → List Int → List Int → List (List Int) → Option spreadf.loop20.R
  | 0, _, _, _, _, _, _, _, _, _, _, _, _, _, _, _, _, _, _, _, _ => none
  | nn + 1, rate, s76, Kind, One, Between, Fresh, b, s77, rng, val, last, front, back, window, waiting, count, bad, Two, Gains, Ltps =>
  (br (decide (s77 < s76))
  (obind (Rc.greadltp.F N rate rng val last front back window waiting count bad b) fun r0 =>
  (chk (Ltps.length + (1 : Nat) ≤ (1000000 : Nat))
  (chkI rate rate
  (chkI s76 s76
  (chkL b b
  (chkB Fresh Fresh
  (chkI Kind Kind
  (chkI One One
  (chkI Between Between
  (spreadf.loop20 N nn rate s76 Kind One Between Fresh b (IntKind.i64.wrap (s77 + (1 : Int))) r0.2.2.1 r0.2.2.2.1 r0.2.2.2.2.1 r0.2.2.2.2.2.1 r0.2.2.2.2.2.2.1 r0.2.2.2.2.2.2.2.1 r0.2.2.2.2.2.2.2.2.1 r0.2.2.2.2.2.2.2.2.2.1 r0.2.2.2.2.2.2.2.2.2.2 Two Gains (Ltps ++ [[r0.1, r0.2.1]])))))))))))
  (chkL b b
  (chkB Fresh Fresh
  (chkI Kind Kind
  (chkI One One
  (chkI Between Between
  (some ((rng, val, last, front, back, window, waiting, count, bad, Two, Gains, Ltps)))))))))
def spreadf.loop20R (N nn : Nat) (rate s76 Kind One Between : Int) (Fresh : Bool) (b : List Int) (s77 rng val last front back window waiting count : Int) (bad : Bool) (Two Gains : List Int) (Ltps : List (List Int)) : Option spreadf.loop20.R := loopF spreadf.loop20.ann (mkL [rate, s76, Kind, One, Between] [Fresh] [b] []) (evCode ((spreadf.C N).inLoop spreadf.loop20.ann) (spreadf.K N) (inlTab (spreadf.C N) 0) (bodyAt 20 Tryz.f12)) nn (mkL [s77, rng, val, last, front, back, window, waiting, count] [bad] [Two, Gains] [Ltps])
theorem spreadf.loop20_eq (N : Nat) : ∀ nn, spreadf.loop20R N nn = spreadf.loop20 N nn
  | 0 => by funext; kernel_rfl
  | nn + 1 => by
    funext; rw [spreadf.loop20, ← spreadf.loop20_eq N nn]; kernel_rfl
def spreadf.loop11 (N : Nat) : Nat → Int → Int → Int → Int → Bool → List Int → Int → Int → Int → Int → Int → Int → Int → Int → Int → Int → Bool → List Int → List Int → List (List Int) → Option spreadf.loop11.R
  | 0, _, _, _, _, _, _, _, _, _, _, _, _, _, _, _, _, _, _, _, _ => none
  | nn + 1, s49, Kind, One, Between, Fresh, b, was, s50, rng, val, last, front, back, window, waiting, count, bad, Two, Gains, Ltps =>
  (br (decide (s50 < s49))
  (br (s50 == (0 : Int))
  (br Fresh
  (obind (Rc.greadfirst.F N rng val last front back window waiting count bad b) fun r0 =>
  (chk (Gains.length + [r0.1].length ≤ (17592186043904 : Nat))
  (chkI s49 s49
  (chkL b b
  (chkB Fresh Fresh
  (chkI Kind Kind
  (chkI One One
  (chkI Between Between
  (spreadf.loop11 N nn s49 Kind One Between Fresh b r0.1 (IntKind.i64.wrap (s50 + (1 : Int))) r0.2.1 r0.2.2.1 r0.2.2.2.1 r0.2.2.2.2.1 r0.2.2.2.2.2.1 r0.2.2.2.2.2.2.1 r0.2.2.2.2.2.2.2.1 r0.2.2.2.2.2.2.2.2.1 r0.2.2.2.2.2.2.2.2.2 Two (Gains ++ [r0.1]) Ltps)))))))))
  (obind (Rc.greadnext.F N was rng val last front back window waiting count bad b) fun r1 =>
  (chk (Gains.length + [r1.1].length ≤ (17592186043904 : Nat))
  (chkI s49 s49
  (chkL b b
  (chkB Fresh Fresh
  (chkI Kind Kind
  (chkI One One
  (chkI Between Between
  (spreadf.loop11 N nn s49 Kind One Between Fresh b r1.1 (IntKind.i64.wrap (s50 + (1 : Int))) r1.2.1 r1.2.2.1 r1.2.2.2.1 r1.2.2.2.2.1 back window waiting r1.2.2.2.2.2 bad Two (Gains ++ [r1.1]) Ltps))))))))))
  (obind (Rc.greadnext.F N was rng val last front back window waiting count bad b) fun r2 =>
  (chk (Gains.length + [r2.1].length ≤ (17592186043904 : Nat))
  (chkI s49 s49
  (chkL b b
  (chkB Fresh Fresh
  (chkI Kind Kind
  (chkI One One
  (chkI Between Between
  (spreadf.loop11 N nn s49 Kind One Between Fresh b r2.1 (IntKind.i64.wrap (s50 + (1 : Int))) r2.2.1 r2.2.2.1 r2.2.2.2.1 r2.2.2.2.2.1 back window waiting r2.2.2.2.2.2 bad Two (Gains ++ [r2.1]) Ltps))))))))))
  (chkL b b
  (chkB Fresh Fresh
  (chkI Kind Kind
  (chkI One One
  (chkI Between Between
  (some ((rng, val, last, front, back, window, waiting, count, bad, Two, Gains, Ltps)))))))))
def spreadf.loop11R (N nn : Nat) (s49 Kind One Between : Int) (Fresh : Bool) (b : List Int) (was s50 rng val last front back window waiting count : Int) (bad : Bool) (Two Gains : List Int) (Ltps : List (List Int)) : Option spreadf.loop11.R := loopF spreadf.loop11.ann (mkL [s49, Kind, One, Between] [Fresh] [b] []) (evCode ((spreadf.C N).inLoop spreadf.loop11.ann) (spreadf.K N) (inlTab (spreadf.C N) 0) (bodyAt 11 Tryz.f12)) nn (mkL [was, s50, rng, val, last, front, back, window, waiting, count] [bad] [Two, Gains] [Ltps])
theorem spreadf.loop11_eq (N : Nat) : ∀ nn, spreadf.loop11R N nn = spreadf.loop11 N nn
  | 0 => by funext; kernel_rfl
  | nn + 1 => by
    funext; rw [spreadf.loop11, ← spreadf.loop11_eq N nn]; kernel_rfl
def spreadf.loop6 (N : Nat) : Nat → Int → Int → Int → Int → Int → Int → Int → Bool → Bool → List Int → Int → Int → Int → Int → Int → Int → List Int → List Int → List (List Int) → Option spreadf.loop6.R
  | 0, _, _, _, _, _, _, _, _, _, _, _, _, _, _, _, _, _, _, _ => none
  | nn + 1, s30, back, window, waiting, Kind, One, Between, bad, Fresh, b, s31, rng, val, last, front, count, Two, Gains, Ltps =>
  (br (decide (s31 < s30))
  (obind (Rc.ticdf.F N ((4 : Int))) fun r0 =>
  (obind (Rc.symbol.F N rng val last front back window waiting count bad r0 b) fun r1 =>
  (chk (Two.length + [IntKind.i64.wrap (r1.1 - (4 : Int))].length ≤ (17592186043904 : Nat))
  (chkI s30 s30
  (chkI back back
  (chkI window window
  (chkI waiting waiting
  (chkB bad bad
  (chkL b b
  (chkB Fresh Fresh
  (chkI Kind Kind
  (chkI One One
  (chkI Between Between
  (spreadf.loop6 N nn s30 back window waiting Kind One Between bad Fresh b (IntKind.i64.wrap (s31 + (1 : Int))) r1.2.1 r1.2.2.1 r1.2.2.2.1 r1.2.2.2.2.1 r1.2.2.2.2.2 (Two ++ [IntKind.i64.wrap (r1.1 - (4 : Int))]) Gains Ltps))))))))))))))
  (chkI back back
  (chkI window window
  (chkI waiting waiting
  (chkB bad bad
  (chkL b b
  (chkB Fresh Fresh
  (chkI Kind Kind
  (chkI One One
  (chkI Between Between
  (some ((rng, val, last, front, count, Two, Gains, Ltps)))))))))))))
def spreadf.loop6R (N nn : Nat) (s30 back window waiting Kind One Between : Int) (bad Fresh : Bool) (b : List Int) (s31 rng val last front count : Int) (Two Gains : List Int) (Ltps : List (List Int)) : Option spreadf.loop6.R := loopF spreadf.loop6.ann (mkL [s30, back, window, waiting, Kind, One, Between] [bad, Fresh] [b] []) (evCode ((spreadf.C N).inLoop spreadf.loop6.ann) (spreadf.K N) (inlTab (spreadf.C N) 0) (bodyAt 6 Tryz.f12)) nn (mkL [s31, rng, val, last, front, count] [] [Two, Gains] [Ltps])
theorem spreadf.loop6_eq (N : Nat) : ∀ nn, spreadf.loop6R N nn = spreadf.loop6 N nn
  | 0 => by funext; kernel_rfl
  | nn + 1 => by
    funext; rw [spreadf.loop6, ← spreadf.loop6_eq N nn]; kernel_rfl
def spreadf.F (N : Nat) (rate ms was rng val last front back window waiting count : Int) (bad : Bool) (b : List Int) : Option spreadf.R :=
  (obind (Rc.spmay.F N rate ms) fun r0 =>
  (br (!r0)
  (chkL b b
  (some (((0 : Int), (0 : Int), (0 : Int), (1 : Int), rng, val, last, front, back, window, waiting, count, false, bad, ([] : List Int), ([] : List Int), ([] : List Int), ([] : List (List Int))))))
  (obind (Rc.bits.F N ((1 : Int)) rng val last front back window waiting count bad b) fun r1 =>
  (obind (Rc.ticdf.F N ((0 : Int))) fun r2 =>
  (obind (Rc.symbol.F N rng val last front r1.2.1 r1.2.2.1 r1.2.2.2.1 r1.2.2.2.2 bad r2 b) fun r3 =>
  (obind (Rc.ticdf.F N ((3 : Int))) fun r4 =>
  (obind (Rc.symbol.F N r3.2.1 r3.2.2.1 r3.2.2.2.1 r3.2.2.2.2.1 r1.2.1 r1.2.2.1 r1.2.2.2.1 r3.2.2.2.2.2 bad r4 b) fun r5 =>
  (obind (Rc.torder.F N rate) fun r6 =>
  (obind (spreadf.loop6 N N r6 r1.2.1 r1.2.2.1 r1.2.2.2.1 r3.1 r5.1 ((0 : Int)) bad (r1.1 == (1 : Int)) b ((0 : Int)) r5.2.1 r5.2.2.1 r5.2.2.2.1 r5.2.2.2.2.1 r5.2.2.2.2.2 (([] : List Int)) (([] : List Int)) (([] : List (List Int)))) fun r7 =>
  (obind (Rc.uint.F N ((5 : Int)) r7.1 r7.2.1 r7.2.2.1 r7.2.2.2.1 r1.2.1 r1.2.2.1 r1.2.2.2.1 r7.2.2.2.2.1 bad b) fun r8 =>
  (obind (spreadf.loop11 N N (IntKind.i64.wrap (ms.tdiv (5 : Int))) r3.1 r5.1 r8.1 (r1.1 == (1 : Int)) b was ((0 : Int)) r8.2.1 r8.2.2.1 r8.2.2.2.1 r8.2.2.2.2.1 r8.2.2.2.2.2.1 r8.2.2.2.2.2.2.1 r8.2.2.2.2.2.2.2.1 r8.2.2.2.2.2.2.2.2.1 r8.2.2.2.2.2.2.2.2.2 r7.2.2.2.2.2.1 r7.2.2.2.2.2.2.1 r7.2.2.2.2.2.2.2) fun r9 =>
  (br (r3.1 == (2 : Int))
  (obind (spreadf.loop20 N N rate (↑r9.2.2.2.2.2.2.2.2.2.2.1.length) r3.1 r5.1 r8.1 (r1.1 == (1 : Int)) b ((0 : Int)) r9.1 r9.2.1 r9.2.2.1 r9.2.2.2.1 r9.2.2.2.2.1 r9.2.2.2.2.2.1 r9.2.2.2.2.2.2.1 r9.2.2.2.2.2.2.2.1 r9.2.2.2.2.2.2.2.2.1 r9.2.2.2.2.2.2.2.2.2.1 r9.2.2.2.2.2.2.2.2.2.2.1 r9.2.2.2.2.2.2.2.2.2.2.2) fun r10 =>
  (br (r3.1 != (0 : Int))
  (obind (Rc.read9.F N (IntKind.i64.wrap ((IntKind.i64.wrap (rate * ms)).tdiv (1000 : Int))) r10.1 r10.2.1 r10.2.2.1 r10.2.2.2.1 r10.2.2.2.2.1 r10.2.2.2.2.2.1 r10.2.2.2.2.2.2.1 r10.2.2.2.2.2.2.2.1 r10.2.2.2.2.2.2.2.2.1 b) fun r11 =>
  (chkL b b
  (some ((r3.1, r5.1, r8.1, (0 : Int), r11.2.1, r11.2.2.1, r11.2.2.2.1, r11.2.2.2.2.1, r11.2.2.2.2.2.1, r11.2.2.2.2.2.2.1, r11.2.2.2.2.2.2.2.1, r11.2.2.2.2.2.2.2.2.1, r1.1 == (1 : Int), r11.2.2.2.2.2.2.2.2.2.1, r10.2.2.2.2.2.2.2.2.2.1, r10.2.2.2.2.2.2.2.2.2.2.1, r11.2.2.2.2.2.2.2.2.2.2, r10.2.2.2.2.2.2.2.2.2.2.2)))))
  (chkL b b
  (some ((r3.1, r5.1, r8.1, (0 : Int), r10.1, r10.2.1, r10.2.2.1, r10.2.2.2.1, r10.2.2.2.2.1, r10.2.2.2.2.2.1, r10.2.2.2.2.2.2.1, r10.2.2.2.2.2.2.2.1, r1.1 == (1 : Int), r10.2.2.2.2.2.2.2.2.1, r10.2.2.2.2.2.2.2.2.2.1, r10.2.2.2.2.2.2.2.2.2.2.1, ([] : List Int), r10.2.2.2.2.2.2.2.2.2.2.2))))))
  (br (r3.1 != (0 : Int))
  (obind (Rc.read9.F N (IntKind.i64.wrap ((IntKind.i64.wrap (rate * ms)).tdiv (1000 : Int))) r9.1 r9.2.1 r9.2.2.1 r9.2.2.2.1 r9.2.2.2.2.1 r9.2.2.2.2.2.1 r9.2.2.2.2.2.2.1 r9.2.2.2.2.2.2.2.1 r9.2.2.2.2.2.2.2.2.1 b) fun r12 =>
  (chkL b b
  (some ((r3.1, r5.1, r8.1, (0 : Int), r12.2.1, r12.2.2.1, r12.2.2.2.1, r12.2.2.2.2.1, r12.2.2.2.2.2.1, r12.2.2.2.2.2.2.1, r12.2.2.2.2.2.2.2.1, r12.2.2.2.2.2.2.2.2.1, r1.1 == (1 : Int), r12.2.2.2.2.2.2.2.2.2.1, r9.2.2.2.2.2.2.2.2.2.1, r9.2.2.2.2.2.2.2.2.2.2.1, r12.2.2.2.2.2.2.2.2.2.2, r9.2.2.2.2.2.2.2.2.2.2.2)))))
  (chkL b b
  (some ((r3.1, r5.1, r8.1, (0 : Int), r9.1, r9.2.1, r9.2.2.1, r9.2.2.2.1, r9.2.2.2.2.1, r9.2.2.2.2.2.1, r9.2.2.2.2.2.2.1, r9.2.2.2.2.2.2.2.1, r1.1 == (1 : Int), r9.2.2.2.2.2.2.2.2.1, r9.2.2.2.2.2.2.2.2.2.1, r9.2.2.2.2.2.2.2.2.2.2.1, ([] : List Int), r9.2.2.2.2.2.2.2.2.2.2.2)))))))))))))))))
theorem spreadf.F_eq (N : Nat) (L : Eng.Leaves) : evSig (spreadf.C N) (spreadf.K N) 0 Tryz.f12 spreadf.sig L spreadf.dec = spreadf.F N (L.i 0) (L.i 1) (L.i 2) (L.i 3) (L.i 4) (L.i 5) (L.i 6) (L.i 7) (L.i 8) (L.i 9) (L.i 10) (L.b 0) (L.l 0) := by
  rw [spreadf.F, ← funext (spreadf.loop6_eq N), ← funext (spreadf.loop11_eq N), ← funext (spreadf.loop20_eq N)]; kernel_rfl
def spreadf.spec : Eng.Spec := spreadf.sig.spec (fun N L => spreadf.F N (L.i 0) (L.i 1) (L.i 2) (L.i 3) (L.i 4) (L.i 5) (L.i 6) (L.i 7) (L.i 8) (L.i 9) (L.i 10) (L.b 0) (L.l 0)) spreadf.enc
theorem spreadf.cok (N : Nat) : CfgOK (spreadf.C N) := cok0 wide ⟨spmay.ok, bits.ok, ticdf.ok, symbol.ok, torder.ok, uint.ok, greadfirst.ok, greadnext.ok, greadltp.ok, read9.ok, trivial⟩ (by kernel_rfl) rfl rfl rfl rfl
theorem spreadf.aok (N : Nat) : AnnsOK (spreadf.K N) := aok1 ⟨fun _ _ => ⟨rfl, rfl⟩, fun _ _ => ⟨rfl, rfl⟩, fun _ _ => ⟨rfl, rfl⟩, trivial⟩
theorem spreadf.ok : CallOK Tryz.prog 12 spreadf.spec := ok0 spreadf.cok (fun _ => iok0 rfl) spreadf.aok spreadf.F_eq (by kernel_rfl) (by kernel_rfl) (fun _ => rfl) (fun _ => ⟨rfl, rfl⟩) fun _ _ => ⟨rfl, rfl⟩
def spwritef.sig : Eng.Sig := { args := [.at (.ptr 0 0), .at (.int .i64 0), .at (.int .i64 1), .at (.int .i64 2), .agg [.bool 0, .int .i64 3, .int .i64 4, .roi .i64 0, .int .i64 5, .roi .i64 1, .rro ⟨[.i64, .i64], none, false⟩ 0, .roi .i64 2]], n := 3, pre := [(0, .cells 6 [.full 1 false, .int .u64 6, .int .u64 7, .full 2 false, .int .i64 8, .int .i64 9]), (1, .ints true .u8 3), (2, .ints true .u8 4)], post := [(0, .cells 6 [.full 3 false, .int .u64 4, .int .u64 5, .full 4 false, .int .i64 6, .int .i64 7]), (1, .dead), (2, .dead), (3, .ints true .u8 3), (4, .ints true .u8 4)], m := 2, ret := .tup [(true, [.bool 0, .int .i64 0, .int .i64 1, .roi .i64 0, .int .i64 2, .roi .i64 1, .rro ⟨[.i64, .i64], none, false⟩ 0, .roi .i64 2]), (false, [.int .i64 3])] }
def spwritef.C (N : Nat) : Cfg := { P := Tryz.prog, N := N, RT := noRT, specs := [(21, spgood.spec), (54, spbit.spec), (53, ebits.spec), (44, ticdf.spec), (55, esymbol.spec), (56, euint.spec), (57, gwritefirst.spec), (58, gwritenext.spec), (59, gwriteltp.spec), (60, write9.spec)], inl := [], hi := 3, mv := [] }
abbrev spwritef.R : Type := Int × Int × Int × Int × Int × Int × Int × Int × Bool × List Int × List Int × List Int × List Int × List Int × List (List Int)
def spwritef.dec (L : Eng.Leaves) : spwritef.R := (L.i 0, L.i 1, L.i 2, L.i 3, L.i 4, L.i 5, L.i 6, L.i 7, L.b 0, L.l 0, L.l 1, L.l 2, L.l 3, L.l 4, L.r 0)
def spwritef.enc (r : spwritef.R) : Eng.Leaves := mkL [r.1, r.2.1, r.2.2.1, r.2.2.2.1, r.2.2.2.2.1, r.2.2.2.2.2.1, r.2.2.2.2.2.2.1, r.2.2.2.2.2.2.2.1] [r.2.2.2.2.2.2.2.2.1] [r.2.2.2.2.2.2.2.2.2.1, r.2.2.2.2.2.2.2.2.2.2.1, r.2.2.2.2.2.2.2.2.2.2.2.1, r.2.2.2.2.2.2.2.2.2.2.2.2.1, r.2.2.2.2.2.2.2.2.2.2.2.2.2.1] [r.2.2.2.2.2.2.2.2.2.2.2.2.2.2]
abbrev spwritef.loop7.R : Type := Int × Int × Int × Int × List Int × List Int
def spwritef.loop7.ann : Ann := { nx := 22, slots := [(0, .at (.ptr 0 0)), (43, .at (.froi .i64 0)), (44, .at (.fint .i64 0)), (45, .at (.int .i64 0))], blks := [(0, .cells 6 [.full 20 false, .int .u64 1, .int .u64 2, .full 21 false, .int .i64 3, .int .i64 4]), (20, .ints true .u8 0), (21, .ints true .u8 1)], mov := [20, 21], exId := 0, xslots := [(0, .at (.ptr 0 0))], xblks := [(0, .cells 6 [.full 20 false, .int .u64 0, .int .u64 1, .full 21 false, .int .i64 2, .int .i64 3]), (20, .ints true .u8 0), (21, .ints true .u8 1)], T := spwritef.loop7.R, dec := fun L => (L.i 0, L.i 1, L.i 2, L.i 3, L.l 0, L.l 1), enc := fun r => mkL [r.1, r.2.1, r.2.2.1, r.2.2.2.1] [] [r.2.2.2.2.1, r.2.2.2.2.2] [], ret := false }
abbrev spwritef.loop16.R : Type := Int × Int × Int × Int × List Int × List Int × List Int
def spwritef.loop16.ann : Ann := { nx := 35, slots := [(0, .at (.ptr 0 0)), (3, .at (.int .i64 0)), (9, .at (.ptr 3 0)), (14, .at (.ptr 27 0)), (79, .at (.froi .i64 0)), (80, .at (.fint .i64 0)), (81, .at (.int .i64 1))], blks := [(0, .cells 6 [.full 32 false, .int .u64 2, .int .u64 3, .full 33 false, .int .i64 4, .int .i64 5]), (3, .cells 8 [.fbool 0, .fint .i64 1, .fint .i64 2, .froi .i64 1, .fint .i64 3, .froi .i64 2, .frro ⟨[.i64, .i64], none, false⟩ 0, .froi .i64 3]), (27, .cells 8 [.fbool 1, .fint .i64 4, .fint .i64 5, .full 29 true, .fint .i64 6, .full 34 false, .full 30 false, .full 31 false]), (29, .fints true .i64 4), (30, .frecs true ⟨[.i64, .i64], none, false⟩ 1), (31, .fints true .i64 5), (32, .ints true .u8 0), (33, .ints true .u8 1), (34, .ints true .i64 2)], mov := [32, 33, 34], exId := 2, xslots := [(0, .at (.ptr 0 0)), (9, .at (.ptr 3 0)), (14, .at (.ptr 27 0))], xblks := [(0, .cells 6 [.full 32 false, .int .u64 0, .int .u64 1, .full 33 false, .int .i64 2, .int .i64 3]), (3, .cells 8 [.fbool 0, .fint .i64 1, .fint .i64 2, .froi .i64 1, .fint .i64 3, .froi .i64 2, .frro ⟨[.i64, .i64], none, false⟩ 0, .froi .i64 3]), (27, .cells 8 [.fbool 1, .fint .i64 4, .fint .i64 5, .full 29 true, .fint .i64 6, .full 34 false, .full 30 false, .full 31 false]), (29, .fints true .i64 4), (30, .frecs true ⟨[.i64, .i64], none, false⟩ 1), (31, .fints true .i64 5), (32, .ints true .u8 0), (33, .ints true .u8 1), (34, .ints true .i64 2)], T := spwritef.loop16.R, dec := fun L => (L.i 0, L.i 1, L.i 2, L.i 3, L.l 0, L.l 1, L.l 2), enc := fun r => mkL [r.1, r.2.1, r.2.2.1, r.2.2.2.1] [] [r.2.2.2.2.1, r.2.2.2.2.2.1, r.2.2.2.2.2.2] [], ret := false }
abbrev spwritef.loop25.R : Type := Int × Int × Int × Int × List Int × List Int
def spwritef.loop25.ann : Ann := { nx := 37, slots := [(0, .at (.ptr 0 0)), (1, .at (.fint .i64 0)), (111, .at (.frro ⟨[.i64, .i64], none, false⟩ 0)), (112, .at (.fint .i64 1)), (113, .at (.int .i64 0))], blks := [(0, .cells 6 [.full 35 false, .int .u64 1, .int .u64 2, .full 36 false, .int .i64 3, .int .i64 4]), (35, .ints true .u8 0), (36, .ints true .u8 1)], mov := [35, 36], exId := 4, xslots := [(0, .at (.ptr 0 0))], xblks := [(0, .cells 6 [.full 35 false, .int .u64 0, .int .u64 1, .full 36 false, .int .i64 2, .int .i64 3]), (35, .ints true .u8 0), (36, .ints true .u8 1)], T := spwritef.loop25.R, dec := fun L => (L.i 0, L.i 1, L.i 2, L.i 3, L.l 0, L.l 1), enc := fun r => mkL [r.1, r.2.1, r.2.2.1, r.2.2.2.1] [] [r.2.2.2.2.1, r.2.2.2.2.2] [], ret := false }
def spwritef.K (N : Nat) : FCfg := { anns := [(7, spwritef.loop7.ann), (16, spwritef.loop16.ann), (25, spwritef.loop25.ann)], unr := [], lits := [67, 71], lets := [], frz := [129] }
def spwritef.loop25 (N : Nat) : Nat → Int → Int → List (List Int) → Int → Int → Int → Int → Int → List Int → List Int → Option spwritef.loop25.R
  | 0, _, _, _, _, _, _, _, _, _, _ => none
  | nn + 1, rate, s112, s111, s113, val, rng, rawBits, count, told, raw =>
  (br (decide (s113 < s112))
  (chk ((0 : Int) ≤ s113 ∧ s113 < ↑s111.length)
  (obind (Rc.gwriteltp.F N rate ((s111.getD s113.toNat ([] : List Int)).headD (0 : Int)) ((s111.getD s113.toNat ([] : List Int)).tail.headD (0 : Int)) val rng rawBits count told raw) fun r0 =>
  (chkI rate rate
  (chkR s111 s111
  (chkI s112 s112
  (spwritef.loop25 N nn rate s112 s111 (IntKind.i64.wrap (s113 + (1 : Int))) r0.2.1 r0.2.2.1 r0.2.2.2.1 r0.2.2.2.2.1 r0.2.2.2.2.2.1 r0.2.2.2.2.2.2))))))
  (some ((val, rng, rawBits, count, told, raw))))
def spwritef.loop25R (N nn : Nat) (rate s112 : Int) (s111 : List (List Int)) (s113 val rng rawBits count : Int) (told raw : List Int) : Option spwritef.loop25.R := loopF spwritef.loop25.ann (mkL [rate, s112] [] [] [s111]) (evCode ((spwritef.C N).inLoop spwritef.loop25.ann) (spwritef.K N) (inlTab (spwritef.C N) 0) (bodyAt 25 Tryz.f15)) nn (mkL [s113, val, rng, rawBits, count] [] [told, raw] [])
theorem spwritef.loop25_eq (N : Nat) : ∀ nn, spwritef.loop25R N nn = spwritef.loop25 N nn
  | 0 => by funext; kernel_rfl
  | nn + 1 => by
    funext; rw [spwritef.loop25, ← spwritef.loop25_eq N nn]; kernel_rfl
def spwritef.loop16 (N : Nat) : Nat → Int → Int → Int → Int → Int → Int → Int → Bool → Bool → List Int → List Int → List Int → List Int → List Int → List Int → List (List Int) → List (List Int) → Int → Int → Int → Int → Int → Int → List Int → List Int → List Int → Option spwritef.loop16.R
  | 0, _, _, _, _, _, _, _, _, _, _, _, _, _, _, _, _, _, _, _, _, _, _, _, _, _, _ => none
  | nn + 1, s80, Kind, One, Between, KindB, OneB, BetweenB, Fresh, FreshB, s79, Two, Gains, Pulses, l29, l31, Ltps, l30, was, s81, val, rng, rawBits, count, told, raw, GainsB =>
  (br (decide (s81 < s80))
  (chk ((0 : Int) ≤ s81 ∧ s81 < ↑s79.length)
  (br (s81 == (0 : Int))
  (br Fresh
  (obind (Rc.gwritefirst.F N (s79.getD s81.toNat (0 : Int)) val rng rawBits count told raw) fun r0 =>
  (chk (GainsB.length + [s79.getD s81.toNat (0 : Int)].length ≤ (17592186043904 : Nat))
  (chkL s79 s79
  (chkI s80 s80
  (chkB Fresh Fresh
  (chkI Kind Kind
  (chkI One One
  (chkL Two Two
  (chkI Between Between
  (chkL Gains Gains
  (chkR Ltps Ltps
  (chkL Pulses Pulses
  (chkB FreshB FreshB
  (chkI KindB KindB
  (chkI OneB OneB
  (chkI BetweenB BetweenB
  (chkL l29 l29
  (chkR l30 l30
  (chkL l31 l31
  (spwritef.loop16 N nn s80 Kind One Between KindB OneB BetweenB Fresh FreshB s79 Two Gains Pulses l29 l31 Ltps l30 (s79.getD s81.toNat (0 : Int)) (IntKind.i64.wrap (s81 + (1 : Int))) r0.2.1 r0.2.2.1 r0.2.2.2.1 r0.2.2.2.2.1 r0.2.2.2.2.2.1 r0.2.2.2.2.2.2 (GainsB ++ [s79.getD s81.toNat (0 : Int)])))))))))))))))))))))
  (obind (Rc.gwritenext.F N (s79.getD s81.toNat (0 : Int)) was val rng rawBits count told raw) fun r1 =>
  (chk (GainsB.length + [r1.1].length ≤ (17592186043904 : Nat))
  (chkL s79 s79
  (chkI s80 s80
  (chkB Fresh Fresh
  (chkI Kind Kind
  (chkI One One
  (chkL Two Two
  (chkI Between Between
  (chkL Gains Gains
  (chkR Ltps Ltps
  (chkL Pulses Pulses
  (chkB FreshB FreshB
  (chkI KindB KindB
  (chkI OneB OneB
  (chkI BetweenB BetweenB
  (chkL l29 l29
  (chkR l30 l30
  (chkL l31 l31
  (spwritef.loop16 N nn s80 Kind One Between KindB OneB BetweenB Fresh FreshB s79 Two Gains Pulses l29 l31 Ltps l30 r1.1 (IntKind.i64.wrap (s81 + (1 : Int))) r1.2.2.1 r1.2.2.2.1 r1.2.2.2.2.1 r1.2.2.2.2.2.1 r1.2.2.2.2.2.2.2 r1.2.2.2.2.2.2.1 (GainsB ++ [r1.1]))))))))))))))))))))))
  (obind (Rc.gwritenext.F N (s79.getD s81.toNat (0 : Int)) was val rng rawBits count told raw) fun r2 =>
  (chk (GainsB.length + [r2.1].length ≤ (17592186043904 : Nat))
  (chkL s79 s79
  (chkI s80 s80
  (chkB Fresh Fresh
  (chkI Kind Kind
  (chkI One One
  (chkL Two Two
  (chkI Between Between
  (chkL Gains Gains
  (chkR Ltps Ltps
  (chkL Pulses Pulses
  (chkB FreshB FreshB
  (chkI KindB KindB
  (chkI OneB OneB
  (chkI BetweenB BetweenB
  (chkL l29 l29
  (chkR l30 l30
  (chkL l31 l31
  (spwritef.loop16 N nn s80 Kind One Between KindB OneB BetweenB Fresh FreshB s79 Two Gains Pulses l29 l31 Ltps l30 r2.1 (IntKind.i64.wrap (s81 + (1 : Int))) r2.2.2.1 r2.2.2.2.1 r2.2.2.2.2.1 r2.2.2.2.2.2.1 r2.2.2.2.2.2.2.2 r2.2.2.2.2.2.2.1 (GainsB ++ [r2.1])))))))))))))))))))))))
  (chkB Fresh Fresh
  (chkI Kind Kind
  (chkI One One
  (chkL Two Two
  (chkI Between Between
  (chkL Gains Gains
  (chkR Ltps Ltps
  (chkL Pulses Pulses
  (chkB FreshB FreshB
  (chkI KindB KindB
  (chkI OneB OneB
  (chkI BetweenB BetweenB
  (chkL l29 l29
  (chkR l30 l30
  (chkL l31 l31
  (some ((val, rng, rawBits, count, told, raw, GainsB)))))))))))))))))))
def spwritef.loop16R (N nn : Nat) (s80 Kind One Between KindB OneB BetweenB : Int) (Fresh FreshB : Bool) (s79 Two Gains Pulses l29 l31 : List Int) (Ltps l30 : List (List Int)) (was s81 val rng rawBits count : Int) (told raw GainsB : List Int) : Option spwritef.loop16.R := loopF spwritef.loop16.ann (mkL [s80, Kind, One, Between, KindB, OneB, BetweenB] [Fresh, FreshB] [s79, Two, Gains, Pulses, l29, l31] [Ltps, l30]) (evCode ((spwritef.C N).inLoop spwritef.loop16.ann) (spwritef.K N) (inlTab (spwritef.C N) 0) (bodyAt 16 Tryz.f15)) nn (mkL [was, s81, val, rng, rawBits, count] [] [told, raw, GainsB] [])
theorem spwritef.loop16_eq (N : Nat) : ∀ nn, spwritef.loop16R N nn = spwritef.loop16 N nn
  | 0 => by funext; kernel_rfl
  | nn + 1 => by
    funext; rw [spwritef.loop16, ← spwritef.loop16_eq N nn]; kernel_rfl
def spwritef.loop7 (N : Nat) : Nat → Int → List Int → Int → Int → Int → Int → Int → List Int → List Int → Option spwritef.loop7.R
  | 0, _, _, _, _, _, _, _, _, _ => none
  | nn + 1, s44, s43, s45, val, rng, rawBits, count, told, raw =>
  (br (decide (s45 < s44))
  (chk ((0 : Int) ≤ s45 ∧ s45 < ↑s43.length)
  (obind (Rc.ticdf.F N ((4 : Int))) fun r0 =>
  (obind (Rc.esymbol.F N (IntKind.i64.wrap (s43.getD s45.toNat (0 : Int) + (4 : Int))) val rng rawBits count r0 told raw) fun r1 =>
  (chkL s43 s43
  (chkI s44 s44
  (spwritef.loop7 N nn s44 s43 (IntKind.i64.wrap (s45 + (1 : Int))) r1.2.1 r1.2.2.1 r1.2.2.2.1 r1.2.2.2.2.1 r1.2.2.2.2.2.2 r1.2.2.2.2.2.1))))))
  (some ((val, rng, rawBits, count, told, raw))))
def spwritef.loop7R (N nn : Nat) (s44 : Int) (s43 : List Int) (s45 val rng rawBits count : Int) (told raw : List Int) : Option spwritef.loop7.R := loopF spwritef.loop7.ann (mkL [s44] [] [s43] []) (evCode ((spwritef.C N).inLoop spwritef.loop7.ann) (spwritef.K N) (inlTab (spwritef.C N) 0) (bodyAt 7 Tryz.f15)) nn (mkL [s45, val, rng, rawBits, count] [] [told, raw] [])
theorem spwritef.loop7_eq (N : Nat) : ∀ nn, spwritef.loop7R N nn = spwritef.loop7 N nn
  | 0 => by funext; kernel_rfl
  | nn + 1 => by
    funext; rw [spwritef.loop7, ← spwritef.loop7_eq N nn]; kernel_rfl
def spwritef.F (N : Nat) (rate ms was f_Kind f_Lsf_One f_Between val rng rawBits count : Int) (f_Fresh : Bool) (f_Lsf_Two f_Gains f_Pulses told raw : List Int) (f_Ltps : List (List Int)) : Option spwritef.R :=
  (obind (Rc.spgood.F N rate ms f_Kind f_Lsf_One f_Between f_Fresh f_Lsf_Two f_Gains f_Pulses f_Ltps) fun r0 =>
  (br (!r0)
  (some (((0 : Int), (0 : Int), (0 : Int), (1 : Int), val, rng, rawBits, count, false, ([] : List Int), ([] : List Int), ([] : List Int), told, raw, ([] : List (List Int)))))
  (obind (Rc.spbit.F N f_Fresh) fun r1 =>
  (obind (Rc.ebits.F N r1 ((1 : Int)) val rng rawBits count told raw) fun r2 =>
  (obind (Rc.ticdf.F N ((0 : Int))) fun r3 =>
  (obind (Rc.esymbol.F N f_Kind val rng r2.2.1 r2.2.2.1 r3 told r2.2.2.2) fun r4 =>
  (chkI f_Kind f_Kind
  (obind (Rc.ticdf.F N ((3 : Int))) fun r5 =>
  (obind (Rc.esymbol.F N f_Lsf_One r4.2.1 r4.2.2.1 r4.2.2.2.1 r4.2.2.2.2.1 r5 r4.2.2.2.2.2.2 r4.2.2.2.2.2.1) fun r6 =>
  (chkI f_Lsf_One f_Lsf_One
  (obind (spwritef.loop7 N N (↑f_Lsf_Two.length) f_Lsf_Two ((0 : Int)) r6.2.1 r6.2.2.1 r6.2.2.2.1 r6.2.2.2.2.1 r6.2.2.2.2.2.2 r6.2.2.2.2.2.1) fun r7 =>
  (obind (Rc.euint.F N f_Between ((5 : Int)) r7.1 r7.2.1 r7.2.2.1 r7.2.2.2.1 r7.2.2.2.2.1 r7.2.2.2.2.2) fun r8 =>
  (chk ((0 : Nat) + f_Lsf_Two.length ≤ (17592186043904 : Nat))
  (chk (f_Ltps.length ≤ (1000000 : Nat))
  (chk (f_Pulses.length ≤ (17592186043904 : Nat))
  (chkL f_Pulses f_Pulses
  (obind (spwritef.loop16 N N (↑f_Gains.length) f_Kind f_Lsf_One f_Between f_Kind f_Lsf_One f_Between f_Fresh f_Fresh f_Gains f_Lsf_Two f_Gains f_Pulses (([] : List Int) ++ f_Lsf_Two) f_Pulses f_Ltps f_Ltps was ((0 : Int)) r8.2.1 r8.2.2.1 r8.2.2.2.1 r8.2.2.2.2.1 r8.2.2.2.2.2.1 r8.2.2.2.2.2.2 (([] : List Int))) fun r9 =>
  (obind (spwritef.loop25 N N rate (↑f_Ltps.length) f_Ltps ((0 : Int)) r9.1 r9.2.1 r9.2.2.1 r9.2.2.2.1 r9.2.2.2.2.1 r9.2.2.2.2.2.1) fun r10 =>
  (br (f_Kind != (0 : Int))
  (obind (Rc.write9.F N r10.1 r10.2.1 r10.2.2.1 r10.2.2.2.1 f_Pulses r10.2.2.2.2.1 r10.2.2.2.2.2) fun r11 =>
  (some ((f_Kind, f_Lsf_One, f_Between, (0 : Int), r11.2.1, r11.2.2.1, r11.2.2.2.1, r11.2.2.2.2.1, f_Fresh, ([] : List Int) ++ f_Lsf_Two, r9.2.2.2.2.2.2, f_Pulses, r11.2.2.2.2.2.1, r11.2.2.2.2.2.2, f_Ltps))))
  (some ((f_Kind, f_Lsf_One, f_Between, (0 : Int), r10.1, r10.2.1, r10.2.2.1, r10.2.2.2.1, f_Fresh, ([] : List Int) ++ f_Lsf_Two, r9.2.2.2.2.2.2, f_Pulses, r10.2.2.2.2.1, r10.2.2.2.2.2, f_Ltps))))))))))))))))))))))
theorem spwritef.F_eq (N : Nat) (L : Eng.Leaves) : evSig (spwritef.C N) (spwritef.K N) 0 Tryz.f15 spwritef.sig L spwritef.dec = spwritef.F N (L.i 0) (L.i 1) (L.i 2) (L.i 3) (L.i 4) (L.i 5) (L.i 6) (L.i 7) (L.i 8) (L.i 9) (L.b 0) (L.l 0) (L.l 1) (L.l 2) (L.l 3) (L.l 4) (L.r 0) := by
  rw [spwritef.F, ← funext (spwritef.loop7_eq N), ← funext (spwritef.loop16_eq N), ← funext (spwritef.loop25_eq N)]; kernel_rfl
def spwritef.spec : Eng.Spec := spwritef.sig.spec (fun N L => spwritef.F N (L.i 0) (L.i 1) (L.i 2) (L.i 3) (L.i 4) (L.i 5) (L.i 6) (L.i 7) (L.i 8) (L.i 9) (L.b 0) (L.l 0) (L.l 1) (L.l 2) (L.l 3) (L.l 4) (L.r 0)) spwritef.enc
theorem spwritef.cok (N : Nat) : CfgOK (spwritef.C N) := cok0 wide ⟨spgood.ok, spbit.ok, ebits.ok, ticdf.ok, esymbol.ok, euint.ok, gwritefirst.ok, gwritenext.ok, gwriteltp.ok, write9.ok, trivial⟩ (by kernel_rfl) rfl rfl rfl rfl
theorem spwritef.aok (N : Nat) : AnnsOK (spwritef.K N) := aok1 ⟨fun _ _ => ⟨rfl, rfl⟩, fun _ _ => ⟨rfl, rfl⟩, fun _ _ => ⟨rfl, rfl⟩, trivial⟩
theorem spwritef.ok : CallOK Tryz.prog 15 spwritef.spec := ok0 spwritef.cok (fun _ => iok0 rfl) spwritef.aok spwritef.F_eq (by kernel_rfl) (by kernel_rfl) (fun _ => rfl) (fun _ => ⟨rfl, rfl⟩) fun _ _ => ⟨rfl, rfl⟩
def plreset.sig : Eng.Sig := { args := [.at (.ptr 0 0)], n := 3, pre := [(0, .cells 4 [.int .i64 0, .ptr 1 0, .full 2 false, .int .i64 1]), (1, .ints false .i64 0), (2, .ints true .i64 1)], post := [(0, .cells 4 [.fint .i64 0, .ptr 1 0, .full 3 false, .int .i64 0]), (1, .ints false .i64 0), (2, .dead), (3, .ints true .i64 1)], m := 1, ret := .at (.unk) }
def plreset.C (N : Nat) : Cfg := { P := Tryz.prog, N := N, RT := noRT, specs := [(98, syreset.spec), (34, torder.spec)], inl := [], hi := 3, mv := [] }
abbrev plreset.R : Type := Int × List Int × List Int
def plreset.dec (L : Eng.Leaves) : plreset.R := (L.i 0, L.l 0, L.l 1)
def plreset.enc (r : plreset.R) : Eng.Leaves := mkL [r.1] [] [r.2.1, r.2.2] []
abbrev plreset.loop4.R : Type := List Int
def plreset.loop4.ann : Ann := { nx := 20, slots := [(0, .at (.ptr 0 0)), (2, .at (.fint .i64 0)), (23, .at (.fint .i64 1)), (24, .at (.int .i64 0))], blks := [(0, .cells 4 [.fint .i64 2, .ptr 1 0, .full 4 true, .fint .i64 3]), (1, .fints false .i64 0), (4, .ints true .i64 0)], mov := [], exId := 0, xslots := [(0, .at (.ptr 0 0))], xblks := [(0, .cells 4 [.fint .i64 2, .ptr 1 0, .full 4 true, .fint .i64 3]), (1, .fints false .i64 0), (4, .ints true .i64 0)], T := plreset.loop4.R, dec := fun L => (L.l 0), enc := fun r => mkL [] [] [r] [], ret := false }
def plreset.K (N : Nat) : FCfg := { anns := [(4, plreset.loop4.ann)], unr := [], lits := [], lets := [] }
def plreset.loop4 (N : Nat) : Nat → Int → Int → Int → Int → List Int → Int → List Int → Option plreset.loop4.R
  | 0, _, _, _, _, _, _, _ => none
  | nn + 1, s2, s23, rate, gain, voice, s24, l4 =>
  (br (decide (s24 < s23))
  (chk (IntKind.i64.wrap (s2 + (1 : Int)) ≠ (0 : Int))
  (chk ((0 : Int) ≤ s24 ∧ s24 < ↑l4.length)
  (chkI s2 s2
  (chkI s23 s23
  (chkI rate rate
  (chkI gain gain
  (chkL voice voice
  (plreset.loop4 N nn s2 s23 rate gain voice (IntKind.i64.wrap (s24 + (1 : Int))) (l4.set s24.toNat (IntKind.i64.wrap ((IntKind.i64.wrap ((32768 : Int) * IntKind.i64.wrap (s24 + (1 : Int)))).tdiv (IntKind.i64.wrap (s2 + (1 : Int))))))))))))))
  (chkI rate rate
  (chkI gain gain
  (chkL voice voice
  (some l4)))))
def plreset.loop4R (N nn : Nat) (s2 s23 rate gain : Int) (voice : List Int) (s24 : Int) (l4 : List Int) : Option plreset.loop4.R := loopF plreset.loop4.ann (mkL [s2, s23, rate, gain] [] [voice] []) (evCode ((plreset.C N).inLoop plreset.loop4.ann) (plreset.K N) (inlTab (plreset.C N) 0) (bodyAt 4 Tryz.f36)) nn (mkL [s24] [] [l4] [])
theorem plreset.loop4_eq (N : Nat) : ∀ nn, plreset.loop4R N nn = plreset.loop4 N nn
  | 0 => by funext; kernel_rfl
  | nn + 1 => by
    funext; rw [plreset.loop4, ← plreset.loop4_eq N nn]; kernel_rfl
def plreset.F (N : Nat) (rate gain : Int) (voice ahead : List Int) : Option plreset.R :=
  (obind (Rc.syreset.F N voice) fun r0 =>
  (obind (Rc.torder.F N rate) fun r1 =>
  (chk ((0 : Int) ≤ r1 ∧ r1 ≤ r1 ∧ r1 ≤ ↑(17592186043904 : Nat))
  (obind (plreset.loop4 N N r1 (↑(List.replicate r1.toNat (0 : Int)).length) rate gain r0 ((0 : Int)) (List.replicate r1.toNat (0 : Int))) fun r2 =>
  (chkI rate rate
  (some (((20 : Int), r0, r2))))))))
theorem plreset.F_eq (N : Nat) (L : Eng.Leaves) : evSig (plreset.C N) (plreset.K N) 0 Tryz.f36 plreset.sig L plreset.dec = plreset.F N (L.i 0) (L.i 1) (L.l 0) (L.l 1) := by
  rw [plreset.F, ← funext (plreset.loop4_eq N)]; kernel_rfl
def plreset.spec : Eng.Spec := plreset.sig.spec (fun N L => plreset.F N (L.i 0) (L.i 1) (L.l 0) (L.l 1)) plreset.enc
theorem plreset.cok (N : Nat) : CfgOK (plreset.C N) := cok0 wide ⟨syreset.ok, torder.ok, trivial⟩ (by kernel_rfl) rfl rfl rfl rfl
theorem plreset.aok (N : Nat) : AnnsOK (plreset.K N) := aok1 ⟨fun _ _ => ⟨rfl, rfl⟩, trivial⟩
theorem plreset.ok : CallOK Tryz.prog 36 plreset.spec := ok0 plreset.cok (fun _ => iok0 rfl) plreset.aok plreset.F_eq (by kernel_rfl) (by kernel_rfl) (fun _ => rfl) (fun _ => ⟨rfl, rfl⟩) fun _ _ => ⟨rfl, rfl⟩
def plgain.sig : Eng.Sig := { args := [.at (.ptr 0 0)], n := 3, pre := [(0, .cells 4 [.int .i64 0, .ptr 1 0, .full 2 false, .int .i64 1]), (1, .ints false .i64 0), (2, .ints true .i64 1)], post := [(0, .cells 4 [.fint .i64 0, .ptr 1 0, .full 2 false, .fint .i64 1]), (1, .fints false .i64 0), (2, .fints true .i64 1)], m := 0, ret := .at (.int .i64 0) }
def plgain.C (N : Nat) : Cfg := { P := Tryz.prog, N := N, RT := noRT, specs := [], inl := [], hi := 3, mv := [] }
abbrev plgain.R : Type := Int
def plgain.dec (L : Eng.Leaves) : plgain.R := (L.i 0)
def plgain.enc (r : plgain.R) : Eng.Leaves := mkL [r] [] [] []
def plgain.K (N : Nat) : FCfg := { anns := [], unr := [], lits := [], lets := [] }
def plgain.F (N : Nat) (rate gain : Int) (voice ahead : List Int) : Option plgain.R :=
  (chkI rate rate
  (chkI gain gain
  (chkL voice voice
  (chkL ahead ahead
  (some gain)))))
theorem plgain.F_eq (N : Nat) (L : Eng.Leaves) : evSig (plgain.C N) (plgain.K N) 0 Tryz.f30 plgain.sig L plgain.dec = plgain.F N (L.i 0) (L.i 1) (L.l 0) (L.l 1) := by
  kernel_rfl
def plgain.spec : Eng.Spec := plgain.sig.spec (fun N L => plgain.F N (L.i 0) (L.i 1) (L.l 0) (L.l 1)) plgain.enc
theorem plgain.cok (N : Nat) : CfgOK (plgain.C N) := cok0 wide trivial (by kernel_rfl) rfl rfl rfl rfl
theorem plgain.aok (N : Nat) : AnnsOK (plgain.K N) := aok1 trivial
theorem plgain.ok : CallOK Tryz.prog 30 plgain.spec := ok0 plgain.cok (fun _ => iok0 rfl) plgain.aok plgain.F_eq (by kernel_rfl) (by kernel_rfl) (fun _ => rfl) (fun _ => ⟨rfl, rfl⟩) fun _ _ => ⟨rfl, rfl⟩
def plsame.sig : Eng.Sig := { args := [.at (.ptr 0 0), .at (.ptr 3 0)], n := 6, pre := [(0, .cells 4 [.int .i64 0, .ptr 1 0, .full 2 false, .int .i64 1]), (1, .ints false .i64 0), (2, .ints true .i64 1), (3, .cells 4 [.int .i64 2, .ptr 4 0, .full 5 false, .int .i64 3]), (4, .ints false .i64 2), (5, .ints true .i64 3)], post := [(0, .cells 4 [.int .i64 0, .ptr 1 0, .full 2 false, .int .i64 1]), (1, .ints false .i64 0), (2, .ints true .i64 1), (3, .cells 4 [.int .i64 2, .ptr 4 0, .full 5 false, .int .i64 3]), (4, .ints false .i64 2), (5, .ints true .i64 3)], m := 0, ret := .at (.bool 0) }
def plsame.C (N : Nat) : Cfg := { P := Tryz.prog, N := N, RT := noRT, specs := [(96, sysame.spec)], inl := [], hi := 6, mv := [] }
abbrev plsame.R : Type := Int × Int × Int × Int × Bool × List Int × List Int × List Int × List Int
def plsame.dec (L : Eng.Leaves) : plsame.R := (L.i 0, L.i 1, L.i 2, L.i 3, L.b 0, L.l 0, L.l 1, L.l 2, L.l 3)
def plsame.enc (r : plsame.R) : Eng.Leaves := mkL [r.1, r.2.1, r.2.2.1, r.2.2.2.1] [r.2.2.2.2.1] [r.2.2.2.2.2.1, r.2.2.2.2.2.2.1, r.2.2.2.2.2.2.2.1, r.2.2.2.2.2.2.2.2] []
abbrev plsame.loop4.R : Type := Bool
def plsame.loop4.ann : Ann := { nx := 20, slots := [(0, .at (.ptr 0 0)), (1, .at (.ptr 3 0)), (4, .at (.bool 0)), (55, .at (.full 2 false)), (56, .at (.fint .i64 0)), (57, .at (.int .i64 0))], blks := [(0, .cells 4 [.fint .i64 1, .ptr 1 0, .full 2 false, .fint .i64 2]), (1, .fints false .i64 0), (2, .fints true .i64 1), (3, .cells 4 [.fint .i64 3, .ptr 4 0, .full 5 false, .fint .i64 4]), (4, .fints false .i64 2), (5, .fints true .i64 3)], mov := [], exId := 0, xslots := [(0, .at (.ptr 0 0)), (1, .at (.ptr 3 0)), (55, .at (.full 2 false)), (4, .at (.bool 0))], xblks := [(0, .cells 4 [.fint .i64 1, .ptr 1 0, .full 2 false, .fint .i64 2]), (1, .fints false .i64 0), (2, .fints true .i64 1), (3, .cells 4 [.fint .i64 3, .ptr 4 0, .full 5 false, .fint .i64 4]), (4, .fints false .i64 2), (5, .fints true .i64 3)], T := plsame.loop4.R, dec := fun L => (L.b 0), enc := fun r => mkL [] [r] [] [], ret := true }
def plsame.K (N : Nat) : FCfg := { anns := [(4, plsame.loop4.ann)], unr := [], lits := [], lets := [] }
def plsame.loop4 (N : Nat) : Nat → Int → Int → Int → Int → List Int → List Int → List Int → List Int → Int → Int → Int → Int → Int → List Int → List Int → List Int → List Int → Int → Bool → Option (plsame.loop4.R ⊕ plsame.R)
  | 0, _, _, _, _, _, _, _, _, _, _, _, _, _, _, _, _, _, _, _ => none
  | nn + 1, e_rate, e_gain, e_q_rate, e_q_gain, e_voice, e_ahead, e_q_voice, e_q_ahead, s56, rate, gain, q_rate, q_gain, voice, ahead, q_voice, q_ahead, s57, s4 =>
  (br (decide (s57 < s56))
  (chk ((0 : Int) ≤ s57 ∧ s57 < ↑ahead.length)
  (chk ((0 : Int) ≤ s57 ∧ s57 < ↑q_ahead.length)
  (br (ahead.getD s57.toNat (0 : Int) != q_ahead.getD s57.toNat (0 : Int))
  (omap
  (some ((rate, gain, q_rate, q_gain, false, voice, ahead, q_voice, q_ahead))) .inr)
  (chkI s56 s56
  (chkI rate rate
  (chkI gain gain
  (chkL voice voice
  (chkL ahead ahead
  (chkI q_rate q_rate
  (chkI q_gain q_gain
  (chkL q_voice q_voice
  (chkL q_ahead q_ahead
  (plsame.loop4 N nn e_rate e_gain e_q_rate e_q_gain e_voice e_ahead e_q_voice e_q_ahead s56 rate gain q_rate q_gain voice ahead q_voice q_ahead (IntKind.i64.wrap (s57 + (1 : Int))) s4)))))))))))))
  (chkI rate rate
  (chkI gain gain
  (chkL voice voice
  (chkL ahead ahead
  (chkI q_rate q_rate
  (chkI q_gain q_gain
  (chkL q_voice q_voice
  (chkL q_ahead q_ahead
  (some (Sum.inl s4)))))))))))
def plsame.loop4R (N nn : Nat) (e_rate e_gain e_q_rate e_q_gain : Int) (e_voice e_ahead e_q_voice e_q_ahead : List Int) (s56 rate gain q_rate q_gain : Int) (voice ahead q_voice q_ahead : List Int) (s57 : Int) (s4 : Bool) : Option (plsame.loop4.R ⊕ plsame.R) := loopR plsame.loop4.ann (mkL [s56, rate, gain, q_rate, q_gain] [] [voice, ahead, q_voice, q_ahead] []) (evCode ((plsame.C N).inLoop plsame.loop4.ann) (plsame.K N) (inlTab (plsame.C N) 0) (bodyAt 4 Tryz.f33)) (sigKr Tryz.prog Tryz.f33 plsame.sig (mkL [e_rate, e_gain, e_q_rate, e_q_gain] [] [e_voice, e_ahead, e_q_voice, e_q_ahead] []) fun L => (L.i 0, L.i 1, L.i 2, L.i 3, L.b 0, L.l 0, L.l 1, L.l 2, L.l 3)) nn (mkL [s57] [s4] [] [])
theorem plsame.loop4_eq (N : Nat) : ∀ nn, plsame.loop4R N nn = plsame.loop4 N nn
  | 0 => by funext; kernel_rfl
  | nn + 1 => by
    funext; rw [plsame.loop4, ← plsame.loop4_eq N nn]; kernel_rfl
def plsame.F (N : Nat) (rate gain q_rate q_gain : Int) (voice ahead q_voice q_ahead : List Int) : Option plsame.R :=
  (br (rate != q_rate)
  (some ((rate, gain, q_rate, q_gain, false, voice, ahead, q_voice, q_ahead)))
  (br (gain != q_gain)
  (some ((rate, gain, q_rate, q_gain, false, voice, ahead, q_voice, q_ahead)))
  (obind (Rc.sysame.F N voice q_voice) fun r0 =>
  (br (!r0)
  (some ((rate, gain, q_rate, q_gain, false, voice, ahead, q_voice, q_ahead)))
  (br ((ahead.length : Int) != ↑q_ahead.length)
  (some ((rate, gain, q_rate, q_gain, false, voice, ahead, q_voice, q_ahead)))
  (osum (plsame.loop4 N N rate gain q_rate q_gain voice ahead q_voice q_ahead (↑ahead.length) rate gain q_rate q_gain voice ahead q_voice q_ahead ((0 : Int)) false) fun r1 =>
  (some ((rate, gain, q_rate, q_gain, true, voice, ahead, q_voice, q_ahead)))))))))
theorem plsame.F_eq (N : Nat) (L : Eng.Leaves) : evSig (plsame.C N) (plsame.K N) 0 Tryz.f33 plsame.sig L plsame.dec = plsame.F N (L.i 0) (L.i 1) (L.i 2) (L.i 3) (L.l 0) (L.l 1) (L.l 2) (L.l 3) := by
  rw [plsame.F, ← funext (plsame.loop4_eq N)]; kernel_rfl
def plsame.spec : Eng.Spec := plsame.sig.spec (fun N L => plsame.F N (L.i 0) (L.i 1) (L.i 2) (L.i 3) (L.l 0) (L.l 1) (L.l 2) (L.l 3)) plsame.enc
theorem plsame.cok (N : Nat) : CfgOK (plsame.C N) := cok0 wide ⟨sysame.ok, trivial⟩ (by kernel_rfl) rfl rfl rfl rfl
theorem plsame.aok (N : Nat) : AnnsOK (plsame.K N) := aok1 ⟨fun _ _ => ⟨rfl, rfl⟩, trivial⟩
theorem plsame.ok : CallOK Tryz.prog 33 plsame.spec := ok0 plsame.cok (fun _ => iok0 rfl) plsame.aok plsame.F_eq (by kernel_rfl) (by kernel_rfl) (fun _ => rfl) (fun _ => ⟨rfl, rfl⟩) fun _ _ => ⟨rfl, rfl⟩
def plcopy.sig : Eng.Sig := { args := [.at (.ptr 0 0)], n := 3, pre := [(0, .cells 4 [.int .i64 0, .ptr 1 0, .full 2 false, .int .i64 1]), (1, .ints false .i64 0), (2, .ints true .i64 1)], post := [(0, .cells 4 [.fint .i64 0, .ptr 1 0, .full 2 false, .fint .i64 1]), (1, .fints false .i64 0), (2, .fints true .i64 1), (3, .cells 4 [.int .i64 0, .ptr 4 0, .full 5 false, .int .i64 1]), (4, .ints false .i64 0), (5, .ints true .i64 1)], m := 3, ret := .at (.ptr 3 0) }
def plcopy.C (N : Nat) : Cfg := { P := Tryz.prog, N := N, RT := noRT, specs := [(97, sycopy.spec)], inl := [], hi := 3, mv := [] }
abbrev plcopy.R : Type := Int × Int × List Int × List Int
def plcopy.dec (L : Eng.Leaves) : plcopy.R := (L.i 0, L.i 1, L.l 0, L.l 1)
def plcopy.enc (r : plcopy.R) : Eng.Leaves := mkL [r.1, r.2.1] [] [r.2.2.1, r.2.2.2] []
def plcopy.K (N : Nat) : FCfg := { anns := [], unr := [], lits := [12], lets := [] }
def plcopy.F (N : Nat) (rate gain : Int) (voice ahead : List Int) : Option plcopy.R :=
  (obind (Rc.sycopy.F N voice) fun r0 =>
  (chk (ahead.length ≤ (17592186043904 : Nat))
  (chkI rate rate
  (chkI gain gain
  (chkL voice voice
  (chkL ahead ahead
  (some ((rate, gain, r0, ahead)))))))))
theorem plcopy.F_eq (N : Nat) (L : Eng.Leaves) : evSig (plcopy.C N) (plcopy.K N) 0 Tryz.f35 plcopy.sig L plcopy.dec = plcopy.F N (L.i 0) (L.i 1) (L.l 0) (L.l 1) := by
  kernel_rfl
def plcopy.spec : Eng.Spec := plcopy.sig.spec (fun N L => plcopy.F N (L.i 0) (L.i 1) (L.l 0) (L.l 1)) plcopy.enc
theorem plcopy.cok (N : Nat) : CfgOK (plcopy.C N) := cok0 wide ⟨sycopy.ok, trivial⟩ (by kernel_rfl) rfl rfl rfl rfl
theorem plcopy.aok (N : Nat) : AnnsOK (plcopy.K N) := aok1 trivial
theorem plcopy.ok : CallOK Tryz.prog 35 plcopy.spec := ok0 plcopy.cok (fun _ => iok0 rfl) plcopy.aok plcopy.F_eq (by kernel_rfl) (by kernel_rfl) (fun _ => rfl) (fun _ => ⟨rfl, rfl⟩) fun _ _ => ⟨rfl, rfl⟩
def same14.sig : Eng.Sig := { args := [.at (.roi .i64 0), .at (.roi .i64 1)], n := 0, pre := [], post := [], m := 0, ret := .at (.bool 0) }
def same14.C (N : Nat) : Cfg := { P := Tryz.prog, N := N, RT := noRT, specs := [], inl := [], hi := 0, mv := [] }
abbrev same14.R : Type := Bool
def same14.dec (L : Eng.Leaves) : same14.R := (L.b 0)
def same14.enc (r : same14.R) : Eng.Leaves := mkL [] [r] [] []
abbrev same14.loop4.R : Type := Bool
def same14.loop4.ann : Ann := { nx := 20, slots := [(0, .at (.froi .i64 0)), (1, .at (.froi .i64 1)), (4, .at (.bool 0)), (5, .at (.int .i64 0))], blks := [], mov := [], exId := 0, xslots := [(4, .at (.bool 0))], xblks := [], T := same14.loop4.R, dec := fun L => (L.b 0), enc := fun r => mkL [] [r] [] [], ret := true }
def same14.K (N : Nat) : FCfg := { anns := [(4, same14.loop4.ann)], unr := [], lits := [], lets := [] }
def same14.loop4 (N : Nat) : Nat → List Int → List Int → List Int → List Int → Int → Bool → Option (same14.loop4.R ⊕ same14.R)
  | 0, _, _, _, _, _, _ => none
  | nn + 1, e_a, e_b, a, b, s5, s4 =>
  (br (decide (s5 < ↑a.length))
  (chk ((0 : Int) ≤ s5 ∧ s5 < ↑a.length)
  (chk ((0 : Int) ≤ s5 ∧ s5 < ↑b.length)
  (br (a.getD s5.toNat (0 : Int) != b.getD s5.toNat (0 : Int))
  (omap
  (some false) .inr)
  (chkL a a
  (chkL b b
  (same14.loop4 N nn e_a e_b a b (IntKind.i64.wrap (s5 + (1 : Int))) s4))))))
  (some (Sum.inl s4)))
def same14.loop4R (N nn : Nat) (e_a e_b : List Int) (a b : List Int) (s5 : Int) (s4 : Bool) : Option (same14.loop4.R ⊕ same14.R) := loopR same14.loop4.ann (mkL [] [] [a, b] []) (evCode ((same14.C N).inLoop same14.loop4.ann) (same14.K N) (inlTab (same14.C N) 0) (bodyAt 4 Tryz.f19)) (sigKr Tryz.prog Tryz.f19 same14.sig (mkL [] [] [e_a, e_b] []) fun L => (L.b 0)) nn (mkL [s5] [s4] [] [])
theorem same14.loop4_eq (N : Nat) : ∀ nn, same14.loop4R N nn = same14.loop4 N nn
  | 0 => by funext; kernel_rfl
  | nn + 1 => by
    funext; rw [same14.loop4, ← same14.loop4_eq N nn]; kernel_rfl
def same14.F (N : Nat) (a b : List Int) : Option same14.R :=
  (br ((a.length : Int) != ↑b.length)
  (some false)
  (osum (same14.loop4 N N a b a b ((0 : Int)) false) fun r0 =>
  (some true)))
theorem same14.F_eq (N : Nat) (L : Eng.Leaves) : evSig (same14.C N) (same14.K N) 0 Tryz.f19 same14.sig L same14.dec = same14.F N (L.l 0) (L.l 1) := by
  rw [same14.F, ← funext (same14.loop4_eq N)]; kernel_rfl
def same14.spec : Eng.Spec := same14.sig.spec (fun N L => same14.F N (L.l 0) (L.l 1)) same14.enc
theorem same14.cok (N : Nat) : CfgOK (same14.C N) := cok0 wide trivial (by kernel_rfl) rfl rfl rfl rfl
theorem same14.aok (N : Nat) : AnnsOK (same14.K N) := aok1 ⟨fun _ _ => ⟨rfl, rfl⟩, trivial⟩
theorem same14.ok : CallOK Tryz.prog 19 same14.spec := ok0 same14.cok (fun _ => iok0 rfl) same14.aok same14.F_eq (by kernel_rfl) (by kernel_rfl) (fun _ => rfl) (fun _ => ⟨rfl, rfl⟩) fun _ _ => ⟨rfl, rfl⟩
def ints14.sig : Eng.Sig := { args := [.at (.roi .i64 0), .at (.roi .i64 1)], n := 0, pre := [], post := [], m := 0, ret := .at (.bool 0) }
def ints14.C (N : Nat) : Cfg := { P := Tryz.prog, N := N, RT := noRT, specs := [], inl := [], hi := 0, mv := [] }
abbrev ints14.R : Type := Bool
def ints14.dec (L : Eng.Leaves) : ints14.R := (L.b 0)
def ints14.enc (r : ints14.R) : Eng.Leaves := mkL [] [r] [] []
abbrev ints14.loop4.R : Type := Bool
def ints14.loop4.ann : Ann := { nx := 20, slots := [(0, .at (.froi .i64 0)), (1, .at (.froi .i64 1)), (4, .at (.bool 0)), (5, .at (.int .i64 0))], blks := [], mov := [], exId := 0, xslots := [(4, .at (.bool 0))], xblks := [], T := ints14.loop4.R, dec := fun L => (L.b 0), enc := fun r => mkL [] [r] [] [], ret := true }
def ints14.K (N : Nat) : FCfg := { anns := [(4, ints14.loop4.ann)], unr := [], lits := [], lets := [] }
def ints14.loop4 (N : Nat) : Nat → List Int → List Int → List Int → List Int → Int → Bool → Option (ints14.loop4.R ⊕ ints14.R)
  | 0, _, _, _, _, _, _ => none
  | nn + 1, e_a, e_b, a, b, s5, s4 =>
  (br (decide (s5 < ↑a.length))
  (chk ((0 : Int) ≤ s5 ∧ s5 < ↑a.length)
  (chk ((0 : Int) ≤ s5 ∧ s5 < ↑b.length)
  (br (a.getD s5.toNat (0 : Int) != b.getD s5.toNat (0 : Int))
  (omap
  (some false) .inr)
  (chkL a a
  (chkL b b
  (ints14.loop4 N nn e_a e_b a b (IntKind.i64.wrap (s5 + (1 : Int))) s4))))))
  (some (Sum.inl s4)))
def ints14.loop4R (N nn : Nat) (e_a e_b : List Int) (a b : List Int) (s5 : Int) (s4 : Bool) : Option (ints14.loop4.R ⊕ ints14.R) := loopR ints14.loop4.ann (mkL [] [] [a, b] []) (evCode ((ints14.C N).inLoop ints14.loop4.ann) (ints14.K N) (inlTab (ints14.C N) 0) (bodyAt 4 Tryz.f23)) (sigKr Tryz.prog Tryz.f23 ints14.sig (mkL [] [] [e_a, e_b] []) fun L => (L.b 0)) nn (mkL [s5] [s4] [] [])
theorem ints14.loop4_eq (N : Nat) : ∀ nn, ints14.loop4R N nn = ints14.loop4 N nn
  | 0 => by funext; kernel_rfl
  | nn + 1 => by
    funext; rw [ints14.loop4, ← ints14.loop4_eq N nn]; kernel_rfl
def ints14.F (N : Nat) (a b : List Int) : Option ints14.R :=
  (br ((a.length : Int) != ↑b.length)
  (some false)
  (osum (ints14.loop4 N N a b a b ((0 : Int)) false) fun r0 =>
  (some true)))
theorem ints14.F_eq (N : Nat) (L : Eng.Leaves) : evSig (ints14.C N) (ints14.K N) 0 Tryz.f23 ints14.sig L ints14.dec = ints14.F N (L.l 0) (L.l 1) := by
  rw [ints14.F, ← funext (ints14.loop4_eq N)]; kernel_rfl
def ints14.spec : Eng.Spec := ints14.sig.spec (fun N L => ints14.F N (L.l 0) (L.l 1)) ints14.enc
theorem ints14.cok (N : Nat) : CfgOK (ints14.C N) := cok0 wide trivial (by kernel_rfl) rfl rfl rfl rfl
theorem ints14.aok (N : Nat) : AnnsOK (ints14.K N) := aok1 ⟨fun _ _ => ⟨rfl, rfl⟩, trivial⟩
theorem ints14.ok : CallOK Tryz.prog 23 ints14.spec := ok0 ints14.cok (fun _ => iok0 rfl) ints14.aok ints14.F_eq (by kernel_rfl) (by kernel_rfl) (fun _ => rfl) (fun _ => ⟨rfl, rfl⟩) fun _ _ => ⟨rfl, rfl⟩
def own14.sig : Eng.Sig := { args := [.agg [.bool 0, .int .i64 0, .int .i64 1, .roi .i64 0, .int .i64 2, .roi .i64 1, .rro ⟨[.i64, .i64], none, false⟩ 0, .roi .i64 2]], n := 0, pre := [], post := [], m := 0, ret := .agg [.bool 0, .int .i64 0, .int .i64 1, .roi .i64 0, .int .i64 2, .roi .i64 1, .roi .i64 2, .roi .i64 3, .roi .i64 4] }
def own14.C (N : Nat) : Cfg := { P := Tryz.prog, N := N, RT := noRT, specs := [], inl := [], hi := 0, mv := [] }
abbrev own14.R : Type := Int × Int × Int × Bool × List Int × List Int × List Int × List Int × List Int
def own14.dec (L : Eng.Leaves) : own14.R := (L.i 0, L.i 1, L.i 2, L.b 0, L.l 0, L.l 1, L.l 2, L.l 3, L.l 4)
def own14.enc (r : own14.R) : Eng.Leaves := mkL [r.1, r.2.1, r.2.2.1] [r.2.2.2.1] [r.2.2.2.2.1, r.2.2.2.2.2.1, r.2.2.2.2.2.2.1, r.2.2.2.2.2.2.2.1, r.2.2.2.2.2.2.2.2] []
abbrev own14.loop3.R : Type := List Int × List Int
def own14.loop3.ann : Ann := { nx := 22, slots := [(1, .at (.ptr 0 0)), (3, .at (.ptr 2 0)), (4, .at (.int .i64 0))], blks := [(0, .cells 8 [.fbool 0, .fint .i64 0, .fint .i64 1, .froi .i64 0, .fint .i64 2, .froi .i64 1, .frro ⟨[.i64, .i64], none, false⟩ 0, .froi .i64 2]), (2, .cells 9 [.fbool 1, .fint .i64 3, .fint .i64 4, .froi .i64 3, .fint .i64 5, .froi .i64 4, .full 20 false, .full 21 false, .froi .i64 5]), (20, .ints true .i64 0), (21, .ints true .i64 1)], mov := [20, 21], exId := 0, xslots := [(1, .at (.ptr 0 0)), (3, .at (.ptr 2 0))], xblks := [(0, .cells 8 [.fbool 0, .fint .i64 0, .fint .i64 1, .froi .i64 0, .fint .i64 2, .froi .i64 1, .frro ⟨[.i64, .i64], none, false⟩ 0, .froi .i64 2]), (2, .cells 9 [.fbool 1, .fint .i64 3, .fint .i64 4, .froi .i64 3, .fint .i64 5, .froi .i64 4, .full 20 false, .full 21 false, .froi .i64 5]), (20, .ints true .i64 0), (21, .ints true .i64 1)], T := own14.loop3.R, dec := fun L => (L.l 0, L.l 1), enc := fun r => mkL [] [] [r.1, r.2] [], ret := false }
def own14.K (N : Nat) : FCfg := { anns := [(3, own14.loop3.ann)], unr := [], lits := [], lets := [], frz := [51] }
def own14.loop3 (N : Nat) : Nat → Int → Int → Int → Int → Int → Int → Bool → Bool → List Int → List Int → List Int → List Int → List Int → List Int → List (List Int) → Int → List Int → List Int → Option own14.loop3.R
  | 0, _, _, _, _, _, _, _, _, _, _, _, _, _, _, _, _, _, _ => none
  | nn + 1, Kind, One, Between, KindB, OneB, BetweenB, Fresh, FreshB, Two, Gains, Pulses, TwoB, GainsB, PulsesB, Ltps, s4, Lags, Taps =>
  (br (decide (s4 < ↑Ltps.length))
  (chk ((0 : Int) ≤ s4 ∧ s4 < ↑Ltps.length)
  (chk (Lags.length + [(Ltps.getD s4.toNat ([] : List Int)).headD (0 : Int)].length ≤ (17592186043904 : Nat))
  (chk ((0 : Int) ≤ s4 ∧ s4 < ↑Ltps.length)
  (chk (Taps.length + [(Ltps.getD s4.toNat ([] : List Int)).tail.headD (0 : Int)].length ≤ (17592186043904 : Nat))
  (chkB Fresh Fresh
  (chkI Kind Kind
  (chkI One One
  (chkL Two Two
  (chkI Between Between
  (chkL Gains Gains
  (chkR Ltps Ltps
  (chkL Pulses Pulses
  (chkB FreshB FreshB
  (chkI KindB KindB
  (chkI OneB OneB
  (chkL TwoB TwoB
  (chkI BetweenB BetweenB
  (chkL GainsB GainsB
  (chkL PulsesB PulsesB
  (own14.loop3 N nn Kind One Between KindB OneB BetweenB Fresh FreshB Two Gains Pulses TwoB GainsB PulsesB Ltps (IntKind.i64.wrap (s4 + (1 : Int))) (Lags ++ [(Ltps.getD s4.toNat ([] : List Int)).headD (0 : Int)]) (Taps ++ [(Ltps.getD s4.toNat ([] : List Int)).tail.headD (0 : Int)])))))))))))))))))))))
  (chkB Fresh Fresh
  (chkI Kind Kind
  (chkI One One
  (chkL Two Two
  (chkI Between Between
  (chkL Gains Gains
  (chkR Ltps Ltps
  (chkL Pulses Pulses
  (chkB FreshB FreshB
  (chkI KindB KindB
  (chkI OneB OneB
  (chkL TwoB TwoB
  (chkI BetweenB BetweenB
  (chkL GainsB GainsB
  (chkL PulsesB PulsesB
  (some ((Lags, Taps)))))))))))))))))))
def own14.loop3R (N nn : Nat) (Kind One Between KindB OneB BetweenB : Int) (Fresh FreshB : Bool) (Two Gains Pulses TwoB GainsB PulsesB : List Int) (Ltps : List (List Int)) (s4 : Int) (Lags Taps : List Int) : Option own14.loop3.R := loopF own14.loop3.ann (mkL [Kind, One, Between, KindB, OneB, BetweenB] [Fresh, FreshB] [Two, Gains, Pulses, TwoB, GainsB, PulsesB] [Ltps]) (evCode ((own14.C N).inLoop own14.loop3.ann) (own14.K N) (inlTab (own14.C N) 0) (bodyAt 3 Tryz.f22)) nn (mkL [s4] [] [Lags, Taps] [])
theorem own14.loop3_eq (N : Nat) : ∀ nn, own14.loop3R N nn = own14.loop3 N nn
  | 0 => by funext; kernel_rfl
  | nn + 1 => by
    funext; rw [own14.loop3, ← own14.loop3_eq N nn]; kernel_rfl
def own14.F (N : Nat) (f_Kind f_Lsf_One f_Between : Int) (f_Fresh : Bool) (f_Lsf_Two f_Gains f_Pulses : List Int) (f_Ltps : List (List Int)) : Option own14.R :=
  (obind (own14.loop3 N N f_Kind f_Lsf_One f_Between f_Kind f_Lsf_One f_Between f_Fresh f_Fresh f_Lsf_Two f_Gains f_Pulses f_Lsf_Two f_Gains f_Pulses f_Ltps ((0 : Int)) (([] : List Int)) (([] : List Int))) fun r0 =>
  (some ((f_Kind, f_Lsf_One, f_Between, f_Fresh, f_Lsf_Two, f_Gains, r0.1, r0.2, f_Pulses))))
theorem own14.F_eq (N : Nat) (L : Eng.Leaves) : evSig (own14.C N) (own14.K N) 0 Tryz.f22 own14.sig L own14.dec = own14.F N (L.i 0) (L.i 1) (L.i 2) (L.b 0) (L.l 0) (L.l 1) (L.l 2) (L.r 0) := by
  rw [own14.F, ← funext (own14.loop3_eq N)]; kernel_rfl
def own14.spec : Eng.Spec := own14.sig.spec (fun N L => own14.F N (L.i 0) (L.i 1) (L.i 2) (L.b 0) (L.l 0) (L.l 1) (L.l 2) (L.r 0)) own14.enc
theorem own14.cok (N : Nat) : CfgOK (own14.C N) := cok0 wide trivial (by kernel_rfl) rfl rfl rfl rfl
theorem own14.aok (N : Nat) : AnnsOK (own14.K N) := aok1 ⟨fun _ _ => ⟨rfl, rfl⟩, trivial⟩
theorem own14.ok : CallOK Tryz.prog 22 own14.spec := ok0 own14.cok (fun _ => iok0 rfl) own14.aok own14.F_eq (by kernel_rfl) (by kernel_rfl) (fun _ => rfl) (fun _ => ⟨rfl, rfl⟩) fun _ _ => ⟨rfl, rfl⟩
def plain14.sig : Eng.Sig := { args := [], n := 0, pre := [], post := [], m := 0, ret := .agg [.bool 0, .int .i64 0, .int .i64 1, .roi .i64 0, .int .i64 2, .roi .i64 1, .rro ⟨[.i64, .i64], none, false⟩ 0, .roi .i64 2] }
def plain14.C (N : Nat) : Cfg := { P := Tryz.prog, N := N, RT := noRT, specs := [], inl := [], hi := 0, mv := [] }
abbrev plain14.R : Type := Int × Int × Int × Bool × List Int × List Int × List Int × List (List Int)
def plain14.dec (L : Eng.Leaves) : plain14.R := (L.i 0, L.i 1, L.i 2, L.b 0, L.l 0, L.l 1, L.l 2, L.r 0)
def plain14.enc (r : plain14.R) : Eng.Leaves := mkL [r.1, r.2.1, r.2.2.1] [r.2.2.2.1] [r.2.2.2.2.1, r.2.2.2.2.2.1, r.2.2.2.2.2.2.1] [r.2.2.2.2.2.2.2]
def plain14.K (N : Nat) : FCfg := { anns := [], unr := [], lits := [], lets := [], frz := [9] }
def plain14.F (N : Nat)  : Option plain14.R :=
  (some (((1 : Int), (0 : Int), (0 : Int), true, List.replicate (10 : Nat) (0 : Int), [(30 : Int), (30 : Int)], (List.replicate (80 : Nat) (0 : Int)).set (0 : Nat) (1 : Int), ([] : List (List Int)))))
theorem plain14.F_eq (N : Nat) (L : Eng.Leaves) : evSig (plain14.C N) (plain14.K N) 0 Tryz.f17 plain14.sig L plain14.dec = plain14.F N  := by
  kernel_rfl
def plain14.spec : Eng.Spec := plain14.sig.spec (fun N L => plain14.F N ) plain14.enc
theorem plain14.cok (N : Nat) : CfgOK (plain14.C N) := cok0 wide trivial (by kernel_rfl) rfl rfl rfl rfl
theorem plain14.aok (N : Nat) : AnnsOK (plain14.K N) := aok1 trivial
theorem plain14.ok : CallOK Tryz.prog 17 plain14.spec := ok0 plain14.cok (fun _ => iok0 rfl) plain14.aok plain14.F_eq (by kernel_rfl) (by kernel_rfl) (fun _ => rfl) (fun _ => ⟨rfl, rfl⟩) fun _ _ => ⟨rfl, rfl⟩
def is14.sig : Eng.Sig := { args := [.agg [.bool 0, .int .i64 0, .int .i64 1, .roi .i64 0, .int .i64 2, .roi .i64 1, .rro ⟨[.i64, .i64], none, false⟩ 0, .roi .i64 2], .agg [.bool 1, .int .i64 3, .int .i64 4, .roi .i64 3, .int .i64 5, .roi .i64 4, .roi .i64 5, .roi .i64 6, .roi .i64 7]], n := 0, pre := [], post := [], m := 0, ret := .at (.bool 0) }
def is14.C (N : Nat) : Cfg := { P := Tryz.prog, N := N, RT := noRT, specs := [(22, own14.spec), (23, ints14.spec), (19, same14.spec)], inl := [], hi := 0, mv := [] }
abbrev is14.R : Type := Bool
def is14.dec (L : Eng.Leaves) : is14.R := (L.b 0)
def is14.enc (r : is14.R) : Eng.Leaves := mkL [] [r] [] []
def is14.K (N : Nat) : FCfg := { anns := [], unr := [], lits := [], lets := [] }
def is14.F (N : Nat) (f_Kind f_Lsf_One f_Between Kind One Between : Int) (f_Fresh Fresh : Bool) (f_Lsf_Two f_Gains f_Pulses Two Gains Lags Taps Pulses : List Int) (f_Ltps : List (List Int)) : Option is14.R :=
  (obind (Rc.own14.F N f_Kind f_Lsf_One f_Between f_Fresh f_Lsf_Two f_Gains f_Pulses f_Ltps) fun r0 =>
  (br (r0.2.2.2.1 == Fresh)
  (br (r0.1 == Kind)
  (br (r0.2.1 == One)
  (obind (Rc.ints14.F N r0.2.2.2.2.1 Two) fun r1 =>
  (br r1
  (br (r0.2.2.1 == Between)
  (obind (Rc.ints14.F N r0.2.2.2.2.2.1 Gains) fun r2 =>
  (br r2
  (obind (Rc.ints14.F N r0.2.2.2.2.2.2.1 Lags) fun r3 =>
  (br r3
  (obind (Rc.ints14.F N r0.2.2.2.2.2.2.2.1 Taps) fun r4 =>
  (br r4
  (obind (Rc.same14.F N r0.2.2.2.2.2.2.2.2 Pulses) fun r5 =>
  (some r5))
  (some false)))
  (some false)))
  (some false)))
  (some false))
  (some false)))
  (some false))
  (some false))
  (some false)))
theorem is14.F_eq (N : Nat) (L : Eng.Leaves) : evSig (is14.C N) (is14.K N) 0 Tryz.f26 is14.sig L is14.dec = is14.F N (L.i 0) (L.i 1) (L.i 2) (L.i 3) (L.i 4) (L.i 5) (L.b 0) (L.b 1) (L.l 0) (L.l 1) (L.l 2) (L.l 3) (L.l 4) (L.l 5) (L.l 6) (L.l 7) (L.r 0) := by
  kernel_rfl
def is14.spec : Eng.Spec := is14.sig.spec (fun N L => is14.F N (L.i 0) (L.i 1) (L.i 2) (L.i 3) (L.i 4) (L.i 5) (L.b 0) (L.b 1) (L.l 0) (L.l 1) (L.l 2) (L.l 3) (L.l 4) (L.l 5) (L.l 6) (L.l 7) (L.r 0)) is14.enc
theorem is14.cok (N : Nat) : CfgOK (is14.C N) := cok0 wide ⟨own14.ok, ints14.ok, same14.ok, trivial⟩ (by kernel_rfl) rfl rfl rfl rfl
theorem is14.aok (N : Nat) : AnnsOK (is14.K N) := aok1 trivial
theorem is14.ok : CallOK Tryz.prog 26 is14.spec := ok0 is14.cok (fun _ => iok0 rfl) is14.aok is14.F_eq (by kernel_rfl) (by kernel_rfl) (fun _ => rfl) (fun _ => ⟨rfl, rfl⟩) fun _ _ => ⟨rfl, rfl⟩
def plplay.sig : Eng.Sig := { args := [.at (.ptr 0 0), .at (.int .i64 0), .agg [.bool 0, .int .i64 1, .int .i64 2, .roi .i64 0, .int .i64 3, .roi .i64 1, .rro ⟨[.i64, .i64], none, false⟩ 0, .roi .i64 2]], n := 3, pre := [(0, .cells 4 [.int .i64 4, .ptr 1 0, .full 2 false, .int .i64 5]), (1, .ints false .i64 3), (2, .ints true .i64 4)], post := [(0, .cells 4 [.fint .i64 4, .ptr 1 0, .full 4 false, .int .i64 1]), (1, .ints false .i64 0), (2, .dead), (3, .ints true .i64 1), (4, .ints true .i64 2)], m := 2, ret := .tup [(false, [.full 3 false]), (false, [.int .i64 0])] }
def plplay.C (N : Nat) : Cfg := { P := Tryz.prog, N := N, RT := noRT, specs := [(21, spgood.spec), (36, plreset.spec), (34, torder.spec), (61, ldecode.spec), (62, lbetween.spec), (63, lfrom.spec), (64, gloud.spec), (65, ttaps.spec), (66, syrun.spec), (67, sypcm.spec)], inl := [], hi := 3, mv := [] }
abbrev plplay.R : Type := Int × Int × List Int × List Int × List Int
def plplay.dec (L : Eng.Leaves) : plplay.R := (L.i 0, L.i 1, L.l 0, L.l 1, L.l 2)
def plplay.enc (r : plplay.R) : Eng.Leaves := mkL [r.1, r.2.1] [] [r.2.2.1, r.2.2.2.1, r.2.2.2.2] []
abbrev plplay.loop12.R : Type := Int × List Int × List Int × List Int × List Int × List Int
def plplay.loop12.ann : Ann := { nx := 60, slots := [(0, .at (.ptr 0 0)), (5, .at (.ptr 3 0)), (12, .at (.full 40 false)), (14, .at (.full 41 false)), (16, .at (.fint .i64 0)), (17, .at (.full 20 false)), (73, .at (.froi .i64 0)), (74, .at (.fint .i64 1)), (75, .at (.int .i64 0))], blks := [(0, .cells 4 [.fint .i64 2, .ptr 1 0, .full 21 false, .int .i64 1]), (1, .ints false .i64 0), (3, .cells 8 [.fbool 0, .fint .i64 3, .fint .i64 4, .froi .i64 1, .fint .i64 5, .froi .i64 2, .frro ⟨[.i64, .i64], none, false⟩ 0, .froi .i64 3]), (40, .ints true .i64 1), (41, .ints true .i64 2), (20, .ints true .i64 3), (21, .ints true .i64 4)], mov := [20, 21, 40, 41], exId := 0, xslots := [(0, .at (.ptr 0 0)), (5, .at (.ptr 3 0)), (12, .at (.full 40 false)), (14, .at (.full 41 false)), (17, .at (.full 20 false))], xblks := [(0, .cells 4 [.fint .i64 2, .ptr 1 0, .full 21 false, .int .i64 0]), (1, .ints false .i64 0), (3, .cells 8 [.fbool 0, .fint .i64 3, .fint .i64 4, .froi .i64 1, .fint .i64 5, .froi .i64 2, .frro ⟨[.i64, .i64], none, false⟩ 0, .froi .i64 3]), (40, .ints true .i64 1), (41, .ints true .i64 2), (20, .ints true .i64 3), (21, .ints true .i64 4)], T := plplay.loop12.R, dec := fun L => (L.i 0, L.l 0, L.l 1, L.l 2, L.l 3, L.l 4), enc := fun r => mkL [r.1] [] [r.2.1, r.2.2.1, r.2.2.2.1, r.2.2.2.2.1, r.2.2.2.2.2] [], ret := false }
def plplay.K (N : Nat) : FCfg := { anns := [(12, plplay.loop12.ann)], unr := [], lits := [], lets := [], mks := [81, 20] }
def plplay.loop12 (N : Nat) : Nat → Int → Int → Int → Int → Int → Int → Bool → List Int → List Int → List Int → List Int → List (List Int) → Int → Int → List Int → List Int → List Int → List Int → List Int → Option plplay.loop12.R
  | 0, _, _, _, _, _, _, _, _, _, _, _, _, _, _, _, _, _, _, _ => none
  | nn + 1, s16, s74, rate, Kind, One, Between, Fresh, s73, Two, Gains, Pulses, Ltps, s75, gain, voice, l10, l11, s17, ahead =>
  (br (decide (s75 < s74))
  (chk ((0 : Int) ≤ s75 ∧ s75 < ↑s73.length)
  (chk ((0 : Int) ≤ s16 ∧ s16 ≤ s16 ∧ s16 ≤ ↑(17592186043904 : Nat))
  (obind (Rc.gloud.F N (s73.getD s75.toNat (0 : Int))) fun r0 =>
  (br (decide (IntKind.i64.wrap ((2 : Int) * s75) < ↑Gains.length))
  (br (Kind != (0 : Int))
  (chk ((0 : Int) ≤ IntKind.i64.wrap (s75 * s16) ∧ IntKind.i64.wrap (s75 * s16) ≤ ↑Pulses.length)
  (br (Kind == (2 : Int))
  (chk ((0 : Int) ≤ s75 ∧ s75 < ↑Ltps.length)
  (chk ((0 : Int) ≤ s75 ∧ s75 < ↑Ltps.length)
  (obind (Rc.ttaps.F N ((Ltps.getD s75.toNat ([] : List Int)).tail.headD (0 : Int))) fun r1 =>
  (chkR Ltps Ltps
  (obind (Rc.syrun.F N r0 ((Ltps.getD s75.toNat ([] : List Int)).headD (0 : Int)) r1.1 r1.2.1 r1.2.2.1 r1.2.2.2.1 r1.2.2.2.2 (List.take (List.replicate s16.toNat (0 : Int)).length (List.take (Pulses.length - (IntKind.i64.wrap (s75 * s16)).toNat) (List.drop (IntKind.i64.wrap (s75 * s16)).toNat Pulses)) ++ List.drop (min (List.take (Pulses.length - (IntKind.i64.wrap (s75 * s16)).toNat) (List.drop (IntKind.i64.wrap (s75 * s16)).toNat Pulses)).length (List.replicate s16.toNat (0 : Int)).length) (List.replicate s16.toNat (0 : Int))) l10 voice) fun r2 =>
  (chk (s17.length + r2.2.2.length ≤ (17592186043904 : Nat))
  (chkI s16 s16
  (chkL s73 s73
  (chkI s74 s74
  (chkI rate rate
  (chkB Fresh Fresh
  (chkI Kind Kind
  (chkI One One
  (chkL Two Two
  (chkI Between Between
  (chkL Gains Gains
  (chkR Ltps Ltps
  (chkL Pulses Pulses
  (plplay.loop12 N nn s16 s74 rate Kind One Between Fresh s73 Two Gains Pulses Ltps (IntKind.i64.wrap (s75 + (1 : Int))) (s73.getD s75.toNat (0 : Int)) r2.2.1 l10 l11 (s17 ++ r2.2.2) ahead)))))))))))))))))))
  (obind (Rc.syrun.F N r0 ((0 : Int)) ((0 : Int)) ((0 : Int)) ((0 : Int)) ((0 : Int)) ((0 : Int)) (List.take (List.replicate s16.toNat (0 : Int)).length (List.take (Pulses.length - (IntKind.i64.wrap (s75 * s16)).toNat) (List.drop (IntKind.i64.wrap (s75 * s16)).toNat Pulses)) ++ List.drop (min (List.take (Pulses.length - (IntKind.i64.wrap (s75 * s16)).toNat) (List.drop (IntKind.i64.wrap (s75 * s16)).toNat Pulses)).length (List.replicate s16.toNat (0 : Int)).length) (List.replicate s16.toNat (0 : Int))) l10 voice) fun r3 =>
  (chk (s17.length + r3.2.2.length ≤ (17592186043904 : Nat))
  (chkI s16 s16
  (chkL s73 s73
  (chkI s74 s74
  (chkI rate rate
  (chkB Fresh Fresh
  (chkI Kind Kind
  (chkI One One
  (chkL Two Two
  (chkI Between Between
  (chkL Gains Gains
  (chkR Ltps Ltps
  (chkL Pulses Pulses
  (plplay.loop12 N nn s16 s74 rate Kind One Between Fresh s73 Two Gains Pulses Ltps (IntKind.i64.wrap (s75 + (1 : Int))) (s73.getD s75.toNat (0 : Int)) r3.2.1 l10 l11 (s17 ++ r3.2.2) ahead)))))))))))))))))
  (br (Kind == (2 : Int))
  (chk ((0 : Int) ≤ s75 ∧ s75 < ↑Ltps.length)
  (chk ((0 : Int) ≤ s75 ∧ s75 < ↑Ltps.length)
  (obind (Rc.ttaps.F N ((Ltps.getD s75.toNat ([] : List Int)).tail.headD (0 : Int))) fun r4 =>
  (chkR Ltps Ltps
  (obind (Rc.syrun.F N r0 ((Ltps.getD s75.toNat ([] : List Int)).headD (0 : Int)) r4.1 r4.2.1 r4.2.2.1 r4.2.2.2.1 r4.2.2.2.2 (List.replicate s16.toNat (0 : Int)) l10 voice) fun r5 =>
  (chk (s17.length + r5.2.2.length ≤ (17592186043904 : Nat))
  (chkI s16 s16
  (chkL s73 s73
  (chkI s74 s74
  (chkI rate rate
  (chkB Fresh Fresh
  (chkI Kind Kind
  (chkI One One
  (chkL Two Two
  (chkI Between Between
  (chkL Gains Gains
  (chkR Ltps Ltps
  (chkL Pulses Pulses
  (plplay.loop12 N nn s16 s74 rate Kind One Between Fresh s73 Two Gains Pulses Ltps (IntKind.i64.wrap (s75 + (1 : Int))) (s73.getD s75.toNat (0 : Int)) r5.2.1 l10 l11 (s17 ++ r5.2.2) ahead)))))))))))))))))))
  (obind (Rc.syrun.F N r0 ((0 : Int)) ((0 : Int)) ((0 : Int)) ((0 : Int)) ((0 : Int)) ((0 : Int)) (List.replicate s16.toNat (0 : Int)) l10 voice) fun r6 =>
  (chk (s17.length + r6.2.2.length ≤ (17592186043904 : Nat))
  (chkI s16 s16
  (chkL s73 s73
  (chkI s74 s74
  (chkI rate rate
  (chkB Fresh Fresh
  (chkI Kind Kind
  (chkI One One
  (chkL Two Two
  (chkI Between Between
  (chkL Gains Gains
  (chkR Ltps Ltps
  (chkL Pulses Pulses
  (plplay.loop12 N nn s16 s74 rate Kind One Between Fresh s73 Two Gains Pulses Ltps (IntKind.i64.wrap (s75 + (1 : Int))) (s73.getD s75.toNat (0 : Int)) r6.2.1 l10 l11 (s17 ++ r6.2.2) ahead)))))))))))))))))
  (br (Kind != (0 : Int))
  (chk ((0 : Int) ≤ IntKind.i64.wrap (s75 * s16) ∧ IntKind.i64.wrap (s75 * s16) ≤ ↑Pulses.length)
  (br (Kind == (2 : Int))
  (chk ((0 : Int) ≤ s75 ∧ s75 < ↑Ltps.length)
  (chk ((0 : Int) ≤ s75 ∧ s75 < ↑Ltps.length)
  (obind (Rc.ttaps.F N ((Ltps.getD s75.toNat ([] : List Int)).tail.headD (0 : Int))) fun r7 =>
  (chkR Ltps Ltps
  (obind (Rc.syrun.F N r0 ((Ltps.getD s75.toNat ([] : List Int)).headD (0 : Int)) r7.1 r7.2.1 r7.2.2.1 r7.2.2.2.1 r7.2.2.2.2 (List.take (List.replicate s16.toNat (0 : Int)).length (List.take (Pulses.length - (IntKind.i64.wrap (s75 * s16)).toNat) (List.drop (IntKind.i64.wrap (s75 * s16)).toNat Pulses)) ++ List.drop (min (List.take (Pulses.length - (IntKind.i64.wrap (s75 * s16)).toNat) (List.drop (IntKind.i64.wrap (s75 * s16)).toNat Pulses)).length (List.replicate s16.toNat (0 : Int)).length) (List.replicate s16.toNat (0 : Int))) l11 voice) fun r8 =>
  (chk (s17.length + r8.2.2.length ≤ (17592186043904 : Nat))
  (chkI s16 s16
  (chkL s73 s73
  (chkI s74 s74
  (chkI rate rate
  (chkB Fresh Fresh
  (chkI Kind Kind
  (chkI One One
  (chkL Two Two
  (chkI Between Between
  (chkL Gains Gains
  (chkR Ltps Ltps
  (chkL Pulses Pulses
  (plplay.loop12 N nn s16 s74 rate Kind One Between Fresh s73 Two Gains Pulses Ltps (IntKind.i64.wrap (s75 + (1 : Int))) (s73.getD s75.toNat (0 : Int)) r8.2.1 l10 l11 (s17 ++ r8.2.2) ahead)))))))))))))))))))
  (obind (Rc.syrun.F N r0 ((0 : Int)) ((0 : Int)) ((0 : Int)) ((0 : Int)) ((0 : Int)) ((0 : Int)) (List.take (List.replicate s16.toNat (0 : Int)).length (List.take (Pulses.length - (IntKind.i64.wrap (s75 * s16)).toNat) (List.drop (IntKind.i64.wrap (s75 * s16)).toNat Pulses)) ++ List.drop (min (List.take (Pulses.length - (IntKind.i64.wrap (s75 * s16)).toNat) (List.drop (IntKind.i64.wrap (s75 * s16)).toNat Pulses)).length (List.replicate s16.toNat (0 : Int)).length) (List.replicate s16.toNat (0 : Int))) l11 voice) fun r9 =>
  (chk (s17.length + r9.2.2.length ≤ (17592186043904 : Nat))
  (chkI s16 s16
  (chkL s73 s73
  (chkI s74 s74
  (chkI rate rate
  (chkB Fresh Fresh
  (chkI Kind Kind
  (chkI One One
  (chkL Two Two
  (chkI Between Between
  (chkL Gains Gains
  (chkR Ltps Ltps
  (chkL Pulses Pulses
  (plplay.loop12 N nn s16 s74 rate Kind One Between Fresh s73 Two Gains Pulses Ltps (IntKind.i64.wrap (s75 + (1 : Int))) (s73.getD s75.toNat (0 : Int)) r9.2.1 l10 l11 (s17 ++ r9.2.2) ahead)))))))))))))))))
  (br (Kind == (2 : Int))
  (chk ((0 : Int) ≤ s75 ∧ s75 < ↑Ltps.length)
  (chk ((0 : Int) ≤ s75 ∧ s75 < ↑Ltps.length)
  (obind (Rc.ttaps.F N ((Ltps.getD s75.toNat ([] : List Int)).tail.headD (0 : Int))) fun r10 =>
  (chkR Ltps Ltps
  (obind (Rc.syrun.F N r0 ((Ltps.getD s75.toNat ([] : List Int)).headD (0 : Int)) r10.1 r10.2.1 r10.2.2.1 r10.2.2.2.1 r10.2.2.2.2 (List.replicate s16.toNat (0 : Int)) l11 voice) fun r11 =>
  (chk (s17.length + r11.2.2.length ≤ (17592186043904 : Nat))
  (chkI s16 s16
  (chkL s73 s73
  (chkI s74 s74
  (chkI rate rate
  (chkB Fresh Fresh
  (chkI Kind Kind
  (chkI One One
  (chkL Two Two
  (chkI Between Between
  (chkL Gains Gains
  (chkR Ltps Ltps
  (chkL Pulses Pulses
  (plplay.loop12 N nn s16 s74 rate Kind One Between Fresh s73 Two Gains Pulses Ltps (IntKind.i64.wrap (s75 + (1 : Int))) (s73.getD s75.toNat (0 : Int)) r11.2.1 l10 l11 (s17 ++ r11.2.2) ahead)))))))))))))))))))
  (obind (Rc.syrun.F N r0 ((0 : Int)) ((0 : Int)) ((0 : Int)) ((0 : Int)) ((0 : Int)) ((0 : Int)) (List.replicate s16.toNat (0 : Int)) l11 voice) fun r12 =>
  (chk (s17.length + r12.2.2.length ≤ (17592186043904 : Nat))
  (chkI s16 s16
  (chkL s73 s73
  (chkI s74 s74
  (chkI rate rate
  (chkB Fresh Fresh
  (chkI Kind Kind
  (chkI One One
  (chkL Two Two
  (chkI Between Between
  (chkL Gains Gains
  (chkR Ltps Ltps
  (chkL Pulses Pulses
  (plplay.loop12 N nn s16 s74 rate Kind One Between Fresh s73 Two Gains Pulses Ltps (IntKind.i64.wrap (s75 + (1 : Int))) (s73.getD s75.toNat (0 : Int)) r12.2.1 l10 l11 (s17 ++ r12.2.2) ahead)))))))))))))))))))))
  (chkI rate rate
  (chkB Fresh Fresh
  (chkI Kind Kind
  (chkI One One
  (chkL Two Two
  (chkI Between Between
  (chkL Gains Gains
  (chkR Ltps Ltps
  (chkL Pulses Pulses
  (some ((gain, voice, l10, l11, s17, ahead)))))))))))))
def plplay.loop12R (N nn : Nat) (s16 s74 rate Kind One Between : Int) (Fresh : Bool) (s73 Two Gains Pulses : List Int) (Ltps : List (List Int)) (s75 gain : Int) (voice l10 l11 s17 ahead : List Int) : Option plplay.loop12.R := loopF plplay.loop12.ann (mkL [s16, s74, rate, Kind, One, Between] [Fresh] [s73, Two, Gains, Pulses] [Ltps]) (evCode ((plplay.C N).inLoop plplay.loop12.ann) (plplay.K N) (inlTab (plplay.C N) 0) (bodyAt 12 Tryz.f16)) nn (mkL [s75, gain] [] [voice, l10, l11, s17, ahead] [])
theorem plplay.loop12_eq (N : Nat) : ∀ nn, plplay.loop12R N nn = plplay.loop12 N nn
  | 0 => by funext; kernel_rfl
  | nn + 1 => by
    funext; rw [plplay.loop12, ← plplay.loop12_eq N nn]; kernel_rfl
def plplay.F (N : Nat) (ms f_Kind f_Lsf_One f_Between rate gain : Int) (f_Fresh : Bool) (f_Lsf_Two f_Gains f_Pulses voice ahead : List Int) (f_Ltps : List (List Int)) : Option plplay.R :=
  (obind (Rc.spgood.F N rate ms f_Kind f_Lsf_One f_Between f_Fresh f_Lsf_Two f_Gains f_Pulses f_Ltps) fun r0 =>
  (br (!r0)
  (chkI rate rate
  (some (((1 : Int), gain, voice, ([] : List Int), ahead))))
  (br f_Fresh
  (obind (Rc.plreset.F N rate gain voice ahead) fun r1 =>
  (obind (Rc.torder.F N rate) fun r2 =>
  (obind (Rc.ldecode.F N r2 f_Lsf_One f_Lsf_Two) fun r3 =>
  (chkI f_Lsf_One f_Lsf_One
  (chkL f_Lsf_Two f_Lsf_Two
  (obind (Rc.lbetween.F N f_Between r1.2.2 r3.2) fun r4 =>
  (obind (Rc.lfrom.F N r4.2) fun r5 =>
  (obind (Rc.lfrom.F N r3.2) fun r6 =>
  (obind (plplay.loop12 N N (IntKind.i64.wrap (rate.tdiv (200 : Int))) (↑f_Gains.length) rate f_Kind f_Lsf_One f_Between f_Fresh f_Gains f_Lsf_Two f_Gains f_Pulses f_Ltps ((0 : Int)) r1.1 r1.2.1 r5.2 r6.2 (([] : List Int)) r1.2.2) fun r7 =>
  (obind (Rc.sypcm.F N r7.2.2.2.2.1) fun r8 =>
  (chkI rate rate
  (some (((0 : Int), r7.1, r7.2.1, r8, r3.2))))))))))))))
  (obind (Rc.torder.F N rate) fun r9 =>
  (obind (Rc.ldecode.F N r9 f_Lsf_One f_Lsf_Two) fun r10 =>
  (chkI f_Lsf_One f_Lsf_One
  (chkL f_Lsf_Two f_Lsf_Two
  (obind (Rc.lbetween.F N f_Between ahead r10.2) fun r11 =>
  (obind (Rc.lfrom.F N r11.2) fun r12 =>
  (obind (Rc.lfrom.F N r10.2) fun r13 =>
  (obind (plplay.loop12 N N (IntKind.i64.wrap (rate.tdiv (200 : Int))) (↑f_Gains.length) rate f_Kind f_Lsf_One f_Between f_Fresh f_Gains f_Lsf_Two f_Gains f_Pulses f_Ltps ((0 : Int)) gain voice r12.2 r13.2 (([] : List Int)) ahead) fun r14 =>
  (obind (Rc.sypcm.F N r14.2.2.2.2.1) fun r15 =>
  (chkI rate rate
  (some (((0 : Int), r14.1, r14.2.1, r15, r10.2))))))))))))))))
theorem plplay.F_eq (N : Nat) (L : Eng.Leaves) : evSig (plplay.C N) (plplay.K N) 0 Tryz.f16 plplay.sig L plplay.dec = plplay.F N (L.i 0) (L.i 1) (L.i 2) (L.i 3) (L.i 4) (L.i 5) (L.b 0) (L.l 0) (L.l 1) (L.l 2) (L.l 3) (L.l 4) (L.r 0) := by
  rw [plplay.F, ← funext (plplay.loop12_eq N)]; kernel_rfl
def plplay.spec : Eng.Spec := plplay.sig.spec (fun N L => plplay.F N (L.i 0) (L.i 1) (L.i 2) (L.i 3) (L.i 4) (L.i 5) (L.b 0) (L.l 0) (L.l 1) (L.l 2) (L.l 3) (L.l 4) (L.r 0)) plplay.enc
theorem plplay.cok (N : Nat) : CfgOK (plplay.C N) := cok0 wide ⟨spgood.ok, plreset.ok, torder.ok, ldecode.ok, lbetween.ok, lfrom.ok, gloud.ok, ttaps.ok, syrun.ok, sypcm.ok, trivial⟩ (by kernel_rfl) rfl rfl rfl rfl
theorem plplay.aok (N : Nat) : AnnsOK (plplay.K N) := aok1 ⟨fun _ _ => ⟨rfl, rfl⟩, trivial⟩
theorem plplay.ok : CallOK Tryz.prog 16 plplay.spec := ok0 plplay.cok (fun _ => iok0 rfl) plplay.aok plplay.F_eq (by kernel_rfl) (by kernel_rfl) (fun _ => rfl) (fun _ => ⟨rfl, rfl⟩) fun _ _ => ⟨rfl, rfl⟩
end
end Go.Proofs.Rc
