/-
  Functions of the program: what each comes to, and its contract (written by a program).
  Conditions: none: each contract is proved for every input of its shape.
-/
import Derived.Test.YtlbdcahecabfkaaEngFn
import Derived.Laws.Externs
import Derived.Test.YtlbdcahecabfkaaProg
import Derived.Test.YtlbdcahecabfkaaRencFns
namespace Go.Proofs.Rc
open Go.Eng
set_option maxRecDepth 100000
set_option linter.unusedVariables false
set_option linter.unusedSimpArgs false
noncomputable def clamp.sig : Eng.Sig := { args := [.at (.int .i64 0), .at (.int .i64 1), .at (.int .i64 2)], n := 0, pre := [], post := [], m := 0, ret := .at (.int .i64 0) }
noncomputable def clamp.C (N : Nat) : Cfg := { P := Try.prog, N := N, RT := noRT, specs := [], inl := [], hi := 0, mv := [] }
abbrev clamp.R : Type := Int
def clamp.dec (L : Eng.Leaves) : clamp.R := (L.i 0)
def clamp.enc (r : clamp.R) : Eng.Leaves := mkL [r] [] [] []
noncomputable def clamp.K (N : Nat) : FCfg := { anns := [], unr := [], lits := [], lets := [] }
noncomputable def clamp.F (N : Nat) (a : Int) (lo : Int) (hi : Int) : Option clamp.R :=
  (br (decide (lo > hi))
   (some (lo))
   (br (decide (a < lo))
    (some (lo))
    (br (decide (a > hi))
     (some (hi))
     (some (a)))))
theorem clamp.F_eq (N : Nat) (L : Eng.Leaves) : evSig (clamp.C N) (clamp.K N) 0 Try.f106 clamp.sig L clamp.dec = clamp.F N (L.i 0) (L.i 1) (L.i 2) := by
  kernel_rfl
noncomputable def clamp.spec : Eng.Spec := clamp.sig.spec (fun N L => clamp.F N (L.i 0) (L.i 1) (L.i 2)) clamp.enc
theorem clamp.cok (N : Nat) : CfgOK (clamp.C N) := ⟨fun _ _ _ _ h => by simp [clamp.C, noRT] at h, wide, by
  simp only [clamp.C, List.mem_cons, List.not_mem_nil, or_false, forall_eq_or_imp, forall_eq, false_imp_iff, implies_true], fun g hg => by simp [clamp.C] at hg, fun m hm => by simp [clamp.C] at hm, fun q hq => by simp [clamp.C] at hq⟩
theorem clamp.aok (N : Nat) : AnnsOK (clamp.K N) := by
  intro q hq
  simp only [clamp.K, List.mem_cons, List.not_mem_nil, or_false] at hq
theorem clamp.ok : CallOK Try.prog 106 clamp.spec :=
  callOK_of_sig (fn := Try.f106) (Cf := clamp.C) (K := clamp.K) (d := 0) (dec := clamp.dec) (by kernel_rfl) (fun _ => rfl) clamp.cok (fun _ q hq => by simp [clamp.C] at hq) clamp.aok
    (fun N L r h => (clamp.F_eq N L).trans h) (by kernel_rfl) (fun _ => ⟨rfl, rfl⟩) (fun _ _ => ⟨rfl, rfl⟩)
noncomputable def rclamp.sig : Eng.Sig := { args := [.at (.int .i64 0), .at (.int .i64 1), .at (.int .i64 2)], n := 0, pre := [], post := [], m := 0, ret := .at (.int .i64 0) }
noncomputable def rclamp.C (N : Nat) : Cfg := { P := Try.prog, N := N, RT := noRT, specs := [], inl := [], hi := 0, mv := [] }
abbrev rclamp.R : Type := Int
def rclamp.dec (L : Eng.Leaves) : rclamp.R := (L.i 0)
def rclamp.enc (r : rclamp.R) : Eng.Leaves := mkL [r] [] [] []
noncomputable def rclamp.K (N : Nat) : FCfg := { anns := [], unr := [], lits := [], lets := [] }
noncomputable def rclamp.F (N : Nat) (a : Int) (lo : Int) (hi : Int) : Option rclamp.R :=
  (br (decide (a < lo))
   (some (lo))
   (br (decide (lo > hi))
    (some (lo))
    (br (decide (a > hi))
     (some (hi))
     (some (a)))))
theorem rclamp.F_eq (N : Nat) (L : Eng.Leaves) : evSig (rclamp.C N) (rclamp.K N) 0 Try.f43 rclamp.sig L rclamp.dec = rclamp.F N (L.i 0) (L.i 1) (L.i 2) := by
  kernel_rfl
noncomputable def rclamp.spec : Eng.Spec := rclamp.sig.spec (fun N L => rclamp.F N (L.i 0) (L.i 1) (L.i 2)) rclamp.enc
theorem rclamp.cok (N : Nat) : CfgOK (rclamp.C N) := ⟨fun _ _ _ _ h => by simp [rclamp.C, noRT] at h, wide, by
  simp only [rclamp.C, List.mem_cons, List.not_mem_nil, or_false, forall_eq_or_imp, forall_eq, false_imp_iff, implies_true], fun g hg => by simp [rclamp.C] at hg, fun m hm => by simp [rclamp.C] at hm, fun q hq => by simp [rclamp.C] at hq⟩
theorem rclamp.aok (N : Nat) : AnnsOK (rclamp.K N) := by
  intro q hq
  simp only [rclamp.K, List.mem_cons, List.not_mem_nil, or_false] at hq
theorem rclamp.ok : CallOK Try.prog 43 rclamp.spec :=
  callOK_of_sig (fn := Try.f43) (Cf := rclamp.C) (K := rclamp.K) (d := 0) (dec := rclamp.dec) (by kernel_rfl) (fun _ => rfl) rclamp.cok (fun _ q hq => by simp [rclamp.C] at hq) rclamp.aok
    (fun N L r h => (rclamp.F_eq N L).trans h) (by kernel_rfl) (fun _ => ⟨rfl, rfl⟩) (fun _ _ => ⟨rfl, rfl⟩)
noncomputable def ticdf.sig : Eng.Sig := { args := [.at (.int .i64 0)], n := 0, pre := [], post := [], m := 0, ret := .at (.roi .i64 0) }
noncomputable def ticdf.C (N : Nat) : Cfg := { P := Try.prog, N := N, RT := noRT, specs := [], inl := [], hi := 0, mv := [] }
abbrev ticdf.R : Type := List Int
def ticdf.dec (L : Eng.Leaves) : ticdf.R := (L.l 0)
def ticdf.enc (r : ticdf.R) : Eng.Leaves := mkL [] [] [r] []
noncomputable def ticdf.K (N : Nat) : FCfg := { anns := [], unr := [], lits := [6, 9, 12, 15, 18, 21, 24, 27, 30], lets := [] }
noncomputable def ticdf.F (N : Nat) (k : Int) : Option ticdf.R :=
  (br (k == (0 : Int))
   (some ([(192 : Int), (96 : Int), (0 : Int)]))
   (br (k == (1 : Int))
    (some ([(224 : Int), (192 : Int), (160 : Int), (128 : Int), (96 : Int), (64 : Int), (32 : Int), (0 : Int)]))
    (br (k == (2 : Int))
     (some ([(252 : Int), (247 : Int), (240 : Int), (230 : Int), (214 : Int), (190 : Int), (150 : Int), (106 : Int), (66 : Int), (42 : Int), (26 : Int), (16 : Int), (10 : Int), (6 : Int), (4 : Int), (2 : Int), (0 : Int)]))
     (br (k == (3 : Int))
      (some ([(240 : Int), (224 : Int), (208 : Int), (192 : Int), (176 : Int), (160 : Int), (144 : Int), (128 : Int), (112 : Int), (96 : Int), (80 : Int), (64 : Int), (48 : Int), (32 : Int), (16 : Int), (0 : Int)]))
      (br (k == (4 : Int))
      (some ([(253 : Int), (244 : Int), (222 : Int), (170 : Int), (86 : Int), (34 : Int), (12 : Int), (3 : Int), (0 : Int)]))
      (br (k == (5 : Int))
      (some ([(218 : Int), (180 : Int), (148 : Int), (122 : Int), (100 : Int), (82 : Int), (67 : Int), (54 : Int), (43 : Int), (34 : Int), (26 : Int), (19 : Int), (14 : Int), (10 : Int), (6 : Int), (3 : Int), (0 : Int)]))
      (br (k == (6 : Int))
      (some ([(205 : Int), (163 : Int), (128 : Int), (97 : Int), (70 : Int), (44 : Int), (20 : Int), (0 : Int)]))
      (br (k == (7 : Int))
      (some ([(231 : Int), (155 : Int), (38 : Int), (0 : Int)]))
      (br (k == (8 : Int))
      (some ([(192 : Int), (128 : Int), (64 : Int), (0 : Int)]))
      (some (([] : List Int))))))))))))
theorem ticdf.F_eq (N : Nat) (L : Eng.Leaves) : evSig (ticdf.C N) (ticdf.K N) 0 Try.f99 ticdf.sig L ticdf.dec = ticdf.F N (L.i 0) := by
  kernel_rfl
noncomputable def ticdf.spec : Eng.Spec := ticdf.sig.spec (fun N L => ticdf.F N (L.i 0)) ticdf.enc
theorem ticdf.cok (N : Nat) : CfgOK (ticdf.C N) := ⟨fun _ _ _ _ h => by simp [ticdf.C, noRT] at h, wide, by
  simp only [ticdf.C, List.mem_cons, List.not_mem_nil, or_false, forall_eq_or_imp, forall_eq, false_imp_iff, implies_true], fun g hg => by simp [ticdf.C] at hg, fun m hm => by simp [ticdf.C] at hm, fun q hq => by simp [ticdf.C] at hq⟩
theorem ticdf.aok (N : Nat) : AnnsOK (ticdf.K N) := by
  intro q hq
  simp only [ticdf.K, List.mem_cons, List.not_mem_nil, or_false] at hq
theorem ticdf.ok : CallOK Try.prog 99 ticdf.spec :=
  callOK_of_sig (fn := Try.f99) (Cf := ticdf.C) (K := ticdf.K) (d := 0) (dec := ticdf.dec) (by kernel_rfl) (fun _ => rfl) ticdf.cok (fun _ q hq => by simp [ticdf.C] at hq) ticdf.aok
    (fun N L r h => (ticdf.F_eq N L).trans h) (by kernel_rfl) (fun _ => ⟨rfl, rfl⟩) (fun _ _ => ⟨rfl, rfl⟩)
noncomputable def pmay9.sig : Eng.Sig := { args := [.at (.int .i64 0)], n := 0, pre := [], post := [], m := 0, ret := .at (.bool 0) }
noncomputable def pmay9.C (N : Nat) : Cfg := { P := Try.prog, N := N, RT := noRT, specs := [], inl := [], hi := 0, mv := [] }
abbrev pmay9.R : Type := Bool
def pmay9.dec (L : Eng.Leaves) : pmay9.R := (L.b 0)
def pmay9.enc (r : pmay9.R) : Eng.Leaves := mkL [] [r] [] []
noncomputable def pmay9.K (N : Nat) : FCfg := { anns := [], unr := [], lits := [], lets := [] }
noncomputable def pmay9.F (N : Nat) (n : Int) : Option pmay9.R :=
  (br (decide (n ≥ (16 : Int)))
   (br (decide (n ≤ (480 : Int)))
    (some (n.tmod (16 : Int) == (0 : Int)))
    (some (false)))
   (some (false)))
theorem pmay9.F_eq (N : Nat) (L : Eng.Leaves) : evSig (pmay9.C N) (pmay9.K N) 0 Try.f112 pmay9.sig L pmay9.dec = pmay9.F N (L.i 0) := by
  kernel_rfl
noncomputable def pmay9.spec : Eng.Spec := pmay9.sig.spec (fun N L => pmay9.F N (L.i 0)) pmay9.enc
theorem pmay9.cok (N : Nat) : CfgOK (pmay9.C N) := ⟨fun _ _ _ _ h => by simp [pmay9.C, noRT] at h, wide, by
  simp only [pmay9.C, List.mem_cons, List.not_mem_nil, or_false, forall_eq_or_imp, forall_eq, false_imp_iff, implies_true], fun g hg => by simp [pmay9.C] at hg, fun m hm => by simp [pmay9.C] at hm, fun q hq => by simp [pmay9.C] at hq⟩
theorem pmay9.aok (N : Nat) : AnnsOK (pmay9.K N) := by
  intro q hq
  simp only [pmay9.K, List.mem_cons, List.not_mem_nil, or_false] at hq
theorem pmay9.ok : CallOK Try.prog 112 pmay9.spec :=
  callOK_of_sig (fn := Try.f112) (Cf := pmay9.C) (K := pmay9.K) (d := 0) (dec := pmay9.dec) (by kernel_rfl) (fun _ => rfl) pmay9.cok (fun _ q hq => by simp [pmay9.C] at hq) pmay9.aok
    (fun N L r h => (pmay9.F_eq N L).trans h) (by kernel_rfl) (fun _ => ⟨rfl, rfl⟩) (fun _ _ => ⟨rfl, rfl⟩)
noncomputable def abs9.sig : Eng.Sig := { args := [.at (.int .i64 0)], n := 0, pre := [], post := [], m := 0, ret := .at (.int .i64 0) }
noncomputable def abs9.C (N : Nat) : Cfg := { P := Try.prog, N := N, RT := noRT, specs := [], inl := [], hi := 0, mv := [] }
abbrev abs9.R : Type := Int
def abs9.dec (L : Eng.Leaves) : abs9.R := (L.i 0)
def abs9.enc (r : abs9.R) : Eng.Leaves := mkL [r] [] [] []
noncomputable def abs9.K (N : Nat) : FCfg := { anns := [], unr := [], lits := [], lets := [] }
noncomputable def abs9.F (N : Nat) (v : Int) : Option abs9.R :=
  (some (if IntKind.i64.wrap ((0 : Int) - v) > v then IntKind.i64.wrap ((0 : Int) - v) else v))
theorem abs9.F_eq (N : Nat) (L : Eng.Leaves) : evSig (abs9.C N) (abs9.K N) 0 Try.f150 abs9.sig L abs9.dec = abs9.F N (L.i 0) := by
  kernel_rfl
noncomputable def abs9.spec : Eng.Spec := abs9.sig.spec (fun N L => abs9.F N (L.i 0)) abs9.enc
theorem abs9.cok (N : Nat) : CfgOK (abs9.C N) := ⟨fun _ _ _ _ h => by simp [abs9.C, noRT] at h, wide, by
  simp only [abs9.C, List.mem_cons, List.not_mem_nil, or_false, forall_eq_or_imp, forall_eq, false_imp_iff, implies_true], fun g hg => by simp [abs9.C] at hg, fun m hm => by simp [abs9.C] at hm, fun q hq => by simp [abs9.C] at hq⟩
theorem abs9.aok (N : Nat) : AnnsOK (abs9.K N) := by
  intro q hq
  simp only [abs9.K, List.mem_cons, List.not_mem_nil, or_false] at hq
theorem abs9.ok : CallOK Try.prog 150 abs9.spec :=
  callOK_of_sig (fn := Try.f150) (Cf := abs9.C) (K := abs9.K) (d := 0) (dec := abs9.dec) (by kernel_rfl) (fun _ => rfl) abs9.cok (fun _ q hq => by simp [abs9.C] at hq) abs9.aok
    (fun N L r h => (abs9.F_eq N L).trans h) (by kernel_rfl) (fun _ => ⟨rfl, rfl⟩) (fun _ _ => ⟨rfl, rfl⟩)
noncomputable def count9.sig : Eng.Sig := { args := [.at (.roi .i64 0)], n := 0, pre := [], post := [], m := 0, ret := .at (.int .i64 0) }
noncomputable def count9.C (N : Nat) : Cfg := { P := Try.prog, N := N, RT := noRT, specs := [(106, clamp.spec), (150, abs9.spec)], inl := [], hi := 0, mv := [] }
abbrev count9.R : Type := Int
def count9.dec (L : Eng.Leaves) : count9.R := (L.i 0)
def count9.enc (r : count9.R) : Eng.Leaves := mkL [r] [] [] []
abbrev count9.loop3.R : Type := Int
noncomputable def count9.loop3.ann : Ann := { nx := 20, slots := [(3, .at (.int .i64 0)), (6, .at (.froi .i64 0)), (7, .at (.fint .i64 0)), (8, .at (.int .i64 1))], blks := [], mov := [], exId := 0, xslots := [(3, .at (.int .i64 0))], xblks := [], T := count9.loop3.R, dec := fun L => (L.i 0), enc := fun r => mkL [r] [] [] [], ret := false }
noncomputable def count9.K (N : Nat) : FCfg := { anns := [(3, count9.loop3.ann)], unr := [], lits := [], lets := [] }
noncomputable def count9.loop3 (N : Nat) : Nat → Int → List Int → Int → Int → Option count9.loop3.R
  | 0, _, _, _, _ => none
  | nn + 1, s7, s6, s3, s8 =>
  (br (decide (s8 < s7))
   (chk ((0 : Int) ≤ s8 ∧ s8 < ↑s6.length)
    (obind (Rc.clamp.F (N) (s6.getD s8.toNat (0 : Int)) ((-32 : Int)) ((32 : Int))) fun r0 =>
     (obind (Rc.abs9.F (N) (r0)) fun r1 =>
      (chkL (s6) (s6)
      (chkI (s7) (s7)
      (count9.loop3 N (nn) (s7) (s6) (IntKind.i64.wrap (s3 + r1)) (IntKind.i64.wrap (s8 + (1 : Int)))))))))
   (some (s3)))
noncomputable def count9.loop3R (N nn : Nat) (s7 : Int) (s6 : List Int) (s3 : Int) (s8 : Int) : Option count9.loop3.R := loopF count9.loop3.ann (mkL [s7] [] [s6] []) (evCode ((count9.C N).inLoop count9.loop3.ann) (count9.K N) (inlTab (count9.C N) 0) (bodyAt 3 Try.f114)) nn (mkL [s3, s8] [] [] [])
theorem count9.loop3_eq (N : Nat) : ∀ (nn : Nat) (s7 : Int) (s6 : List Int) (s3 : Int) (s8 : Int), count9.loop3R N nn s7 s6 s3 s8 = count9.loop3 N nn s7 s6 s3 s8
  | 0, _, _, _, _ => by kernel_rfl
  | nn + 1, s7, s6, s3, s8 => by
    have h : count9.loop3R N (nn + 1) s7 s6 s3 s8 =
  (br (decide (s8 < s7))
   (chk ((0 : Int) ≤ s8 ∧ s8 < ↑s6.length)
    (obind (Rc.clamp.F (N) (s6.getD s8.toNat (0 : Int)) ((-32 : Int)) ((32 : Int))) fun r0 =>
     (obind (Rc.abs9.F (N) (r0)) fun r1 =>
      (chkL (s6) (s6)
      (chkI (s7) (s7)
      (count9.loop3R N (nn) (s7) (s6) (IntKind.i64.wrap (s3 + r1)) (IntKind.i64.wrap (s8 + (1 : Int)))))))))
   (some (s3))) := by kernel_rfl
    rw [h, count9.loop3]
    try simp only [count9.loop3_eq N nn]
noncomputable def count9.F (N : Nat) (l : List Int) : Option count9.R :=
  (obind (count9.loop3 N (N) (↑l.length) (l) ((0 : Int)) ((0 : Int))) fun r0 =>
   (some (r0)))
theorem count9.F_eq (N : Nat) (L : Eng.Leaves) : evSig (count9.C N) (count9.K N) 0 Try.f114 count9.sig L count9.dec = count9.F N (L.l 0) := by
  have h : ∀ (l : List Int), evSig (count9.C N) (count9.K N) 0 Try.f114 count9.sig (mkL [] [] [l] []) count9.dec =
  (obind (count9.loop3R N (N) (↑l.length) (l) ((0 : Int)) ((0 : Int))) fun r0 =>
   (some (r0))) := by
    intro l
    kernel_rfl
  have h2 : evSig (count9.C N) (count9.K N) 0 Try.f114 count9.sig L count9.dec = evSig (count9.C N) (count9.K N) 0 Try.f114 count9.sig (mkL [] [] [L.l 0] []) count9.dec := by kernel_rfl
  rw [h2, h, count9.F]
  try simp only [count9.loop3_eq N]
noncomputable def count9.spec : Eng.Spec := count9.sig.spec (fun N L => count9.F N (L.l 0)) count9.enc
theorem count9.cok (N : Nat) : CfgOK (count9.C N) := ⟨fun _ _ _ _ h => by simp [count9.C, noRT] at h, wide, by
  simp only [count9.C, List.mem_cons, List.not_mem_nil, or_false, forall_eq_or_imp, forall_eq, false_imp_iff, implies_true]
  exact ⟨⟨clamp.ok, by kernel_rfl⟩, ⟨abs9.ok, by kernel_rfl⟩⟩, fun g hg => by simp [count9.C] at hg, fun m hm => by simp [count9.C] at hm, fun q hq => by simp [count9.C] at hq⟩
theorem count9.aok (N : Nat) : AnnsOK (count9.K N) := by
  intro q hq
  simp only [count9.K, List.mem_cons, List.not_mem_nil, or_false] at hq
  subst hq
  exact fun _ _ => ⟨rfl, rfl⟩
theorem count9.ok : CallOK Try.prog 114 count9.spec :=
  callOK_of_sig (fn := Try.f114) (Cf := count9.C) (K := count9.K) (d := 0) (dec := count9.dec) (by kernel_rfl) (fun _ => rfl) count9.cok (fun _ q hq => by simp [count9.C] at hq) count9.aok
    (fun N L r h => (count9.F_eq N L).trans h) (by kernel_rfl) (fun _ => ⟨rfl, rfl⟩) (fun _ _ => ⟨rfl, rfl⟩)
noncomputable def good9.sig : Eng.Sig := { args := [.at (.roi .i64 0)], n := 0, pre := [], post := [], m := 0, ret := .at (.bool 0) }
noncomputable def good9.C (N : Nat) : Cfg := { P := Try.prog, N := N, RT := noRT, specs := [(112, pmay9.spec), (114, count9.spec)], inl := [], hi := 0, mv := [] }
abbrev good9.R : Type := Bool
def good9.dec (L : Eng.Leaves) : good9.R := (L.b 0)
def good9.enc (r : good9.R) : Eng.Leaves := mkL [] [r] [] []
abbrev good9.loop4.R : Type := Bool
noncomputable def good9.loop4.ann : Ann := { nx := 20, slots := [(0, .at (.froi .i64 0)), (2, .at (.bool 0)), (3, .at (.int .i64 0))], blks := [], mov := [], exId := 0, xslots := [(2, .at (.bool 0))], xblks := [], T := good9.loop4.R, dec := fun L => (L.b 0), enc := fun r => mkL [] [r] [] [], ret := true }
noncomputable def good9.K (N : Nat) : FCfg := { anns := [(4, good9.loop4.ann)], unr := [], lits := [], lets := [] }
noncomputable def good9.loop4 (N : Nat) : Nat → List Int → List Int → Int → Bool → Option (good9.loop4.R ⊕ good9.R)
  | 0, _, _, _, _ => none
  | nn + 1, e_l, l, s3, s2 =>
  (br (decide (s3 < ↑l.length))
   (chk ((0 : Int) ≤ IntKind.i64.wrap (s3 + (16 : Int)) ∧ IntKind.i64.wrap (s3 + (16 : Int)) ≤ ↑l.length)
    (chk ((0 : Int) ≤ s3 ∧ s3 ≤ ↑(IntKind.i64.wrap (s3 + (16 : Int))).toNat)
     (obind (Rc.count9.F (N) (List.take ((IntKind.i64.wrap (s3 + (16 : Int))).toNat - s3.toNat) (List.drop s3.toNat l))) fun r0 =>
      (br (decide (r0 > (16 : Int)))
      (omap
      (some (false)) .inr)
      (chkL (l) (l)
      (good9.loop4 N (nn) e_l (l) (IntKind.i64.wrap (s3 + (16 : Int))) (s2)))))))
   (some (Sum.inl s2)))
noncomputable def good9.loop4R (N nn : Nat) (e_l : List Int) (l : List Int) (s3 : Int) (s2 : Bool) : Option (good9.loop4.R ⊕ good9.R) := loopR good9.loop4.ann (mkL [] [] [l] []) (evCode ((good9.C N).inLoop good9.loop4.ann) (good9.K N) (inlTab (good9.C N) 0) (bodyAt 4 Try.f56)) (sigKr Try.prog Try.f56 good9.sig (mkL [] [] [e_l] []) fun L => (L.b 0)) nn (mkL [s3] [s2] [] [])
theorem good9.loop4_eq (N : Nat) : ∀ (nn : Nat) (e_l : List Int) (l : List Int) (s3 : Int) (s2 : Bool), good9.loop4R N nn e_l l s3 s2 = good9.loop4 N nn e_l l s3 s2
  | 0, _, _, _, _ => by kernel_rfl
  | nn + 1, e_l, l, s3, s2 => by
    have h : good9.loop4R N (nn + 1) e_l l s3 s2 =
  (br (decide (s3 < ↑l.length))
   (chk ((0 : Int) ≤ IntKind.i64.wrap (s3 + (16 : Int)) ∧ IntKind.i64.wrap (s3 + (16 : Int)) ≤ ↑l.length)
    (chk ((0 : Int) ≤ s3 ∧ s3 ≤ ↑(IntKind.i64.wrap (s3 + (16 : Int))).toNat)
     (obind (Rc.count9.F (N) (List.take ((IntKind.i64.wrap (s3 + (16 : Int))).toNat - s3.toNat) (List.drop s3.toNat l))) fun r0 =>
      (br (decide (r0 > (16 : Int)))
      (omap
      (some (false)) .inr)
      (chkL (l) (l)
      (good9.loop4R N (nn) e_l (l) (IntKind.i64.wrap (s3 + (16 : Int))) (s2)))))))
   (some (Sum.inl s2))) := by kernel_rfl
    rw [h, good9.loop4]
    try simp only [good9.loop4_eq N nn]
noncomputable def good9.F (N : Nat) (l : List Int) : Option good9.R :=
  (obind (Rc.pmay9.F (N) (↑l.length)) fun r0 =>
   (br (!r0)
    (some (false))
    (osum (good9.loop4 N (N) l (l) ((0 : Int)) (false)) fun r1 =>
     (some (true)))))
theorem good9.F_eq (N : Nat) (L : Eng.Leaves) : evSig (good9.C N) (good9.K N) 0 Try.f56 good9.sig L good9.dec = good9.F N (L.l 0) := by
  have h : ∀ (l : List Int), evSig (good9.C N) (good9.K N) 0 Try.f56 good9.sig (mkL [] [] [l] []) good9.dec =
  (obind (Rc.pmay9.F (N) (↑l.length)) fun r0 =>
   (br (!r0)
    (some (false))
    (osum (good9.loop4R N (N) l (l) ((0 : Int)) (false)) fun r1 =>
     (some (true))))) := by
    intro l
    kernel_rfl
  have h2 : evSig (good9.C N) (good9.K N) 0 Try.f56 good9.sig L good9.dec = evSig (good9.C N) (good9.K N) 0 Try.f56 good9.sig (mkL [] [] [L.l 0] []) good9.dec := by kernel_rfl
  rw [h2, h, good9.F]
  try simp only [good9.loop4_eq N]
noncomputable def good9.spec : Eng.Spec := good9.sig.spec (fun N L => good9.F N (L.l 0)) good9.enc
theorem good9.cok (N : Nat) : CfgOK (good9.C N) := ⟨fun _ _ _ _ h => by simp [good9.C, noRT] at h, wide, by
  simp only [good9.C, List.mem_cons, List.not_mem_nil, or_false, forall_eq_or_imp, forall_eq, false_imp_iff, implies_true]
  exact ⟨⟨pmay9.ok, by kernel_rfl⟩, ⟨count9.ok, by kernel_rfl⟩⟩, fun g hg => by simp [good9.C] at hg, fun m hm => by simp [good9.C] at hm, fun q hq => by simp [good9.C] at hq⟩
theorem good9.aok (N : Nat) : AnnsOK (good9.K N) := by
  intro q hq
  simp only [good9.K, List.mem_cons, List.not_mem_nil, or_false] at hq
  subst hq
  exact fun _ _ => ⟨rfl, rfl⟩
theorem good9.ok : CallOK Try.prog 56 good9.spec :=
  callOK_of_sig (fn := Try.f56) (Cf := good9.C) (K := good9.K) (d := 0) (dec := good9.dec) (by kernel_rfl) (fun _ => rfl) good9.cok (fun _ q hq => by simp [good9.C] at hq) good9.aok
    (fun N L r h => (good9.F_eq N L).trans h) (by kernel_rfl) (fun _ => ⟨rfl, rfl⟩) (fun _ _ => ⟨rfl, rfl⟩)
noncomputable def share9.sig : Eng.Sig := { args := [.at (.ptr 0 0), .at (.full 2 false), .at (.int .i64 0)], n := 3, pre := [(0, .cells 10 [.full 1 false, .int .u64 1, .int .u64 2, .int .u64 3, .int .i64 4, .int .i64 5, .int .u64 6, .int .i64 7, .int .i64 8, .bool 0]), (1, .ints false .u8 0), (2, .ints false .i64 1)], post := [(0, .cells 10 [.full 1 false, .int .u64 0, .int .u64 1, .int .u64 2, .int .i64 3, .int .i64 4, .int .u64 5, .int .i64 6, .int .i64 7, .bool 0]), (1, .fints false .u8 0), (2, .ints false .i64 0)], m := 0, ret := .at (.unk) }
abbrev share9.R : Type := Int × Int × Int × Int × Int × Int × Int × Int × Bool × List Int
def share9.dec (L : Eng.Leaves) : share9.R := (L.i 0, L.i 1, L.i 2, L.i 3, L.i 4, L.i 5, L.i 6, L.i 7, L.b 0, L.l 0)
def share9.enc (r : share9.R) : Eng.Leaves := mkL [r.1, r.2.1, r.2.2.1, r.2.2.2.1, r.2.2.2.2.1, r.2.2.2.2.2.1, r.2.2.2.2.2.2.1, r.2.2.2.2.2.2.2.1] [r.2.2.2.2.2.2.2.2.1] [r.2.2.2.2.2.2.2.2.2] []
noncomputable def share9.G (N : Nat) : Nat → Int → Int → Int → Int → Int → Int → Int → Int → Int → Bool → List Int → List Int → Option share9.R
  | 0, _, _, _, _, _, _, _, _, _, _, _, _ => none
  | nn + 1, k, rng, val, last, front, back, window, waiting, count, bad, b, l =>
  (br (↑l.length == (1 : Int))
   (chk ((0 : Int) ≤ (0 : Int) ∧ (0 : Int) < ↑l.length)
    (chkL (b) (b)
    (some ((rng, val, last, front, back, window, waiting, count, bad, l.set (Int.toNat (0 : Int)) k)))))
   (obind (Rc.uint.F (N) (IntKind.i64.wrap (k + (1 : Int))) (rng) (val) (last) (front) (back) (window) (waiting) (count) (bad) (b)) fun r0 =>
    (chk ((0 : Int) ≤ IntKind.i64.wrap ((↑l.length : Int).tdiv (2 : Int)) ∧ IntKind.i64.wrap ((↑l.length : Int).tdiv (2 : Int)) ≤ ↑l.length)
     (chk ((0 : Nat) + ((IntKind.i64.wrap ((↑l.length : Int).tdiv (2 : Int))).toNat - (0 : Nat)) ≤ l.length)
      (obind (Rc.share9.G (N) (nn) (r0.fst) (r0.snd.fst) (r0.snd.snd.fst) (r0.snd.snd.snd.fst) (r0.snd.snd.snd.snd.fst) (r0.snd.snd.snd.snd.snd.fst) (r0.snd.snd.snd.snd.snd.snd.fst) (r0.snd.snd.snd.snd.snd.snd.snd.fst) (r0.snd.snd.snd.snd.snd.snd.snd.snd.fst) (r0.snd.snd.snd.snd.snd.snd.snd.snd.snd) (b) (List.take ((IntKind.i64.wrap ((↑l.length : Int).tdiv (2 : Int))).toNat - (0 : Nat)) (List.drop (0 : Nat) l))) fun r1 =>
      (chk ((0 : Int) ≤ IntKind.i64.wrap ((↑(List.take (0 : Nat) l ++ (r1.snd.snd.snd.snd.snd.snd.snd.snd.snd ++ List.drop ((0 : Nat) + ((IntKind.i64.wrap ((↑l.length : Int).tdiv (2 : Int))).toNat - (0 : Nat))) l)).length : Int).tdiv (2 : Int)) ∧ IntKind.i64.wrap ((↑(List.take (0 : Nat) l ++ (r1.snd.snd.snd.snd.snd.snd.snd.snd.snd ++ List.drop ((0 : Nat) + ((IntKind.i64.wrap ((↑l.length : Int).tdiv (2 : Int))).toNat - (0 : Nat))) l)).length : Int).tdiv (2 : Int)) ≤ ↑(List.take (0 : Nat) l ++ (r1.snd.snd.snd.snd.snd.snd.snd.snd.snd ++ List.drop ((0 : Nat) + ((IntKind.i64.wrap ((↑l.length : Int).tdiv (2 : Int))).toNat - (0 : Nat))) l)).length)
      (chk ((IntKind.i64.wrap ((↑(List.take (0 : Nat) l ++ (r1.snd.snd.snd.snd.snd.snd.snd.snd.snd ++ List.drop ((0 : Nat) + ((IntKind.i64.wrap ((↑l.length : Int).tdiv (2 : Int))).toNat - (0 : Nat))) l)).length : Int).tdiv (2 : Int))).toNat + ((List.take (0 : Nat) l ++ (r1.snd.snd.snd.snd.snd.snd.snd.snd.snd ++ List.drop ((0 : Nat) + ((IntKind.i64.wrap ((↑l.length : Int).tdiv (2 : Int))).toNat - (0 : Nat))) l)).length - (IntKind.i64.wrap ((↑(List.take (0 : Nat) l ++ (r1.snd.snd.snd.snd.snd.snd.snd.snd.snd ++ List.drop ((0 : Nat) + ((IntKind.i64.wrap ((↑l.length : Int).tdiv (2 : Int))).toNat - (0 : Nat))) l)).length : Int).tdiv (2 : Int))).toNat) ≤ (List.take (0 : Nat) l ++ (r1.snd.snd.snd.snd.snd.snd.snd.snd.snd ++ List.drop ((0 : Nat) + ((IntKind.i64.wrap ((↑l.length : Int).tdiv (2 : Int))).toNat - (0 : Nat))) l)).length)
      (obind (Rc.share9.G (N) (nn) (IntKind.i64.wrap (k - r0.fst)) (r1.fst) (r1.snd.fst) (r1.snd.snd.fst) (r1.snd.snd.snd.fst) (r1.snd.snd.snd.snd.fst) (r1.snd.snd.snd.snd.snd.fst) (r1.snd.snd.snd.snd.snd.snd.fst) (r1.snd.snd.snd.snd.snd.snd.snd.fst) (r1.snd.snd.snd.snd.snd.snd.snd.snd.fst) (b) (List.take ((List.take (0 : Nat) l ++ (r1.snd.snd.snd.snd.snd.snd.snd.snd.snd ++ List.drop ((0 : Nat) + ((IntKind.i64.wrap ((↑l.length : Int).tdiv (2 : Int))).toNat - (0 : Nat))) l)).length - (IntKind.i64.wrap ((↑(List.take (0 : Nat) l ++ (r1.snd.snd.snd.snd.snd.snd.snd.snd.snd ++ List.drop ((0 : Nat) + ((IntKind.i64.wrap ((↑l.length : Int).tdiv (2 : Int))).toNat - (0 : Nat))) l)).length : Int).tdiv (2 : Int))).toNat) (List.drop (IntKind.i64.wrap ((↑(List.take (0 : Nat) l ++ (r1.snd.snd.snd.snd.snd.snd.snd.snd.snd ++ List.drop ((0 : Nat) + ((IntKind.i64.wrap ((↑l.length : Int).tdiv (2 : Int))).toNat - (0 : Nat))) l)).length : Int).tdiv (2 : Int))).toNat (List.take (0 : Nat) l ++ (r1.snd.snd.snd.snd.snd.snd.snd.snd.snd ++ List.drop ((0 : Nat) + ((IntKind.i64.wrap ((↑l.length : Int).tdiv (2 : Int))).toNat - (0 : Nat))) l))))) fun r2 =>
      (chkL (b) (b)
      (some ((r2.fst, r2.snd.fst, r2.snd.snd.fst, r2.snd.snd.snd.fst, r2.snd.snd.snd.snd.fst, r2.snd.snd.snd.snd.snd.fst, r2.snd.snd.snd.snd.snd.snd.fst, r2.snd.snd.snd.snd.snd.snd.snd.fst, r2.snd.snd.snd.snd.snd.snd.snd.snd.fst, List.take (IntKind.i64.wrap ((↑(List.take (0 : Nat) l ++ (r1.snd.snd.snd.snd.snd.snd.snd.snd.snd ++ List.drop ((0 : Nat) + ((IntKind.i64.wrap ((↑l.length : Int).tdiv (2 : Int))).toNat - (0 : Nat))) l)).length : Int).tdiv (2 : Int))).toNat (List.take (0 : Nat) l ++ (r1.snd.snd.snd.snd.snd.snd.snd.snd.snd ++ List.drop ((0 : Nat) + ((IntKind.i64.wrap ((↑l.length : Int).tdiv (2 : Int))).toNat - (0 : Nat))) l)) ++ (r2.snd.snd.snd.snd.snd.snd.snd.snd.snd ++ List.drop ((IntKind.i64.wrap ((↑(List.take (0 : Nat) l ++ (r1.snd.snd.snd.snd.snd.snd.snd.snd.snd ++ List.drop ((0 : Nat) + ((IntKind.i64.wrap ((↑l.length : Int).tdiv (2 : Int))).toNat - (0 : Nat))) l)).length : Int).tdiv (2 : Int))).toNat + ((List.take (0 : Nat) l ++ (r1.snd.snd.snd.snd.snd.snd.snd.snd.snd ++ List.drop ((0 : Nat) + ((IntKind.i64.wrap ((↑l.length : Int).tdiv (2 : Int))).toNat - (0 : Nat))) l)).length - (IntKind.i64.wrap ((↑(List.take (0 : Nat) l ++ (r1.snd.snd.snd.snd.snd.snd.snd.snd.snd ++ List.drop ((0 : Nat) + ((IntKind.i64.wrap ((↑l.length : Int).tdiv (2 : Int))).toNat - (0 : Nat))) l)).length : Int).tdiv (2 : Int))).toNat)) (List.take (0 : Nat) l ++ (r1.snd.snd.snd.snd.snd.snd.snd.snd.snd ++ List.drop ((0 : Nat) + ((IntKind.i64.wrap ((↑l.length : Int).tdiv (2 : Int))).toNat - (0 : Nat))) l)))))))))))))))
noncomputable def share9.specAt (nn : Nat) : Eng.Spec := share9.sig.spec (fun N L => share9.G N nn (L.i 0) (L.i 1) (L.i 2) (L.i 3) (L.i 4) (L.i 5) (L.i 6) (L.i 7) (L.i 8) (L.b 0) (L.l 0) (L.l 1)) share9.enc
noncomputable def share9.C (N : Nat) (nn : Nat) : Cfg := { P := Try.prog, N := N, RT := noRT, specs := [(102, uint.spec), (113, share9.specAt nn)], inl := [], hi := 3, mv := [] }
noncomputable def share9.K (N : Nat) : FCfg := { anns := [], unr := [], lits := [], lets := [] }
noncomputable def share9.F (N : Nat) (k : Int) (rng : Int) (val : Int) (last : Int) (front : Int) (back : Int) (window : Int) (waiting : Int) (count : Int) (bad : Bool) (b : List Int) (l : List Int) : Option share9.R := share9.G N N k rng val last front back window waiting count bad b l
theorem share9.F_eq (N nn : Nat) (L : Eng.Leaves) : evSig (share9.C N nn) (share9.K N) 0 Try.f113 share9.sig L share9.dec = share9.G N (nn + 1) (L.i 0) (L.i 1) (L.i 2) (L.i 3) (L.i 4) (L.i 5) (L.i 6) (L.i 7) (L.i 8) (L.b 0) (L.l 0) (L.l 1) := by
  kernel_rfl
theorem share9.cok (nn : Nat) (hrec : CallOK Try.prog 113 (share9.specAt nn)) (N : Nat) : CfgOK (share9.C N nn) := ⟨fun _ _ _ _ h => by simp [share9.C, noRT] at h, wide, by
  simp only [share9.C, List.mem_cons, List.not_mem_nil, or_false, forall_eq_or_imp, forall_eq, false_imp_iff, implies_true]
  exact ⟨⟨uint.ok, by kernel_rfl⟩, ⟨hrec, by kernel_rfl⟩⟩, fun g hg => by simp [share9.C] at hg, fun m hm => by simp [share9.C] at hm, fun q hq => by simp [share9.C] at hq⟩
theorem share9.aok (N : Nat) : AnnsOK (share9.K N) := by
  intro q hq
  simp only [share9.K, List.mem_cons, List.not_mem_nil, or_false] at hq
theorem share9.okAt : ∀ nn, CallOK Try.prog 113 (share9.specAt nn) :=
  callOK_rec (run := fun N nn L => share9.G N nn (L.i 0) (L.i 1) (L.i 2) (L.i 3) (L.i 4) (L.i 5) (L.i 6) (L.i 7) (L.i 8) (L.b 0) (L.l 0) (L.l 1)) (fun _ _ => rfl) (by kernel_rfl) fun nn hrec =>
  callOK_of_sig (fn := Try.f113) (Cf := fun N => share9.C N nn) (K := share9.K) (d := 0) (dec := share9.dec) (by kernel_rfl) (fun _ => rfl) (share9.cok nn hrec) (fun _ q hq => by simp [share9.C] at hq) share9.aok
    (fun N L r h => (share9.F_eq N nn L).trans h) (by kernel_rfl) (fun _ => ⟨rfl, rfl⟩) (fun _ _ => ⟨rfl, rfl⟩)
noncomputable def share9.spec : Eng.Spec := share9.sig.spec (fun N L => share9.F N (L.i 0) (L.i 1) (L.i 2) (L.i 3) (L.i 4) (L.i 5) (L.i 6) (L.i 7) (L.i 8) (L.b 0) (L.l 0) (L.l 1)) share9.enc
theorem share9.ok : CallOK Try.prog 113 share9.spec := callOK_diag (run := fun N nn L => share9.G N nn (L.i 0) (L.i 1) (L.i 2) (L.i 3) (L.i 4) (L.i 5) (L.i 6) (L.i 7) (L.i 8) (L.b 0) (L.l 0) (L.l 1)) share9.okAt
noncomputable def read9.sig : Eng.Sig := { args := [.at (.ptr 0 0), .at (.int .i64 0)], n := 2, pre := [(0, .cells 10 [.full 1 false, .int .u64 1, .int .u64 2, .int .u64 3, .int .i64 4, .int .i64 5, .int .u64 6, .int .i64 7, .int .i64 8, .bool 0]), (1, .ints false .u8 0)], post := [(0, .cells 10 [.full 1 false, .int .u64 1, .int .u64 2, .int .u64 3, .int .i64 4, .int .i64 5, .int .u64 6, .int .i64 7, .int .i64 8, .bool 0]), (1, .fints false .u8 0), (2, .ints true .i64 0)], m := 1, ret := .tup [(false, [.full 2 false]), (false, [.int .i64 0])] }
noncomputable def read9.C (N : Nat) : Cfg := { P := Try.prog, N := N, RT := noRT, specs := [(112, pmay9.spec), (99, ticdf.spec), (79, symbol.spec), (113, share9.spec), (80, bits.spec)], inl := [], hi := 2, mv := [] }
abbrev read9.R : Type := Int × Int × Int × Int × Int × Int × Int × Int × Int × Bool × List Int
def read9.dec (L : Eng.Leaves) : read9.R := (L.i 0, L.i 1, L.i 2, L.i 3, L.i 4, L.i 5, L.i 6, L.i 7, L.i 8, L.b 0, L.l 0)
def read9.enc (r : read9.R) : Eng.Leaves := mkL [r.1, r.2.1, r.2.2.1, r.2.2.2.1, r.2.2.2.2.1, r.2.2.2.2.2.1, r.2.2.2.2.2.2.1, r.2.2.2.2.2.2.2.1, r.2.2.2.2.2.2.2.2.1] [r.2.2.2.2.2.2.2.2.2.1] [r.2.2.2.2.2.2.2.2.2.2] []
abbrev read9.loop5.R : Type := Int × Int × Int × Int × Int × Int × Int × Int × Bool × List Int
noncomputable def read9.loop5.ann : Ann := { nx := 20, slots := [(0, .at (.ptr 0 0)), (1, .at (.fint .i64 0)), (6, .at (.full 2 true)), (7, .at (.int .i64 0))], blks := [(0, .cells 10 [.full 1 false, .int .u64 1, .int .u64 2, .int .u64 3, .int .i64 4, .int .i64 5, .int .u64 6, .int .i64 7, .int .i64 8, .bool 0]), (1, .fints false .u8 0), (2, .ints true .i64 0)], mov := [], exId := 0, xslots := [(0, .at (.ptr 0 0)), (6, .at (.full 2 true))], xblks := [(0, .cells 10 [.full 1 false, .int .u64 0, .int .u64 1, .int .u64 2, .int .i64 3, .int .i64 4, .int .u64 5, .int .i64 6, .int .i64 7, .bool 0]), (1, .fints false .u8 0), (2, .ints true .i64 0)], T := read9.loop5.R, dec := fun L => (L.i 0, L.i 1, L.i 2, L.i 3, L.i 4, L.i 5, L.i 6, L.i 7, L.b 0, L.l 0), enc := fun r => mkL [r.1, r.2.1, r.2.2.1, r.2.2.2.1, r.2.2.2.2.1, r.2.2.2.2.2.1, r.2.2.2.2.2.2.1, r.2.2.2.2.2.2.2.1] [r.2.2.2.2.2.2.2.2.1] [r.2.2.2.2.2.2.2.2.2] [], ret := false }
abbrev read9.loop10.R : Type := Int × Int × Int × Int × List Int
noncomputable def read9.loop10.ann : Ann := { nx := 25, slots := [(0, .at (.ptr 0 0)), (8, .at (.fsub 2 0 1)), (32, .at (.fint .i64 2)), (33, .at (.int .i64 0))], blks := [(0, .cells 10 [.full 1 false, .fint .u64 3, .fint .u64 4, .fint .u64 5, .fint .i64 6, .int .i64 1, .int .u64 2, .int .i64 3, .int .i64 4, .fbool 0]), (1, .fints false .u8 0), (2, .ints true .i64 0)], mov := [], exId := 2, xslots := [(0, .at (.ptr 0 0)), (8, .at (.fsub 2 0 1))], xblks := [(0, .cells 10 [.full 1 false, .fint .u64 3, .fint .u64 4, .fint .u64 5, .fint .i64 6, .int .i64 0, .int .u64 1, .int .i64 2, .int .i64 3, .fbool 0]), (1, .fints false .u8 0), (2, .ints true .i64 0)], T := read9.loop10.R, dec := fun L => (L.i 0, L.i 1, L.i 2, L.i 3, L.l 0), enc := fun r => mkL [r.1, r.2.1, r.2.2.1, r.2.2.2.1] [] [r.2.2.2.2] [], ret := false }
noncomputable def read9.K (N : Nat) : FCfg := { anns := [(5, read9.loop5.ann), (10, read9.loop10.ann)], unr := [], lits := [], lets := [] }
noncomputable def read9.loop10 (N : Nat) : Nat → Int → Int → Int → Int → Int → Int → Int → Bool → List Int → Int → Int → Int → Int → Int → List Int → Option read9.loop10.R
  | 0, _, _, _, _, _, _, _, _, _, _, _, _, _, _, _ => none
  | nn + 1, s8_lo, s8_n, s32, rng, val, last, front, bad, b, s33, back, window, waiting, count, l2 =>
  (br (decide (s33 < s32))
   (chk ((0 : Int) ≤ s33 ∧ s33 < ↑s8_n.toNat)
    (br (decide (l2.getD (s8_lo.toNat + s33.toNat) (0 : Int) > (0 : Int)))
     (obind (Rc.bits.F (N) ((1 : Int)) (rng) (val) (last) (front) (back) (window) (waiting) (count) (bad) (b)) fun r0 =>
      (br (r0.fst == (1 : Int))
      (chk ((0 : Int) ≤ s33 ∧ s33 < ↑s8_n.toNat)
      (chk ((0 : Int) ≤ s33 ∧ s33 < ↑s8_n.toNat)
      (chkN (s8_lo.toNat) (s8_lo.toNat)
      (chkN (s8_n.toNat) (s8_n.toNat)
      (chkI (s32) (s32)
      (chkI (rng) (rng)
      (chkI (val) (val)
      (chkI (last) (last)
      (chkI (front) (front)
      (chkB (bad) (bad)
      (chkL (b) (b)
      (read9.loop10 N (nn) (s8_lo) (s8_n) (s32) (rng) (val) (last) (front) (bad) (b) (IntKind.i64.wrap (s33 + (1 : Int))) (r0.snd.fst) (r0.snd.snd.fst) (r0.snd.snd.snd.fst) (r0.snd.snd.snd.snd) (l2.set (s8_lo.toNat + s33.toNat) (IntKind.i64.wrap ((0 : Int) - l2.getD (s8_lo.toNat + s33.toNat) (0 : Int))))))))))))))))
      (chkN (s8_lo.toNat) (s8_lo.toNat)
      (chkN (s8_n.toNat) (s8_n.toNat)
      (chkI (s32) (s32)
      (chkI (rng) (rng)
      (chkI (val) (val)
      (chkI (last) (last)
      (chkI (front) (front)
      (chkB (bad) (bad)
      (chkL (b) (b)
      (read9.loop10 N (nn) (s8_lo) (s8_n) (s32) (rng) (val) (last) (front) (bad) (b) (IntKind.i64.wrap (s33 + (1 : Int))) (r0.snd.fst) (r0.snd.snd.fst) (r0.snd.snd.snd.fst) (r0.snd.snd.snd.snd) (l2)))))))))))))
     (chkN (s8_lo.toNat) (s8_lo.toNat)
     (chkN (s8_n.toNat) (s8_n.toNat)
     (chkI (s32) (s32)
     (chkI (rng) (rng)
     (chkI (val) (val)
     (chkI (last) (last)
     (chkI (front) (front)
     (chkB (bad) (bad)
     (chkL (b) (b)
     (read9.loop10 N (nn) (s8_lo) (s8_n) (s32) (rng) (val) (last) (front) (bad) (b) (IntKind.i64.wrap (s33 + (1 : Int))) (back) (window) (waiting) (count) (l2)))))))))))))
   (chkN (s8_lo.toNat) (s8_lo.toNat)
   (chkN (s8_n.toNat) (s8_n.toNat)
   (chkI (rng) (rng)
   (chkI (val) (val)
   (chkI (last) (last)
   (chkI (front) (front)
   (chkB (bad) (bad)
   (chkL (b) (b)
   (some ((back, window, waiting, count, l2))))))))))))
noncomputable def read9.loop10R (N nn : Nat) (s8_lo : Int) (s8_n : Int) (s32 : Int) (rng : Int) (val : Int) (last : Int) (front : Int) (bad : Bool) (b : List Int) (s33 : Int) (back : Int) (window : Int) (waiting : Int) (count : Int) (l2 : List Int) : Option read9.loop10.R := loopF read9.loop10.ann (mkL [s8_lo, s8_n, s32, rng, val, last, front] [bad] [b] []) (evCode ((read9.C N).inLoop read9.loop10.ann) (read9.K N) (inlTab (read9.C N) 0) (bodyAt 10 Try.f55)) nn (mkL [s33, back, window, waiting, count] [] [l2] [])
theorem read9.loop10_eq (N : Nat) : ∀ (nn : Nat) (s8_lo : Int) (s8_n : Int) (s32 : Int) (rng : Int) (val : Int) (last : Int) (front : Int) (bad : Bool) (b : List Int) (s33 : Int) (back : Int) (window : Int) (waiting : Int) (count : Int) (l2 : List Int), read9.loop10R N nn s8_lo s8_n s32 rng val last front bad b s33 back window waiting count l2 = read9.loop10 N nn s8_lo s8_n s32 rng val last front bad b s33 back window waiting count l2
  | 0, _, _, _, _, _, _, _, _, _, _, _, _, _, _, _ => by kernel_rfl
  | nn + 1, s8_lo, s8_n, s32, rng, val, last, front, bad, b, s33, back, window, waiting, count, l2 => by
    have h : read9.loop10R N (nn + 1) s8_lo s8_n s32 rng val last front bad b s33 back window waiting count l2 =
  (br (decide (s33 < s32))
   (chk ((0 : Int) ≤ s33 ∧ s33 < ↑s8_n.toNat)
    (br (decide (l2.getD (s8_lo.toNat + s33.toNat) (0 : Int) > (0 : Int)))
     (obind (Rc.bits.F (N) ((1 : Int)) (rng) (val) (last) (front) (back) (window) (waiting) (count) (bad) (b)) fun r0 =>
      (br (r0.fst == (1 : Int))
      (chk ((0 : Int) ≤ s33 ∧ s33 < ↑s8_n.toNat)
      (chk ((0 : Int) ≤ s33 ∧ s33 < ↑s8_n.toNat)
      (chkN (s8_lo.toNat) (s8_lo.toNat)
      (chkN (s8_n.toNat) (s8_n.toNat)
      (chkI (s32) (s32)
      (chkI (rng) (rng)
      (chkI (val) (val)
      (chkI (last) (last)
      (chkI (front) (front)
      (chkB (bad) (bad)
      (chkL (b) (b)
      (read9.loop10R N (nn) (s8_lo) (s8_n) (s32) (rng) (val) (last) (front) (bad) (b) (IntKind.i64.wrap (s33 + (1 : Int))) (r0.snd.fst) (r0.snd.snd.fst) (r0.snd.snd.snd.fst) (r0.snd.snd.snd.snd) (l2.set (s8_lo.toNat + s33.toNat) (IntKind.i64.wrap ((0 : Int) - l2.getD (s8_lo.toNat + s33.toNat) (0 : Int))))))))))))))))
      (chkN (s8_lo.toNat) (s8_lo.toNat)
      (chkN (s8_n.toNat) (s8_n.toNat)
      (chkI (s32) (s32)
      (chkI (rng) (rng)
      (chkI (val) (val)
      (chkI (last) (last)
      (chkI (front) (front)
      (chkB (bad) (bad)
      (chkL (b) (b)
      (read9.loop10R N (nn) (s8_lo) (s8_n) (s32) (rng) (val) (last) (front) (bad) (b) (IntKind.i64.wrap (s33 + (1 : Int))) (r0.snd.fst) (r0.snd.snd.fst) (r0.snd.snd.snd.fst) (r0.snd.snd.snd.snd) (l2)))))))))))))
     (chkN (s8_lo.toNat) (s8_lo.toNat)
     (chkN (s8_n.toNat) (s8_n.toNat)
     (chkI (s32) (s32)
     (chkI (rng) (rng)
     (chkI (val) (val)
     (chkI (last) (last)
     (chkI (front) (front)
     (chkB (bad) (bad)
     (chkL (b) (b)
     (read9.loop10R N (nn) (s8_lo) (s8_n) (s32) (rng) (val) (last) (front) (bad) (b) (IntKind.i64.wrap (s33 + (1 : Int))) (back) (window) (waiting) (count) (l2)))))))))))))
   (chkN (s8_lo.toNat) (s8_lo.toNat)
   (chkN (s8_n.toNat) (s8_n.toNat)
   (chkI (rng) (rng)
   (chkI (val) (val)
   (chkI (last) (last)
   (chkI (front) (front)
   (chkB (bad) (bad)
   (chkL (b) (b)
   (some ((back, window, waiting, count, l2)))))))))))) := by kernel_rfl
    rw [h, read9.loop10]
    try simp only [read9.loop10_eq N nn]
noncomputable def read9.loop5 (N : Nat) : Nat → Int → List Int → Int → Int → Int → Int → Int → Int → Int → Int → Int → Bool → List Int → Option read9.loop5.R
  | 0, _, _, _, _, _, _, _, _, _, _, _, _, _ => none
  | nn + 1, n, b, s7, rng, val, last, front, back, window, waiting, count, bad, l2 =>
  (br (decide (s7 < n))
   (chk ((0 : Int) ≤ IntKind.i64.wrap (s7 + (16 : Int)) ∧ IntKind.i64.wrap (s7 + (16 : Int)) ≤ ↑l2.length)
    (chk ((0 : Int) ≤ s7 ∧ s7 ≤ ↑(IntKind.i64.wrap (s7 + (16 : Int))).toNat)
     (obind (Rc.ticdf.F (N) ((5 : Int))) fun r0 =>
      (obind (Rc.symbol.F (N) (rng) (val) (last) (front) (back) (window) (waiting) (count) (bad) (r0) (b)) fun r1 =>
      (chk (s7.toNat + ((IntKind.i64.wrap (s7 + (16 : Int))).toNat - s7.toNat) ≤ l2.length)
      (obind (Rc.share9.F (N) (r1.fst) (r1.snd.fst) (r1.snd.snd.fst) (r1.snd.snd.snd.fst) (r1.snd.snd.snd.snd.fst) (back) (window) (waiting) (r1.snd.snd.snd.snd.snd) (bad) (b) (List.take ((IntKind.i64.wrap (s7 + (16 : Int))).toNat - s7.toNat) (List.drop s7.toNat l2))) fun r2 =>
      (obind (read9.loop10 N (N) (↑s7.toNat) (↑((IntKind.i64.wrap (s7 + (16 : Int))).toNat - s7.toNat)) (↑((IntKind.i64.wrap (s7 + (16 : Int))).toNat - s7.toNat)) (r2.fst) (r2.snd.fst) (r2.snd.snd.fst) (r2.snd.snd.snd.fst) (r2.snd.snd.snd.snd.snd.snd.snd.snd.fst) (b) ((0 : Int)) (r2.snd.snd.snd.snd.fst) (r2.snd.snd.snd.snd.snd.fst) (r2.snd.snd.snd.snd.snd.snd.fst) (r2.snd.snd.snd.snd.snd.snd.snd.fst) (List.take s7.toNat l2 ++ (r2.snd.snd.snd.snd.snd.snd.snd.snd.snd ++ List.drop (s7.toNat + ((IntKind.i64.wrap (s7 + (16 : Int))).toNat - s7.toNat)) l2))) fun r3 =>
      (chkI (n) (n)
      (chkL (b) (b)
      (read9.loop5 N (nn) (n) (b) (IntKind.i64.wrap (s7 + (16 : Int))) (r2.fst) (r2.snd.fst) (r2.snd.snd.fst) (r2.snd.snd.snd.fst) (r3.fst) (r3.snd.fst) (r3.snd.snd.fst) (r3.snd.snd.snd.fst) (r2.snd.snd.snd.snd.snd.snd.snd.snd.fst) (r3.snd.snd.snd.snd)))))))))))
   (chkL (b) (b)
   (some ((rng, val, last, front, back, window, waiting, count, bad, l2)))))
noncomputable def read9.loop5R (N nn : Nat) (n : Int) (b : List Int) (s7 : Int) (rng : Int) (val : Int) (last : Int) (front : Int) (back : Int) (window : Int) (waiting : Int) (count : Int) (bad : Bool) (l2 : List Int) : Option read9.loop5.R := loopF read9.loop5.ann (mkL [n] [] [b] []) (evCode ((read9.C N).inLoop read9.loop5.ann) (read9.K N) (inlTab (read9.C N) 0) (bodyAt 5 Try.f55)) nn (mkL [s7, rng, val, last, front, back, window, waiting, count] [bad] [l2] [])
theorem read9.loop5_eq (N : Nat) : ∀ (nn : Nat) (n : Int) (b : List Int) (s7 : Int) (rng : Int) (val : Int) (last : Int) (front : Int) (back : Int) (window : Int) (waiting : Int) (count : Int) (bad : Bool) (l2 : List Int), read9.loop5R N nn n b s7 rng val last front back window waiting count bad l2 = read9.loop5 N nn n b s7 rng val last front back window waiting count bad l2
  | 0, _, _, _, _, _, _, _, _, _, _, _, _, _ => by kernel_rfl
  | nn + 1, n, b, s7, rng, val, last, front, back, window, waiting, count, bad, l2 => by
    have h : read9.loop5R N (nn + 1) n b s7 rng val last front back window waiting count bad l2 =
  (br (decide (s7 < n))
   (chk ((0 : Int) ≤ IntKind.i64.wrap (s7 + (16 : Int)) ∧ IntKind.i64.wrap (s7 + (16 : Int)) ≤ ↑l2.length)
    (chk ((0 : Int) ≤ s7 ∧ s7 ≤ ↑(IntKind.i64.wrap (s7 + (16 : Int))).toNat)
     (obind (Rc.ticdf.F (N) ((5 : Int))) fun r0 =>
      (obind (Rc.symbol.F (N) (rng) (val) (last) (front) (back) (window) (waiting) (count) (bad) (r0) (b)) fun r1 =>
      (chk (s7.toNat + ((IntKind.i64.wrap (s7 + (16 : Int))).toNat - s7.toNat) ≤ l2.length)
      (obind (Rc.share9.F (N) (r1.fst) (r1.snd.fst) (r1.snd.snd.fst) (r1.snd.snd.snd.fst) (r1.snd.snd.snd.snd.fst) (back) (window) (waiting) (r1.snd.snd.snd.snd.snd) (bad) (b) (List.take ((IntKind.i64.wrap (s7 + (16 : Int))).toNat - s7.toNat) (List.drop s7.toNat l2))) fun r2 =>
      (obind (read9.loop10R N (N) (↑s7.toNat) (↑((IntKind.i64.wrap (s7 + (16 : Int))).toNat - s7.toNat)) (↑((IntKind.i64.wrap (s7 + (16 : Int))).toNat - s7.toNat)) (r2.fst) (r2.snd.fst) (r2.snd.snd.fst) (r2.snd.snd.snd.fst) (r2.snd.snd.snd.snd.snd.snd.snd.snd.fst) (b) ((0 : Int)) (r2.snd.snd.snd.snd.fst) (r2.snd.snd.snd.snd.snd.fst) (r2.snd.snd.snd.snd.snd.snd.fst) (r2.snd.snd.snd.snd.snd.snd.snd.fst) (List.take s7.toNat l2 ++ (r2.snd.snd.snd.snd.snd.snd.snd.snd.snd ++ List.drop (s7.toNat + ((IntKind.i64.wrap (s7 + (16 : Int))).toNat - s7.toNat)) l2))) fun r3 =>
      (chkI (n) (n)
      (chkL (b) (b)
      (read9.loop5R N (nn) (n) (b) (IntKind.i64.wrap (s7 + (16 : Int))) (r2.fst) (r2.snd.fst) (r2.snd.snd.fst) (r2.snd.snd.snd.fst) (r3.fst) (r3.snd.fst) (r3.snd.snd.fst) (r3.snd.snd.snd.fst) (r2.snd.snd.snd.snd.snd.snd.snd.snd.fst) (r3.snd.snd.snd.snd)))))))))))
   (chkL (b) (b)
   (some ((rng, val, last, front, back, window, waiting, count, bad, l2))))) := by kernel_rfl
    rw [h, read9.loop5]
    try simp only [read9.loop5_eq N nn, read9.loop10_eq N]
noncomputable def read9.F (N : Nat) (n : Int) (rng : Int) (val : Int) (last : Int) (front : Int) (back : Int) (window : Int) (waiting : Int) (count : Int) (bad : Bool) (b : List Int) : Option read9.R :=
  (obind (Rc.pmay9.F (N) (n)) fun r0 =>
   (br (!r0)
    (chkL (b) (b)
    (some (((1 : Int), rng, val, last, front, back, window, waiting, count, bad, ([] : List Int)))))
    (chk ((0 : Int) ≤ n ∧ n ≤ n ∧ n ≤ ↑(17592186043904 : Nat))
     (obind (read9.loop5 N (N) (n) (b) ((0 : Int)) (rng) (val) (last) (front) (back) (window) (waiting) (count) (bad) (List.replicate n.toNat (0 : Int))) fun r1 =>
      (chkL (b) (b)
      (some (((0 : Int), r1.fst, r1.snd.fst, r1.snd.snd.fst, r1.snd.snd.snd.fst, r1.snd.snd.snd.snd.fst, r1.snd.snd.snd.snd.snd.fst, r1.snd.snd.snd.snd.snd.snd.fst, r1.snd.snd.snd.snd.snd.snd.snd.fst, r1.snd.snd.snd.snd.snd.snd.snd.snd.fst, r1.snd.snd.snd.snd.snd.snd.snd.snd.snd))))))))
theorem read9.F_eq (N : Nat) (L : Eng.Leaves) : evSig (read9.C N) (read9.K N) 0 Try.f55 read9.sig L read9.dec = read9.F N (L.i 0) (L.i 1) (L.i 2) (L.i 3) (L.i 4) (L.i 5) (L.i 6) (L.i 7) (L.i 8) (L.b 0) (L.l 0) := by
  have h : ∀ (n : Int) (rng : Int) (val : Int) (last : Int) (front : Int) (back : Int) (window : Int) (waiting : Int) (count : Int) (bad : Bool) (b : List Int), evSig (read9.C N) (read9.K N) 0 Try.f55 read9.sig (mkL [n, rng, val, last, front, back, window, waiting, count] [bad] [b] []) read9.dec =
  (obind (Rc.pmay9.F (N) (n)) fun r0 =>
   (br (!r0)
    (chkL (b) (b)
    (some (((1 : Int), rng, val, last, front, back, window, waiting, count, bad, ([] : List Int)))))
    (chk ((0 : Int) ≤ n ∧ n ≤ n ∧ n ≤ ↑(17592186043904 : Nat))
     (obind (read9.loop5R N (N) (n) (b) ((0 : Int)) (rng) (val) (last) (front) (back) (window) (waiting) (count) (bad) (List.replicate n.toNat (0 : Int))) fun r1 =>
      (chkL (b) (b)
      (some (((0 : Int), r1.fst, r1.snd.fst, r1.snd.snd.fst, r1.snd.snd.snd.fst, r1.snd.snd.snd.snd.fst, r1.snd.snd.snd.snd.snd.fst, r1.snd.snd.snd.snd.snd.snd.fst, r1.snd.snd.snd.snd.snd.snd.snd.fst, r1.snd.snd.snd.snd.snd.snd.snd.snd.fst, r1.snd.snd.snd.snd.snd.snd.snd.snd.snd)))))))) := by
    intro n rng val last front back window waiting count bad b
    kernel_rfl
  have h2 : evSig (read9.C N) (read9.K N) 0 Try.f55 read9.sig L read9.dec = evSig (read9.C N) (read9.K N) 0 Try.f55 read9.sig (mkL [L.i 0, L.i 1, L.i 2, L.i 3, L.i 4, L.i 5, L.i 6, L.i 7, L.i 8] [L.b 0] [L.l 0] []) read9.dec := by kernel_rfl
  rw [h2, h, read9.F]
  try simp only [read9.loop5_eq N, read9.loop10_eq N]
noncomputable def read9.spec : Eng.Spec := read9.sig.spec (fun N L => read9.F N (L.i 0) (L.i 1) (L.i 2) (L.i 3) (L.i 4) (L.i 5) (L.i 6) (L.i 7) (L.i 8) (L.b 0) (L.l 0)) read9.enc
theorem read9.cok (N : Nat) : CfgOK (read9.C N) := ⟨fun _ _ _ _ h => by simp [read9.C, noRT] at h, wide, by
  simp only [read9.C, List.mem_cons, List.not_mem_nil, or_false, forall_eq_or_imp, forall_eq, false_imp_iff, implies_true]
  exact ⟨⟨pmay9.ok, by kernel_rfl⟩, ⟨ticdf.ok, by kernel_rfl⟩, ⟨symbol.ok, by kernel_rfl⟩, ⟨share9.ok, by kernel_rfl⟩, ⟨bits.ok, by kernel_rfl⟩⟩, fun g hg => by simp [read9.C] at hg, fun m hm => by simp [read9.C] at hm, fun q hq => by simp [read9.C] at hq⟩
theorem read9.aok (N : Nat) : AnnsOK (read9.K N) := by
  intro q hq
  simp only [read9.K, List.mem_cons, List.not_mem_nil, or_false] at hq
  rcases hq with rfl | rfl
  · exact fun _ _ => ⟨rfl, rfl⟩
  · exact fun _ _ => ⟨rfl, rfl⟩
theorem read9.ok : CallOK Try.prog 55 read9.spec :=
  callOK_of_sig (fn := Try.f55) (Cf := read9.C) (K := read9.K) (d := 0) (dec := read9.dec) (by kernel_rfl) (fun _ => rfl) read9.cok (fun _ q hq => by simp [read9.C] at hq) read9.aok
    (fun N L r h => (read9.F_eq N L).trans h) (by kernel_rfl) (fun _ => ⟨rfl, rfl⟩) (fun _ _ => ⟨rfl, rfl⟩)
noncomputable def spread9.sig : Eng.Sig := { args := [.at (.ptr 0 0), .at (.roi .i64 0)], n := 3, pre := [(0, .cells 6 [.full 1 false, .int .u64 0, .int .u64 1, .full 2 false, .int .i64 2, .int .i64 3]), (1, .ints true .u8 1), (2, .ints true .u8 2)], post := [(0, .cells 6 [.full 3 false, .int .u64 1, .int .u64 2, .full 4 false, .int .i64 3, .int .i64 4]), (1, .dead), (2, .dead), (3, .ints true .u8 0), (4, .ints true .u8 1)], m := 2, ret := .at (.int .i64 0) }
abbrev spread9.R : Type := Int × Int × Int × Int × Int × List Int × List Int
def spread9.dec (L : Eng.Leaves) : spread9.R := (L.i 0, L.i 1, L.i 2, L.i 3, L.i 4, L.l 0, L.l 1)
def spread9.enc (r : spread9.R) : Eng.Leaves := mkL [r.1, r.2.1, r.2.2.1, r.2.2.2.1, r.2.2.2.2.1] [] [r.2.2.2.2.2.1, r.2.2.2.2.2.2] []
noncomputable def spread9.G (N : Nat) : Nat → Int → Int → Int → Int → List Int → List Int → List Int → Option spread9.R
  | 0, _, _, _, _, _, _, _ => none
  | nn + 1, val, rng, rawBits, count, l, told, raw =>
  (br (↑l.length == (1 : Int))
   (some (((0 : Int), val, rng, rawBits, count, told, raw)))
   (chk ((0 : Int) ≤ IntKind.i64.wrap ((↑l.length : Int).tdiv (2 : Int)) ∧ IntKind.i64.wrap ((↑l.length : Int).tdiv (2 : Int)) ≤ ↑l.length)
    (obind (Rc.count9.F (N) (List.take ((IntKind.i64.wrap ((↑l.length : Int).tdiv (2 : Int))).toNat - (0 : Nat)) (List.drop (0 : Nat) l))) fun r0 =>
     (obind (Rc.count9.F (N) (l)) fun r1 =>
      (obind (Rc.euint.F (N) (r0) (IntKind.i64.wrap (r1 + (1 : Int))) (val) (rng) (rawBits) (count) (told) (raw)) fun r2 =>
      (br (r2.fst != (0 : Int))
      (some ((r2.fst, r2.snd.fst, r2.snd.snd.fst, r2.snd.snd.snd.fst, r2.snd.snd.snd.snd.fst, r2.snd.snd.snd.snd.snd.fst, r2.snd.snd.snd.snd.snd.snd)))
      (obind (Rc.spread9.G (N) (nn) (r2.snd.fst) (r2.snd.snd.fst) (r2.snd.snd.snd.fst) (r2.snd.snd.snd.snd.fst) (List.take ((IntKind.i64.wrap ((↑l.length : Int).tdiv (2 : Int))).toNat - (0 : Nat)) (List.drop (0 : Nat) l)) (r2.snd.snd.snd.snd.snd.fst) (r2.snd.snd.snd.snd.snd.snd)) fun r3 =>
      (br (r3.fst != (0 : Int))
      (some ((r3.fst, r3.snd.fst, r3.snd.snd.fst, r3.snd.snd.snd.fst, r3.snd.snd.snd.snd.fst, r3.snd.snd.snd.snd.snd.fst, r3.snd.snd.snd.snd.snd.snd)))
      (chk ((0 : Int) ≤ IntKind.i64.wrap ((↑l.length : Int).tdiv (2 : Int)) ∧ IntKind.i64.wrap ((↑l.length : Int).tdiv (2 : Int)) ≤ ↑l.length)
      (obind (Rc.spread9.G (N) (nn) (r3.snd.fst) (r3.snd.snd.fst) (r3.snd.snd.snd.fst) (r3.snd.snd.snd.snd.fst) (List.take (l.length - (IntKind.i64.wrap ((↑l.length : Int).tdiv (2 : Int))).toNat) (List.drop (IntKind.i64.wrap ((↑l.length : Int).tdiv (2 : Int))).toNat l)) (r3.snd.snd.snd.snd.snd.fst) (r3.snd.snd.snd.snd.snd.snd)) fun r4 =>
      (some ((r4.fst, r4.snd.fst, r4.snd.snd.fst, r4.snd.snd.snd.fst, r4.snd.snd.snd.snd.fst, r4.snd.snd.snd.snd.snd.fst, r4.snd.snd.snd.snd.snd.snd)))))))))))))
noncomputable def spread9.specAt (nn : Nat) : Eng.Spec := spread9.sig.spec (fun N L => spread9.G N nn (L.i 0) (L.i 1) (L.i 2) (L.i 3) (L.l 0) (L.l 1) (L.l 2)) spread9.enc
noncomputable def spread9.C (N : Nat) (nn : Nat) : Cfg := { P := Try.prog, N := N, RT := noRT, specs := [(114, count9.spec), (82, euint.spec), (115, spread9.specAt nn)], inl := [], hi := 3, mv := [] }
noncomputable def spread9.K (N : Nat) : FCfg := { anns := [], unr := [], lits := [], lets := [] }
noncomputable def spread9.F (N : Nat) (val : Int) (rng : Int) (rawBits : Int) (count : Int) (l : List Int) (told : List Int) (raw : List Int) : Option spread9.R := spread9.G N N val rng rawBits count l told raw
theorem spread9.F_eq (N nn : Nat) (L : Eng.Leaves) : evSig (spread9.C N nn) (spread9.K N) 0 Try.f115 spread9.sig L spread9.dec = spread9.G N (nn + 1) (L.i 0) (L.i 1) (L.i 2) (L.i 3) (L.l 0) (L.l 1) (L.l 2) := by
  kernel_rfl
theorem spread9.cok (nn : Nat) (hrec : CallOK Try.prog 115 (spread9.specAt nn)) (N : Nat) : CfgOK (spread9.C N nn) := ⟨fun _ _ _ _ h => by simp [spread9.C, noRT] at h, wide, by
  simp only [spread9.C, List.mem_cons, List.not_mem_nil, or_false, forall_eq_or_imp, forall_eq, false_imp_iff, implies_true]
  exact ⟨⟨count9.ok, by kernel_rfl⟩, ⟨euint.ok, by kernel_rfl⟩, ⟨hrec, by kernel_rfl⟩⟩, fun g hg => by simp [spread9.C] at hg, fun m hm => by simp [spread9.C] at hm, fun q hq => by simp [spread9.C] at hq⟩
theorem spread9.aok (N : Nat) : AnnsOK (spread9.K N) := by
  intro q hq
  simp only [spread9.K, List.mem_cons, List.not_mem_nil, or_false] at hq
theorem spread9.okAt : ∀ nn, CallOK Try.prog 115 (spread9.specAt nn) :=
  callOK_rec (run := fun N nn L => spread9.G N nn (L.i 0) (L.i 1) (L.i 2) (L.i 3) (L.l 0) (L.l 1) (L.l 2)) (fun _ _ => rfl) (by kernel_rfl) fun nn hrec =>
  callOK_of_sig (fn := Try.f115) (Cf := fun N => spread9.C N nn) (K := spread9.K) (d := 0) (dec := spread9.dec) (by kernel_rfl) (fun _ => rfl) (spread9.cok nn hrec) (fun _ q hq => by simp [spread9.C] at hq) spread9.aok
    (fun N L r h => (spread9.F_eq N nn L).trans h) (by kernel_rfl) (fun _ => ⟨rfl, rfl⟩) (fun _ _ => ⟨rfl, rfl⟩)
noncomputable def spread9.spec : Eng.Spec := spread9.sig.spec (fun N L => spread9.F N (L.i 0) (L.i 1) (L.i 2) (L.i 3) (L.l 0) (L.l 1) (L.l 2)) spread9.enc
theorem spread9.ok : CallOK Try.prog 115 spread9.spec := callOK_diag (run := fun N nn L => spread9.G N nn (L.i 0) (L.i 1) (L.i 2) (L.i 3) (L.l 0) (L.l 1) (L.l 2)) spread9.okAt
noncomputable def signs9.sig : Eng.Sig := { args := [.at (.ptr 0 0), .at (.roi .i64 0)], n := 3, pre := [(0, .cells 6 [.full 1 false, .int .u64 0, .int .u64 1, .full 2 false, .int .i64 2, .int .i64 3]), (1, .ints true .u8 1), (2, .ints true .u8 2)], post := [(0, .cells 6 [.full 1 false, .int .u64 1, .int .u64 2, .full 3 false, .int .i64 3, .int .i64 4]), (1, .ints true .u8 0), (2, .dead), (3, .ints true .u8 1)], m := 1, ret := .at (.int .i64 0) }
noncomputable def signs9.C (N : Nat) : Cfg := { P := Try.prog, N := N, RT := noRT, specs := [(78, ebits.spec)], inl := [], hi := 3, mv := [] }
abbrev signs9.R : Type := Int × Int × Int × Int × Int × List Int × List Int
def signs9.dec (L : Eng.Leaves) : signs9.R := (L.i 0, L.i 1, L.i 2, L.i 3, L.i 4, L.l 0, L.l 1)
def signs9.enc (r : signs9.R) : Eng.Leaves := mkL [r.1, r.2.1, r.2.2.1, r.2.2.2.1, r.2.2.2.2.1] [] [r.2.2.2.2.2.1, r.2.2.2.2.2.2] []
abbrev signs9.loop2.R : Type := Int × Int × Int × List Int
noncomputable def signs9.loop2.ann : Ann := { nx := 21, slots := [(0, .at (.ptr 0 0)), (4, .at (.int .i64 0)), (9, .at (.froi .i64 0)), (10, .at (.fint .i64 0)), (11, .at (.int .i64 1))], blks := [(0, .cells 6 [.full 1 false, .fint .u64 1, .fint .u64 2, .full 20 false, .int .i64 2, .int .i64 3]), (1, .fints true .u8 1), (20, .ints true .u8 0)], mov := [20], exId := 0, xslots := [(0, .at (.ptr 0 0)), (4, .at (.int .i64 0))], xblks := [(0, .cells 6 [.full 1 false, .fint .u64 1, .fint .u64 2, .full 20 false, .int .i64 1, .int .i64 2]), (1, .fints true .u8 1), (20, .ints true .u8 0)], T := signs9.loop2.R, dec := fun L => (L.i 0, L.i 1, L.i 2, L.l 0), enc := fun r => mkL [r.1, r.2.1, r.2.2.1] [] [r.2.2.2] [], ret := true }
noncomputable def signs9.K (N : Nat) : FCfg := { anns := [(2, signs9.loop2.ann)], unr := [], lits := [], lets := [] }
noncomputable def signs9.loop2 (N : Nat) : Nat → Int → Int → Int → Int → List Int → List Int → List Int → Int → Int → Int → List Int → List Int → Int → Int → Int → Int → List Int → Option (signs9.loop2.R ⊕ signs9.R)
  | 0, _, _, _, _, _, _, _, _, _, _, _, _, _, _, _, _, _ => none
  | nn + 1, e_val, e_rng, e_rawBits, e_count, e_l, e_told, e_raw, s10, val, rng, s9, told, s4, s11, rawBits, count, raw =>
  (br (decide (s11 < s10))
   (chk ((0 : Int) ≤ s11 ∧ s11 < ↑s9.length)
    (br (s9.getD s11.toNat (0 : Int) == (0 : Int))
     (chkL (s9) (s9)
     (chkI (s10) (s10)
     (chkI (val) (val)
     (chkI (rng) (rng)
     (chkL (told) (told)
     (signs9.loop2 N (nn) e_val e_rng e_rawBits e_count e_l e_told e_raw (s10) (val) (rng) (s9) (told) (s4) (IntKind.i64.wrap (s11 + (1 : Int))) (rawBits) (count) (raw)))))))
     (br (decide (s9.getD s11.toNat (0 : Int) < (0 : Int)))
      (obind (Rc.ebits.F (N) ((1 : Int)) ((1 : Int)) (val) (rng) (rawBits) (count) (told) (raw)) fun r0 =>
      (br (r0.fst != (0 : Int))
      (omap
      (some ((r0.fst, val, rng, r0.snd.fst, r0.snd.snd.fst, told, r0.snd.snd.snd))) .inr)
      (chkL (s9) (s9)
      (chkI (s10) (s10)
      (chkI (val) (val)
      (chkI (rng) (rng)
      (chkL (told) (told)
      (signs9.loop2 N (nn) e_val e_rng e_rawBits e_count e_l e_told e_raw (s10) (val) (rng) (s9) (told) (s4) (IntKind.i64.wrap (s11 + (1 : Int))) (r0.snd.fst) (r0.snd.snd.fst) (r0.snd.snd.snd)))))))))
      (obind (Rc.ebits.F (N) ((0 : Int)) ((1 : Int)) (val) (rng) (rawBits) (count) (told) (raw)) fun r1 =>
      (br (r1.fst != (0 : Int))
      (omap
      (some ((r1.fst, val, rng, r1.snd.fst, r1.snd.snd.fst, told, r1.snd.snd.snd))) .inr)
      (chkL (s9) (s9)
      (chkI (s10) (s10)
      (chkI (val) (val)
      (chkI (rng) (rng)
      (chkL (told) (told)
      (signs9.loop2 N (nn) e_val e_rng e_rawBits e_count e_l e_told e_raw (s10) (val) (rng) (s9) (told) (s4) (IntKind.i64.wrap (s11 + (1 : Int))) (r1.snd.fst) (r1.snd.snd.fst) (r1.snd.snd.snd))))))))))))
   (chkI (val) (val)
   (chkI (rng) (rng)
   (chkL (told) (told)
   (some (Sum.inl (s4, rawBits, count, raw)))))))
noncomputable def signs9.loop2R (N nn : Nat) (e_val : Int) (e_rng : Int) (e_rawBits : Int) (e_count : Int) (e_l : List Int) (e_told : List Int) (e_raw : List Int) (s10 : Int) (val : Int) (rng : Int) (s9 : List Int) (told : List Int) (s4 : Int) (s11 : Int) (rawBits : Int) (count : Int) (raw : List Int) : Option (signs9.loop2.R ⊕ signs9.R) := loopR signs9.loop2.ann (mkL [s10, val, rng] [] [s9, told] []) (evCode ((signs9.C N).inLoop signs9.loop2.ann) (signs9.K N) (inlTab (signs9.C N) 0) (bodyAt 2 Try.f116)) (sigKr Try.prog Try.f116 signs9.sig (mkL [e_val, e_rng, e_rawBits, e_count] [] [e_l, e_told, e_raw] []) fun L => (L.i 0, L.i 1, L.i 2, L.i 3, L.i 4, L.l 0, L.l 1)) nn (mkL [s4, s11, rawBits, count] [] [raw] [])
theorem signs9.loop2_eq (N : Nat) : ∀ (nn : Nat) (e_val : Int) (e_rng : Int) (e_rawBits : Int) (e_count : Int) (e_l : List Int) (e_told : List Int) (e_raw : List Int) (s10 : Int) (val : Int) (rng : Int) (s9 : List Int) (told : List Int) (s4 : Int) (s11 : Int) (rawBits : Int) (count : Int) (raw : List Int), signs9.loop2R N nn e_val e_rng e_rawBits e_count e_l e_told e_raw s10 val rng s9 told s4 s11 rawBits count raw = signs9.loop2 N nn e_val e_rng e_rawBits e_count e_l e_told e_raw s10 val rng s9 told s4 s11 rawBits count raw
  | 0, _, _, _, _, _, _, _, _, _, _, _, _, _, _, _, _, _ => by kernel_rfl
  | nn + 1, e_val, e_rng, e_rawBits, e_count, e_l, e_told, e_raw, s10, val, rng, s9, told, s4, s11, rawBits, count, raw => by
    have h : signs9.loop2R N (nn + 1) e_val e_rng e_rawBits e_count e_l e_told e_raw s10 val rng s9 told s4 s11 rawBits count raw =
  (br (decide (s11 < s10))
   (chk ((0 : Int) ≤ s11 ∧ s11 < ↑s9.length)
    (br (s9.getD s11.toNat (0 : Int) == (0 : Int))
     (chkL (s9) (s9)
     (chkI (s10) (s10)
     (chkI (val) (val)
     (chkI (rng) (rng)
     (chkL (told) (told)
     (signs9.loop2R N (nn) e_val e_rng e_rawBits e_count e_l e_told e_raw (s10) (val) (rng) (s9) (told) (s4) (IntKind.i64.wrap (s11 + (1 : Int))) (rawBits) (count) (raw)))))))
     (br (decide (s9.getD s11.toNat (0 : Int) < (0 : Int)))
      (obind (Rc.ebits.F (N) ((1 : Int)) ((1 : Int)) (val) (rng) (rawBits) (count) (told) (raw)) fun r0 =>
      (br (r0.fst != (0 : Int))
      (omap
      (some ((r0.fst, val, rng, r0.snd.fst, r0.snd.snd.fst, told, r0.snd.snd.snd))) .inr)
      (chkL (s9) (s9)
      (chkI (s10) (s10)
      (chkI (val) (val)
      (chkI (rng) (rng)
      (chkL (told) (told)
      (signs9.loop2R N (nn) e_val e_rng e_rawBits e_count e_l e_told e_raw (s10) (val) (rng) (s9) (told) (s4) (IntKind.i64.wrap (s11 + (1 : Int))) (r0.snd.fst) (r0.snd.snd.fst) (r0.snd.snd.snd)))))))))
      (obind (Rc.ebits.F (N) ((0 : Int)) ((1 : Int)) (val) (rng) (rawBits) (count) (told) (raw)) fun r1 =>
      (br (r1.fst != (0 : Int))
      (omap
      (some ((r1.fst, val, rng, r1.snd.fst, r1.snd.snd.fst, told, r1.snd.snd.snd))) .inr)
      (chkL (s9) (s9)
      (chkI (s10) (s10)
      (chkI (val) (val)
      (chkI (rng) (rng)
      (chkL (told) (told)
      (signs9.loop2R N (nn) e_val e_rng e_rawBits e_count e_l e_told e_raw (s10) (val) (rng) (s9) (told) (s4) (IntKind.i64.wrap (s11 + (1 : Int))) (r1.snd.fst) (r1.snd.snd.fst) (r1.snd.snd.snd))))))))))))
   (chkI (val) (val)
   (chkI (rng) (rng)
   (chkL (told) (told)
   (some (Sum.inl (s4, rawBits, count, raw))))))) := by kernel_rfl
    rw [h, signs9.loop2]
    try simp only [signs9.loop2_eq N nn]
noncomputable def signs9.F (N : Nat) (val : Int) (rng : Int) (rawBits : Int) (count : Int) (l : List Int) (told : List Int) (raw : List Int) : Option signs9.R :=
  (osum (signs9.loop2 N (N) val rng rawBits count l told raw (↑l.length) (val) (rng) (l) (told) ((0 : Int)) ((0 : Int)) (rawBits) (count) (raw)) fun r0 =>
   (some (((0 : Int), val, rng, r0.snd.fst, r0.snd.snd.fst, told, r0.snd.snd.snd))))
theorem signs9.F_eq (N : Nat) (L : Eng.Leaves) : evSig (signs9.C N) (signs9.K N) 0 Try.f116 signs9.sig L signs9.dec = signs9.F N (L.i 0) (L.i 1) (L.i 2) (L.i 3) (L.l 0) (L.l 1) (L.l 2) := by
  have h : ∀ (val : Int) (rng : Int) (rawBits : Int) (count : Int) (l : List Int) (told : List Int) (raw : List Int), evSig (signs9.C N) (signs9.K N) 0 Try.f116 signs9.sig (mkL [val, rng, rawBits, count] [] [l, told, raw] []) signs9.dec =
  (osum (signs9.loop2R N (N) val rng rawBits count l told raw (↑l.length) (val) (rng) (l) (told) ((0 : Int)) ((0 : Int)) (rawBits) (count) (raw)) fun r0 =>
   (some (((0 : Int), val, rng, r0.snd.fst, r0.snd.snd.fst, told, r0.snd.snd.snd)))) := by
    intro val rng rawBits count l told raw
    kernel_rfl
  have h2 : evSig (signs9.C N) (signs9.K N) 0 Try.f116 signs9.sig L signs9.dec = evSig (signs9.C N) (signs9.K N) 0 Try.f116 signs9.sig (mkL [L.i 0, L.i 1, L.i 2, L.i 3] [] [L.l 0, L.l 1, L.l 2] []) signs9.dec := by kernel_rfl
  rw [h2, h, signs9.F]
  try simp only [signs9.loop2_eq N]
noncomputable def signs9.spec : Eng.Spec := signs9.sig.spec (fun N L => signs9.F N (L.i 0) (L.i 1) (L.i 2) (L.i 3) (L.l 0) (L.l 1) (L.l 2)) signs9.enc
theorem signs9.cok (N : Nat) : CfgOK (signs9.C N) := ⟨fun _ _ _ _ h => by simp [signs9.C, noRT] at h, wide, by
  simp only [signs9.C, List.mem_cons, List.not_mem_nil, or_false, forall_eq_or_imp, forall_eq, false_imp_iff, implies_true]
  exact ⟨ebits.ok, by kernel_rfl⟩, fun g hg => by simp [signs9.C] at hg, fun m hm => by simp [signs9.C] at hm, fun q hq => by simp [signs9.C] at hq⟩
theorem signs9.aok (N : Nat) : AnnsOK (signs9.K N) := by
  intro q hq
  simp only [signs9.K, List.mem_cons, List.not_mem_nil, or_false] at hq
  subst hq
  exact fun _ _ => ⟨rfl, rfl⟩
theorem signs9.ok : CallOK Try.prog 116 signs9.spec :=
  callOK_of_sig (fn := Try.f116) (Cf := signs9.C) (K := signs9.K) (d := 0) (dec := signs9.dec) (by kernel_rfl) (fun _ => rfl) signs9.cok (fun _ q hq => by simp [signs9.C] at hq) signs9.aok
    (fun N L r h => (signs9.F_eq N L).trans h) (by kernel_rfl) (fun _ => ⟨rfl, rfl⟩) (fun _ _ => ⟨rfl, rfl⟩)
noncomputable def write9.sig : Eng.Sig := { args := [.at (.ptr 0 0), .at (.roi .i64 0)], n := 3, pre := [(0, .cells 6 [.full 1 false, .int .u64 0, .int .u64 1, .full 2 false, .int .i64 2, .int .i64 3]), (1, .ints true .u8 1), (2, .ints true .u8 2)], post := [(0, .cells 6 [.full 3 false, .int .u64 1, .int .u64 2, .full 4 false, .int .i64 3, .int .i64 4]), (1, .dead), (2, .dead), (3, .ints true .u8 0), (4, .ints true .u8 1)], m := 2, ret := .at (.int .i64 0) }
noncomputable def write9.C (N : Nat) : Cfg := { P := Try.prog, N := N, RT := noRT, specs := [(56, good9.spec), (114, count9.spec), (99, ticdf.spec), (77, esymbol.spec), (115, spread9.spec), (116, signs9.spec)], inl := [], hi := 3, mv := [] }
abbrev write9.R : Type := Int × Int × Int × Int × Int × List Int × List Int
def write9.dec (L : Eng.Leaves) : write9.R := (L.i 0, L.i 1, L.i 2, L.i 3, L.i 4, L.l 0, L.l 1)
def write9.enc (r : write9.R) : Eng.Leaves := mkL [r.1, r.2.1, r.2.2.1, r.2.2.2.1, r.2.2.2.2.1] [] [r.2.2.2.2.2.1, r.2.2.2.2.2.2] []
abbrev write9.loop4.R : Type := Int × Int × Int × Int × Int × List Int × List Int
noncomputable def write9.loop4.ann : Ann := { nx := 22, slots := [(0, .at (.ptr 0 0)), (1, .at (.froi .i64 0)), (4, .at (.int .i64 0)), (5, .at (.int .i64 1))], blks := [(0, .cells 6 [.full 20 false, .int .u64 2, .int .u64 3, .full 21 false, .int .i64 4, .int .i64 5]), (20, .ints true .u8 0), (21, .ints true .u8 1)], mov := [20, 21], exId := 0, xslots := [(0, .at (.ptr 0 0)), (4, .at (.int .i64 0))], xblks := [(0, .cells 6 [.full 20 false, .int .u64 1, .int .u64 2, .full 21 false, .int .i64 3, .int .i64 4]), (20, .ints true .u8 0), (21, .ints true .u8 1)], T := write9.loop4.R, dec := fun L => (L.i 0, L.i 1, L.i 2, L.i 3, L.i 4, L.l 0, L.l 1), enc := fun r => mkL [r.1, r.2.1, r.2.2.1, r.2.2.2.1, r.2.2.2.2.1] [] [r.2.2.2.2.2.1, r.2.2.2.2.2.2] [], ret := true }
noncomputable def write9.K (N : Nat) : FCfg := { anns := [(4, write9.loop4.ann)], unr := [], lits := [], lets := [] }
noncomputable def write9.loop4 (N : Nat) : Nat → Int → Int → Int → Int → List Int → List Int → List Int → List Int → Int → Int → Int → Int → Int → Int → List Int → List Int → Option (write9.loop4.R ⊕ write9.R)
  | 0, _, _, _, _, _, _, _, _, _, _, _, _, _, _, _, _ => none
  | nn + 1, e_val, e_rng, e_rawBits, e_count, e_l, e_told, e_raw, l, s4, s5, val, rng, rawBits, count, told, raw =>
  (br (decide (s5 < ↑l.length))
   (chk ((0 : Int) ≤ IntKind.i64.wrap (s5 + (16 : Int)) ∧ IntKind.i64.wrap (s5 + (16 : Int)) ≤ ↑l.length)
    (chk ((0 : Int) ≤ s5 ∧ s5 ≤ ↑(IntKind.i64.wrap (s5 + (16 : Int))).toNat)
     (obind (Rc.count9.F (N) (List.take ((IntKind.i64.wrap (s5 + (16 : Int))).toNat - s5.toNat) (List.drop s5.toNat l))) fun r0 =>
      (obind (Rc.ticdf.F (N) ((5 : Int))) fun r1 =>
      (obind (Rc.esymbol.F (N) (r0) (val) (rng) (rawBits) (count) (r1) (told) (raw)) fun r2 =>
      (br (r2.fst != (0 : Int))
      (omap
      (some ((r2.fst, r2.snd.fst, r2.snd.snd.fst, r2.snd.snd.snd.fst, r2.snd.snd.snd.snd.fst, r2.snd.snd.snd.snd.snd.snd, r2.snd.snd.snd.snd.snd.fst))) .inr)
      (obind (Rc.spread9.F (N) (r2.snd.fst) (r2.snd.snd.fst) (r2.snd.snd.snd.fst) (r2.snd.snd.snd.snd.fst) (List.take ((IntKind.i64.wrap (s5 + (16 : Int))).toNat - s5.toNat) (List.drop s5.toNat l)) (r2.snd.snd.snd.snd.snd.snd) (r2.snd.snd.snd.snd.snd.fst)) fun r3 =>
      (br (r3.fst != (0 : Int))
      (omap
      (some ((r3.fst, r3.snd.fst, r3.snd.snd.fst, r3.snd.snd.snd.fst, r3.snd.snd.snd.snd.fst, r3.snd.snd.snd.snd.snd.fst, r3.snd.snd.snd.snd.snd.snd))) .inr)
      (obind (Rc.signs9.F (N) (r3.snd.fst) (r3.snd.snd.fst) (r3.snd.snd.snd.fst) (r3.snd.snd.snd.snd.fst) (List.take ((IntKind.i64.wrap (s5 + (16 : Int))).toNat - s5.toNat) (List.drop s5.toNat l)) (r3.snd.snd.snd.snd.snd.fst) (r3.snd.snd.snd.snd.snd.snd)) fun r4 =>
      (br (r4.fst != (0 : Int))
      (omap
      (some ((r4.fst, r4.snd.fst, r4.snd.snd.fst, r4.snd.snd.snd.fst, r4.snd.snd.snd.snd.fst, r4.snd.snd.snd.snd.snd.fst, r4.snd.snd.snd.snd.snd.snd))) .inr)
      (chkL (l) (l)
      (write9.loop4 N (nn) e_val e_rng e_rawBits e_count e_l e_told e_raw (l) (s4) (IntKind.i64.wrap (s5 + (16 : Int))) (r4.snd.fst) (r4.snd.snd.fst) (r4.snd.snd.snd.fst) (r4.snd.snd.snd.snd.fst) (r4.snd.snd.snd.snd.snd.fst) (r4.snd.snd.snd.snd.snd.snd)))))))))))))
   (some (Sum.inl (s4, val, rng, rawBits, count, told, raw))))
noncomputable def write9.loop4R (N nn : Nat) (e_val : Int) (e_rng : Int) (e_rawBits : Int) (e_count : Int) (e_l : List Int) (e_told : List Int) (e_raw : List Int) (l : List Int) (s4 : Int) (s5 : Int) (val : Int) (rng : Int) (rawBits : Int) (count : Int) (told : List Int) (raw : List Int) : Option (write9.loop4.R ⊕ write9.R) := loopR write9.loop4.ann (mkL [] [] [l] []) (evCode ((write9.C N).inLoop write9.loop4.ann) (write9.K N) (inlTab (write9.C N) 0) (bodyAt 4 Try.f57)) (sigKr Try.prog Try.f57 write9.sig (mkL [e_val, e_rng, e_rawBits, e_count] [] [e_l, e_told, e_raw] []) fun L => (L.i 0, L.i 1, L.i 2, L.i 3, L.i 4, L.l 0, L.l 1)) nn (mkL [s4, s5, val, rng, rawBits, count] [] [told, raw] [])
theorem write9.loop4_eq (N : Nat) : ∀ (nn : Nat) (e_val : Int) (e_rng : Int) (e_rawBits : Int) (e_count : Int) (e_l : List Int) (e_told : List Int) (e_raw : List Int) (l : List Int) (s4 : Int) (s5 : Int) (val : Int) (rng : Int) (rawBits : Int) (count : Int) (told : List Int) (raw : List Int), write9.loop4R N nn e_val e_rng e_rawBits e_count e_l e_told e_raw l s4 s5 val rng rawBits count told raw = write9.loop4 N nn e_val e_rng e_rawBits e_count e_l e_told e_raw l s4 s5 val rng rawBits count told raw
  | 0, _, _, _, _, _, _, _, _, _, _, _, _, _, _, _, _ => by kernel_rfl
  | nn + 1, e_val, e_rng, e_rawBits, e_count, e_l, e_told, e_raw, l, s4, s5, val, rng, rawBits, count, told, raw => by
    have h : write9.loop4R N (nn + 1) e_val e_rng e_rawBits e_count e_l e_told e_raw l s4 s5 val rng rawBits count told raw =
  (br (decide (s5 < ↑l.length))
   (chk ((0 : Int) ≤ IntKind.i64.wrap (s5 + (16 : Int)) ∧ IntKind.i64.wrap (s5 + (16 : Int)) ≤ ↑l.length)
    (chk ((0 : Int) ≤ s5 ∧ s5 ≤ ↑(IntKind.i64.wrap (s5 + (16 : Int))).toNat)
     (obind (Rc.count9.F (N) (List.take ((IntKind.i64.wrap (s5 + (16 : Int))).toNat - s5.toNat) (List.drop s5.toNat l))) fun r0 =>
      (obind (Rc.ticdf.F (N) ((5 : Int))) fun r1 =>
      (obind (Rc.esymbol.F (N) (r0) (val) (rng) (rawBits) (count) (r1) (told) (raw)) fun r2 =>
      (br (r2.fst != (0 : Int))
      (omap
      (some ((r2.fst, r2.snd.fst, r2.snd.snd.fst, r2.snd.snd.snd.fst, r2.snd.snd.snd.snd.fst, r2.snd.snd.snd.snd.snd.snd, r2.snd.snd.snd.snd.snd.fst))) .inr)
      (obind (Rc.spread9.F (N) (r2.snd.fst) (r2.snd.snd.fst) (r2.snd.snd.snd.fst) (r2.snd.snd.snd.snd.fst) (List.take ((IntKind.i64.wrap (s5 + (16 : Int))).toNat - s5.toNat) (List.drop s5.toNat l)) (r2.snd.snd.snd.snd.snd.snd) (r2.snd.snd.snd.snd.snd.fst)) fun r3 =>
      (br (r3.fst != (0 : Int))
      (omap
      (some ((r3.fst, r3.snd.fst, r3.snd.snd.fst, r3.snd.snd.snd.fst, r3.snd.snd.snd.snd.fst, r3.snd.snd.snd.snd.snd.fst, r3.snd.snd.snd.snd.snd.snd))) .inr)
      (obind (Rc.signs9.F (N) (r3.snd.fst) (r3.snd.snd.fst) (r3.snd.snd.snd.fst) (r3.snd.snd.snd.snd.fst) (List.take ((IntKind.i64.wrap (s5 + (16 : Int))).toNat - s5.toNat) (List.drop s5.toNat l)) (r3.snd.snd.snd.snd.snd.fst) (r3.snd.snd.snd.snd.snd.snd)) fun r4 =>
      (br (r4.fst != (0 : Int))
      (omap
      (some ((r4.fst, r4.snd.fst, r4.snd.snd.fst, r4.snd.snd.snd.fst, r4.snd.snd.snd.snd.fst, r4.snd.snd.snd.snd.snd.fst, r4.snd.snd.snd.snd.snd.snd))) .inr)
      (chkL (l) (l)
      (write9.loop4R N (nn) e_val e_rng e_rawBits e_count e_l e_told e_raw (l) (s4) (IntKind.i64.wrap (s5 + (16 : Int))) (r4.snd.fst) (r4.snd.snd.fst) (r4.snd.snd.snd.fst) (r4.snd.snd.snd.snd.fst) (r4.snd.snd.snd.snd.snd.fst) (r4.snd.snd.snd.snd.snd.snd)))))))))))))
   (some (Sum.inl (s4, val, rng, rawBits, count, told, raw)))) := by kernel_rfl
    rw [h, write9.loop4]
    try simp only [write9.loop4_eq N nn]
noncomputable def write9.F (N : Nat) (val : Int) (rng : Int) (rawBits : Int) (count : Int) (l : List Int) (told : List Int) (raw : List Int) : Option write9.R :=
  (obind (Rc.good9.F (N) (l)) fun r0 =>
   (br (!r0)
    (some (((1 : Int), val, rng, rawBits, count, told, raw)))
    (osum (write9.loop4 N (N) val rng rawBits count l told raw (l) ((0 : Int)) ((0 : Int)) (val) (rng) (rawBits) (count) (told) (raw)) fun r1 =>
     (some (((0 : Int), r1.snd.fst, r1.snd.snd.fst, r1.snd.snd.snd.fst, r1.snd.snd.snd.snd.fst, r1.snd.snd.snd.snd.snd.fst, r1.snd.snd.snd.snd.snd.snd))))))
theorem write9.F_eq (N : Nat) (L : Eng.Leaves) : evSig (write9.C N) (write9.K N) 0 Try.f57 write9.sig L write9.dec = write9.F N (L.i 0) (L.i 1) (L.i 2) (L.i 3) (L.l 0) (L.l 1) (L.l 2) := by
  have h : ∀ (val : Int) (rng : Int) (rawBits : Int) (count : Int) (l : List Int) (told : List Int) (raw : List Int), evSig (write9.C N) (write9.K N) 0 Try.f57 write9.sig (mkL [val, rng, rawBits, count] [] [l, told, raw] []) write9.dec =
  (obind (Rc.good9.F (N) (l)) fun r0 =>
   (br (!r0)
    (some (((1 : Int), val, rng, rawBits, count, told, raw)))
    (osum (write9.loop4R N (N) val rng rawBits count l told raw (l) ((0 : Int)) ((0 : Int)) (val) (rng) (rawBits) (count) (told) (raw)) fun r1 =>
     (some (((0 : Int), r1.snd.fst, r1.snd.snd.fst, r1.snd.snd.snd.fst, r1.snd.snd.snd.snd.fst, r1.snd.snd.snd.snd.snd.fst, r1.snd.snd.snd.snd.snd.snd)))))) := by
    intro val rng rawBits count l told raw
    kernel_rfl
  have h2 : evSig (write9.C N) (write9.K N) 0 Try.f57 write9.sig L write9.dec = evSig (write9.C N) (write9.K N) 0 Try.f57 write9.sig (mkL [L.i 0, L.i 1, L.i 2, L.i 3] [] [L.l 0, L.l 1, L.l 2] []) write9.dec := by kernel_rfl
  rw [h2, h, write9.F]
  try simp only [write9.loop4_eq N]
noncomputable def write9.spec : Eng.Spec := write9.sig.spec (fun N L => write9.F N (L.i 0) (L.i 1) (L.i 2) (L.i 3) (L.l 0) (L.l 1) (L.l 2)) write9.enc
theorem write9.cok (N : Nat) : CfgOK (write9.C N) := ⟨fun _ _ _ _ h => by simp [write9.C, noRT] at h, wide, by
  simp only [write9.C, List.mem_cons, List.not_mem_nil, or_false, forall_eq_or_imp, forall_eq, false_imp_iff, implies_true]
  exact ⟨⟨good9.ok, by kernel_rfl⟩, ⟨count9.ok, by kernel_rfl⟩, ⟨ticdf.ok, by kernel_rfl⟩, ⟨esymbol.ok, by kernel_rfl⟩, ⟨spread9.ok, by kernel_rfl⟩, ⟨signs9.ok, by kernel_rfl⟩⟩, fun g hg => by simp [write9.C] at hg, fun m hm => by simp [write9.C] at hm, fun q hq => by simp [write9.C] at hq⟩
theorem write9.aok (N : Nat) : AnnsOK (write9.K N) := by
  intro q hq
  simp only [write9.K, List.mem_cons, List.not_mem_nil, or_false] at hq
  subst hq
  exact fun _ _ => ⟨rfl, rfl⟩
theorem write9.ok : CallOK Try.prog 57 write9.spec :=
  callOK_of_sig (fn := Try.f57) (Cf := write9.C) (K := write9.K) (d := 0) (dec := write9.dec) (by kernel_rfl) (fun _ => rfl) write9.cok (fun _ q hq => by simp [write9.C] at hq) write9.aok
    (fun N L r h => (write9.F_eq N L).trans h) (by kernel_rfl) (fun _ => ⟨rfl, rfl⟩) (fun _ _ => ⟨rfl, rfl⟩)
noncomputable def topsLen.sig : Eng.Sig := { args := [.at (.ptr 0 0)], n := 3, pre := [(0, .cells 2 [.full 1 false, .full 2 false]), (1, .ints false .i64 0), (2, .ints true .i64 1)], post := [(0, .cells 2 [.full 1 false, .full 2 false]), (1, .fints false .i64 0), (2, .fints true .i64 1)], m := 0, ret := .at (.int .i64 0) }
noncomputable def topsLen.C (N : Nat) : Cfg := { P := Try.prog, N := N, RT := noRT, specs := [], inl := [], hi := 3, mv := [] }
abbrev topsLen.R : Type := Int
def topsLen.dec (L : Eng.Leaves) : topsLen.R := (L.i 0)
def topsLen.enc (r : topsLen.R) : Eng.Leaves := mkL [r] [] [] []
noncomputable def topsLen.K (N : Nat) : FCfg := { anns := [], unr := [], lits := [], lets := [] }
noncomputable def topsLen.F (N : Nat) (l : List Int) (atq : List Int) : Option topsLen.R :=
  (chkL (l) (l)
  (chkL (atq) (atq)
  (some (↑atq.length))))
theorem topsLen.F_eq (N : Nat) (L : Eng.Leaves) : evSig (topsLen.C N) (topsLen.K N) 0 Try.f191 topsLen.sig L topsLen.dec = topsLen.F N (L.l 0) (L.l 1) := by
  kernel_rfl
noncomputable def topsLen.spec : Eng.Spec := topsLen.sig.spec (fun N L => topsLen.F N (L.l 0) (L.l 1)) topsLen.enc
theorem topsLen.cok (N : Nat) : CfgOK (topsLen.C N) := ⟨fun _ _ _ _ h => by simp [topsLen.C, noRT] at h, wide, by
  simp only [topsLen.C, List.mem_cons, List.not_mem_nil, or_false, forall_eq_or_imp, forall_eq, false_imp_iff, implies_true], fun g hg => by simp [topsLen.C] at hg, fun m hm => by simp [topsLen.C] at hm, fun q hq => by simp [topsLen.C] at hq⟩
theorem topsLen.aok (N : Nat) : AnnsOK (topsLen.K N) := by
  intro q hq
  simp only [topsLen.K, List.mem_cons, List.not_mem_nil, or_false] at hq
theorem topsLen.ok : CallOK Try.prog 191 topsLen.spec :=
  callOK_of_sig (fn := Try.f191) (Cf := topsLen.C) (K := topsLen.K) (d := 0) (dec := topsLen.dec) (by kernel_rfl) (fun _ => rfl) topsLen.cok (fun _ q hq => by simp [topsLen.C] at hq) topsLen.aok
    (fun N L r h => (topsLen.F_eq N L).trans h) (by kernel_rfl) (fun _ => ⟨rfl, rfl⟩) (fun _ _ => ⟨rfl, rfl⟩)
noncomputable def topsLess.sig : Eng.Sig := { args := [.at (.ptr 0 0), .at (.int .i64 0), .at (.int .i64 1)], n := 3, pre := [(0, .cells 2 [.full 1 false, .full 2 false]), (1, .ints false .i64 0), (2, .ints true .i64 1)], post := [(0, .cells 2 [.full 1 false, .full 2 false]), (1, .fints false .i64 0), (2, .fints true .i64 1)], m := 0, ret := .at (.bool 0) }
noncomputable def topsLess.C (N : Nat) : Cfg := { P := Try.prog, N := N, RT := noRT, specs := [(150, abs9.spec)], inl := [], hi := 3, mv := [] }
abbrev topsLess.R : Type := Bool
def topsLess.dec (L : Eng.Leaves) : topsLess.R := (L.b 0)
def topsLess.enc (r : topsLess.R) : Eng.Leaves := mkL [] [r] [] []
noncomputable def topsLess.K (N : Nat) : FCfg := { anns := [], unr := [], lits := [], lets := [] }
noncomputable def topsLess.F (N : Nat) (i : Int) (j : Int) (l : List Int) (atq : List Int) : Option topsLess.R :=
  (chk ((0 : Int) ≤ i ∧ i < ↑atq.length)
   (chk ((0 : Int) ≤ atq.getD i.toNat (0 : Int) ∧ atq.getD i.toNat (0 : Int) < ↑l.length)
    (obind (Rc.abs9.F (N) (l.getD (atq.getD i.toNat (0 : Int)).toNat (0 : Int))) fun r0 =>
     (chk ((0 : Int) ≤ j ∧ j < ↑atq.length)
      (chk ((0 : Int) ≤ atq.getD j.toNat (0 : Int) ∧ atq.getD j.toNat (0 : Int) < ↑l.length)
      (obind (Rc.abs9.F (N) (l.getD (atq.getD j.toNat (0 : Int)).toNat (0 : Int))) fun r1 =>
      (chkI (l.getD (atq.getD j.toNat (0 : Int)).toNat (0 : Int)) (l.getD (atq.getD j.toNat (0 : Int)).toNat (0 : Int))
      (chk ((0 : Int) ≤ atq.getD j.toNat (0 : Int) ∧ atq.getD j.toNat (0 : Int) < ↑l.length)
      (chkN ((atq.getD j.toNat (0 : Int)).toNat) ((atq.getD j.toNat (0 : Int)).toNat)
      (chkI (atq.getD j.toNat (0 : Int)) (atq.getD j.toNat (0 : Int))
      (chk ((0 : Int) ≤ j ∧ j < ↑atq.length)
      (chkN (j.toNat) (j.toNat)
      (br (decide (r0 > r1))
      (chkL (l) (l)
      (chkL (atq) (atq)
      (some (true))))
      (br (r0 == r1)
      (chk ((0 : Int) ≤ i ∧ i < ↑atq.length)
      (chk ((0 : Int) ≤ j ∧ j < ↑atq.length)
      (chkL (l) (l)
      (chkL (atq) (atq)
      (some (decide (atq.getD i.toNat (0 : Int) > atq.getD j.toNat (0 : Int))))))))
      (chkL (l) (l)
      (chkL (atq) (atq)
      (some (false))))))))))))))))))
theorem topsLess.F_eq (N : Nat) (L : Eng.Leaves) : evSig (topsLess.C N) (topsLess.K N) 0 Try.f192 topsLess.sig L topsLess.dec = topsLess.F N (L.i 0) (L.i 1) (L.l 0) (L.l 1) := by
  kernel_rfl
noncomputable def topsLess.spec : Eng.Spec := topsLess.sig.spec (fun N L => topsLess.F N (L.i 0) (L.i 1) (L.l 0) (L.l 1)) topsLess.enc
theorem topsLess.cok (N : Nat) : CfgOK (topsLess.C N) := ⟨fun _ _ _ _ h => by simp [topsLess.C, noRT] at h, wide, by
  simp only [topsLess.C, List.mem_cons, List.not_mem_nil, or_false, forall_eq_or_imp, forall_eq, false_imp_iff, implies_true]
  exact ⟨abs9.ok, by kernel_rfl⟩, fun g hg => by simp [topsLess.C] at hg, fun m hm => by simp [topsLess.C] at hm, fun q hq => by simp [topsLess.C] at hq⟩
theorem topsLess.aok (N : Nat) : AnnsOK (topsLess.K N) := by
  intro q hq
  simp only [topsLess.K, List.mem_cons, List.not_mem_nil, or_false] at hq
theorem topsLess.ok : CallOK Try.prog 192 topsLess.spec :=
  callOK_of_sig (fn := Try.f192) (Cf := topsLess.C) (K := topsLess.K) (d := 0) (dec := topsLess.dec) (by kernel_rfl) (fun _ => rfl) topsLess.cok (fun _ q hq => by simp [topsLess.C] at hq) topsLess.aok
    (fun N L r h => (topsLess.F_eq N L).trans h) (by kernel_rfl) (fun _ => ⟨rfl, rfl⟩) (fun _ _ => ⟨rfl, rfl⟩)
noncomputable def topsSwap.sig : Eng.Sig := { args := [.at (.ptr 0 0), .at (.int .i64 0), .at (.int .i64 1)], n := 3, pre := [(0, .cells 2 [.full 1 false, .full 2 false]), (1, .ints false .i64 0), (2, .ints true .i64 1)], post := [(0, .cells 2 [.full 1 false, .full 2 false]), (1, .fints false .i64 0), (2, .ints true .i64 0)], m := 0, ret := .at (.unk) }
noncomputable def topsSwap.C (N : Nat) : Cfg := { P := Try.prog, N := N, RT := noRT, specs := [], inl := [], hi := 3, mv := [] }
abbrev topsSwap.R : Type := List Int
def topsSwap.dec (L : Eng.Leaves) : topsSwap.R := (L.l 0)
def topsSwap.enc (r : topsSwap.R) : Eng.Leaves := mkL [] [] [r] []
noncomputable def topsSwap.K (N : Nat) : FCfg := { anns := [], unr := [], lits := [], lets := [] }
noncomputable def topsSwap.F (N : Nat) (i : Int) (j : Int) (l : List Int) (atq : List Int) : Option topsSwap.R :=
  (chk ((0 : Int) ≤ j ∧ j < ↑atq.length)
   (chk ((0 : Int) ≤ i ∧ i < ↑atq.length)
    (chk ((0 : Int) ≤ i ∧ i < ↑atq.length)
     (chk ((0 : Int) ≤ j ∧ j < ↑(atq.set i.toNat (atq.getD j.toNat (0 : Int))).length)
      (chkL (l) (l)
      (some ((atq.set i.toNat (atq.getD j.toNat (0 : Int))).set j.toNat (atq.getD i.toNat (0 : Int)))))))))
theorem topsSwap.F_eq (N : Nat) (L : Eng.Leaves) : evSig (topsSwap.C N) (topsSwap.K N) 0 Try.f194 topsSwap.sig L topsSwap.dec = topsSwap.F N (L.i 0) (L.i 1) (L.l 0) (L.l 1) := by
  kernel_rfl
noncomputable def topsSwap.spec : Eng.Spec := topsSwap.sig.spec (fun N L => topsSwap.F N (L.i 0) (L.i 1) (L.l 0) (L.l 1)) topsSwap.enc
theorem topsSwap.cok (N : Nat) : CfgOK (topsSwap.C N) := ⟨fun _ _ _ _ h => by simp [topsSwap.C, noRT] at h, wide, by
  simp only [topsSwap.C, List.mem_cons, List.not_mem_nil, or_false, forall_eq_or_imp, forall_eq, false_imp_iff, implies_true], fun g hg => by simp [topsSwap.C] at hg, fun m hm => by simp [topsSwap.C] at hm, fun q hq => by simp [topsSwap.C] at hq⟩
theorem topsSwap.aok (N : Nat) : AnnsOK (topsSwap.K N) := by
  intro q hq
  simp only [topsSwap.K, List.mem_cons, List.not_mem_nil, or_false] at hq
theorem topsSwap.ok : CallOK Try.prog 194 topsSwap.spec :=
  callOK_of_sig (fn := Try.f194) (Cf := topsSwap.C) (K := topsSwap.K) (d := 0) (dec := topsSwap.dec) (by kernel_rfl) (fun _ => rfl) topsSwap.cok (fun _ q hq => by simp [topsSwap.C] at hq) topsSwap.aok
    (fun N L r h => (topsSwap.F_eq N L).trans h) (by kernel_rfl) (fun _ => ⟨rfl, rfl⟩) (fun _ _ => ⟨rfl, rfl⟩)
noncomputable def heapUp.sig : Eng.Sig := { args := [.at (.ifp 147 0 0), .at (.int .i64 0)], n := 3, pre := [(0, .cells 2 [.full 1 false, .full 2 false]), (1, .ints false .i64 0), (2, .ints true .i64 1)], post := [(0, .cells 2 [.full 1 false, .full 2 false]), (1, .fints false .i64 0), (2, .ints true .i64 0)], m := 0, ret := .at (.unk) }
noncomputable def heapUp.C (N : Nat) : Cfg := { P := Try.prog, N := N, RT := noRT, specs := [(191, topsLen.spec), (192, topsLess.spec), (194, topsSwap.spec)], inl := [], hi := 3, mv := [], meths := [(147, [76, 101, 110], 191), (147, [76, 101, 115, 115], 192), (147, [83, 119, 97, 112], 194), (147, [80, 117, 115, 104], 193)] }
abbrev heapUp.R : Type := List Int
def heapUp.dec (L : Eng.Leaves) : heapUp.R := (L.l 0)
def heapUp.enc (r : heapUp.R) : Eng.Leaves := mkL [] [] [r] []
abbrev heapUp.loop0.R : Type := List Int
noncomputable def heapUp.loop0.ann : Ann := { nx := 20, slots := [(0, .at (.ifp 147 0 0)), (1, .at (.int .i64 0))], blks := [(0, .cells 2 [.full 1 false, .full 2 false]), (1, .fints false .i64 0), (2, .ints true .i64 0)], mov := [], exId := 0, xslots := [(0, .at (.ifp 147 0 0))], xblks := [(0, .cells 2 [.full 1 false, .full 2 false]), (1, .fints false .i64 0), (2, .ints true .i64 0)], T := heapUp.loop0.R, dec := fun L => (L.l 0), enc := fun r => mkL [] [] [r] [], ret := false }
noncomputable def heapUp.K (N : Nat) : FCfg := { anns := [(0, heapUp.loop0.ann)], unr := [], lits := [], lets := [] }
noncomputable def heapUp.loop0 (N : Nat) : Nat → List Int → Int → List Int → Option heapUp.loop0.R
  | 0, _, _, _ => none
  | nn + 1, l, j, atq =>
  (br (IntKind.i64.wrap ((IntKind.i64.wrap (j - (1 : Int))).tdiv (2 : Int)) == j)
   (chkL (l) (l)
   (some (atq)))
   (obind (Rc.topsLess.F (N) (j) (IntKind.i64.wrap ((IntKind.i64.wrap (j - (1 : Int))).tdiv (2 : Int))) (l) (atq)) fun r0 =>
    (br (!r0)
     (chkL (l) (l)
     (some (atq)))
     (obind (Rc.topsSwap.F (N) (IntKind.i64.wrap ((IntKind.i64.wrap (j - (1 : Int))).tdiv (2 : Int))) (j) (l) (atq)) fun r1 =>
      (chkL (l) (l)
      (heapUp.loop0 N (nn) (l) (IntKind.i64.wrap ((IntKind.i64.wrap (j - (1 : Int))).tdiv (2 : Int))) (r1)))))))
noncomputable def heapUp.loop0R (N nn : Nat) (l : List Int) (j : Int) (atq : List Int) : Option heapUp.loop0.R := loopF heapUp.loop0.ann (mkL [] [] [l] []) (evCode ((heapUp.C N).inLoop heapUp.loop0.ann) (heapUp.K N) (inlTab (heapUp.C N) 0) (bodyAt 0 Try.f167)) nn (mkL [j] [] [atq] [])
theorem heapUp.loop0_eq (N : Nat) : ∀ (nn : Nat) (l : List Int) (j : Int) (atq : List Int), heapUp.loop0R N nn l j atq = heapUp.loop0 N nn l j atq
  | 0, _, _, _ => by kernel_rfl
  | nn + 1, l, j, atq => by
    have h : heapUp.loop0R N (nn + 1) l j atq =
  (br (IntKind.i64.wrap ((IntKind.i64.wrap (j - (1 : Int))).tdiv (2 : Int)) == j)
   (chkL (l) (l)
   (some (atq)))
   (obind (Rc.topsLess.F (N) (j) (IntKind.i64.wrap ((IntKind.i64.wrap (j - (1 : Int))).tdiv (2 : Int))) (l) (atq)) fun r0 =>
    (br (!r0)
     (chkL (l) (l)
     (some (atq)))
     (obind (Rc.topsSwap.F (N) (IntKind.i64.wrap ((IntKind.i64.wrap (j - (1 : Int))).tdiv (2 : Int))) (j) (l) (atq)) fun r1 =>
      (chkL (l) (l)
      (heapUp.loop0R N (nn) (l) (IntKind.i64.wrap ((IntKind.i64.wrap (j - (1 : Int))).tdiv (2 : Int))) (r1))))))) := by kernel_rfl
    rw [h, heapUp.loop0]
    try simp only [heapUp.loop0_eq N nn]
noncomputable def heapUp.F (N : Nat) (j : Int) (l : List Int) (atq : List Int) : Option heapUp.R :=
  (obind (heapUp.loop0 N (N) (l) (j) (atq)) fun r0 =>
   (chkL (l) (l)
   (some (r0))))
theorem heapUp.F_eq (N : Nat) (L : Eng.Leaves) : evSig (heapUp.C N) (heapUp.K N) 0 Try.f167 heapUp.sig L heapUp.dec = heapUp.F N (L.i 0) (L.l 0) (L.l 1) := by
  have h : ∀ (j : Int) (l : List Int) (atq : List Int), evSig (heapUp.C N) (heapUp.K N) 0 Try.f167 heapUp.sig (mkL [j] [] [l, atq] []) heapUp.dec =
  (obind (heapUp.loop0R N (N) (l) (j) (atq)) fun r0 =>
   (chkL (l) (l)
   (some (r0)))) := by
    intro j l atq
    kernel_rfl
  have h2 : evSig (heapUp.C N) (heapUp.K N) 0 Try.f167 heapUp.sig L heapUp.dec = evSig (heapUp.C N) (heapUp.K N) 0 Try.f167 heapUp.sig (mkL [L.i 0] [] [L.l 0, L.l 1] []) heapUp.dec := by kernel_rfl
  rw [h2, h, heapUp.F]
  try simp only [heapUp.loop0_eq N]
noncomputable def heapUp.spec : Eng.Spec := heapUp.sig.spec (fun N L => heapUp.F N (L.i 0) (L.l 0) (L.l 1)) heapUp.enc
theorem heapUp.cok (N : Nat) : CfgOK (heapUp.C N) := ⟨fun _ _ _ _ h => by simp [heapUp.C, noRT] at h, wide, by
  simp only [heapUp.C, List.mem_cons, List.not_mem_nil, or_false, forall_eq_or_imp, forall_eq, false_imp_iff, implies_true]
  exact ⟨⟨topsLen.ok, by kernel_rfl⟩, ⟨topsLess.ok, by kernel_rfl⟩, ⟨topsSwap.ok, by kernel_rfl⟩⟩, fun g hg => by simp [heapUp.C] at hg, fun m hm => by
  simp only [heapUp.C, List.mem_cons, List.not_mem_nil, or_false] at hm
  rcases hm with rfl | rfl | rfl | rfl
  · exact methOK_of "Len" (fun v args w => by kernel_rfl) (by kernel_rfl)
  · exact methOK_of "Less" (fun v args w => by kernel_rfl) (by kernel_rfl)
  · exact methOK_of "Swap" (fun v args w => by kernel_rfl) (by kernel_rfl)
  · exact methOK_of "Push" (fun v args w => by kernel_rfl) (by kernel_rfl), fun q hq => by simp [heapUp.C] at hq⟩
theorem heapUp.aok (N : Nat) : AnnsOK (heapUp.K N) := by
  intro q hq
  simp only [heapUp.K, List.mem_cons, List.not_mem_nil, or_false] at hq
  subst hq
  exact fun _ _ => ⟨rfl, rfl⟩
theorem heapUp.ok : CallOK Try.prog 167 heapUp.spec :=
  callOK_of_sig (fn := Try.f167) (Cf := heapUp.C) (K := heapUp.K) (d := 0) (dec := heapUp.dec) (by kernel_rfl) (fun _ => rfl) heapUp.cok (fun _ q hq => by simp [heapUp.C] at hq) heapUp.aok
    (fun N L r h => (heapUp.F_eq N L).trans h) (by kernel_rfl) (fun _ => ⟨rfl, rfl⟩) (fun _ _ => ⟨rfl, rfl⟩)
noncomputable def heapDown.sig : Eng.Sig := { args := [.at (.ifp 147 0 0), .at (.int .i64 0), .at (.int .i64 1)], n := 3, pre := [(0, .cells 2 [.full 1 false, .full 2 false]), (1, .ints false .i64 0), (2, .ints true .i64 1)], post := [(0, .cells 2 [.full 1 false, .full 2 false]), (1, .fints false .i64 0), (2, .ints true .i64 0)], m := 0, ret := .at (.bool 0) }
noncomputable def heapDown.C (N : Nat) : Cfg := { P := Try.prog, N := N, RT := noRT, specs := [(191, topsLen.spec), (192, topsLess.spec), (194, topsSwap.spec)], inl := [], hi := 3, mv := [], meths := [(147, [76, 101, 110], 191), (147, [76, 101, 115, 115], 192), (147, [83, 119, 97, 112], 194), (147, [80, 117, 115, 104], 193)] }
abbrev heapDown.R : Type := Bool × List Int
def heapDown.dec (L : Eng.Leaves) : heapDown.R := (L.b 0, L.l 0)
def heapDown.enc (r : heapDown.R) : Eng.Leaves := mkL [] [r.1] [r.2] []
abbrev heapDown.loop2.R : Type := Int × List Int
noncomputable def heapDown.loop2.ann : Ann := { nx := 20, slots := [(0, .at (.ifp 147 0 0)), (2, .at (.fint .i64 0)), (7, .at (.int .i64 0))], blks := [(0, .cells 2 [.full 1 false, .full 2 false]), (1, .fints false .i64 0), (2, .ints true .i64 0)], mov := [], exId := 0, xslots := [(0, .at (.ifp 147 0 0)), (7, .at (.int .i64 0))], xblks := [(0, .cells 2 [.full 1 false, .full 2 false]), (1, .fints false .i64 0), (2, .ints true .i64 0)], T := heapDown.loop2.R, dec := fun L => (L.i 0, L.l 0), enc := fun r => mkL [r.1] [] [r.2] [], ret := false }
noncomputable def heapDown.K (N : Nat) : FCfg := { anns := [(2, heapDown.loop2.ann)], unr := [], lits := [], lets := [] }
noncomputable def heapDown.loop2 (N : Nat) : Nat → Int → List Int → Int → List Int → Option heapDown.loop2.R
  | 0, _, _, _, _ => none
  | nn + 1, n, l, s7, atq =>
  (br (decide (IntKind.i64.wrap (IntKind.i64.wrap ((2 : Int) * s7) + (1 : Int)) ≥ n))
   (chkL (l) (l)
   (some ((s7, atq))))
   (br (decide (IntKind.i64.wrap (IntKind.i64.wrap ((2 : Int) * s7) + (1 : Int)) < (0 : Int)))
    (chkL (l) (l)
    (some ((s7, atq))))
    (br (decide (IntKind.i64.wrap (IntKind.i64.wrap (IntKind.i64.wrap ((2 : Int) * s7) + (1 : Int)) + (1 : Int)) < n))
     (obind (Rc.topsLess.F (N) (IntKind.i64.wrap (IntKind.i64.wrap (IntKind.i64.wrap ((2 : Int) * s7) + (1 : Int)) + (1 : Int))) (IntKind.i64.wrap (IntKind.i64.wrap ((2 : Int) * s7) + (1 : Int))) (l) (atq)) fun r0 =>
      (br (r0)
      (obind (Rc.topsLess.F (N) (IntKind.i64.wrap (IntKind.i64.wrap (IntKind.i64.wrap ((2 : Int) * s7) + (1 : Int)) + (1 : Int))) (s7) (l) (atq)) fun r1 =>
      (br (!r1)
      (chkL (l) (l)
      (some ((s7, atq))))
      (obind (Rc.topsSwap.F (N) (s7) (IntKind.i64.wrap (IntKind.i64.wrap (IntKind.i64.wrap ((2 : Int) * s7) + (1 : Int)) + (1 : Int))) (l) (atq)) fun r2 =>
      (chkI (n) (n)
      (chkL (l) (l)
      (heapDown.loop2 N (nn) (n) (l) (IntKind.i64.wrap (IntKind.i64.wrap (IntKind.i64.wrap ((2 : Int) * s7) + (1 : Int)) + (1 : Int))) (r2)))))))
      (obind (Rc.topsLess.F (N) (IntKind.i64.wrap (IntKind.i64.wrap ((2 : Int) * s7) + (1 : Int))) (s7) (l) (atq)) fun r3 =>
      (br (!r3)
      (chkL (l) (l)
      (some ((s7, atq))))
      (obind (Rc.topsSwap.F (N) (s7) (IntKind.i64.wrap (IntKind.i64.wrap ((2 : Int) * s7) + (1 : Int))) (l) (atq)) fun r4 =>
      (chkI (n) (n)
      (chkL (l) (l)
      (heapDown.loop2 N (nn) (n) (l) (IntKind.i64.wrap (IntKind.i64.wrap ((2 : Int) * s7) + (1 : Int))) (r4)))))))))
     (obind (Rc.topsLess.F (N) (IntKind.i64.wrap (IntKind.i64.wrap ((2 : Int) * s7) + (1 : Int))) (s7) (l) (atq)) fun r5 =>
      (br (!r5)
      (chkL (l) (l)
      (some ((s7, atq))))
      (obind (Rc.topsSwap.F (N) (s7) (IntKind.i64.wrap (IntKind.i64.wrap ((2 : Int) * s7) + (1 : Int))) (l) (atq)) fun r6 =>
      (chkI (n) (n)
      (chkL (l) (l)
      (heapDown.loop2 N (nn) (n) (l) (IntKind.i64.wrap (IntKind.i64.wrap ((2 : Int) * s7) + (1 : Int))) (r6))))))))))
noncomputable def heapDown.loop2R (N nn : Nat) (n : Int) (l : List Int) (s7 : Int) (atq : List Int) : Option heapDown.loop2.R := loopF heapDown.loop2.ann (mkL [n] [] [l] []) (evCode ((heapDown.C N).inLoop heapDown.loop2.ann) (heapDown.K N) (inlTab (heapDown.C N) 0) (bodyAt 2 Try.f168)) nn (mkL [s7] [] [atq] [])
theorem heapDown.loop2_eq (N : Nat) : ∀ (nn : Nat) (n : Int) (l : List Int) (s7 : Int) (atq : List Int), heapDown.loop2R N nn n l s7 atq = heapDown.loop2 N nn n l s7 atq
  | 0, _, _, _, _ => by kernel_rfl
  | nn + 1, n, l, s7, atq => by
    have h : heapDown.loop2R N (nn + 1) n l s7 atq =
  (br (decide (IntKind.i64.wrap (IntKind.i64.wrap ((2 : Int) * s7) + (1 : Int)) ≥ n))
   (chkL (l) (l)
   (some ((s7, atq))))
   (br (decide (IntKind.i64.wrap (IntKind.i64.wrap ((2 : Int) * s7) + (1 : Int)) < (0 : Int)))
    (chkL (l) (l)
    (some ((s7, atq))))
    (br (decide (IntKind.i64.wrap (IntKind.i64.wrap (IntKind.i64.wrap ((2 : Int) * s7) + (1 : Int)) + (1 : Int)) < n))
     (obind (Rc.topsLess.F (N) (IntKind.i64.wrap (IntKind.i64.wrap (IntKind.i64.wrap ((2 : Int) * s7) + (1 : Int)) + (1 : Int))) (IntKind.i64.wrap (IntKind.i64.wrap ((2 : Int) * s7) + (1 : Int))) (l) (atq)) fun r0 =>
      (br (r0)
      (obind (Rc.topsLess.F (N) (IntKind.i64.wrap (IntKind.i64.wrap (IntKind.i64.wrap ((2 : Int) * s7) + (1 : Int)) + (1 : Int))) (s7) (l) (atq)) fun r1 =>
      (br (!r1)
      (chkL (l) (l)
      (some ((s7, atq))))
      (obind (Rc.topsSwap.F (N) (s7) (IntKind.i64.wrap (IntKind.i64.wrap (IntKind.i64.wrap ((2 : Int) * s7) + (1 : Int)) + (1 : Int))) (l) (atq)) fun r2 =>
      (chkI (n) (n)
      (chkL (l) (l)
      (heapDown.loop2R N (nn) (n) (l) (IntKind.i64.wrap (IntKind.i64.wrap (IntKind.i64.wrap ((2 : Int) * s7) + (1 : Int)) + (1 : Int))) (r2)))))))
      (obind (Rc.topsLess.F (N) (IntKind.i64.wrap (IntKind.i64.wrap ((2 : Int) * s7) + (1 : Int))) (s7) (l) (atq)) fun r3 =>
      (br (!r3)
      (chkL (l) (l)
      (some ((s7, atq))))
      (obind (Rc.topsSwap.F (N) (s7) (IntKind.i64.wrap (IntKind.i64.wrap ((2 : Int) * s7) + (1 : Int))) (l) (atq)) fun r4 =>
      (chkI (n) (n)
      (chkL (l) (l)
      (heapDown.loop2R N (nn) (n) (l) (IntKind.i64.wrap (IntKind.i64.wrap ((2 : Int) * s7) + (1 : Int))) (r4)))))))))
     (obind (Rc.topsLess.F (N) (IntKind.i64.wrap (IntKind.i64.wrap ((2 : Int) * s7) + (1 : Int))) (s7) (l) (atq)) fun r5 =>
      (br (!r5)
      (chkL (l) (l)
      (some ((s7, atq))))
      (obind (Rc.topsSwap.F (N) (s7) (IntKind.i64.wrap (IntKind.i64.wrap ((2 : Int) * s7) + (1 : Int))) (l) (atq)) fun r6 =>
      (chkI (n) (n)
      (chkL (l) (l)
      (heapDown.loop2R N (nn) (n) (l) (IntKind.i64.wrap (IntKind.i64.wrap ((2 : Int) * s7) + (1 : Int))) (r6)))))))))) := by kernel_rfl
    rw [h, heapDown.loop2]
    try simp only [heapDown.loop2_eq N nn]
noncomputable def heapDown.F (N : Nat) (i0 : Int) (n : Int) (l : List Int) (atq : List Int) : Option heapDown.R :=
  (obind (heapDown.loop2 N (N) (n) (l) (i0) (atq)) fun r0 =>
   (chkL (l) (l)
   (some ((decide (r0.fst > i0), r0.snd)))))
theorem heapDown.F_eq (N : Nat) (L : Eng.Leaves) : evSig (heapDown.C N) (heapDown.K N) 0 Try.f168 heapDown.sig L heapDown.dec = heapDown.F N (L.i 0) (L.i 1) (L.l 0) (L.l 1) := by
  have h : ∀ (i0 : Int) (n : Int) (l : List Int) (atq : List Int), evSig (heapDown.C N) (heapDown.K N) 0 Try.f168 heapDown.sig (mkL [i0, n] [] [l, atq] []) heapDown.dec =
  (obind (heapDown.loop2R N (N) (n) (l) (i0) (atq)) fun r0 =>
   (chkL (l) (l)
   (some ((decide (r0.fst > i0), r0.snd))))) := by
    intro i0 n l atq
    kernel_rfl
  have h2 : evSig (heapDown.C N) (heapDown.K N) 0 Try.f168 heapDown.sig L heapDown.dec = evSig (heapDown.C N) (heapDown.K N) 0 Try.f168 heapDown.sig (mkL [L.i 0, L.i 1] [] [L.l 0, L.l 1] []) heapDown.dec := by kernel_rfl
  rw [h2, h, heapDown.F]
  try simp only [heapDown.loop2_eq N]
noncomputable def heapDown.spec : Eng.Spec := heapDown.sig.spec (fun N L => heapDown.F N (L.i 0) (L.i 1) (L.l 0) (L.l 1)) heapDown.enc
theorem heapDown.cok (N : Nat) : CfgOK (heapDown.C N) := ⟨fun _ _ _ _ h => by simp [heapDown.C, noRT] at h, wide, by
  simp only [heapDown.C, List.mem_cons, List.not_mem_nil, or_false, forall_eq_or_imp, forall_eq, false_imp_iff, implies_true]
  exact ⟨⟨topsLen.ok, by kernel_rfl⟩, ⟨topsLess.ok, by kernel_rfl⟩, ⟨topsSwap.ok, by kernel_rfl⟩⟩, fun g hg => by simp [heapDown.C] at hg, fun m hm => by
  simp only [heapDown.C, List.mem_cons, List.not_mem_nil, or_false] at hm
  rcases hm with rfl | rfl | rfl | rfl
  · exact methOK_of "Len" (fun v args w => by kernel_rfl) (by kernel_rfl)
  · exact methOK_of "Less" (fun v args w => by kernel_rfl) (by kernel_rfl)
  · exact methOK_of "Swap" (fun v args w => by kernel_rfl) (by kernel_rfl)
  · exact methOK_of "Push" (fun v args w => by kernel_rfl) (by kernel_rfl), fun q hq => by simp [heapDown.C] at hq⟩
theorem heapDown.aok (N : Nat) : AnnsOK (heapDown.K N) := by
  intro q hq
  simp only [heapDown.K, List.mem_cons, List.not_mem_nil, or_false] at hq
  subst hq
  exact fun _ _ => ⟨rfl, rfl⟩
theorem heapDown.ok : CallOK Try.prog 168 heapDown.spec :=
  callOK_of_sig (fn := Try.f168) (Cf := heapDown.C) (K := heapDown.K) (d := 0) (dec := heapDown.dec) (by kernel_rfl) (fun _ => rfl) heapDown.cok (fun _ q hq => by simp [heapDown.C] at hq) heapDown.aok
    (fun N L r h => (heapDown.F_eq N L).trans h) (by kernel_rfl) (fun _ => ⟨rfl, rfl⟩) (fun _ _ => ⟨rfl, rfl⟩)
noncomputable def heapFix.sig : Eng.Sig := { args := [.at (.ifp 147 0 0), .at (.int .i64 0)], n := 3, pre := [(0, .cells 2 [.full 1 false, .full 2 false]), (1, .ints false .i64 0), (2, .ints true .i64 1)], post := [(0, .cells 2 [.full 1 false, .full 2 false]), (1, .fints false .i64 0), (2, .ints true .i64 0)], m := 0, ret := .at (.unk) }
noncomputable def heapFix.C (N : Nat) : Cfg := { P := Try.prog, N := N, RT := noRT, specs := [(191, topsLen.spec), (192, topsLess.spec), (194, topsSwap.spec), (167, heapUp.spec), (168, heapDown.spec)], inl := [], hi := 3, mv := [], meths := [(147, [76, 101, 110], 191), (147, [76, 101, 115, 115], 192), (147, [83, 119, 97, 112], 194), (147, [80, 117, 115, 104], 193)] }
abbrev heapFix.R : Type := List Int
def heapFix.dec (L : Eng.Leaves) : heapFix.R := (L.l 0)
def heapFix.enc (r : heapFix.R) : Eng.Leaves := mkL [] [] [r] []
noncomputable def heapFix.K (N : Nat) : FCfg := { anns := [], unr := [], lits := [], lets := [] }
noncomputable def heapFix.F (N : Nat) (i : Int) (l : List Int) (atq : List Int) : Option heapFix.R :=
  (obind (Rc.topsLen.F (N) (l) (atq)) fun r0 =>
   (obind (Rc.heapDown.F (N) (i) (r0) (l) (atq)) fun r1 =>
    (br (!r1.fst)
     (obind (Rc.heapUp.F (N) (i) (l) (r1.snd)) fun r2 =>
      (chkL (l) (l)
      (some (r2))))
     (chkL (l) (l)
     (some (r1.snd))))))
theorem heapFix.F_eq (N : Nat) (L : Eng.Leaves) : evSig (heapFix.C N) (heapFix.K N) 0 Try.f152 heapFix.sig L heapFix.dec = heapFix.F N (L.i 0) (L.l 0) (L.l 1) := by
  kernel_rfl
noncomputable def heapFix.spec : Eng.Spec := heapFix.sig.spec (fun N L => heapFix.F N (L.i 0) (L.l 0) (L.l 1)) heapFix.enc
theorem heapFix.cok (N : Nat) : CfgOK (heapFix.C N) := ⟨fun _ _ _ _ h => by simp [heapFix.C, noRT] at h, wide, by
  simp only [heapFix.C, List.mem_cons, List.not_mem_nil, or_false, forall_eq_or_imp, forall_eq, false_imp_iff, implies_true]
  exact ⟨⟨topsLen.ok, by kernel_rfl⟩, ⟨topsLess.ok, by kernel_rfl⟩, ⟨topsSwap.ok, by kernel_rfl⟩, ⟨heapUp.ok, by kernel_rfl⟩, ⟨heapDown.ok, by kernel_rfl⟩⟩, fun g hg => by simp [heapFix.C] at hg, fun m hm => by
  simp only [heapFix.C, List.mem_cons, List.not_mem_nil, or_false] at hm
  rcases hm with rfl | rfl | rfl | rfl
  · exact methOK_of "Len" (fun v args w => by kernel_rfl) (by kernel_rfl)
  · exact methOK_of "Less" (fun v args w => by kernel_rfl) (by kernel_rfl)
  · exact methOK_of "Swap" (fun v args w => by kernel_rfl) (by kernel_rfl)
  · exact methOK_of "Push" (fun v args w => by kernel_rfl) (by kernel_rfl), fun q hq => by simp [heapFix.C] at hq⟩
theorem heapFix.aok (N : Nat) : AnnsOK (heapFix.K N) := by
  intro q hq
  simp only [heapFix.K, List.mem_cons, List.not_mem_nil, or_false] at hq
theorem heapFix.ok : CallOK Try.prog 152 heapFix.spec :=
  callOK_of_sig (fn := Try.f152) (Cf := heapFix.C) (K := heapFix.K) (d := 0) (dec := heapFix.dec) (by kernel_rfl) (fun _ => rfl) heapFix.cok (fun _ q hq => by simp [heapFix.C] at hq) heapFix.aok
    (fun N L r h => (heapFix.F_eq N L).trans h) (by kernel_rfl) (fun _ => ⟨rfl, rfl⟩) (fun _ _ => ⟨rfl, rfl⟩)
noncomputable def thin9.sig : Eng.Sig := { args := [.at (.full 0 false), .at (.int .i64 0)], n := 1, pre := [(0, .ints false .i64 0)], post := [(0, .ints false .i64 0)], m := 0, ret := .at (.unk) }
noncomputable def thin9.C (N : Nat) : Cfg := { P := Try.prog, N := N, RT := noRT, specs := [(191, topsLen.spec), (192, topsLess.spec), (194, topsSwap.spec), (167, heapUp.spec), (152, heapFix.spec), (114, count9.spec)], inl := [(151, FCfg.none), (193, FCfg.none)], hi := 1, mv := [], meths := [(147, [76, 101, 110], 191), (147, [76, 101, 115, 115], 192), (147, [83, 119, 97, 112], 194), (147, [80, 117, 115, 104], 193)] }
abbrev thin9.R : Type := List Int
def thin9.dec (L : Eng.Leaves) : thin9.R := (L.l 0)
def thin9.enc (r : thin9.R) : Eng.Leaves := mkL [] [] [r] []
abbrev thin9.loop2.R : Type := List Int
noncomputable def thin9.loop2.ann : Ann := { nx := 21, slots := [(4, .at (.ptr 1 0)), (12, .at (.fint .i64 0)), (13, .at (.int .i64 0))], blks := [(1, .cells 2 [.full 0 false, .full 20 false]), (0, .fints false .i64 0), (20, .ints true .i64 0)], mov := [20], exId := 0, xslots := [(4, .at (.ptr 1 0))], xblks := [(1, .cells 2 [.full 0 false, .full 20 false]), (0, .fints false .i64 0), (20, .ints true .i64 0)], T := thin9.loop2.R, dec := fun L => (L.l 0), enc := fun r => mkL [] [] [r] [], ret := false }
abbrev thin9.loop7.R : Type := List Int × List Int
noncomputable def thin9.loop7.ann : Ann := { nx := 22, slots := [(0, .at (.full 0 false)), (1, .at (.fint .i64 0)), (4, .at (.ptr 1 0)), (6, .at (.int .i64 0))], blks := [(0, .ints false .i64 0), (1, .cells 2 [.full 0 false, .full 21 false]), (21, .ints true .i64 1)], mov := [21], exId := 2, xslots := [(0, .at (.full 0 false)), (4, .at (.ptr 1 0))], xblks := [(0, .ints false .i64 0), (1, .cells 2 [.full 0 false, .full 21 false]), (21, .ints true .i64 1)], T := thin9.loop7.R, dec := fun L => (L.l 0, L.l 1), enc := fun r => mkL [] [] [r.1, r.2] [], ret := false }
noncomputable def thin9.K (N : Nat) : FCfg := { anns := [(2, thin9.loop2.ann), (7, thin9.loop7.ann)], unr := [], lits := [], lets := [] }
noncomputable def thin9.loop7 (N : Nat) : Nat → Int → Int → List Int → List Int → Option thin9.loop7.R
  | 0, _, _, _, _ => none
  | nn + 1, fewest, s6, b, atq =>
  (br (decide (s6 > fewest))
   (chk ((0 : Int) ≤ (0 : Int) ∧ (0 : Int) < ↑atq.length)
    (chk ((0 : Int) ≤ atq.getD (Int.toNat (0 : Int)) (0 : Int) ∧ atq.getD (Int.toNat (0 : Int)) (0 : Int) < ↑b.length)
     (br (decide (b.getD (atq.getD (Int.toNat (0 : Int)) (0 : Int)).toNat (0 : Int) > (0 : Int)))
      (chk ((0 : Int) ≤ atq.getD (Int.toNat (0 : Int)) (0 : Int) ∧ atq.getD (Int.toNat (0 : Int)) (0 : Int) < ↑b.length)
      (chk ((0 : Int) ≤ atq.getD (Int.toNat (0 : Int)) (0 : Int) ∧ atq.getD (Int.toNat (0 : Int)) (0 : Int) < ↑b.length)
      (obind (Rc.heapFix.F (N) ((0 : Int)) (b.set (atq.getD (Int.toNat (0 : Int)) (0 : Int)).toNat (IntKind.i64.wrap (b.getD (atq.getD (Int.toNat (0 : Int)) (0 : Int)).toNat (0 : Int) - (1 : Int)))) (atq)) fun r0 =>
      (chkI (fewest) (fewest)
      (thin9.loop7 N (nn) (fewest) (IntKind.i64.wrap (s6 - (1 : Int))) (b.set (atq.getD (Int.toNat (0 : Int)) (0 : Int)).toNat (IntKind.i64.wrap (b.getD (atq.getD (Int.toNat (0 : Int)) (0 : Int)).toNat (0 : Int) - (1 : Int)))) (r0))))))
      (chk ((0 : Int) ≤ atq.getD (Int.toNat (0 : Int)) (0 : Int) ∧ atq.getD (Int.toNat (0 : Int)) (0 : Int) < ↑b.length)
      (chk ((0 : Int) ≤ atq.getD (Int.toNat (0 : Int)) (0 : Int) ∧ atq.getD (Int.toNat (0 : Int)) (0 : Int) < ↑b.length)
      (obind (Rc.heapFix.F (N) ((0 : Int)) (b.set (atq.getD (Int.toNat (0 : Int)) (0 : Int)).toNat (IntKind.i64.wrap (b.getD (atq.getD (Int.toNat (0 : Int)) (0 : Int)).toNat (0 : Int) + (1 : Int)))) (atq)) fun r1 =>
      (chkI (fewest) (fewest)
      (thin9.loop7 N (nn) (fewest) (IntKind.i64.wrap (s6 - (1 : Int))) (b.set (atq.getD (Int.toNat (0 : Int)) (0 : Int)).toNat (IntKind.i64.wrap (b.getD (atq.getD (Int.toNat (0 : Int)) (0 : Int)).toNat (0 : Int) + (1 : Int)))) (r1)))))))))
   (some ((b, atq))))
noncomputable def thin9.loop7R (N nn : Nat) (fewest : Int) (s6 : Int) (b : List Int) (atq : List Int) : Option thin9.loop7.R := loopF thin9.loop7.ann (mkL [fewest] [] [] []) (evCode ((thin9.C N).inLoop thin9.loop7.ann) (thin9.K N) (inlTab (thin9.C N) 2) (bodyAt 7 Try.f117)) nn (mkL [s6] [] [b, atq] [])
theorem thin9.loop7_eq (N : Nat) : ∀ (nn : Nat) (fewest : Int) (s6 : Int) (b : List Int) (atq : List Int), thin9.loop7R N nn fewest s6 b atq = thin9.loop7 N nn fewest s6 b atq
  | 0, _, _, _, _ => by kernel_rfl
  | nn + 1, fewest, s6, b, atq => by
    have h : thin9.loop7R N (nn + 1) fewest s6 b atq =
  (br (decide (s6 > fewest))
   (chk ((0 : Int) ≤ (0 : Int) ∧ (0 : Int) < ↑atq.length)
    (chk ((0 : Int) ≤ atq.getD (Int.toNat (0 : Int)) (0 : Int) ∧ atq.getD (Int.toNat (0 : Int)) (0 : Int) < ↑b.length)
     (br (decide (b.getD (atq.getD (Int.toNat (0 : Int)) (0 : Int)).toNat (0 : Int) > (0 : Int)))
      (chk ((0 : Int) ≤ atq.getD (Int.toNat (0 : Int)) (0 : Int) ∧ atq.getD (Int.toNat (0 : Int)) (0 : Int) < ↑b.length)
      (chk ((0 : Int) ≤ atq.getD (Int.toNat (0 : Int)) (0 : Int) ∧ atq.getD (Int.toNat (0 : Int)) (0 : Int) < ↑b.length)
      (obind (Rc.heapFix.F (N) ((0 : Int)) (b.set (atq.getD (Int.toNat (0 : Int)) (0 : Int)).toNat (IntKind.i64.wrap (b.getD (atq.getD (Int.toNat (0 : Int)) (0 : Int)).toNat (0 : Int) - (1 : Int)))) (atq)) fun r0 =>
      (chkI (fewest) (fewest)
      (thin9.loop7R N (nn) (fewest) (IntKind.i64.wrap (s6 - (1 : Int))) (b.set (atq.getD (Int.toNat (0 : Int)) (0 : Int)).toNat (IntKind.i64.wrap (b.getD (atq.getD (Int.toNat (0 : Int)) (0 : Int)).toNat (0 : Int) - (1 : Int)))) (r0))))))
      (chk ((0 : Int) ≤ atq.getD (Int.toNat (0 : Int)) (0 : Int) ∧ atq.getD (Int.toNat (0 : Int)) (0 : Int) < ↑b.length)
      (chk ((0 : Int) ≤ atq.getD (Int.toNat (0 : Int)) (0 : Int) ∧ atq.getD (Int.toNat (0 : Int)) (0 : Int) < ↑b.length)
      (obind (Rc.heapFix.F (N) ((0 : Int)) (b.set (atq.getD (Int.toNat (0 : Int)) (0 : Int)).toNat (IntKind.i64.wrap (b.getD (atq.getD (Int.toNat (0 : Int)) (0 : Int)).toNat (0 : Int) + (1 : Int)))) (atq)) fun r1 =>
      (chkI (fewest) (fewest)
      (thin9.loop7R N (nn) (fewest) (IntKind.i64.wrap (s6 - (1 : Int))) (b.set (atq.getD (Int.toNat (0 : Int)) (0 : Int)).toNat (IntKind.i64.wrap (b.getD (atq.getD (Int.toNat (0 : Int)) (0 : Int)).toNat (0 : Int) + (1 : Int)))) (r1)))))))))
   (some ((b, atq)))) := by kernel_rfl
    rw [h, thin9.loop7]
    try simp only [thin9.loop7_eq N nn]
noncomputable def thin9.loop2 (N : Nat) : Nat → Int → List Int → Int → List Int → Option thin9.loop2.R
  | 0, _, _, _, _ => none
  | nn + 1, s12, b, s13, atq =>
  (br (decide (s13 < s12))
   (chk (atq.length + [s13].length ≤ (17592186043904 : Nat))
    (obind (Rc.topsLen.F (N) (b) (atq ++ [s13])) fun r0 =>
     (obind (Rc.heapUp.F (N) (IntKind.i64.wrap (r0 - (1 : Int))) (b) (atq ++ [s13])) fun r1 =>
      (chkI (s12) (s12)
      (chkL (b) (b)
      (thin9.loop2 N (nn) (s12) (b) (IntKind.i64.wrap (s13 + (1 : Int))) (r1)))))))
   (chkL (b) (b)
   (some (atq))))
noncomputable def thin9.loop2R (N nn : Nat) (s12 : Int) (b : List Int) (s13 : Int) (atq : List Int) : Option thin9.loop2.R := loopF thin9.loop2.ann (mkL [s12] [] [b] []) (evCode ((thin9.C N).inLoop thin9.loop2.ann) (thin9.K N) (inlTab (thin9.C N) 2) (bodyAt 2 Try.f117)) nn (mkL [s13] [] [atq] [])
theorem thin9.loop2_eq (N : Nat) : ∀ (nn : Nat) (s12 : Int) (b : List Int) (s13 : Int) (atq : List Int), thin9.loop2R N nn s12 b s13 atq = thin9.loop2 N nn s12 b s13 atq
  | 0, _, _, _, _ => by kernel_rfl
  | nn + 1, s12, b, s13, atq => by
    have h : thin9.loop2R N (nn + 1) s12 b s13 atq =
  (br (decide (s13 < s12))
   (chk (atq.length + [s13].length ≤ (17592186043904 : Nat))
    (obind (Rc.topsLen.F (N) (b) (atq ++ [s13])) fun r0 =>
     (obind (Rc.heapUp.F (N) (IntKind.i64.wrap (r0 - (1 : Int))) (b) (atq ++ [s13])) fun r1 =>
      (chkI (s12) (s12)
      (chkL (b) (b)
      (thin9.loop2R N (nn) (s12) (b) (IntKind.i64.wrap (s13 + (1 : Int))) (r1)))))))
   (chkL (b) (b)
   (some (atq)))) := by kernel_rfl
    rw [h, thin9.loop2]
    try simp only [thin9.loop2_eq N nn]
noncomputable def thin9.F (N : Nat) (fewest : Int) (b : List Int) : Option thin9.R :=
  (obind (thin9.loop2 N (N) (↑b.length) (b) ((0 : Int)) (([] : List Int))) fun r0 =>
   (obind (Rc.count9.F (N) (b)) fun r1 =>
    (obind (thin9.loop7 N (N) (fewest) (r1) (b) (r0)) fun r2 =>
     (some (r2.fst)))))
theorem thin9.F_eq (N : Nat) (L : Eng.Leaves) : evSig (thin9.C N) (thin9.K N) 2 Try.f117 thin9.sig L thin9.dec = thin9.F N (L.i 0) (L.l 0) := by
  have h : ∀ (fewest : Int) (b : List Int), evSig (thin9.C N) (thin9.K N) 2 Try.f117 thin9.sig (mkL [fewest] [] [b] []) thin9.dec =
  (obind (thin9.loop2R N (N) (↑b.length) (b) ((0 : Int)) (([] : List Int))) fun r0 =>
   (obind (Rc.count9.F (N) (b)) fun r1 =>
    (obind (thin9.loop7R N (N) (fewest) (r1) (b) (r0)) fun r2 =>
     (some (r2.fst))))) := by
    intro fewest b
    kernel_rfl
  have h2 : evSig (thin9.C N) (thin9.K N) 2 Try.f117 thin9.sig L thin9.dec = evSig (thin9.C N) (thin9.K N) 2 Try.f117 thin9.sig (mkL [L.i 0] [] [L.l 0] []) thin9.dec := by kernel_rfl
  rw [h2, h, thin9.F]
  try simp only [thin9.loop2_eq N, thin9.loop7_eq N]
noncomputable def thin9.spec : Eng.Spec := thin9.sig.spec (fun N L => thin9.F N (L.i 0) (L.l 0)) thin9.enc
theorem thin9.cok (N : Nat) : CfgOK (thin9.C N) := ⟨fun _ _ _ _ h => by simp [thin9.C, noRT] at h, wide, by
  simp only [thin9.C, List.mem_cons, List.not_mem_nil, or_false, forall_eq_or_imp, forall_eq, false_imp_iff, implies_true]
  exact ⟨⟨topsLen.ok, by kernel_rfl⟩, ⟨topsLess.ok, by kernel_rfl⟩, ⟨topsSwap.ok, by kernel_rfl⟩, ⟨heapUp.ok, by kernel_rfl⟩, ⟨heapFix.ok, by kernel_rfl⟩, ⟨count9.ok, by kernel_rfl⟩⟩, fun g hg => by simp [thin9.C] at hg, fun m hm => by
  simp only [thin9.C, List.mem_cons, List.not_mem_nil, or_false] at hm
  rcases hm with rfl | rfl | rfl | rfl
  · exact methOK_of "Len" (fun v args w => by kernel_rfl) (by kernel_rfl)
  · exact methOK_of "Less" (fun v args w => by kernel_rfl) (by kernel_rfl)
  · exact methOK_of "Swap" (fun v args w => by kernel_rfl) (by kernel_rfl)
  · exact methOK_of "Push" (fun v args w => by kernel_rfl) (by kernel_rfl), fun q hq => by simp [thin9.C] at hq⟩
theorem thin9.aok (N : Nat) : AnnsOK (thin9.K N) := by
  intro q hq
  simp only [thin9.K, List.mem_cons, List.not_mem_nil, or_false] at hq
  rcases hq with rfl | rfl
  · exact fun _ _ => ⟨rfl, rfl⟩
  · exact fun _ _ => ⟨rfl, rfl⟩
theorem thin9.ok : CallOK Try.prog 117 thin9.spec :=
  callOK_of_sig (fn := Try.f117) (Cf := thin9.C) (K := thin9.K) (d := 2) (dec := thin9.dec) (by kernel_rfl) (fun _ => rfl) thin9.cok (fun _ q hq => by
      simp only [thin9.C, List.mem_cons, List.not_mem_nil, or_false] at hq
      rcases hq with rfl | rfl
      · exact ⟨fun q hq => by simp [FCfg.none] at hq, by kernel_rfl⟩
      · exact ⟨fun q hq => by simp [FCfg.none] at hq, by kernel_rfl⟩) thin9.aok
    (fun N L r h => (thin9.F_eq N L).trans h) (by kernel_rfl) (fun _ => ⟨rfl, rfl⟩) (fun _ _ => ⟨rfl, rfl⟩)
noncomputable def fewer9.sig : Eng.Sig := { args := [.at (.roi .i64 0), .at (.int .i64 0)], n := 0, pre := [], post := [(0, .ints true .i64 0)], m := 1, ret := .at (.full 0 false) }
noncomputable def fewer9.C (N : Nat) : Cfg := { P := Try.prog, N := N, RT := noRT, specs := [(106, clamp.spec), (117, thin9.spec)], inl := [], hi := 0, mv := [] }
abbrev fewer9.R : Type := List Int
def fewer9.dec (L : Eng.Leaves) : fewer9.R := (L.l 0)
def fewer9.enc (r : fewer9.R) : Eng.Leaves := mkL [] [] [r] []
abbrev fewer9.loop6.R : Type := List Int
noncomputable def fewer9.loop6.ann : Ann := { nx := 20, slots := [(5, .at (.full 0 true)), (18, .at (.froi .i64 0)), (19, .at (.fint .i64 0)), (20, .at (.int .i64 0))], blks := [(0, .ints true .i64 0)], mov := [], exId := 0, xslots := [(5, .at (.full 0 true))], xblks := [(0, .ints true .i64 0)], T := fewer9.loop6.R, dec := fun L => (L.l 0), enc := fun r => mkL [] [] [r] [], ret := false }
abbrev fewer9.loop11.R : Type := List Int
noncomputable def fewer9.loop11.ann : Ann := { nx := 20, slots := [(1, .at (.fint .i64 0)), (5, .at (.full 0 true)), (8, .at (.int .i64 0))], blks := [(0, .ints true .i64 0)], mov := [], exId := 2, xslots := [(5, .at (.full 0 true))], xblks := [(0, .ints true .i64 0)], T := fewer9.loop11.R, dec := fun L => (L.l 0), enc := fun r => mkL [] [] [r] [], ret := false }
noncomputable def fewer9.K (N : Nat) : FCfg := { anns := [(6, fewer9.loop6.ann), (11, fewer9.loop11.ann)], unr := [], lits := [], lets := [] }
noncomputable def fewer9.loop11 (N : Nat) : Nat → Int → Int → List Int → Option fewer9.loop11.R
  | 0, _, _, _ => none
  | nn + 1, fewest, s8, l0 =>
  (br (decide (s8 < ↑l0.length))
   (chk (((0 : Int) ≤ if ↑l0.length < IntKind.i64.wrap (s8 + (16 : Int)) then ↑l0.length else IntKind.i64.wrap (s8 + (16 : Int))) ∧ (if ↑l0.length < IntKind.i64.wrap (s8 + (16 : Int)) then ↑l0.length else IntKind.i64.wrap (s8 + (16 : Int))) ≤ ↑l0.length)
    (chk ((0 : Int) ≤ s8 ∧ s8 ≤ ↑(if ↑l0.length < IntKind.i64.wrap (s8 + (16 : Int)) then ↑l0.length else IntKind.i64.wrap (s8 + (16 : Int))).toNat)
     (chk (s8.toNat + ((if ↑l0.length < IntKind.i64.wrap (s8 + (16 : Int)) then ↑l0.length else IntKind.i64.wrap (s8 + (16 : Int))).toNat - s8.toNat) ≤ l0.length)
      (obind (Rc.thin9.F (N) (fewest) (List.take ((if ↑l0.length < IntKind.i64.wrap (s8 + (16 : Int)) then ↑l0.length else IntKind.i64.wrap (s8 + (16 : Int))).toNat - s8.toNat) (List.drop s8.toNat l0))) fun r0 =>
      (chkI (fewest) (fewest)
      (fewer9.loop11 N (nn) (fewest) (IntKind.i64.wrap (s8 + (16 : Int))) (List.take s8.toNat l0 ++ (r0 ++ List.drop (s8.toNat + ((if ↑l0.length < IntKind.i64.wrap (s8 + (16 : Int)) then ↑l0.length else IntKind.i64.wrap (s8 + (16 : Int))).toNat - s8.toNat)) l0))))))))
   (some (l0)))
noncomputable def fewer9.loop11R (N nn : Nat) (fewest : Int) (s8 : Int) (l0 : List Int) : Option fewer9.loop11.R := loopF fewer9.loop11.ann (mkL [fewest] [] [] []) (evCode ((fewer9.C N).inLoop fewer9.loop11.ann) (fewer9.K N) (inlTab (fewer9.C N) 0) (bodyAt 11 Try.f58)) nn (mkL [s8] [] [l0] [])
theorem fewer9.loop11_eq (N : Nat) : ∀ (nn : Nat) (fewest : Int) (s8 : Int) (l0 : List Int), fewer9.loop11R N nn fewest s8 l0 = fewer9.loop11 N nn fewest s8 l0
  | 0, _, _, _ => by kernel_rfl
  | nn + 1, fewest, s8, l0 => by
    have h : fewer9.loop11R N (nn + 1) fewest s8 l0 =
  (br (decide (s8 < ↑l0.length))
   (chk (((0 : Int) ≤ if ↑l0.length < IntKind.i64.wrap (s8 + (16 : Int)) then ↑l0.length else IntKind.i64.wrap (s8 + (16 : Int))) ∧ (if ↑l0.length < IntKind.i64.wrap (s8 + (16 : Int)) then ↑l0.length else IntKind.i64.wrap (s8 + (16 : Int))) ≤ ↑l0.length)
    (chk ((0 : Int) ≤ s8 ∧ s8 ≤ ↑(if ↑l0.length < IntKind.i64.wrap (s8 + (16 : Int)) then ↑l0.length else IntKind.i64.wrap (s8 + (16 : Int))).toNat)
     (chk (s8.toNat + ((if ↑l0.length < IntKind.i64.wrap (s8 + (16 : Int)) then ↑l0.length else IntKind.i64.wrap (s8 + (16 : Int))).toNat - s8.toNat) ≤ l0.length)
      (obind (Rc.thin9.F (N) (fewest) (List.take ((if ↑l0.length < IntKind.i64.wrap (s8 + (16 : Int)) then ↑l0.length else IntKind.i64.wrap (s8 + (16 : Int))).toNat - s8.toNat) (List.drop s8.toNat l0))) fun r0 =>
      (chkI (fewest) (fewest)
      (fewer9.loop11R N (nn) (fewest) (IntKind.i64.wrap (s8 + (16 : Int))) (List.take s8.toNat l0 ++ (r0 ++ List.drop (s8.toNat + ((if ↑l0.length < IntKind.i64.wrap (s8 + (16 : Int)) then ↑l0.length else IntKind.i64.wrap (s8 + (16 : Int))).toNat - s8.toNat)) l0))))))))
   (some (l0))) := by kernel_rfl
    rw [h, fewer9.loop11]
    try simp only [fewer9.loop11_eq N nn]
noncomputable def fewer9.loop6 (N : Nat) : Nat → Int → List Int → Int → List Int → Option fewer9.loop6.R
  | 0, _, _, _, _ => none
  | nn + 1, s19, s18, s20, l0 =>
  (br (decide (s20 < s19))
   (chk ((0 : Int) ≤ s20 ∧ s20 < ↑s18.length)
    (obind (Rc.clamp.F (N) (s18.getD s20.toNat (0 : Int)) ((-16 : Int)) ((16 : Int))) fun r0 =>
     (chk ((0 : Int) ≤ s20 ∧ s20 < ↑l0.length)
      (chkL (s18) (s18)
      (chkI (s19) (s19)
      (fewer9.loop6 N (nn) (s19) (s18) (IntKind.i64.wrap (s20 + (1 : Int))) (l0.set s20.toNat r0)))))))
   (some (l0)))
noncomputable def fewer9.loop6R (N nn : Nat) (s19 : Int) (s18 : List Int) (s20 : Int) (l0 : List Int) : Option fewer9.loop6.R := loopF fewer9.loop6.ann (mkL [s19] [] [s18] []) (evCode ((fewer9.C N).inLoop fewer9.loop6.ann) (fewer9.K N) (inlTab (fewer9.C N) 0) (bodyAt 6 Try.f58)) nn (mkL [s20] [] [l0] [])
theorem fewer9.loop6_eq (N : Nat) : ∀ (nn : Nat) (s19 : Int) (s18 : List Int) (s20 : Int) (l0 : List Int), fewer9.loop6R N nn s19 s18 s20 l0 = fewer9.loop6 N nn s19 s18 s20 l0
  | 0, _, _, _, _ => by kernel_rfl
  | nn + 1, s19, s18, s20, l0 => by
    have h : fewer9.loop6R N (nn + 1) s19 s18 s20 l0 =
  (br (decide (s20 < s19))
   (chk ((0 : Int) ≤ s20 ∧ s20 < ↑s18.length)
    (obind (Rc.clamp.F (N) (s18.getD s20.toNat (0 : Int)) ((-16 : Int)) ((16 : Int))) fun r0 =>
     (chk ((0 : Int) ≤ s20 ∧ s20 < ↑l0.length)
      (chkL (s18) (s18)
      (chkI (s19) (s19)
      (fewer9.loop6R N (nn) (s19) (s18) (IntKind.i64.wrap (s20 + (1 : Int))) (l0.set s20.toNat r0)))))))
   (some (l0))) := by kernel_rfl
    rw [h, fewer9.loop6]
    try simp only [fewer9.loop6_eq N nn]
noncomputable def fewer9.F (N : Nat) (fewest : Int) (l : List Int) : Option fewer9.R :=
  (br (decide (↑l.length > (480 : Int)))
   (some (([] : List Int)))
   (chk ((0 : Int) ≤ ↑l.length ∧ (l.length : Int) ≤ ↑l.length ∧ (l.length : Int) ≤ ↑(17592186043904 : Nat))
    (obind (fewer9.loop6 N (N) (↑l.length) (l) ((0 : Int)) (List.replicate (↑l.length : Int).toNat (0 : Int))) fun r0 =>
     (obind (fewer9.loop11 N (N) (if (16 : Int) < if (0 : Int) > fewest then (0 : Int) else fewest then (16 : Int) else if (0 : Int) > fewest then (0 : Int) else fewest) ((0 : Int)) (r0)) fun r1 =>
      (some (r1))))))
theorem fewer9.F_eq (N : Nat) (L : Eng.Leaves) : evSig (fewer9.C N) (fewer9.K N) 0 Try.f58 fewer9.sig L fewer9.dec = fewer9.F N (L.i 0) (L.l 0) := by
  have h : ∀ (fewest : Int) (l : List Int), evSig (fewer9.C N) (fewer9.K N) 0 Try.f58 fewer9.sig (mkL [fewest] [] [l] []) fewer9.dec =
  (br (decide (↑l.length > (480 : Int)))
   (some (([] : List Int)))
   (chk ((0 : Int) ≤ ↑l.length ∧ (l.length : Int) ≤ ↑l.length ∧ (l.length : Int) ≤ ↑(17592186043904 : Nat))
    (obind (fewer9.loop6R N (N) (↑l.length) (l) ((0 : Int)) (List.replicate (↑l.length : Int).toNat (0 : Int))) fun r0 =>
     (obind (fewer9.loop11R N (N) (if (16 : Int) < if (0 : Int) > fewest then (0 : Int) else fewest then (16 : Int) else if (0 : Int) > fewest then (0 : Int) else fewest) ((0 : Int)) (r0)) fun r1 =>
      (some (r1)))))) := by
    intro fewest l
    kernel_rfl
  have h2 : evSig (fewer9.C N) (fewer9.K N) 0 Try.f58 fewer9.sig L fewer9.dec = evSig (fewer9.C N) (fewer9.K N) 0 Try.f58 fewer9.sig (mkL [L.i 0] [] [L.l 0] []) fewer9.dec := by kernel_rfl
  rw [h2, h, fewer9.F]
  try simp only [fewer9.loop6_eq N, fewer9.loop11_eq N]
noncomputable def fewer9.spec : Eng.Spec := fewer9.sig.spec (fun N L => fewer9.F N (L.i 0) (L.l 0)) fewer9.enc
theorem fewer9.cok (N : Nat) : CfgOK (fewer9.C N) := ⟨fun _ _ _ _ h => by simp [fewer9.C, noRT] at h, wide, by
  simp only [fewer9.C, List.mem_cons, List.not_mem_nil, or_false, forall_eq_or_imp, forall_eq, false_imp_iff, implies_true]
  exact ⟨⟨clamp.ok, by kernel_rfl⟩, ⟨thin9.ok, by kernel_rfl⟩⟩, fun g hg => by simp [fewer9.C] at hg, fun m hm => by simp [fewer9.C] at hm, fun q hq => by simp [fewer9.C] at hq⟩
theorem fewer9.aok (N : Nat) : AnnsOK (fewer9.K N) := by
  intro q hq
  simp only [fewer9.K, List.mem_cons, List.not_mem_nil, or_false] at hq
  rcases hq with rfl | rfl
  · exact fun _ _ => ⟨rfl, rfl⟩
  · exact fun _ _ => ⟨rfl, rfl⟩
theorem fewer9.ok : CallOK Try.prog 58 fewer9.spec :=
  callOK_of_sig (fn := Try.f58) (Cf := fewer9.C) (K := fewer9.K) (d := 0) (dec := fewer9.dec) (by kernel_rfl) (fun _ => rfl) fewer9.cok (fun _ q hq => by simp [fewer9.C] at hq) fewer9.aok
    (fun N L r h => (fewer9.F_eq N L).trans h) (by kernel_rfl) (fun _ => ⟨rfl, rfl⟩) (fun _ _ => ⟨rfl, rfl⟩)
noncomputable def rsize9.sig : Eng.Sig := { args := [.at (.int .i64 0)], n := 0, pre := [], post := [], m := 0, ret := .at (.int .i64 0) }
noncomputable def rsize9.C (N : Nat) : Cfg := { P := Try.prog, N := N, RT := noRT, specs := [], inl := [], hi := 0, mv := [] }
abbrev rsize9.R : Type := Int
def rsize9.dec (L : Eng.Leaves) : rsize9.R := (L.i 0)
def rsize9.enc (r : rsize9.R) : Eng.Leaves := mkL [r] [] [] []
noncomputable def rsize9.K (N : Nat) : FCfg := { anns := [], unr := [], lits := [], lets := [] }
noncomputable def rsize9.F (N : Nat) (v : Int) : Option rsize9.R :=
  (br (decide (v < (0 : Int)))
   (some (IntKind.i64.wrap ((0 : Int) - v)))
   (some (v)))
theorem rsize9.F_eq (N : Nat) (L : Eng.Leaves) : evSig (rsize9.C N) (rsize9.K N) 0 Try.f118 rsize9.sig L rsize9.dec = rsize9.F N (L.i 0) := by
  kernel_rfl
noncomputable def rsize9.spec : Eng.Spec := rsize9.sig.spec (fun N L => rsize9.F N (L.i 0)) rsize9.enc
theorem rsize9.cok (N : Nat) : CfgOK (rsize9.C N) := ⟨fun _ _ _ _ h => by simp [rsize9.C, noRT] at h, wide, by
  simp only [rsize9.C, List.mem_cons, List.not_mem_nil, or_false, forall_eq_or_imp, forall_eq, false_imp_iff, implies_true], fun g hg => by simp [rsize9.C] at hg, fun m hm => by simp [rsize9.C] at hm, fun q hq => by simp [rsize9.C] at hq⟩
theorem rsize9.aok (N : Nat) : AnnsOK (rsize9.K N) := by
  intro q hq
  simp only [rsize9.K, List.mem_cons, List.not_mem_nil, or_false] at hq
theorem rsize9.ok : CallOK Try.prog 118 rsize9.spec :=
  callOK_of_sig (fn := Try.f118) (Cf := rsize9.C) (K := rsize9.K) (d := 0) (dec := rsize9.dec) (by kernel_rfl) (fun _ => rfl) rsize9.cok (fun _ q hq => by simp [rsize9.C] at hq) rsize9.aok
    (fun N L r h => (rsize9.F_eq N L).trans h) (by kernel_rfl) (fun _ => ⟨rfl, rfl⟩) (fun _ _ => ⟨rfl, rfl⟩)
noncomputable def rfewer9.sig : Eng.Sig := { args := [.at (.roi .i64 0), .at (.int .i64 0)], n := 0, pre := [], post := [(0, .ints true .i64 0)], m := 1, ret := .at (.full 0 false) }
noncomputable def rfewer9.C (N : Nat) : Cfg := { P := Try.prog, N := N, RT := noRT, specs := [(43, rclamp.spec), (118, rsize9.spec)], inl := [], hi := 0, mv := [] }
abbrev rfewer9.R : Type := List Int
def rfewer9.dec (L : Eng.Leaves) : rfewer9.R := (L.l 0)
def rfewer9.enc (r : rfewer9.R) : Eng.Leaves := mkL [] [] [r] []
abbrev rfewer9.loop6.R : Type := List Int
noncomputable def rfewer9.loop6.ann : Ann := { nx := 21, slots := [(0, .at (.froi .i64 0)), (6, .at (.full 20 false)), (7, .at (.int .i64 0))], blks := [(20, .ints true .i64 0)], mov := [20], exId := 0, xslots := [(6, .at (.full 20 false))], xblks := [(20, .ints true .i64 0)], T := rfewer9.loop6.R, dec := fun L => (L.l 0), enc := fun r => mkL [] [] [r] [], ret := false }
abbrev rfewer9.loop10.R : Type := List Int
noncomputable def rfewer9.loop10.ann : Ann := { nx := 21, slots := [(5, .at (.fint .i64 0)), (6, .at (.full 20 false)), (8, .at (.int .i64 0))], blks := [(20, .ints true .i64 0)], mov := [], exId := 2, xslots := [(6, .at (.full 20 false))], xblks := [(20, .ints true .i64 0)], T := rfewer9.loop10.R, dec := fun L => (L.l 0), enc := fun r => mkL [] [] [r] [], ret := false }
abbrev rfewer9.loop15.R : Type := List Int
noncomputable def rfewer9.loop15.ann : Ann := { nx := 21, slots := [(5, .at (.fint .i64 0)), (6, .at (.full 20 false)), (8, .at (.fint .i64 1)), (9, .at (.fint .i64 2))], blks := [(20, .ints true .i64 0)], mov := [], exId := 4, xslots := [(6, .at (.full 20 false))], xblks := [(20, .ints true .i64 0)], T := rfewer9.loop15.R, dec := fun L => (L.l 0), enc := fun r => mkL [] [] [r] [], ret := false }
abbrev rfewer9.loop18.R : Type := Int × Int
noncomputable def rfewer9.loop18.ann : Ann := { nx := 21, slots := [(6, .at (.full 20 false)), (9, .at (.fint .i64 0)), (10, .at (.int .i64 0)), (11, .at (.int .i64 1)), (12, .at (.int .i64 2))], blks := [(20, .fints true .i64 0)], mov := [], exId := 6, xslots := [(6, .at (.full 20 false)), (10, .at (.int .i64 0)), (11, .at (.int .i64 1))], xblks := [(20, .fints true .i64 0)], T := rfewer9.loop18.R, dec := fun L => (L.i 0, L.i 1), enc := fun r => mkL [r.1, r.2] [] [] [], ret := false }
noncomputable def rfewer9.K (N : Nat) : FCfg := { anns := [(6, rfewer9.loop6.ann), (10, rfewer9.loop10.ann), (15, rfewer9.loop15.ann), (18, rfewer9.loop18.ann)], unr := [], lits := [], lets := [] }
noncomputable def rfewer9.loop18 (N : Nat) : Nat → Int → List Int → Int → Int → Int → Option rfewer9.loop18.R
  | 0, _, _, _, _, _ => none
  | nn + 1, s9, l20, s10, s11, s12 =>
  (br (decide (s12 < s9))
   (chk ((0 : Int) ≤ s12 ∧ s12 < ↑l20.length)
    (obind (Rc.rsize9.F (N) (l20.getD s12.toNat (0 : Int))) fun r0 =>
     (chk ((0 : Int) ≤ s12 ∧ s12 < ↑l20.length)
      (obind (Rc.rsize9.F (N) (l20.getD s12.toNat (0 : Int))) fun r1 =>
      (chk ((0 : Int) ≤ s11 ∧ s11 < ↑l20.length)
      (obind (Rc.rsize9.F (N) (l20.getD s11.toNat (0 : Int))) fun r2 =>
      (chkI (l20.getD s11.toNat (0 : Int)) (l20.getD s11.toNat (0 : Int))
      (chk ((0 : Int) ≤ s11 ∧ s11 < ↑l20.length)
      (chkN (s11.toNat) (s11.toNat)
      (br (decide (r1 ≥ r2))
      (chkI (s9) (s9)
      (chkL (l20) (l20)
      (rfewer9.loop18 N (nn) (s9) (l20) (IntKind.i64.wrap (s10 + r0)) (s12) (IntKind.i64.wrap (s12 + (1 : Int))))))
      (chkI (s9) (s9)
      (chkL (l20) (l20)
      (rfewer9.loop18 N (nn) (s9) (l20) (IntKind.i64.wrap (s10 + r0)) (s11) (IntKind.i64.wrap (s12 + (1 : Int))))))))))))))))
   (chkL (l20) (l20)
   (some ((s10, s11)))))
noncomputable def rfewer9.loop18R (N nn : Nat) (s9 : Int) (l20 : List Int) (s10 : Int) (s11 : Int) (s12 : Int) : Option rfewer9.loop18.R := loopF rfewer9.loop18.ann (mkL [s9] [] [l20] []) (evCode ((rfewer9.C N).inLoop rfewer9.loop18.ann) (rfewer9.K N) (inlTab (rfewer9.C N) 0) (bodyAt 18 Try.f62)) nn (mkL [s10, s11, s12] [] [] [])
theorem rfewer9.loop18_eq (N : Nat) : ∀ (nn : Nat) (s9 : Int) (l20 : List Int) (s10 : Int) (s11 : Int) (s12 : Int), rfewer9.loop18R N nn s9 l20 s10 s11 s12 = rfewer9.loop18 N nn s9 l20 s10 s11 s12
  | 0, _, _, _, _, _ => by kernel_rfl
  | nn + 1, s9, l20, s10, s11, s12 => by
    have h : rfewer9.loop18R N (nn + 1) s9 l20 s10 s11 s12 =
  (br (decide (s12 < s9))
   (chk ((0 : Int) ≤ s12 ∧ s12 < ↑l20.length)
    (obind (Rc.rsize9.F (N) (l20.getD s12.toNat (0 : Int))) fun r0 =>
     (chk ((0 : Int) ≤ s12 ∧ s12 < ↑l20.length)
      (obind (Rc.rsize9.F (N) (l20.getD s12.toNat (0 : Int))) fun r1 =>
      (chk ((0 : Int) ≤ s11 ∧ s11 < ↑l20.length)
      (obind (Rc.rsize9.F (N) (l20.getD s11.toNat (0 : Int))) fun r2 =>
      (chkI (l20.getD s11.toNat (0 : Int)) (l20.getD s11.toNat (0 : Int))
      (chk ((0 : Int) ≤ s11 ∧ s11 < ↑l20.length)
      (chkN (s11.toNat) (s11.toNat)
      (br (decide (r1 ≥ r2))
      (chkI (s9) (s9)
      (chkL (l20) (l20)
      (rfewer9.loop18R N (nn) (s9) (l20) (IntKind.i64.wrap (s10 + r0)) (s12) (IntKind.i64.wrap (s12 + (1 : Int))))))
      (chkI (s9) (s9)
      (chkL (l20) (l20)
      (rfewer9.loop18R N (nn) (s9) (l20) (IntKind.i64.wrap (s10 + r0)) (s11) (IntKind.i64.wrap (s12 + (1 : Int))))))))))))))))
   (chkL (l20) (l20)
   (some ((s10, s11))))) := by kernel_rfl
    rw [h, rfewer9.loop18]
    try simp only [rfewer9.loop18_eq N nn]
noncomputable def rfewer9.loop15 (N : Nat) : Nat → Int → Int → Int → List Int → Option rfewer9.loop15.R
  | 0, _, _, _, _ => none
  | nn + 1, s5, s8, s9, l20 =>
  (obind (rfewer9.loop18 N (N) (s9) (l20) ((0 : Int)) (s8) (s8)) fun r0 =>
   (br (decide (r0.fst ≤ s5))
    (some (l20))
    (chk ((0 : Int) ≤ r0.snd ∧ r0.snd < ↑l20.length)
     (br (decide (l20.getD r0.snd.toNat (0 : Int) > (0 : Int)))
      (chk ((0 : Int) ≤ r0.snd ∧ r0.snd < ↑l20.length)
      (chk ((0 : Int) ≤ r0.snd ∧ r0.snd < ↑l20.length)
      (chkI (s5) (s5)
      (chkI (s8) (s8)
      (chkI (s9) (s9)
      (rfewer9.loop15 N (nn) (s5) (s8) (s9) (l20.set r0.snd.toNat (IntKind.i64.wrap (l20.getD r0.snd.toNat (0 : Int) - (1 : Int))))))))))
      (chk ((0 : Int) ≤ r0.snd ∧ r0.snd < ↑l20.length)
      (chk ((0 : Int) ≤ r0.snd ∧ r0.snd < ↑l20.length)
      (chkI (s5) (s5)
      (chkI (s8) (s8)
      (chkI (s9) (s9)
      (rfewer9.loop15 N (nn) (s5) (s8) (s9) (l20.set r0.snd.toNat (IntKind.i64.wrap (l20.getD r0.snd.toNat (0 : Int) + (1 : Int))))))))))))))
noncomputable def rfewer9.loop15R (N nn : Nat) (s5 : Int) (s8 : Int) (s9 : Int) (l20 : List Int) : Option rfewer9.loop15.R := loopF rfewer9.loop15.ann (mkL [s5, s8, s9] [] [] []) (evCode ((rfewer9.C N).inLoop rfewer9.loop15.ann) (rfewer9.K N) (inlTab (rfewer9.C N) 0) (bodyAt 15 Try.f62)) nn (mkL [] [] [l20] [])
theorem rfewer9.loop15_eq (N : Nat) : ∀ (nn : Nat) (s5 : Int) (s8 : Int) (s9 : Int) (l20 : List Int), rfewer9.loop15R N nn s5 s8 s9 l20 = rfewer9.loop15 N nn s5 s8 s9 l20
  | 0, _, _, _, _ => by kernel_rfl
  | nn + 1, s5, s8, s9, l20 => by
    have h : rfewer9.loop15R N (nn + 1) s5 s8 s9 l20 =
  (obind (rfewer9.loop18R N (N) (s9) (l20) ((0 : Int)) (s8) (s8)) fun r0 =>
   (br (decide (r0.fst ≤ s5))
    (some (l20))
    (chk ((0 : Int) ≤ r0.snd ∧ r0.snd < ↑l20.length)
     (br (decide (l20.getD r0.snd.toNat (0 : Int) > (0 : Int)))
      (chk ((0 : Int) ≤ r0.snd ∧ r0.snd < ↑l20.length)
      (chk ((0 : Int) ≤ r0.snd ∧ r0.snd < ↑l20.length)
      (chkI (s5) (s5)
      (chkI (s8) (s8)
      (chkI (s9) (s9)
      (rfewer9.loop15R N (nn) (s5) (s8) (s9) (l20.set r0.snd.toNat (IntKind.i64.wrap (l20.getD r0.snd.toNat (0 : Int) - (1 : Int))))))))))
      (chk ((0 : Int) ≤ r0.snd ∧ r0.snd < ↑l20.length)
      (chk ((0 : Int) ≤ r0.snd ∧ r0.snd < ↑l20.length)
      (chkI (s5) (s5)
      (chkI (s8) (s8)
      (chkI (s9) (s9)
      (rfewer9.loop15R N (nn) (s5) (s8) (s9) (l20.set r0.snd.toNat (IntKind.i64.wrap (l20.getD r0.snd.toNat (0 : Int) + (1 : Int)))))))))))))) := by kernel_rfl
    rw [h, rfewer9.loop15]
    try simp only [rfewer9.loop15_eq N nn, rfewer9.loop18_eq N]
noncomputable def rfewer9.loop10 (N : Nat) : Nat → Int → Int → List Int → Option rfewer9.loop10.R
  | 0, _, _, _ => none
  | nn + 1, s5, s8, l20 =>
  (br (decide (s8 < ↑l20.length))
   (br (decide (IntKind.i64.wrap (s8 + (16 : Int)) > ↑l20.length))
    (obind (rfewer9.loop15 N (N) (s5) (s8) (↑l20.length) (l20)) fun r0 =>
     (chkI (s5) (s5)
     (rfewer9.loop10 N (nn) (s5) (IntKind.i64.wrap (s8 + (16 : Int))) (r0))))
    (obind (rfewer9.loop15 N (N) (s5) (s8) (IntKind.i64.wrap (s8 + (16 : Int))) (l20)) fun r1 =>
     (chkI (s5) (s5)
     (rfewer9.loop10 N (nn) (s5) (IntKind.i64.wrap (s8 + (16 : Int))) (r1)))))
   (some (l20)))
noncomputable def rfewer9.loop10R (N nn : Nat) (s5 : Int) (s8 : Int) (l20 : List Int) : Option rfewer9.loop10.R := loopF rfewer9.loop10.ann (mkL [s5] [] [] []) (evCode ((rfewer9.C N).inLoop rfewer9.loop10.ann) (rfewer9.K N) (inlTab (rfewer9.C N) 0) (bodyAt 10 Try.f62)) nn (mkL [s8] [] [l20] [])
theorem rfewer9.loop10_eq (N : Nat) : ∀ (nn : Nat) (s5 : Int) (s8 : Int) (l20 : List Int), rfewer9.loop10R N nn s5 s8 l20 = rfewer9.loop10 N nn s5 s8 l20
  | 0, _, _, _ => by kernel_rfl
  | nn + 1, s5, s8, l20 => by
    have h : rfewer9.loop10R N (nn + 1) s5 s8 l20 =
  (br (decide (s8 < ↑l20.length))
   (br (decide (IntKind.i64.wrap (s8 + (16 : Int)) > ↑l20.length))
    (obind (rfewer9.loop15R N (N) (s5) (s8) (↑l20.length) (l20)) fun r0 =>
     (chkI (s5) (s5)
     (rfewer9.loop10R N (nn) (s5) (IntKind.i64.wrap (s8 + (16 : Int))) (r0))))
    (obind (rfewer9.loop15R N (N) (s5) (s8) (IntKind.i64.wrap (s8 + (16 : Int))) (l20)) fun r1 =>
     (chkI (s5) (s5)
     (rfewer9.loop10R N (nn) (s5) (IntKind.i64.wrap (s8 + (16 : Int))) (r1)))))
   (some (l20))) := by kernel_rfl
    rw [h, rfewer9.loop10]
    try simp only [rfewer9.loop10_eq N nn, rfewer9.loop15_eq N]
noncomputable def rfewer9.loop6 (N : Nat) : Nat → List Int → Int → List Int → Option rfewer9.loop6.R
  | 0, _, _, _ => none
  | nn + 1, l, s7, s6 =>
  (br (decide (s7 < ↑l.length))
   (chk ((0 : Int) ≤ s7 ∧ s7 < ↑l.length)
    (obind (Rc.rclamp.F (N) (l.getD s7.toNat (0 : Int)) ((-16 : Int)) ((16 : Int))) fun r0 =>
     (chk (s6.length + [r0].length ≤ (17592186043904 : Nat))
      (chkL (l) (l)
      (rfewer9.loop6 N (nn) (l) (IntKind.i64.wrap (s7 + (1 : Int))) (s6 ++ [r0]))))))
   (some (s6)))
noncomputable def rfewer9.loop6R (N nn : Nat) (l : List Int) (s7 : Int) (s6 : List Int) : Option rfewer9.loop6.R := loopF rfewer9.loop6.ann (mkL [] [] [l] []) (evCode ((rfewer9.C N).inLoop rfewer9.loop6.ann) (rfewer9.K N) (inlTab (rfewer9.C N) 0) (bodyAt 6 Try.f62)) nn (mkL [s7] [] [s6] [])
theorem rfewer9.loop6_eq (N : Nat) : ∀ (nn : Nat) (l : List Int) (s7 : Int) (s6 : List Int), rfewer9.loop6R N nn l s7 s6 = rfewer9.loop6 N nn l s7 s6
  | 0, _, _, _ => by kernel_rfl
  | nn + 1, l, s7, s6 => by
    have h : rfewer9.loop6R N (nn + 1) l s7 s6 =
  (br (decide (s7 < ↑l.length))
   (chk ((0 : Int) ≤ s7 ∧ s7 < ↑l.length)
    (obind (Rc.rclamp.F (N) (l.getD s7.toNat (0 : Int)) ((-16 : Int)) ((16 : Int))) fun r0 =>
     (chk (s6.length + [r0].length ≤ (17592186043904 : Nat))
      (chkL (l) (l)
      (rfewer9.loop6R N (nn) (l) (IntKind.i64.wrap (s7 + (1 : Int))) (s6 ++ [r0]))))))
   (some (s6))) := by kernel_rfl
    rw [h, rfewer9.loop6]
    try simp only [rfewer9.loop6_eq N nn]
noncomputable def rfewer9.F (N : Nat) (most : Int) (l : List Int) : Option rfewer9.R :=
  (br (decide (↑l.length > (480 : Int)))
   (some (([] : List Int)))
   (obind (Rc.rclamp.F (N) (most) ((0 : Int)) ((16 : Int))) fun r0 =>
    (obind (rfewer9.loop6 N (N) (l) ((0 : Int)) (([] : List Int))) fun r1 =>
     (obind (rfewer9.loop10 N (N) (r0) ((0 : Int)) (r1)) fun r2 =>
      (some (r2))))))
theorem rfewer9.F_eq (N : Nat) (L : Eng.Leaves) : evSig (rfewer9.C N) (rfewer9.K N) 0 Try.f62 rfewer9.sig L rfewer9.dec = rfewer9.F N (L.i 0) (L.l 0) := by
  have h : ∀ (most : Int) (l : List Int), evSig (rfewer9.C N) (rfewer9.K N) 0 Try.f62 rfewer9.sig (mkL [most] [] [l] []) rfewer9.dec =
  (br (decide (↑l.length > (480 : Int)))
   (some (([] : List Int)))
   (obind (Rc.rclamp.F (N) (most) ((0 : Int)) ((16 : Int))) fun r0 =>
    (obind (rfewer9.loop6R N (N) (l) ((0 : Int)) (([] : List Int))) fun r1 =>
     (obind (rfewer9.loop10R N (N) (r0) ((0 : Int)) (r1)) fun r2 =>
      (some (r2)))))) := by
    intro most l
    kernel_rfl
  have h2 : evSig (rfewer9.C N) (rfewer9.K N) 0 Try.f62 rfewer9.sig L rfewer9.dec = evSig (rfewer9.C N) (rfewer9.K N) 0 Try.f62 rfewer9.sig (mkL [L.i 0] [] [L.l 0] []) rfewer9.dec := by kernel_rfl
  rw [h2, h, rfewer9.F]
  try simp only [rfewer9.loop6_eq N, rfewer9.loop10_eq N, rfewer9.loop15_eq N, rfewer9.loop18_eq N]
noncomputable def rfewer9.spec : Eng.Spec := rfewer9.sig.spec (fun N L => rfewer9.F N (L.i 0) (L.l 0)) rfewer9.enc
theorem rfewer9.cok (N : Nat) : CfgOK (rfewer9.C N) := ⟨fun _ _ _ _ h => by simp [rfewer9.C, noRT] at h, wide, by
  simp only [rfewer9.C, List.mem_cons, List.not_mem_nil, or_false, forall_eq_or_imp, forall_eq, false_imp_iff, implies_true]
  exact ⟨⟨rclamp.ok, by kernel_rfl⟩, ⟨rsize9.ok, by kernel_rfl⟩⟩, fun g hg => by simp [rfewer9.C] at hg, fun m hm => by simp [rfewer9.C] at hm, fun q hq => by simp [rfewer9.C] at hq⟩
theorem rfewer9.aok (N : Nat) : AnnsOK (rfewer9.K N) := by
  intro q hq
  simp only [rfewer9.K, List.mem_cons, List.not_mem_nil, or_false] at hq
  rcases hq with rfl | rfl | rfl | rfl
  · exact fun _ _ => ⟨rfl, rfl⟩
  · exact fun _ _ => ⟨rfl, rfl⟩
  · exact fun _ _ => ⟨rfl, rfl⟩
  · exact fun _ _ => ⟨rfl, rfl⟩
theorem rfewer9.ok : CallOK Try.prog 62 rfewer9.spec :=
  callOK_of_sig (fn := Try.f62) (Cf := rfewer9.C) (K := rfewer9.K) (d := 0) (dec := rfewer9.dec) (by kernel_rfl) (fun _ => rfl) rfewer9.cok (fun _ q hq => by simp [rfewer9.C] at hq) rfewer9.aok
    (fun N L r h => (rfewer9.F_eq N L).trans h) (by kernel_rfl) (fun _ => ⟨rfl, rfl⟩) (fun _ _ => ⟨rfl, rfl⟩)
noncomputable def same9.sig : Eng.Sig := { args := [.at (.roi .i64 0), .at (.roi .i64 1)], n := 0, pre := [], post := [], m := 0, ret := .at (.bool 0) }
noncomputable def same9.C (N : Nat) : Cfg := { P := Try.prog, N := N, RT := noRT, specs := [], inl := [], hi := 0, mv := [] }
abbrev same9.R : Type := Bool
def same9.dec (L : Eng.Leaves) : same9.R := (L.b 0)
def same9.enc (r : same9.R) : Eng.Leaves := mkL [] [r] [] []
abbrev same9.loop4.R : Type := Bool
noncomputable def same9.loop4.ann : Ann := { nx := 20, slots := [(0, .at (.froi .i64 0)), (1, .at (.froi .i64 1)), (4, .at (.bool 0)), (5, .at (.int .i64 0))], blks := [], mov := [], exId := 0, xslots := [(4, .at (.bool 0))], xblks := [], T := same9.loop4.R, dec := fun L => (L.b 0), enc := fun r => mkL [] [r] [] [], ret := true }
noncomputable def same9.K (N : Nat) : FCfg := { anns := [(4, same9.loop4.ann)], unr := [], lits := [], lets := [] }
noncomputable def same9.loop4 (N : Nat) : Nat → List Int → List Int → List Int → List Int → Int → Bool → Option (same9.loop4.R ⊕ same9.R)
  | 0, _, _, _, _, _, _ => none
  | nn + 1, e_a, e_b, a, b, s5, s4 =>
  (br (decide (s5 < ↑a.length))
   (chk ((0 : Int) ≤ s5 ∧ s5 < ↑a.length)
    (chk ((0 : Int) ≤ s5 ∧ s5 < ↑b.length)
     (br (a.getD s5.toNat (0 : Int) != b.getD s5.toNat (0 : Int))
      (omap
      (some (false)) .inr)
      (chkL (a) (a)
      (chkL (b) (b)
      (same9.loop4 N (nn) e_a e_b (a) (b) (IntKind.i64.wrap (s5 + (1 : Int))) (s4)))))))
   (some (Sum.inl s4)))
noncomputable def same9.loop4R (N nn : Nat) (e_a : List Int) (e_b : List Int) (a : List Int) (b : List Int) (s5 : Int) (s4 : Bool) : Option (same9.loop4.R ⊕ same9.R) := loopR same9.loop4.ann (mkL [] [] [a, b] []) (evCode ((same9.C N).inLoop same9.loop4.ann) (same9.K N) (inlTab (same9.C N) 0) (bodyAt 4 Try.f60)) (sigKr Try.prog Try.f60 same9.sig (mkL [] [] [e_a, e_b] []) fun L => (L.b 0)) nn (mkL [s5] [s4] [] [])
theorem same9.loop4_eq (N : Nat) : ∀ (nn : Nat) (e_a : List Int) (e_b : List Int) (a : List Int) (b : List Int) (s5 : Int) (s4 : Bool), same9.loop4R N nn e_a e_b a b s5 s4 = same9.loop4 N nn e_a e_b a b s5 s4
  | 0, _, _, _, _, _, _ => by kernel_rfl
  | nn + 1, e_a, e_b, a, b, s5, s4 => by
    have h : same9.loop4R N (nn + 1) e_a e_b a b s5 s4 =
  (br (decide (s5 < ↑a.length))
   (chk ((0 : Int) ≤ s5 ∧ s5 < ↑a.length)
    (chk ((0 : Int) ≤ s5 ∧ s5 < ↑b.length)
     (br (a.getD s5.toNat (0 : Int) != b.getD s5.toNat (0 : Int))
      (omap
      (some (false)) .inr)
      (chkL (a) (a)
      (chkL (b) (b)
      (same9.loop4R N (nn) e_a e_b (a) (b) (IntKind.i64.wrap (s5 + (1 : Int))) (s4)))))))
   (some (Sum.inl s4))) := by kernel_rfl
    rw [h, same9.loop4]
    try simp only [same9.loop4_eq N nn]
noncomputable def same9.F (N : Nat) (a : List Int) (b : List Int) : Option same9.R :=
  (br ((a.length : Int) != ↑b.length)
   (some (false))
   (osum (same9.loop4 N (N) a b (a) (b) ((0 : Int)) (false)) fun r0 =>
    (some (true))))
theorem same9.F_eq (N : Nat) (L : Eng.Leaves) : evSig (same9.C N) (same9.K N) 0 Try.f60 same9.sig L same9.dec = same9.F N (L.l 0) (L.l 1) := by
  have h : ∀ (a : List Int) (b : List Int), evSig (same9.C N) (same9.K N) 0 Try.f60 same9.sig (mkL [] [] [a, b] []) same9.dec =
  (br ((a.length : Int) != ↑b.length)
   (some (false))
   (osum (same9.loop4R N (N) a b (a) (b) ((0 : Int)) (false)) fun r0 =>
    (some (true)))) := by
    intro a b
    kernel_rfl
  have h2 : evSig (same9.C N) (same9.K N) 0 Try.f60 same9.sig L same9.dec = evSig (same9.C N) (same9.K N) 0 Try.f60 same9.sig (mkL [] [] [L.l 0, L.l 1] []) same9.dec := by kernel_rfl
  rw [h2, h, same9.F]
  try simp only [same9.loop4_eq N]
noncomputable def same9.spec : Eng.Spec := same9.sig.spec (fun N L => same9.F N (L.l 0) (L.l 1)) same9.enc
theorem same9.cok (N : Nat) : CfgOK (same9.C N) := ⟨fun _ _ _ _ h => by simp [same9.C, noRT] at h, wide, by
  simp only [same9.C, List.mem_cons, List.not_mem_nil, or_false, forall_eq_or_imp, forall_eq, false_imp_iff, implies_true], fun g hg => by simp [same9.C] at hg, fun m hm => by simp [same9.C] at hm, fun q hq => by simp [same9.C] at hq⟩
theorem same9.aok (N : Nat) : AnnsOK (same9.K N) := by
  intro q hq
  simp only [same9.K, List.mem_cons, List.not_mem_nil, or_false] at hq
  subst hq
  exact fun _ _ => ⟨rfl, rfl⟩
theorem same9.ok : CallOK Try.prog 60 same9.spec :=
  callOK_of_sig (fn := Try.f60) (Cf := same9.C) (K := same9.K) (d := 0) (dec := same9.dec) (by kernel_rfl) (fun _ => rfl) same9.cok (fun _ q hq => by simp [same9.C] at hq) same9.aok
    (fun N L r h => (same9.F_eq N L).trans h) (by kernel_rfl) (fun _ => ⟨rfl, rfl⟩) (fun _ _ => ⟨rfl, rfl⟩)
noncomputable def awake9.sig : Eng.Sig := { args := [], n := 0, pre := [], post := [], m := 0, ret := .at (.bool 0) }
noncomputable def awake9.C (N : Nat) : Cfg := { P := Try.prog, N := N, RT := noRT, specs := [(25, enew.spec), (57, write9.spec), (29, edone.spec), (41, new.spec), (55, read9.spec), (60, same9.spec), (56, good9.spec), (58, fewer9.spec)], inl := [], hi := 0, mv := [] }
abbrev awake9.R : Type := Bool
def awake9.dec (L : Eng.Leaves) : awake9.R := (L.b 0)
def awake9.enc (r : awake9.R) : Eng.Leaves := mkL [] [r] [] []
noncomputable def awake9.K (N : Nat) : FCfg := { anns := [], unr := [], lits := [], lets := [] }
noncomputable def awake9.F (N : Nat)  : Option awake9.R :=
  (obind (Rc.enew.F (N)) fun r0 =>
   (obind (Rc.write9.F (N) (r0.fst) (r0.snd.fst) (r0.snd.snd.fst) (r0.snd.snd.snd.fst) (((List.replicate (Int.toNat (16 : Int)) (0 : Int)).set (Int.toNat (3 : Int)) (-2 : Int)).set (Int.toNat (9 : Int)) (1 : Int)) (r0.snd.snd.snd.snd.fst) (r0.snd.snd.snd.snd.snd)) fun r1 =>
    (obind (Rc.edone.F (N) ((20 : Int)) (r1.snd.fst) (r1.snd.snd.fst) (r1.snd.snd.snd.fst) (r1.snd.snd.snd.snd.fst) (r1.snd.snd.snd.snd.snd.fst) (r1.snd.snd.snd.snd.snd.snd)) fun r2 =>
     (br (r1.fst != (0 : Int))
      (some (false))
      (br (r2.fst != (0 : Int))
      (some (false))
      (obind (Rc.new.F (N) (r2.snd)) fun r3 =>
      (obind (Rc.read9.F (N) ((16 : Int)) (r3.fst) (r3.snd.fst) (r3.snd.snd.fst) (r3.snd.snd.snd.fst) (r3.snd.snd.snd.snd.fst) (r3.snd.snd.snd.snd.snd.fst) (r3.snd.snd.snd.snd.snd.snd.fst) (r3.snd.snd.snd.snd.snd.snd.snd.fst) (r3.snd.snd.snd.snd.snd.snd.snd.snd.fst) (r3.snd.snd.snd.snd.snd.snd.snd.snd.snd)) fun r4 =>
      (br (r4.fst == (0 : Int))
      (obind (Rc.same9.F (N) (r4.snd.snd.snd.snd.snd.snd.snd.snd.snd.snd) (((List.replicate (Int.toNat (16 : Int)) (0 : Int)).set (Int.toNat (3 : Int)) (-2 : Int)).set (Int.toNat (9 : Int)) (1 : Int))) fun r5 =>
      (br (r5)
      (obind (Rc.good9.F (N) (((List.replicate (Int.toNat (16 : Int)) (0 : Int)).set (Int.toNat (3 : Int)) (-2 : Int)).set (Int.toNat (9 : Int)) (1 : Int))) fun r6 =>
      (br (r6)
      (obind (Rc.fewer9.F (N) ((4 : Int)) ([(3 : Int), (-2 : Int), (1 : Int)])) fun r7 =>
      (obind (Rc.same9.F (N) (r7) ([(2 : Int), (-1 : Int), (1 : Int)])) fun r8 =>
      (some (r8))))
      (some (false))))
      (some (false))))
      (some (false))))))))))
theorem awake9.F_eq (N : Nat) (L : Eng.Leaves) : evSig (awake9.C N) (awake9.K N) 0 Try.f54 awake9.sig L awake9.dec = awake9.F N  := by
  kernel_rfl
noncomputable def awake9.spec : Eng.Spec := awake9.sig.spec (fun N L => awake9.F N ) awake9.enc
theorem awake9.cok (N : Nat) : CfgOK (awake9.C N) := ⟨fun _ _ _ _ h => by simp [awake9.C, noRT] at h, wide, by
  simp only [awake9.C, List.mem_cons, List.not_mem_nil, or_false, forall_eq_or_imp, forall_eq, false_imp_iff, implies_true]
  exact ⟨⟨enew.ok, by kernel_rfl⟩, ⟨write9.ok, by kernel_rfl⟩, ⟨edone.ok, by kernel_rfl⟩, ⟨new.ok, by kernel_rfl⟩, ⟨read9.ok, by kernel_rfl⟩, ⟨same9.ok, by kernel_rfl⟩, ⟨good9.ok, by kernel_rfl⟩, ⟨fewer9.ok, by kernel_rfl⟩⟩, fun g hg => by simp [awake9.C] at hg, fun m hm => by simp [awake9.C] at hm, fun q hq => by simp [awake9.C] at hq⟩
theorem awake9.aok (N : Nat) : AnnsOK (awake9.K N) := by
  intro q hq
  simp only [awake9.K, List.mem_cons, List.not_mem_nil, or_false] at hq
theorem awake9.ok : CallOK Try.prog 54 awake9.spec :=
  callOK_of_sig (fn := Try.f54) (Cf := awake9.C) (K := awake9.K) (d := 0) (dec := awake9.dec) (by kernel_rfl) (fun _ => rfl) awake9.cok (fun _ q hq => by simp [awake9.C] at hq) awake9.aok
    (fun N L r h => (awake9.F_eq N L).trans h) (by kernel_rfl) (fun _ => ⟨rfl, rfl⟩) (fun _ _ => ⟨rfl, rfl⟩)
end Go.Proofs.Rc
