/-
  Functions of the program: what each comes to, and its contract (written by a program).
  Conditions: none: each contract is proved for every input of its shape.
-/
import Derived.Test.YtghbobmkkbdhpaaEngMkToEngWords
import Derived.Laws.Externs
import Derived.Test.YtghbobmkkbdhpaaProg
import Derived.Test.YtghbobmkkbdhpaaSzFns
set_option linter.unusedVariables false
set_option linter.unusedSimpArgs false
namespace Go.Proofs.Rc
open Go.Eng
set_option maxRecDepth 100000
noncomputable def rsign.sig : Eng.Sig := { args := [.at (.ptr 0 0)], n := 1, pre := [(0, .cells 1 [.int .u32 0])], post := [(0, .cells 1 [.int .u32 1])], m := 0, ret := .at (.int .i64 0) }
noncomputable def rsign.C (N : Nat) : Cfg := { P := Try.prog, N := N, RT := noRT, specs := [], inl := [], hi := 1, mv := [] }
abbrev rsign.R : Type := Int × Int
def rsign.dec (L : Eng.Leaves) : rsign.R := (L.i 0, L.i 1)
def rsign.enc (r : rsign.R) : Eng.Leaves := mkL [r.1, r.2] [] [] []
noncomputable def rsign.K (N : Nat) : FCfg := { anns := [], unr := [], lits := [], lets := [] }
noncomputable def rsign.F (N : Nat) (s_Seed : Int) : Option rsign.R :=
  (br (decide (IntKind.u32.wrap ((IntKind.u64.wrap (IntKind.u64.wrap (IntKind.u64.wrap s_Seed * (1664525 : Int)) + (1013904223 : Int))).tmod (4294967296 : Int)) < (2147483648 : Int)))
   (some (((1 : Int), IntKind.u32.wrap ((IntKind.u64.wrap (IntKind.u64.wrap (IntKind.u64.wrap s_Seed * (1664525 : Int)) + (1013904223 : Int))).tmod (4294967296 : Int)))))
   (some (((-1 : Int), IntKind.u32.wrap ((IntKind.u64.wrap (IntKind.u64.wrap (IntKind.u64.wrap s_Seed * (1664525 : Int)) + (1013904223 : Int))).tmod (4294967296 : Int))))))
theorem rsign.F_eq (N : Nat) (L : Eng.Leaves) : evSig (rsign.C N) (rsign.K N) 0 Try.f21 rsign.sig L rsign.dec = rsign.F N (L.i 0) := by
  kernel_rfl
noncomputable def rsign.spec : Eng.Spec := rsign.sig.spec (fun N L => rsign.F N (L.i 0)) rsign.enc
theorem rsign.cok (N : Nat) : CfgOK (rsign.C N) := ⟨fun _ _ _ _ h => by simp [rsign.C, noRT] at h, wide, by
  simp only [rsign.C, List.mem_cons, List.not_mem_nil, or_false, forall_eq_or_imp, forall_eq, false_imp_iff, implies_true], fun g hg => by simp [rsign.C] at hg, fun m hm => by simp [rsign.C] at hm, fun q hq => by simp [rsign.C] at hq⟩
theorem rsign.aok (N : Nat) : AnnsOK (rsign.K N) := by
  intro q hq
  simp only [rsign.K, List.mem_cons, List.not_mem_nil, or_false] at hq
theorem rsign.ok : CallOK Try.prog 21 rsign.spec :=
  callOK_of_sig (fn := Try.f21) (Cf := rsign.C) (K := rsign.K) (d := 0) (dec := rsign.dec) (by kernel_rfl) (fun _ => rfl) rsign.cok (fun _ q hq => by simp [rsign.C] at hq) rsign.aok
   (fun N L r h => (rsign.F_eq N L).trans h) (by kernel_rfl) (fun _ => ⟨rfl, rfl⟩) (fun _ _ => ⟨rfl, rfl⟩)
noncomputable def rdown.sig : Eng.Sig := { args := [.at (.int .i64 0), .at (.int .i64 1)], n := 0, pre := [], post := [], m := 0, ret := .at (.int .i64 0) }
noncomputable def rdown.C (N : Nat) : Cfg := { P := Try.prog, N := N, RT := noRT, specs := [], inl := [], hi := 0, mv := [] }
abbrev rdown.R : Type := Int
def rdown.dec (L : Eng.Leaves) : rdown.R := (L.i 0)
def rdown.enc (r : rdown.R) : Eng.Leaves := mkL [r] [] [] []
noncomputable def rdown.K (N : Nat) : FCfg := { anns := [], unr := [], lits := [], lets := [] }
noncomputable def rdown.F (N : Nat) (a : Int) (b : Int) : Option rdown.R :=
  (chk (b ≠ (0 : Int))
   (chk (b ≠ (0 : Int))
   (br (decide (a.tmod b < (0 : Int)))
   (some (IntKind.i64.wrap (IntKind.i64.wrap (a.tdiv b) - (1 : Int))))
   (some (IntKind.i64.wrap (a.tdiv b))))))
theorem rdown.F_eq (N : Nat) (L : Eng.Leaves) : evSig (rdown.C N) (rdown.K N) 0 Try.f46 rdown.sig L rdown.dec = rdown.F N (L.i 0) (L.i 1) := by
  kernel_rfl
noncomputable def rdown.spec : Eng.Spec := rdown.sig.spec (fun N L => rdown.F N (L.i 0) (L.i 1)) rdown.enc
theorem rdown.cok (N : Nat) : CfgOK (rdown.C N) := ⟨fun _ _ _ _ h => by simp [rdown.C, noRT] at h, wide, by
  simp only [rdown.C, List.mem_cons, List.not_mem_nil, or_false, forall_eq_or_imp, forall_eq, false_imp_iff, implies_true], fun g hg => by simp [rdown.C] at hg, fun m hm => by simp [rdown.C] at hm, fun q hq => by simp [rdown.C] at hq⟩
theorem rdown.aok (N : Nat) : AnnsOK (rdown.K N) := by
  intro q hq
  simp only [rdown.K, List.mem_cons, List.not_mem_nil, or_false] at hq
theorem rdown.ok : CallOK Try.prog 46 rdown.spec :=
  callOK_of_sig (fn := Try.f46) (Cf := rdown.C) (K := rdown.K) (d := 0) (dec := rdown.dec) (by kernel_rfl) (fun _ => rfl) rdown.cok (fun _ q hq => by simp [rdown.C] at hq) rdown.aok
   (fun N L r h => (rdown.F_eq N L).trans h) (by kernel_rfl) (fun _ => ⟨rfl, rfl⟩) (fun _ _ => ⟨rfl, rfl⟩)
noncomputable def rfill.sig : Eng.Sig := { args := [.at (.roi .i64 0), .at (.int .i64 0)], n := 0, pre := [], post := [(0, .ints true .i64 0)], m := 1, ret := .at (.full 0 false) }
noncomputable def rfill.C (N : Nat) : Cfg := { P := Try.prog, N := N, RT := noRT, specs := [(45, rsqrt.spec), (46, rdown.spec)], inl := [], hi := 0, mv := [] }
abbrev rfill.R : Type := List Int
def rfill.dec (L : Eng.Leaves) : rfill.R := (L.l 0)
def rfill.enc (r : rfill.R) : Eng.Leaves := mkL [] [] [r] []
abbrev rfill.loop3.R : Type := Int
noncomputable def rfill.loop3.ann : Ann := { nx := 20, slots := [(0, .at (.froi .i64 0)), (5, .at (.int .i64 0)), (6, .at (.int .i64 1))], blks := [], mov := [], exId := 0, xslots := [(5, .at (.int .i64 0))], xblks := [], T := rfill.loop3.R, dec := fun L => (L.i 0), enc := fun r => mkL [r] [] [] [], ret := false }
abbrev rfill.loop12.R : Type := List Int
noncomputable def rfill.loop12.ann : Ann := { nx := 21, slots := [(0, .at (.froi .i64 0)), (1, .at (.fint .i64 0)), (7, .at (.full 20 true)), (8, .at (.fint .i64 1)), (9, .at (.fint .i64 2)), (10, .at (.int .i64 0))], blks := [(20, .ints true .i64 0)], mov := [], exId := 2, xslots := [(7, .at (.full 20 true))], xblks := [(20, .ints true .i64 0)], T := rfill.loop12.R, dec := fun L => (L.l 0), enc := fun r => mkL [] [] [r] [], ret := false }
noncomputable def rfill.K (N : Nat) : FCfg := { anns := [(3, rfill.loop3.ann), (12, rfill.loop12.ann)], unr := [], lits := [], lets := [38] }
noncomputable def rfill.loop12 (N : Nat) : Nat → Int → Int → Int → List Int → Int → List Int → Option rfill.loop12.R
  | 0, _, _, _, _, _, _ => none
  | nn + 1, size, s8, s9, y, s10, l20 =>
  (br (decide (s10 < ↑y.length))
   (chk ((0 : Int) ≤ s10 ∧ s10 < ↑y.length)
   (obind (Rc.rdown.F N (IntKind.i64.wrap (IntKind.i64.wrap (size * y.getD s10.toNat (0 : Int)) * s9)) s8) fun r0 =>
   (chk ((0 : Int) ≤ s10 ∧ s10 < ↑l20.length)
   (chkL y y
   (chkI size size
   (chkI s8 s8
   (chkI s9 s9
   (rfill.loop12 N nn size s8 s9 y (IntKind.i64.wrap (s10 + (1 : Int))) (l20.set s10.toNat r0)))))))))
   (some l20))
noncomputable def rfill.loop12R (N nn : Nat) (size : Int) (s8 : Int) (s9 : Int) (y : List Int) (s10 : Int) (l20 : List Int) : Option rfill.loop12.R := loopF rfill.loop12.ann (mkL [size, s8, s9] [] [y] []) (evCode ((rfill.C N).inLoop rfill.loop12.ann) (rfill.K N) (inlTab (rfill.C N) 0) (bodyAt 12 Try.f22)) nn (mkL [s10] [] [l20] [])
theorem rfill.loop12_eq (N : Nat) : ∀ (nn : Nat) (size : Int) (s8 : Int) (s9 : Int) (y : List Int) (s10 : Int) (l20 : List Int), rfill.loop12R N nn size s8 s9 y s10 l20 = rfill.loop12 N nn size s8 s9 y s10 l20
  | 0, _, _, _, _, _, _ => by kernel_rfl
  | nn + 1, size, s8, s9, y, s10, l20 => by
    have h : rfill.loop12R N (nn + 1) size s8 s9 y s10 l20 =
  (br (decide (s10 < ↑y.length))
   (chk ((0 : Int) ≤ s10 ∧ s10 < ↑y.length)
   (obind (Rc.rdown.F N (IntKind.i64.wrap (IntKind.i64.wrap (size * y.getD s10.toNat (0 : Int)) * s9)) s8) fun r0 =>
   (chk ((0 : Int) ≤ s10 ∧ s10 < ↑l20.length)
   (chkL y y
   (chkI size size
   (chkI s8 s8
   (chkI s9 s9
   (rfill.loop12R N nn size s8 s9 y (IntKind.i64.wrap (s10 + (1 : Int))) (l20.set s10.toNat r0)))))))))
   (some l20)) := by kernel_rfl
    rw [h, rfill.loop12]
    try simp only [rfill.loop12_eq N nn]
noncomputable def rfill.loop3 (N : Nat) : Nat → List Int → Int → Int → Option rfill.loop3.R
  | 0, _, _, _ => none
  | nn + 1, y, s5, s6 =>
  (br (decide (s6 < ↑y.length))
   (chk ((0 : Int) ≤ s6 ∧ s6 < ↑y.length)
   (chk ((0 : Int) ≤ s6 ∧ s6 < ↑y.length)
   (chkL y y
   (rfill.loop3 N nn y (IntKind.i64.wrap (s5 + IntKind.i64.wrap (y.getD s6.toNat (0 : Int) * y.getD s6.toNat (0 : Int)))) (IntKind.i64.wrap (s6 + (1 : Int)))))))
   (some s5))
noncomputable def rfill.loop3R (N nn : Nat) (y : List Int) (s5 : Int) (s6 : Int) : Option rfill.loop3.R := loopF rfill.loop3.ann (mkL [] [] [y] []) (evCode ((rfill.C N).inLoop rfill.loop3.ann) (rfill.K N) (inlTab (rfill.C N) 0) (bodyAt 3 Try.f22)) nn (mkL [s5, s6] [] [] [])
theorem rfill.loop3_eq (N : Nat) : ∀ (nn : Nat) (y : List Int) (s5 : Int) (s6 : Int), rfill.loop3R N nn y s5 s6 = rfill.loop3 N nn y s5 s6
  | 0, _, _, _ => by kernel_rfl
  | nn + 1, y, s5, s6 => by
    have h : rfill.loop3R N (nn + 1) y s5 s6 =
  (br (decide (s6 < ↑y.length))
   (chk ((0 : Int) ≤ s6 ∧ s6 < ↑y.length)
   (chk ((0 : Int) ≤ s6 ∧ s6 < ↑y.length)
   (chkL y y
   (rfill.loop3R N nn y (IntKind.i64.wrap (s5 + IntKind.i64.wrap (y.getD s6.toNat (0 : Int) * y.getD s6.toNat (0 : Int)))) (IntKind.i64.wrap (s6 + (1 : Int)))))))
   (some s5)) := by kernel_rfl
    rw [h, rfill.loop3]
    try simp only [rfill.loop3_eq N nn]
noncomputable def rfill.F (N : Nat) (size : Int) (y : List Int) : Option rfill.R :=
  (obind (rfill.loop3 N N y ((0 : Int)) ((0 : Int))) fun r0 =>
   (chk ((0 : Int) ≤ ↑y.length ∧ (y.length : Int) ≤ ↑y.length ∧ (y.length : Int) ≤ ↑(17592186043904 : Nat))
   (br (r0 == (0 : Int))
   (some (List.replicate (↑y.length : Int).toNat (0 : Int)))
   (obind (Rc.rsqrt.F N (IntKind.i64.wrap (r0 * (2 : Int) ^ min (Int.toNat (20 : Int)) IntKind.i64.bits))) fun r1 =>
   (ltI (↑y.length) fun x2 =>
   (obind (Rc.rsqrt.F N (IntKind.i64.wrap (x2 * (2 : Int) ^ min (Int.toNat (20 : Int)) IntKind.i64.bits))) fun r3 =>
   (obind (rfill.loop12 N N size r1 r3 y ((0 : Int)) (List.replicate (↑y.length : Int).toNat (0 : Int))) fun r4 =>
   (some r4))))))))
theorem rfill.F_eq (N : Nat) (L : Eng.Leaves) : evSig (rfill.C N) (rfill.K N) 0 Try.f22 rfill.sig L rfill.dec = rfill.F N (L.i 0) (L.l 0) := by
  have h : ∀ (size : Int) (y : List Int), evSig (rfill.C N) (rfill.K N) 0 Try.f22 rfill.sig (mkL [size] [] [y] []) rfill.dec =
  (obind (rfill.loop3R N N y ((0 : Int)) ((0 : Int))) fun r0 =>
   (chk ((0 : Int) ≤ ↑y.length ∧ (y.length : Int) ≤ ↑y.length ∧ (y.length : Int) ≤ ↑(17592186043904 : Nat))
   (br (r0 == (0 : Int))
   (some (List.replicate (↑y.length : Int).toNat (0 : Int)))
   (obind (Rc.rsqrt.F N (IntKind.i64.wrap (r0 * (2 : Int) ^ min (Int.toNat (20 : Int)) IntKind.i64.bits))) fun r1 =>
   (ltI (↑y.length) fun x2 =>
   (obind (Rc.rsqrt.F N (IntKind.i64.wrap (x2 * (2 : Int) ^ min (Int.toNat (20 : Int)) IntKind.i64.bits))) fun r3 =>
   (obind (rfill.loop12R N N size r1 r3 y ((0 : Int)) (List.replicate (↑y.length : Int).toNat (0 : Int))) fun r4 =>
   (some r4)))))))) := by
    intro size y
    kernel_rfl
  have h2 : evSig (rfill.C N) (rfill.K N) 0 Try.f22 rfill.sig L rfill.dec = evSig (rfill.C N) (rfill.K N) 0 Try.f22 rfill.sig (mkL [L.i 0] [] [L.l 0] []) rfill.dec := by kernel_rfl
  rw [h2, h, rfill.F]
  try simp only [rfill.loop3_eq N, rfill.loop12_eq N]
noncomputable def rfill.spec : Eng.Spec := rfill.sig.spec (fun N L => rfill.F N (L.i 0) (L.l 0)) rfill.enc
theorem rfill.cok (N : Nat) : CfgOK (rfill.C N) := ⟨fun _ _ _ _ h => by simp [rfill.C, noRT] at h, wide, by
  simp only [rfill.C, List.mem_cons, List.not_mem_nil, or_false, forall_eq_or_imp, forall_eq, false_imp_iff, implies_true]
  exact ⟨⟨rsqrt.ok, by kernel_rfl⟩, ⟨rdown.ok, by kernel_rfl⟩⟩, fun g hg => by simp [rfill.C] at hg, fun m hm => by simp [rfill.C] at hm, fun q hq => by simp [rfill.C] at hq⟩
theorem rfill.aok (N : Nat) : AnnsOK (rfill.K N) := by
  intro q hq
  simp only [rfill.K, List.mem_cons, List.not_mem_nil, or_false] at hq
  rcases hq with rfl | rfl
  · exact fun _ _ => ⟨rfl, rfl⟩
  · exact fun _ _ => ⟨rfl, rfl⟩
theorem rfill.ok : CallOK Try.prog 22 rfill.spec :=
  callOK_of_sig (fn := Try.f22) (Cf := rfill.C) (K := rfill.K) (d := 0) (dec := rfill.dec) (by kernel_rfl) (fun _ => rfl) rfill.cok (fun _ q hq => by simp [rfill.C] at hq) rfill.aok
   (fun N L r h => (rfill.F_eq N L).trans h) (by kernel_rfl) (fun _ => ⟨rfl, rfl⟩) (fun _ _ => ⟨rfl, rfl⟩)
noncomputable def rhush.sig : Eng.Sig := { args := [.at (.int .i64 0), .at (.int .i64 1), .at (.ptr 0 0)], n := 1, pre := [(0, .cells 1 [.int .u32 2])], post := [(0, .cells 1 [.int .u32 0]), (1, .ints true .i64 0)], m := 1, ret := .at (.full 1 false) }
noncomputable def rhush.C (N : Nat) : Cfg := { P := Try.prog, N := N, RT := noRT, specs := [(44, rclamp.spec), (21, rsign.spec)], inl := [], hi := 1, mv := [] }
abbrev rhush.R : Type := Int × List Int
def rhush.dec (L : Eng.Leaves) : rhush.R := (L.i 0, L.l 0)
def rhush.enc (r : rhush.R) : Eng.Leaves := mkL [r.1] [] [r.2] []
abbrev rhush.loop4.R : Type := Int × List Int
noncomputable def rhush.loop4.ann : Ann := { nx := 21, slots := [(0, .at (.fint .i64 0)), (2, .at (.ptr 0 0)), (7, .at (.fint .i64 1)), (8, .at (.full 20 false)), (9, .at (.int .i64 0))], blks := [(0, .cells 1 [.int .u32 1]), (20, .ints true .i64 0)], mov := [20], exId := 0, xslots := [(2, .at (.ptr 0 0)), (8, .at (.full 20 false))], xblks := [(0, .cells 1 [.int .u32 0]), (20, .ints true .i64 0)], T := rhush.loop4.R, dec := fun L => (L.i 0, L.l 0), enc := fun r => mkL [r.1] [] [r.2] [], ret := false }
noncomputable def rhush.K (N : Nat) : FCfg := { anns := [(4, rhush.loop4.ann)], unr := [], lits := [], lets := [] }
noncomputable def rhush.loop4 (N : Nat) : Nat → Int → Int → Int → Int → List Int → Option rhush.loop4.R
  | 0, _, _, _, _, _ => none
  | nn + 1, n, s7, s9, s_Seed, s8 =>
  (br (decide (s9 < n))
   (br (decide (n ≤ (1000 : Int)))
   (obind (Rc.rsign.F N s_Seed) fun r0 =>
   (chk (s8.length + [IntKind.i64.wrap (r0.fst * s7)].length ≤ (17592186043904 : Nat))
   (chkI n n
   (chkI s7 s7
   (rhush.loop4 N nn n s7 (IntKind.i64.wrap (s9 + (1 : Int))) r0.snd (s8 ++ [IntKind.i64.wrap (r0.fst * s7)]))))))
   (some ((s_Seed, s8))))
   (some ((s_Seed, s8))))
noncomputable def rhush.loop4R (N nn : Nat) (n : Int) (s7 : Int) (s9 : Int) (s_Seed : Int) (s8 : List Int) : Option rhush.loop4.R := loopF rhush.loop4.ann (mkL [n, s7] [] [] []) (evCode ((rhush.C N).inLoop rhush.loop4.ann) (rhush.K N) (inlTab (rhush.C N) 0) (bodyAt 4 Try.f19)) nn (mkL [s9, s_Seed] [] [s8] [])
theorem rhush.loop4_eq (N : Nat) : ∀ (nn : Nat) (n : Int) (s7 : Int) (s9 : Int) (s_Seed : Int) (s8 : List Int), rhush.loop4R N nn n s7 s9 s_Seed s8 = rhush.loop4 N nn n s7 s9 s_Seed s8
  | 0, _, _, _, _, _ => by kernel_rfl
  | nn + 1, n, s7, s9, s_Seed, s8 => by
    have h : rhush.loop4R N (nn + 1) n s7 s9 s_Seed s8 =
  (br (decide (s9 < n))
   (br (decide (n ≤ (1000 : Int)))
   (obind (Rc.rsign.F N s_Seed) fun r0 =>
   (chk (s8.length + [IntKind.i64.wrap (r0.fst * s7)].length ≤ (17592186043904 : Nat))
   (chkI n n
   (chkI s7 s7
   (rhush.loop4R N nn n s7 (IntKind.i64.wrap (s9 + (1 : Int))) r0.snd (s8 ++ [IntKind.i64.wrap (r0.fst * s7)]))))))
   (some ((s_Seed, s8))))
   (some ((s_Seed, s8)))) := by kernel_rfl
    rw [h, rhush.loop4]
    try simp only [rhush.loop4_eq N nn]
noncomputable def rhush.F (N : Nat) (n : Int) (size : Int) (s_Seed : Int) : Option rhush.R :=
  (obind (Rc.rclamp.F N size ((0 : Int)) ((33554432 : Int))) fun r0 =>
   (obind (rhush.loop4 N N n (IntKind.i64.wrap ((IntKind.i64.wrap (r0 + (1 : Int))).tdiv (2 : Int))) ((0 : Int)) s_Seed (([] : List Int))) fun r1 =>
   (some ((r1.fst, r1.snd)))))
theorem rhush.F_eq (N : Nat) (L : Eng.Leaves) : evSig (rhush.C N) (rhush.K N) 0 Try.f19 rhush.sig L rhush.dec = rhush.F N (L.i 0) (L.i 1) (L.i 2) := by
  have h : ∀ (n : Int) (size : Int) (s_Seed : Int), evSig (rhush.C N) (rhush.K N) 0 Try.f19 rhush.sig (mkL [n, size, s_Seed] [] [] []) rhush.dec =
  (obind (Rc.rclamp.F N size ((0 : Int)) ((33554432 : Int))) fun r0 =>
   (obind (rhush.loop4R N N n (IntKind.i64.wrap ((IntKind.i64.wrap (r0 + (1 : Int))).tdiv (2 : Int))) ((0 : Int)) s_Seed (([] : List Int))) fun r1 =>
   (some ((r1.fst, r1.snd))))) := by
    intro n size s_Seed
    kernel_rfl
  have h2 : evSig (rhush.C N) (rhush.K N) 0 Try.f19 rhush.sig L rhush.dec = evSig (rhush.C N) (rhush.K N) 0 Try.f19 rhush.sig (mkL [L.i 0, L.i 1, L.i 2] [] [] []) rhush.dec := by kernel_rfl
  rw [h2, h, rhush.F]
  try simp only [rhush.loop4_eq N]
noncomputable def rhush.spec : Eng.Spec := rhush.sig.spec (fun N L => rhush.F N (L.i 0) (L.i 1) (L.i 2)) rhush.enc
theorem rhush.cok (N : Nat) : CfgOK (rhush.C N) := ⟨fun _ _ _ _ h => by simp [rhush.C, noRT] at h, wide, by
  simp only [rhush.C, List.mem_cons, List.not_mem_nil, or_false, forall_eq_or_imp, forall_eq, false_imp_iff, implies_true]
  exact ⟨⟨rclamp.ok, by kernel_rfl⟩, ⟨rsign.ok, by kernel_rfl⟩⟩, fun g hg => by simp [rhush.C] at hg, fun m hm => by simp [rhush.C] at hm, fun q hq => by simp [rhush.C] at hq⟩
theorem rhush.aok (N : Nat) : AnnsOK (rhush.K N) := by
  intro q hq
  simp only [rhush.K, List.mem_cons, List.not_mem_nil, or_false] at hq
  subst hq
  exact fun _ _ => ⟨rfl, rfl⟩
theorem rhush.ok : CallOK Try.prog 19 rhush.spec :=
  callOK_of_sig (fn := Try.f19) (Cf := rhush.C) (K := rhush.K) (d := 0) (dec := rhush.dec) (by kernel_rfl) (fun _ => rfl) rhush.cok (fun _ q hq => by simp [rhush.C] at hq) rhush.aok
   (fun N L r h => (rhush.F_eq N L).trans h) (by kernel_rfl) (fun _ => ⟨rfl, rfl⟩) (fun _ _ => ⟨rfl, rfl⟩)
noncomputable def rpieces.sig : Eng.Sig := { args := [.at (.int .i64 0)], n := 0, pre := [], post := [(0, .ints true .i64 0)], m := 1, ret := .at (.full 0 false) }
noncomputable def rpieces.C (N : Nat) : Cfg := { P := Try.prog, N := N, RT := noRT, specs := [], inl := [], hi := 0, mv := [] }
abbrev rpieces.R : Type := List Int
def rpieces.dec (L : Eng.Leaves) : rpieces.R := (L.l 0)
def rpieces.enc (r : rpieces.R) : Eng.Leaves := mkL [] [] [r] []
abbrev rpieces.loop6.R : Type := List Int
noncomputable def rpieces.loop6.ann : Ann := { nx := 21, slots := [(0, .at (.fint .i64 0)), (3, .at (.fint .i64 1)), (4, .at (.full 20 false)), (5, .at (.int .i64 0))], blks := [(20, .ints true .i64 0)], mov := [20], exId := 0, xslots := [(4, .at (.full 20 false))], xblks := [(20, .ints true .i64 0)], T := rpieces.loop6.R, dec := fun L => (L.l 0), enc := fun r => mkL [] [] [r] [], ret := false }
noncomputable def rpieces.K (N : Nat) : FCfg := { anns := [(6, rpieces.loop6.ann)], unr := [], lits := [], lets := [] }
noncomputable def rpieces.loop6 (N : Nat) : Nat → Int → Int → Int → List Int → Option rpieces.loop6.R
  | 0, _, _, _, _ => none
  | nn + 1, n, s3, s5, s4 =>
  (br (decide (s5 < s3))
   (chk (s3 ≠ (0 : Int))
   (chk (s3 ≠ (0 : Int))
   (chk (s4.length + [IntKind.i64.wrap (IntKind.i64.wrap ((IntKind.i64.wrap (IntKind.i64.wrap (s5 + (1 : Int)) * n)).tdiv s3) - IntKind.i64.wrap ((IntKind.i64.wrap (s5 * n)).tdiv s3))].length ≤ (17592186043904 : Nat))
   (chkI n n
   (chkI s3 s3
   (rpieces.loop6 N nn n s3 (IntKind.i64.wrap (s5 + (1 : Int))) (s4 ++ [IntKind.i64.wrap (IntKind.i64.wrap ((IntKind.i64.wrap (IntKind.i64.wrap (s5 + (1 : Int)) * n)).tdiv s3) - IntKind.i64.wrap ((IntKind.i64.wrap (s5 * n)).tdiv s3))])))))))
   (some s4))
noncomputable def rpieces.loop6R (N nn : Nat) (n : Int) (s3 : Int) (s5 : Int) (s4 : List Int) : Option rpieces.loop6.R := loopF rpieces.loop6.ann (mkL [n, s3] [] [] []) (evCode ((rpieces.C N).inLoop rpieces.loop6.ann) (rpieces.K N) (inlTab (rpieces.C N) 0) (bodyAt 6 Try.f54)) nn (mkL [s5] [] [s4] [])
theorem rpieces.loop6_eq (N : Nat) : ∀ (nn : Nat) (n : Int) (s3 : Int) (s5 : Int) (s4 : List Int), rpieces.loop6R N nn n s3 s5 s4 = rpieces.loop6 N nn n s3 s5 s4
  | 0, _, _, _, _ => by kernel_rfl
  | nn + 1, n, s3, s5, s4 => by
    have h : rpieces.loop6R N (nn + 1) n s3 s5 s4 =
  (br (decide (s5 < s3))
   (chk (s3 ≠ (0 : Int))
   (chk (s3 ≠ (0 : Int))
   (chk (s4.length + [IntKind.i64.wrap (IntKind.i64.wrap ((IntKind.i64.wrap (IntKind.i64.wrap (s5 + (1 : Int)) * n)).tdiv s3) - IntKind.i64.wrap ((IntKind.i64.wrap (s5 * n)).tdiv s3))].length ≤ (17592186043904 : Nat))
   (chkI n n
   (chkI s3 s3
   (rpieces.loop6R N nn n s3 (IntKind.i64.wrap (s5 + (1 : Int))) (s4 ++ [IntKind.i64.wrap (IntKind.i64.wrap ((IntKind.i64.wrap (IntKind.i64.wrap (s5 + (1 : Int)) * n)).tdiv s3) - IntKind.i64.wrap ((IntKind.i64.wrap (s5 * n)).tdiv s3))])))))))
   (some s4)) := by kernel_rfl
    rw [h, rpieces.loop6]
    try simp only [rpieces.loop6_eq N nn]
noncomputable def rpieces.F (N : Nat) (n : Int) : Option rpieces.R :=
  (br (decide (n < (1 : Int)))
   (some (([] : List Int)))
   (br (decide (n > (1000 : Int)))
   (some (([] : List Int)))
   (obind (rpieces.loop6 N N n (IntKind.i64.wrap ((IntKind.i64.wrap (n + (15 : Int))).tdiv (16 : Int))) ((0 : Int)) (([] : List Int))) fun r0 =>
   (some r0))))
theorem rpieces.F_eq (N : Nat) (L : Eng.Leaves) : evSig (rpieces.C N) (rpieces.K N) 0 Try.f54 rpieces.sig L rpieces.dec = rpieces.F N (L.i 0) := by
  have h : ∀ (n : Int), evSig (rpieces.C N) (rpieces.K N) 0 Try.f54 rpieces.sig (mkL [n] [] [] []) rpieces.dec =
  (br (decide (n < (1 : Int)))
   (some (([] : List Int)))
   (br (decide (n > (1000 : Int)))
   (some (([] : List Int)))
   (obind (rpieces.loop6R N N n (IntKind.i64.wrap ((IntKind.i64.wrap (n + (15 : Int))).tdiv (16 : Int))) ((0 : Int)) (([] : List Int))) fun r0 =>
   (some r0)))) := by
    intro n
    kernel_rfl
  have h2 : evSig (rpieces.C N) (rpieces.K N) 0 Try.f54 rpieces.sig L rpieces.dec = evSig (rpieces.C N) (rpieces.K N) 0 Try.f54 rpieces.sig (mkL [L.i 0] [] [] []) rpieces.dec := by kernel_rfl
  rw [h2, h, rpieces.F]
  try simp only [rpieces.loop6_eq N]
noncomputable def rpieces.spec : Eng.Spec := rpieces.sig.spec (fun N L => rpieces.F N (L.i 0)) rpieces.enc
theorem rpieces.cok (N : Nat) : CfgOK (rpieces.C N) := ⟨fun _ _ _ _ h => by simp [rpieces.C, noRT] at h, wide, by
  simp only [rpieces.C, List.mem_cons, List.not_mem_nil, or_false, forall_eq_or_imp, forall_eq, false_imp_iff, implies_true], fun g hg => by simp [rpieces.C] at hg, fun m hm => by simp [rpieces.C] at hm, fun q hq => by simp [rpieces.C] at hq⟩
theorem rpieces.aok (N : Nat) : AnnsOK (rpieces.K N) := by
  intro q hq
  simp only [rpieces.K, List.mem_cons, List.not_mem_nil, or_false] at hq
  subst hq
  exact fun _ _ => ⟨rfl, rfl⟩
theorem rpieces.ok : CallOK Try.prog 54 rpieces.spec :=
  callOK_of_sig (fn := Try.f54) (Cf := rpieces.C) (K := rpieces.K) (d := 0) (dec := rpieces.dec) (by kernel_rfl) (fun _ => rfl) rpieces.cok (fun _ q hq => by simp [rpieces.C] at hq) rpieces.aok
   (fun N L r h => (rpieces.F_eq N L).trans h) (by kernel_rfl) (fun _ => ⟨rfl, rfl⟩) (fun _ _ => ⟨rfl, rfl⟩)
noncomputable def rsplit.sig : Eng.Sig := { args := [.at (.int .i64 0), .at (.int .i64 1)], n := 0, pre := [], post := [(0, .ints true .i64 0)], m := 1, ret := .at (.full 0 false) }
noncomputable def rsplit.C (N : Nat) : Cfg := { P := Try.prog, N := N, RT := noRT, specs := [(44, rclamp.spec), (54, rpieces.spec)], inl := [], hi := 0, mv := [] }
abbrev rsplit.R : Type := List Int
def rsplit.dec (L : Eng.Leaves) : rsplit.R := (L.l 0)
def rsplit.enc (r : rsplit.R) : Eng.Leaves := mkL [] [] [r] []
abbrev rsplit.loop5.R : Type := List Int
noncomputable def rsplit.loop5.ann : Ann := { nx := 21, slots := [(5, .at (.fint .i64 0)), (6, .at (.fint .i64 1)), (7, .at (.full 20 false)), (8, .at (.int .i64 0))], blks := [(20, .ints true .i64 0)], mov := [20], exId := 0, xslots := [(7, .at (.full 20 false))], xblks := [(20, .ints true .i64 0)], T := rsplit.loop5.R, dec := fun L => (L.l 0), enc := fun r => mkL [] [] [r] [], ret := false }
noncomputable def rsplit.K (N : Nat) : FCfg := { anns := [(5, rsplit.loop5.ann)], unr := [], lits := [], lets := [] }
noncomputable def rsplit.loop5 (N : Nat) : Nat → Int → Int → Int → List Int → Option rsplit.loop5.R
  | 0, _, _, _, _ => none
  | nn + 1, s5, s6, s8, s7 =>
  (br (decide (s8 < s6))
   (chk (s6 ≠ (0 : Int))
   (chk (s6 ≠ (0 : Int))
   (br (decide (s8 < s5.tmod s6))
   (chk (s7.length + [IntKind.i64.wrap (IntKind.i64.wrap (s5.tdiv s6) + (1 : Int))].length ≤ (17592186043904 : Nat))
   (chkI s5 s5
   (chkI s6 s6
   (rsplit.loop5 N nn s5 s6 (IntKind.i64.wrap (s8 + (1 : Int))) (s7 ++ [IntKind.i64.wrap (IntKind.i64.wrap (s5.tdiv s6) + (1 : Int))])))))
   (chk (s7.length + [IntKind.i64.wrap (s5.tdiv s6)].length ≤ (17592186043904 : Nat))
   (chkI s5 s5
   (chkI s6 s6
   (rsplit.loop5 N nn s5 s6 (IntKind.i64.wrap (s8 + (1 : Int))) (s7 ++ [IntKind.i64.wrap (s5.tdiv s6)]))))))))
   (some s7))
noncomputable def rsplit.loop5R (N nn : Nat) (s5 : Int) (s6 : Int) (s8 : Int) (s7 : List Int) : Option rsplit.loop5.R := loopF rsplit.loop5.ann (mkL [s5, s6] [] [] []) (evCode ((rsplit.C N).inLoop rsplit.loop5.ann) (rsplit.K N) (inlTab (rsplit.C N) 0) (bodyAt 5 Try.f55)) nn (mkL [s8] [] [s7] [])
theorem rsplit.loop5_eq (N : Nat) : ∀ (nn : Nat) (s5 : Int) (s6 : Int) (s8 : Int) (s7 : List Int), rsplit.loop5R N nn s5 s6 s8 s7 = rsplit.loop5 N nn s5 s6 s8 s7
  | 0, _, _, _, _ => by kernel_rfl
  | nn + 1, s5, s6, s8, s7 => by
    have h : rsplit.loop5R N (nn + 1) s5 s6 s8 s7 =
  (br (decide (s8 < s6))
   (chk (s6 ≠ (0 : Int))
   (chk (s6 ≠ (0 : Int))
   (br (decide (s8 < s5.tmod s6))
   (chk (s7.length + [IntKind.i64.wrap (IntKind.i64.wrap (s5.tdiv s6) + (1 : Int))].length ≤ (17592186043904 : Nat))
   (chkI s5 s5
   (chkI s6 s6
   (rsplit.loop5R N nn s5 s6 (IntKind.i64.wrap (s8 + (1 : Int))) (s7 ++ [IntKind.i64.wrap (IntKind.i64.wrap (s5.tdiv s6) + (1 : Int))])))))
   (chk (s7.length + [IntKind.i64.wrap (s5.tdiv s6)].length ≤ (17592186043904 : Nat))
   (chkI s5 s5
   (chkI s6 s6
   (rsplit.loop5R N nn s5 s6 (IntKind.i64.wrap (s8 + (1 : Int))) (s7 ++ [IntKind.i64.wrap (s5.tdiv s6)]))))))))
   (some s7)) := by kernel_rfl
    rw [h, rsplit.loop5]
    try simp only [rsplit.loop5_eq N nn]
noncomputable def rsplit.F (N : Nat) (n : Int) (bits : Int) : Option rsplit.R :=
  (obind (Rc.rclamp.F N bits ((0 : Int)) ((1048576 : Int))) fun r0 =>
   (obind (Rc.rpieces.F N n) fun r1 =>
   (obind (rsplit.loop5 N N r0 (↑r1.length) ((0 : Int)) (([] : List Int))) fun r2 =>
   (some r2))))
theorem rsplit.F_eq (N : Nat) (L : Eng.Leaves) : evSig (rsplit.C N) (rsplit.K N) 0 Try.f55 rsplit.sig L rsplit.dec = rsplit.F N (L.i 0) (L.i 1) := by
  have h : ∀ (n : Int) (bits : Int), evSig (rsplit.C N) (rsplit.K N) 0 Try.f55 rsplit.sig (mkL [n, bits] [] [] []) rsplit.dec =
  (obind (Rc.rclamp.F N bits ((0 : Int)) ((1048576 : Int))) fun r0 =>
   (obind (Rc.rpieces.F N n) fun r1 =>
   (obind (rsplit.loop5R N N r0 (↑r1.length) ((0 : Int)) (([] : List Int))) fun r2 =>
   (some r2)))) := by
    intro n bits
    kernel_rfl
  have h2 : evSig (rsplit.C N) (rsplit.K N) 0 Try.f55 rsplit.sig L rsplit.dec = evSig (rsplit.C N) (rsplit.K N) 0 Try.f55 rsplit.sig (mkL [L.i 0, L.i 1] [] [] []) rsplit.dec := by kernel_rfl
  rw [h2, h, rsplit.F]
  try simp only [rsplit.loop5_eq N]
noncomputable def rsplit.spec : Eng.Spec := rsplit.sig.spec (fun N L => rsplit.F N (L.i 0) (L.i 1)) rsplit.enc
theorem rsplit.cok (N : Nat) : CfgOK (rsplit.C N) := ⟨fun _ _ _ _ h => by simp [rsplit.C, noRT] at h, wide, by
  simp only [rsplit.C, List.mem_cons, List.not_mem_nil, or_false, forall_eq_or_imp, forall_eq, false_imp_iff, implies_true]
  exact ⟨⟨rclamp.ok, by kernel_rfl⟩, ⟨rpieces.ok, by kernel_rfl⟩⟩, fun g hg => by simp [rsplit.C] at hg, fun m hm => by simp [rsplit.C] at hm, fun q hq => by simp [rsplit.C] at hq⟩
theorem rsplit.aok (N : Nat) : AnnsOK (rsplit.K N) := by
  intro q hq
  simp only [rsplit.K, List.mem_cons, List.not_mem_nil, or_false] at hq
  subst hq
  exact fun _ _ => ⟨rfl, rfl⟩
theorem rsplit.ok : CallOK Try.prog 55 rsplit.spec :=
  callOK_of_sig (fn := Try.f55) (Cf := rsplit.C) (K := rsplit.K) (d := 0) (dec := rsplit.dec) (by kernel_rfl) (fun _ => rfl) rsplit.cok (fun _ q hq => by simp [rsplit.C] at hq) rsplit.aok
   (fun N L r h => (rsplit.F_eq N L).trans h) (by kernel_rfl) (fun _ => ⟨rfl, rfl⟩) (fun _ _ => ⟨rfl, rfl⟩)
noncomputable def rpaid.sig : Eng.Sig := { args := [.at (.int .i64 0), .at (.int .i64 1)], n := 0, pre := [], post := [], m := 0, ret := .at (.int .i64 0) }
noncomputable def rpaid.C (N : Nat) : Cfg := { P := Try.prog, N := N, RT := noRT, specs := [(76, qmost.spec), (60, qcount.spec), (61, rlen.spec)], inl := [], hi := 0, mv := [] }
abbrev rpaid.R : Type := Int
def rpaid.dec (L : Eng.Leaves) : rpaid.R := (L.i 0)
def rpaid.enc (r : rpaid.R) : Eng.Leaves := mkL [r] [] [] []
abbrev rpaid.loop7.R : Type := Int
noncomputable def rpaid.loop7.ann : Ann := { nx := 20, slots := [(0, .at (.fint .i64 0)), (1, .at (.fint .i64 1)), (5, .at (.fint .i64 2)), (6, .at (.int .i64 0))], blks := [], mov := [], exId := 0, xslots := [(6, .at (.int .i64 0))], xblks := [], T := rpaid.loop7.R, dec := fun L => (L.i 0), enc := fun r => mkL [r] [] [] [], ret := false }
noncomputable def rpaid.K (N : Nat) : FCfg := { anns := [(7, rpaid.loop7.ann)], unr := [], lits := [], lets := [] }
noncomputable def rpaid.loop7 (N : Nat) : Nat → Int → Int → Int → Int → Option rpaid.loop7.R
  | 0, _, _, _, _ => none
  | nn + 1, n, bits, s5, s6 =>
  (br (decide (s6 < s5))
   (obind (Rc.qcount.F N n (IntKind.i64.wrap (s6 + (1 : Int)))) fun r0 =>
   (obind (Rc.rlen.F N (IntKind.i64.wrap (r0 - (1 : Int)))) fun r1 =>
   (br (decide (r1 ≤ bits))
   (chkI n n
   (chkI bits bits
   (chkI s5 s5
   (rpaid.loop7 N nn n bits s5 (IntKind.i64.wrap (s6 + (1 : Int)))))))
   (some s6))))
   (some s6))
noncomputable def rpaid.loop7R (N nn : Nat) (n : Int) (bits : Int) (s5 : Int) (s6 : Int) : Option rpaid.loop7.R := loopF rpaid.loop7.ann (mkL [n, bits, s5] [] [] []) (evCode ((rpaid.C N).inLoop rpaid.loop7.ann) (rpaid.K N) (inlTab (rpaid.C N) 0) (bodyAt 7 Try.f56)) nn (mkL [s6] [] [] [])
theorem rpaid.loop7_eq (N : Nat) : ∀ (nn : Nat) (n : Int) (bits : Int) (s5 : Int) (s6 : Int), rpaid.loop7R N nn n bits s5 s6 = rpaid.loop7 N nn n bits s5 s6
  | 0, _, _, _, _ => by kernel_rfl
  | nn + 1, n, bits, s5, s6 => by
    have h : rpaid.loop7R N (nn + 1) n bits s5 s6 =
  (br (decide (s6 < s5))
   (obind (Rc.qcount.F N n (IntKind.i64.wrap (s6 + (1 : Int)))) fun r0 =>
   (obind (Rc.rlen.F N (IntKind.i64.wrap (r0 - (1 : Int)))) fun r1 =>
   (br (decide (r1 ≤ bits))
   (chkI n n
   (chkI bits bits
   (chkI s5 s5
   (rpaid.loop7R N nn n bits s5 (IntKind.i64.wrap (s6 + (1 : Int)))))))
   (some s6))))
   (some s6)) := by kernel_rfl
    rw [h, rpaid.loop7]
    try simp only [rpaid.loop7_eq N nn]
noncomputable def rpaid.F (N : Nat) (n : Int) (bits : Int) : Option rpaid.R :=
  (br (decide (n < (1 : Int)))
   (some ((0 : Int)))
   (br (decide (n > (16 : Int)))
   (some ((0 : Int)))
   (br (decide (bits < (1 : Int)))
   (some ((0 : Int)))
   (obind (Rc.qmost.F N n) fun r0 =>
   (obind (rpaid.loop7 N N n bits r0 ((0 : Int))) fun r1 =>
   (some r1))))))
theorem rpaid.F_eq (N : Nat) (L : Eng.Leaves) : evSig (rpaid.C N) (rpaid.K N) 0 Try.f56 rpaid.sig L rpaid.dec = rpaid.F N (L.i 0) (L.i 1) := by
  have h : ∀ (n : Int) (bits : Int), evSig (rpaid.C N) (rpaid.K N) 0 Try.f56 rpaid.sig (mkL [n, bits] [] [] []) rpaid.dec =
  (br (decide (n < (1 : Int)))
   (some ((0 : Int)))
   (br (decide (n > (16 : Int)))
   (some ((0 : Int)))
   (br (decide (bits < (1 : Int)))
   (some ((0 : Int)))
   (obind (Rc.qmost.F N n) fun r0 =>
   (obind (rpaid.loop7R N N n bits r0 ((0 : Int))) fun r1 =>
   (some r1)))))) := by
    intro n bits
    kernel_rfl
  have h2 : evSig (rpaid.C N) (rpaid.K N) 0 Try.f56 rpaid.sig L rpaid.dec = evSig (rpaid.C N) (rpaid.K N) 0 Try.f56 rpaid.sig (mkL [L.i 0, L.i 1] [] [] []) rpaid.dec := by kernel_rfl
  rw [h2, h, rpaid.F]
  try simp only [rpaid.loop7_eq N]
noncomputable def rpaid.spec : Eng.Spec := rpaid.sig.spec (fun N L => rpaid.F N (L.i 0) (L.i 1)) rpaid.enc
theorem rpaid.cok (N : Nat) : CfgOK (rpaid.C N) := ⟨fun _ _ _ _ h => by simp [rpaid.C, noRT] at h, wide, by
  simp only [rpaid.C, List.mem_cons, List.not_mem_nil, or_false, forall_eq_or_imp, forall_eq, false_imp_iff, implies_true]
  exact ⟨⟨qmost.ok, by kernel_rfl⟩, ⟨qcount.ok, by kernel_rfl⟩, ⟨rlen.ok, by kernel_rfl⟩⟩, fun g hg => by simp [rpaid.C] at hg, fun m hm => by simp [rpaid.C] at hm, fun q hq => by simp [rpaid.C] at hq⟩
theorem rpaid.aok (N : Nat) : AnnsOK (rpaid.K N) := by
  intro q hq
  simp only [rpaid.K, List.mem_cons, List.not_mem_nil, or_false] at hq
  subst hq
  exact fun _ _ => ⟨rfl, rfl⟩
theorem rpaid.ok : CallOK Try.prog 56 rpaid.spec :=
  callOK_of_sig (fn := Try.f56) (Cf := rpaid.C) (K := rpaid.K) (d := 0) (dec := rpaid.dec) (by kernel_rfl) (fun _ => rfl) rpaid.cok (fun _ q hq => by simp [rpaid.C] at hq) rpaid.aok
   (fun N L r h => (rpaid.F_eq N L).trans h) (by kernel_rfl) (fun _ => ⟨rfl, rfl⟩) (fun _ _ => ⟨rfl, rfl⟩)
noncomputable def rband.sig : Eng.Sig := { args := [.at (.ptr 0 0), .at (.int .i64 0), .at (.int .i64 1), .at (.int .i64 2), .at (.ptr 1 0)], n := 2, pre := [(0, .cells 11 [.roi .u8 0, .int .u64 3, .int .u64 4, .int .i64 5, .int .i64 6, .int .i64 7, .int .u64 8, .int .i64 9, .int .i64 10, .bool 0, .int .u64 11]), (1, .cells 1 [.int .u32 12])], post := [(0, .cells 11 [.froi .u8 0, .int .u64 0, .int .u64 1, .int .i64 2, .int .i64 3, .int .i64 4, .int .u64 5, .int .i64 6, .int .i64 7, .bool 0, .int .u64 8]), (1, .cells 1 [.int .u32 9]), (2, .ints true .i64 0)], m := 1, ret := .at (.full 2 false) }
noncomputable def rband.C (N : Nat) : Cfg := { P := Try.prog, N := N, RT := noRT, specs := [(54, rpieces.spec), (55, rsplit.spec), (56, rpaid.spec), (57, rsize.spec), (19, rhush.spec), (60, qcount.spec), (59, ruint.spec), (58, qvector.spec), (22, rfill.spec)], inl := [], hi := 2, mv := [] }
abbrev rband.R : Type := Int × Int × Int × Int × Int × Int × Int × Int × Int × Int × Bool × List Int
def rband.dec (L : Eng.Leaves) : rband.R := (L.i 0, L.i 1, L.i 2, L.i 3, L.i 4, L.i 5, L.i 6, L.i 7, L.i 8, L.i 9, L.b 0, L.l 0)
def rband.enc (r : rband.R) : Eng.Leaves := mkL [r.1, r.2.1, r.2.2.1, r.2.2.2.1, r.2.2.2.2.1, r.2.2.2.2.2.1, r.2.2.2.2.2.2.1, r.2.2.2.2.2.2.2.1, r.2.2.2.2.2.2.2.2.1, r.2.2.2.2.2.2.2.2.2.1] [r.2.2.2.2.2.2.2.2.2.2.1] [r.2.2.2.2.2.2.2.2.2.2.2] []
abbrev rband.loop5.R : Type := Int × Int × Int × Int × Int × Int × Int × Int × Int × Int × Bool × List Int
noncomputable def rband.loop5.ann : Ann := { nx := 21, slots := [(0, .at (.ptr 0 0)), (3, .at (.fint .i64 0)), (4, .at (.ptr 1 0)), (11, .at (.full 2 false)), (12, .at (.full 3 false)), (13, .at (.full 20 false)), (14, .at (.int .i64 0))], blks := [(0, .cells 11 [.froi .u8 0, .int .u64 1, .int .u64 2, .int .i64 3, .int .i64 4, .int .i64 5, .int .u64 6, .int .i64 7, .int .i64 8, .bool 0, .int .u64 9]), (1, .cells 1 [.int .u32 10]), (2, .fints true .i64 1), (3, .fints true .i64 2), (20, .ints true .i64 0)], mov := [20], exId := 0, xslots := [(0, .at (.ptr 0 0)), (4, .at (.ptr 1 0)), (11, .at (.full 2 false)), (12, .at (.full 3 false)), (13, .at (.full 20 false))], xblks := [(0, .cells 11 [.froi .u8 0, .int .u64 0, .int .u64 1, .int .i64 2, .int .i64 3, .int .i64 4, .int .u64 5, .int .i64 6, .int .i64 7, .bool 0, .int .u64 8]), (1, .cells 1 [.int .u32 9]), (2, .fints true .i64 1), (3, .fints true .i64 2), (20, .ints true .i64 0)], T := rband.loop5.R, dec := fun L => (L.i 0, L.i 1, L.i 2, L.i 3, L.i 4, L.i 5, L.i 6, L.i 7, L.i 8, L.i 9, L.b 0, L.l 0), enc := fun r => mkL [r.1, r.2.1, r.2.2.1, r.2.2.2.1, r.2.2.2.2.1, r.2.2.2.2.2.1, r.2.2.2.2.2.2.1, r.2.2.2.2.2.2.2.1, r.2.2.2.2.2.2.2.2.1, r.2.2.2.2.2.2.2.2.2.1] [r.2.2.2.2.2.2.2.2.2.2.1] [r.2.2.2.2.2.2.2.2.2.2.2] [], ret := false }
noncomputable def rband.K (N : Nat) : FCfg := { anns := [(5, rband.loop5.ann)], unr := [], lits := [], lets := [] }
noncomputable def rband.loop5 (N : Nat) : Nat → Int → List Int → List Int → List Int → Int → Int → Int → Int → Int → Int → Int → Int → Int → Int → Int → Bool → List Int → Option rband.loop5.R
  | 0, _, _, _, _, _, _, _, _, _, _, _, _, _, _, _, _, _ => none
  | nn + 1, eqB, b, l2, l3, s14, rng, val, last, front, back, wait, waiting, count, eq, s_Seed, bad, s13 =>
  (br (decide (s14 < ↑l2.length))
   (chk ((0 : Int) ≤ s14 ∧ s14 < ↑l2.length)
   (chk ((0 : Int) ≤ s14 ∧ s14 < ↑l3.length)
   (obind (Rc.rpaid.F N (l2.getD s14.toNat (0 : Int)) (l3.getD s14.toNat (0 : Int))) fun r0 =>
   (br (r0 == (0 : Int))
   (chk ((0 : Int) ≤ s14 ∧ s14 < ↑l2.length)
   (obind (Rc.rsize.F N eqB) fun r1 =>
   (obind (Rc.rhush.F N (l2.getD s14.toNat (0 : Int)) r1 s_Seed) fun r2 =>
   (chk (s13.length + r2.snd.length ≤ (17592186043904 : Nat))
   (chkI (l2.getD s14.toNat (0 : Int)) (l2.getD s14.toNat (0 : Int))
   (chk ((0 : Int) ≤ s14 ∧ s14 < ↑l2.length)
   (chkN s14.toNat s14.toNat
   (chkI eqB eqB
   (chkL b b
   (chkL l2 l2
   (chkL l3 l3
   (rband.loop5 N nn eqB b l2 l3 (IntKind.i64.wrap (s14 + (1 : Int))) rng val last front back wait waiting count eq r2.fst bad (s13 ++ r2.snd)))))))))))))
   (chk ((0 : Int) ≤ s14 ∧ s14 < ↑l2.length)
   (chk ((0 : Int) ≤ s14 ∧ s14 < ↑l2.length)
   (obind (Rc.qcount.F N (l2.getD s14.toNat (0 : Int)) r0) fun r3 =>
   (obind (Rc.ruint.F N r3 rng val last front back wait waiting count eq bad b) fun r4 =>
   (obind (Rc.qvector.F N (l2.getD s14.toNat (0 : Int)) r0 r4.fst) fun r5 =>
   (obind (Rc.rsize.F N eqB) fun r6 =>
   (obind (Rc.rfill.F N r6 r5) fun r7 =>
   (chk (s13.length + r7.length ≤ (17592186043904 : Nat))
   (chkI (l2.getD s14.toNat (0 : Int)) (l2.getD s14.toNat (0 : Int))
   (chkI (l2.getD s14.toNat (0 : Int)) (l2.getD s14.toNat (0 : Int))
   (chk ((0 : Int) ≤ s14 ∧ s14 < ↑l2.length)
   (chkN s14.toNat s14.toNat
   (chk ((0 : Int) ≤ s14 ∧ s14 < ↑l2.length)
   (chkN s14.toNat s14.toNat
   (chkI eqB eqB
   (chkL b b
   (chkL l2 l2
   (chkL l3 l3
   (rband.loop5 N nn eqB b l2 l3 (IntKind.i64.wrap (s14 + (1 : Int))) r4.snd.fst r4.snd.snd.fst r4.snd.snd.snd.fst r4.snd.snd.snd.snd.fst r4.snd.snd.snd.snd.snd.fst r4.snd.snd.snd.snd.snd.snd.fst r4.snd.snd.snd.snd.snd.snd.snd.fst r4.snd.snd.snd.snd.snd.snd.snd.snd.fst r4.snd.snd.snd.snd.snd.snd.snd.snd.snd.fst s_Seed r4.snd.snd.snd.snd.snd.snd.snd.snd.snd.snd (s13 ++ r7))))))))))))))))))))))))
   (chkL b b
   (chkL l2 l2
   (chkL l3 l3
   (some ((rng, val, last, front, back, wait, waiting, count, eq, s_Seed, bad, s13)))))))
noncomputable def rband.loop5R (N nn : Nat) (eqB : Int) (b : List Int) (l2 : List Int) (l3 : List Int) (s14 : Int) (rng : Int) (val : Int) (last : Int) (front : Int) (back : Int) (wait : Int) (waiting : Int) (count : Int) (eq : Int) (s_Seed : Int) (bad : Bool) (s13 : List Int) : Option rband.loop5.R := loopF rband.loop5.ann (mkL [eqB] [] [b, l2, l3] []) (evCode ((rband.C N).inLoop rband.loop5.ann) (rband.K N) (inlTab (rband.C N) 0) (bodyAt 5 Try.f26)) nn (mkL [s14, rng, val, last, front, back, wait, waiting, count, eq, s_Seed] [bad] [s13] [])
theorem rband.loop5_eq (N : Nat) : ∀ (nn : Nat) (eqB : Int) (b : List Int) (l2 : List Int) (l3 : List Int) (s14 : Int) (rng : Int) (val : Int) (last : Int) (front : Int) (back : Int) (wait : Int) (waiting : Int) (count : Int) (eq : Int) (s_Seed : Int) (bad : Bool) (s13 : List Int), rband.loop5R N nn eqB b l2 l3 s14 rng val last front back wait waiting count eq s_Seed bad s13 = rband.loop5 N nn eqB b l2 l3 s14 rng val last front back wait waiting count eq s_Seed bad s13
  | 0, _, _, _, _, _, _, _, _, _, _, _, _, _, _, _, _, _ => by kernel_rfl
  | nn + 1, eqB, b, l2, l3, s14, rng, val, last, front, back, wait, waiting, count, eq, s_Seed, bad, s13 => by
    have h : rband.loop5R N (nn + 1) eqB b l2 l3 s14 rng val last front back wait waiting count eq s_Seed bad s13 =
  (br (decide (s14 < ↑l2.length))
   (chk ((0 : Int) ≤ s14 ∧ s14 < ↑l2.length)
   (chk ((0 : Int) ≤ s14 ∧ s14 < ↑l3.length)
   (obind (Rc.rpaid.F N (l2.getD s14.toNat (0 : Int)) (l3.getD s14.toNat (0 : Int))) fun r0 =>
   (br (r0 == (0 : Int))
   (chk ((0 : Int) ≤ s14 ∧ s14 < ↑l2.length)
   (obind (Rc.rsize.F N eqB) fun r1 =>
   (obind (Rc.rhush.F N (l2.getD s14.toNat (0 : Int)) r1 s_Seed) fun r2 =>
   (chk (s13.length + r2.snd.length ≤ (17592186043904 : Nat))
   (chkI (l2.getD s14.toNat (0 : Int)) (l2.getD s14.toNat (0 : Int))
   (chk ((0 : Int) ≤ s14 ∧ s14 < ↑l2.length)
   (chkN s14.toNat s14.toNat
   (chkI eqB eqB
   (chkL b b
   (chkL l2 l2
   (chkL l3 l3
   (rband.loop5R N nn eqB b l2 l3 (IntKind.i64.wrap (s14 + (1 : Int))) rng val last front back wait waiting count eq r2.fst bad (s13 ++ r2.snd)))))))))))))
   (chk ((0 : Int) ≤ s14 ∧ s14 < ↑l2.length)
   (chk ((0 : Int) ≤ s14 ∧ s14 < ↑l2.length)
   (obind (Rc.qcount.F N (l2.getD s14.toNat (0 : Int)) r0) fun r3 =>
   (obind (Rc.ruint.F N r3 rng val last front back wait waiting count eq bad b) fun r4 =>
   (obind (Rc.qvector.F N (l2.getD s14.toNat (0 : Int)) r0 r4.fst) fun r5 =>
   (obind (Rc.rsize.F N eqB) fun r6 =>
   (obind (Rc.rfill.F N r6 r5) fun r7 =>
   (chk (s13.length + r7.length ≤ (17592186043904 : Nat))
   (chkI (l2.getD s14.toNat (0 : Int)) (l2.getD s14.toNat (0 : Int))
   (chkI (l2.getD s14.toNat (0 : Int)) (l2.getD s14.toNat (0 : Int))
   (chk ((0 : Int) ≤ s14 ∧ s14 < ↑l2.length)
   (chkN s14.toNat s14.toNat
   (chk ((0 : Int) ≤ s14 ∧ s14 < ↑l2.length)
   (chkN s14.toNat s14.toNat
   (chkI eqB eqB
   (chkL b b
   (chkL l2 l2
   (chkL l3 l3
   (rband.loop5R N nn eqB b l2 l3 (IntKind.i64.wrap (s14 + (1 : Int))) r4.snd.fst r4.snd.snd.fst r4.snd.snd.snd.fst r4.snd.snd.snd.snd.fst r4.snd.snd.snd.snd.snd.fst r4.snd.snd.snd.snd.snd.snd.fst r4.snd.snd.snd.snd.snd.snd.snd.fst r4.snd.snd.snd.snd.snd.snd.snd.snd.fst r4.snd.snd.snd.snd.snd.snd.snd.snd.snd.fst s_Seed r4.snd.snd.snd.snd.snd.snd.snd.snd.snd.snd (s13 ++ r7))))))))))))))))))))))))
   (chkL b b
   (chkL l2 l2
   (chkL l3 l3
   (some ((rng, val, last, front, back, wait, waiting, count, eq, s_Seed, bad, s13))))))) := by kernel_rfl
    rw [h, rband.loop5]
    try simp only [rband.loop5_eq N nn]
noncomputable def rband.F (N : Nat) (n : Int) (bits : Int) (eqB : Int) (rng : Int) (val : Int) (last : Int) (front : Int) (back : Int) (wait : Int) (waiting : Int) (count : Int) (eq : Int) (s_Seed : Int) (bad : Bool) (b : List Int) : Option rband.R :=
  (obind (Rc.rpieces.F N n) fun r0 =>
   (obind (Rc.rsplit.F N n bits) fun r1 =>
   (obind (rband.loop5 N N eqB b r0 r1 ((0 : Int)) rng val last front back wait waiting count eq s_Seed bad (([] : List Int))) fun r2 =>
   (chkL b b
   (some ((r2.fst, r2.snd.fst, r2.snd.snd.fst, r2.snd.snd.snd.fst, r2.snd.snd.snd.snd.fst, r2.snd.snd.snd.snd.snd.fst, r2.snd.snd.snd.snd.snd.snd.fst, r2.snd.snd.snd.snd.snd.snd.snd.fst, r2.snd.snd.snd.snd.snd.snd.snd.snd.fst, r2.snd.snd.snd.snd.snd.snd.snd.snd.snd.fst, r2.snd.snd.snd.snd.snd.snd.snd.snd.snd.snd.fst, r2.snd.snd.snd.snd.snd.snd.snd.snd.snd.snd.snd)))))))
theorem rband.F_eq (N : Nat) (L : Eng.Leaves) : evSig (rband.C N) (rband.K N) 0 Try.f26 rband.sig L rband.dec = rband.F N (L.i 0) (L.i 1) (L.i 2) (L.i 3) (L.i 4) (L.i 5) (L.i 6) (L.i 7) (L.i 8) (L.i 9) (L.i 10) (L.i 11) (L.i 12) (L.b 0) (L.l 0) := by
  have h : ∀ (n : Int) (bits : Int) (eqB : Int) (rng : Int) (val : Int) (last : Int) (front : Int) (back : Int) (wait : Int) (waiting : Int) (count : Int) (eq : Int) (s_Seed : Int) (bad : Bool) (b : List Int), evSig (rband.C N) (rband.K N) 0 Try.f26 rband.sig (mkL [n, bits, eqB, rng, val, last, front, back, wait, waiting, count, eq, s_Seed] [bad] [b] []) rband.dec =
  (obind (Rc.rpieces.F N n) fun r0 =>
   (obind (Rc.rsplit.F N n bits) fun r1 =>
   (obind (rband.loop5R N N eqB b r0 r1 ((0 : Int)) rng val last front back wait waiting count eq s_Seed bad (([] : List Int))) fun r2 =>
   (chkL b b
   (some ((r2.fst, r2.snd.fst, r2.snd.snd.fst, r2.snd.snd.snd.fst, r2.snd.snd.snd.snd.fst, r2.snd.snd.snd.snd.snd.fst, r2.snd.snd.snd.snd.snd.snd.fst, r2.snd.snd.snd.snd.snd.snd.snd.fst, r2.snd.snd.snd.snd.snd.snd.snd.snd.fst, r2.snd.snd.snd.snd.snd.snd.snd.snd.snd.fst, r2.snd.snd.snd.snd.snd.snd.snd.snd.snd.snd.fst, r2.snd.snd.snd.snd.snd.snd.snd.snd.snd.snd.snd))))))) := by
    intro n bits eqB rng val last front back wait waiting count eq s_Seed bad b
    kernel_rfl
  have h2 : evSig (rband.C N) (rband.K N) 0 Try.f26 rband.sig L rband.dec = evSig (rband.C N) (rband.K N) 0 Try.f26 rband.sig (mkL [L.i 0, L.i 1, L.i 2, L.i 3, L.i 4, L.i 5, L.i 6, L.i 7, L.i 8, L.i 9, L.i 10, L.i 11, L.i 12] [L.b 0] [L.l 0] []) rband.dec := by kernel_rfl
  rw [h2, h, rband.F]
  try simp only [rband.loop5_eq N]
noncomputable def rband.spec : Eng.Spec := rband.sig.spec (fun N L => rband.F N (L.i 0) (L.i 1) (L.i 2) (L.i 3) (L.i 4) (L.i 5) (L.i 6) (L.i 7) (L.i 8) (L.i 9) (L.i 10) (L.i 11) (L.i 12) (L.b 0) (L.l 0)) rband.enc
theorem rband.cok (N : Nat) : CfgOK (rband.C N) := ⟨fun _ _ _ _ h => by simp [rband.C, noRT] at h, wide, by
  simp only [rband.C, List.mem_cons, List.not_mem_nil, or_false, forall_eq_or_imp, forall_eq, false_imp_iff, implies_true]
  exact ⟨⟨rpieces.ok, by kernel_rfl⟩, ⟨rsplit.ok, by kernel_rfl⟩, ⟨rpaid.ok, by kernel_rfl⟩, ⟨rsize.ok, by kernel_rfl⟩, ⟨rhush.ok, by kernel_rfl⟩, ⟨qcount.ok, by kernel_rfl⟩, ⟨ruint.ok, by kernel_rfl⟩, ⟨qvector.ok, by kernel_rfl⟩, ⟨rfill.ok, by kernel_rfl⟩⟩, fun g hg => by simp [rband.C] at hg, fun m hm => by simp [rband.C] at hm, fun q hq => by simp [rband.C] at hq⟩
theorem rband.aok (N : Nat) : AnnsOK (rband.K N) := by
  intro q hq
  simp only [rband.K, List.mem_cons, List.not_mem_nil, or_false] at hq
  subst hq
  exact fun _ _ => ⟨rfl, rfl⟩
theorem rband.ok : CallOK Try.prog 26 rband.spec :=
  callOK_of_sig (fn := Try.f26) (Cf := rband.C) (K := rband.K) (d := 0) (dec := rband.dec) (by kernel_rfl) (fun _ => rfl) rband.cok (fun _ q hq => by simp [rband.C] at hq) rband.aok
   (fun N L r h => (rband.F_eq N L).trans h) (by kernel_rfl) (fun _ => ⟨rfl, rfl⟩) (fun _ _ => ⟨rfl, rfl⟩)
noncomputable def same20.sig : Eng.Sig := { args := [.at (.roi .i64 0), .at (.roi .i64 1)], n := 0, pre := [], post := [], m := 0, ret := .at (.bool 0) }
noncomputable def same20.C (N : Nat) : Cfg := { P := Try.prog, N := N, RT := noRT, specs := [], inl := [], hi := 0, mv := [] }
abbrev same20.R : Type := Bool
def same20.dec (L : Eng.Leaves) : same20.R := (L.b 0)
def same20.enc (r : same20.R) : Eng.Leaves := mkL [] [r] [] []
abbrev same20.loop4.R : Type := Bool
noncomputable def same20.loop4.ann : Ann := { nx := 20, slots := [(0, .at (.froi .i64 0)), (1, .at (.froi .i64 1)), (4, .at (.bool 0)), (5, .at (.int .i64 0))], blks := [], mov := [], exId := 0, xslots := [(4, .at (.bool 0))], xblks := [], T := same20.loop4.R, dec := fun L => (L.b 0), enc := fun r => mkL [] [r] [] [], ret := true }
noncomputable def same20.K (N : Nat) : FCfg := { anns := [(4, same20.loop4.ann)], unr := [], lits := [], lets := [] }
noncomputable def same20.loop4 (N : Nat) : Nat → List Int → List Int → List Int → List Int → Int → Bool → Option (same20.loop4.R ⊕ same20.R)
  | 0, _, _, _, _, _, _ => none
  | nn + 1, e_a, e_b, a, b, s5, s4 =>
  (br (decide (s5 < ↑a.length))
   (chk ((0 : Int) ≤ s5 ∧ s5 < ↑a.length)
   (chk ((0 : Int) ≤ s5 ∧ s5 < ↑b.length)
   (br (a.getD s5.toNat (0 : Int) != b.getD s5.toNat (0 : Int))
   (omap
   (some false) .inr)
   (chkL a a
   (chkL b b
   (same20.loop4 N nn e_a e_b a b (IntKind.i64.wrap (s5 + (1 : Int))) s4))))))
   (some (Sum.inl s4)))
noncomputable def same20.loop4R (N nn : Nat) (e_a : List Int) (e_b : List Int) (a : List Int) (b : List Int) (s5 : Int) (s4 : Bool) : Option (same20.loop4.R ⊕ same20.R) := loopR same20.loop4.ann (mkL [] [] [a, b] []) (evCode ((same20.C N).inLoop same20.loop4.ann) (same20.K N) (inlTab (same20.C N) 0) (bodyAt 4 Try.f16)) (sigKr Try.prog Try.f16 same20.sig (mkL [] [] [e_a, e_b] []) fun L => (L.b 0)) nn (mkL [s5] [s4] [] [])
theorem same20.loop4_eq (N : Nat) : ∀ (nn : Nat) (e_a : List Int) (e_b : List Int) (a : List Int) (b : List Int) (s5 : Int) (s4 : Bool), same20.loop4R N nn e_a e_b a b s5 s4 = same20.loop4 N nn e_a e_b a b s5 s4
  | 0, _, _, _, _, _, _ => by kernel_rfl
  | nn + 1, e_a, e_b, a, b, s5, s4 => by
    have h : same20.loop4R N (nn + 1) e_a e_b a b s5 s4 =
  (br (decide (s5 < ↑a.length))
   (chk ((0 : Int) ≤ s5 ∧ s5 < ↑a.length)
   (chk ((0 : Int) ≤ s5 ∧ s5 < ↑b.length)
   (br (a.getD s5.toNat (0 : Int) != b.getD s5.toNat (0 : Int))
   (omap
   (some false) .inr)
   (chkL a a
   (chkL b b
   (same20.loop4R N nn e_a e_b a b (IntKind.i64.wrap (s5 + (1 : Int))) s4))))))
   (some (Sum.inl s4))) := by kernel_rfl
    rw [h, same20.loop4]
    try simp only [same20.loop4_eq N nn]
noncomputable def same20.F (N : Nat) (a : List Int) (b : List Int) : Option same20.R :=
  (br ((a.length : Int) != ↑b.length)
   (some false)
   (osum (same20.loop4 N N a b a b ((0 : Int)) false) fun r0 =>
   (some true)))
theorem same20.F_eq (N : Nat) (L : Eng.Leaves) : evSig (same20.C N) (same20.K N) 0 Try.f16 same20.sig L same20.dec = same20.F N (L.l 0) (L.l 1) := by
  have h : ∀ (a : List Int) (b : List Int), evSig (same20.C N) (same20.K N) 0 Try.f16 same20.sig (mkL [] [] [a, b] []) same20.dec =
  (br ((a.length : Int) != ↑b.length)
   (some false)
   (osum (same20.loop4R N N a b a b ((0 : Int)) false) fun r0 =>
   (some true))) := by
    intro a b
    kernel_rfl
  have h2 : evSig (same20.C N) (same20.K N) 0 Try.f16 same20.sig L same20.dec = evSig (same20.C N) (same20.K N) 0 Try.f16 same20.sig (mkL [] [] [L.l 0, L.l 1] []) same20.dec := by kernel_rfl
  rw [h2, h, same20.F]
  try simp only [same20.loop4_eq N]
noncomputable def same20.spec : Eng.Spec := same20.sig.spec (fun N L => same20.F N (L.l 0) (L.l 1)) same20.enc
theorem same20.cok (N : Nat) : CfgOK (same20.C N) := ⟨fun _ _ _ _ h => by simp [same20.C, noRT] at h, wide, by
  simp only [same20.C, List.mem_cons, List.not_mem_nil, or_false, forall_eq_or_imp, forall_eq, false_imp_iff, implies_true], fun g hg => by simp [same20.C] at hg, fun m hm => by simp [same20.C] at hm, fun q hq => by simp [same20.C] at hq⟩
theorem same20.aok (N : Nat) : AnnsOK (same20.K N) := by
  intro q hq
  simp only [same20.K, List.mem_cons, List.not_mem_nil, or_false] at hq
  subst hq
  exact fun _ _ => ⟨rfl, rfl⟩
theorem same20.ok : CallOK Try.prog 16 same20.spec :=
  callOK_of_sig (fn := Try.f16) (Cf := same20.C) (K := same20.K) (d := 0) (dec := same20.dec) (by kernel_rfl) (fun _ => rfl) same20.cok (fun _ q hq => by simp [same20.C] at hq) same20.aok
   (fun N L r h => (same20.F_eq N L).trans h) (by kernel_rfl) (fun _ => ⟨rfl, rfl⟩) (fun _ _ => ⟨rfl, rfl⟩)
noncomputable def filledN.sig : Eng.Sig := { args := [.at (.nils), .at (.int .i64 0), .at (.int .i64 1), .at (.ptr 0 0)], n := 1, pre := [(0, .cells 1 [.int .u32 2])], post := [(0, .cells 1 [.int .u32 0]), (1, .ints true .i64 0)], m := 1, ret := .at (.full 1 false) }
noncomputable def filledN.C (N : Nat) : Cfg := { P := Try.prog, N := N, RT := noRT, specs := [(30, esize.spec), (18, shush.spec), (11, sfill.spec)], inl := [], hi := 1, mv := [] }
abbrev filledN.R : Type := Int × List Int
def filledN.dec (L : Eng.Leaves) : filledN.R := (L.i 0, L.l 0)
def filledN.enc (r : filledN.R) : Eng.Leaves := mkL [r.1] [] [r.2] []
noncomputable def filledN.K (N : Nat) : FCfg := { anns := [], unr := [], lits := [], lets := [] }
noncomputable def filledN.F (N : Nat) (n : Int) (eq : Int) (s_Seed : Int) : Option filledN.R :=
  (obind (Rc.esize.F N eq) fun r0 =>
   (obind (Rc.shush.F N n r0 s_Seed) fun r1 =>
   (some ((r1.fst, r1.snd)))))
theorem filledN.F_eq (N : Nat) (L : Eng.Leaves) : evSig (filledN.C N) (filledN.K N) 0 Try.f36 filledN.sig L filledN.dec = filledN.F N (L.i 0) (L.i 1) (L.i 2) := by
  kernel_rfl
noncomputable def filledN.spec : Eng.Spec := filledN.sig.spec (fun N L => filledN.F N (L.i 0) (L.i 1) (L.i 2)) filledN.enc
theorem filledN.cok (N : Nat) : CfgOK (filledN.C N) := ⟨fun _ _ _ _ h => by simp [filledN.C, noRT] at h, wide, by
  simp only [filledN.C, List.mem_cons, List.not_mem_nil, or_false, forall_eq_or_imp, forall_eq, false_imp_iff, implies_true]
  exact ⟨⟨esize.ok, by kernel_rfl⟩, ⟨shush.ok, by kernel_rfl⟩, ⟨sfill.ok, by kernel_rfl⟩⟩, fun g hg => by simp [filledN.C] at hg, fun m hm => by simp [filledN.C] at hm, fun q hq => by simp [filledN.C] at hq⟩
theorem filledN.aok (N : Nat) : AnnsOK (filledN.K N) := by
  intro q hq
  simp only [filledN.K, List.mem_cons, List.not_mem_nil, or_false] at hq
theorem filledN.ok : CallOK Try.prog 36 filledN.spec :=
  callOK_of_sig (fn := Try.f36) (Cf := filledN.C) (K := filledN.K) (d := 0) (dec := filledN.dec) (by kernel_rfl) (fun _ => rfl) filledN.cok (fun _ q hq => by simp [filledN.C] at hq) filledN.aok
   (fun N L r h => (filledN.F_eq N L).trans h) (by kernel_rfl) (fun _ => ⟨rfl, rfl⟩) (fun _ _ => ⟨rfl, rfl⟩)
end Go.Proofs.Rc
