/-
  Functions of the program: what each comes to, and its contract (written by a program).
  Conditions: none: each contract is proved for every input of its shape.
-/
import Derived.Test.YtghbobmkkbdhpaaEngMkToEngWords
import Derived.Laws.Externs
import Derived.Test.YtghbobmkkbdhpaaProg
import Derived.Test.YtghbobmkkbdhpaaSzFns
set_option linter.unusedVariables false
set_option linter.unusedSimpArgs false
namespace Go.Proofs.Rc
open Go.Eng
set_option maxRecDepth 100000
noncomputable def same20.sig : Eng.Sig := { args := [.at (.roi .i64 0), .at (.roi .i64 1)], n := 0, pre := [], post := [], m := 0, ret := .at (.bool 0) }
noncomputable def same20.C (N : Nat) : Cfg := { P := Try.prog, N := N, RT := noRT, specs := [], inl := [], hi := 0, mv := [] }
abbrev same20.R : Type := Bool
def same20.dec (L : Eng.Leaves) : same20.R := (L.b 0)
def same20.enc (r : same20.R) : Eng.Leaves := mkL [] [r] [] []
abbrev same20.loop4.R : Type := Bool
noncomputable def same20.loop4.ann : Ann := { nx := 20, slots := [(0, .at (.froi .i64 0)), (1, .at (.froi .i64 1)), (4, .at (.bool 0)), (5, .at (.int .i64 0))], blks := [], mov := [], exId := 0, xslots := [(4, .at (.bool 0))], xblks := [], T := same20.loop4.R, dec := fun L => (L.b 0), enc := fun r => mkL [] [r] [] [], ret := true }
noncomputable def same20.K (N : Nat) : FCfg := { anns := [(4, same20.loop4.ann)], unr := [], lits := [], lets := [] }
noncomputable def same20.loop4 (N : Nat) : Nat → List Int → List Int → List Int → List Int → Int → Bool → Option (same20.loop4.R ⊕ same20.R)
  | 0, _, _, _, _, _, _ => none
  | nn + 1, e_a, e_b, a, b, s5, s4 =>
  (br (decide (s5 < ↑a.length))
   (chk ((0 : Int) ≤ s5 ∧ s5 < ↑a.length)
   (chk ((0 : Int) ≤ s5 ∧ s5 < ↑b.length)
   (br (a.getD s5.toNat (0 : Int) != b.getD s5.toNat (0 : Int))
   (omap
   (some (false)) .inr)
   (chkL (a) (a)
   (chkL (b) (b)
   (same20.loop4 N (nn) e_a e_b (a) (b) (IntKind.i64.wrap (s5 + (1 : Int))) (s4)))))))
   (some (Sum.inl s4)))
noncomputable def same20.loop4R (N nn : Nat) (e_a : List Int) (e_b : List Int) (a : List Int) (b : List Int) (s5 : Int) (s4 : Bool) : Option (same20.loop4.R ⊕ same20.R) := loopR same20.loop4.ann (mkL [] [] [a, b] []) (evCode ((same20.C N).inLoop same20.loop4.ann) (same20.K N) (inlTab (same20.C N) 0) (bodyAt 4 Try.f16)) (sigKr Try.prog Try.f16 same20.sig (mkL [] [] [e_a, e_b] []) fun L => (L.b 0)) nn (mkL [s5] [s4] [] [])
theorem same20.loop4_eq (N : Nat) : ∀ (nn : Nat) (e_a : List Int) (e_b : List Int) (a : List Int) (b : List Int) (s5 : Int) (s4 : Bool), same20.loop4R N nn e_a e_b a b s5 s4 = same20.loop4 N nn e_a e_b a b s5 s4
  | 0, _, _, _, _, _, _ => by kernel_rfl
  | nn + 1, e_a, e_b, a, b, s5, s4 => by
    have h : same20.loop4R N (nn + 1) e_a e_b a b s5 s4 =
  (br (decide (s5 < ↑a.length))
   (chk ((0 : Int) ≤ s5 ∧ s5 < ↑a.length)
   (chk ((0 : Int) ≤ s5 ∧ s5 < ↑b.length)
   (br (a.getD s5.toNat (0 : Int) != b.getD s5.toNat (0 : Int))
   (omap
   (some (false)) .inr)
   (chkL (a) (a)
   (chkL (b) (b)
   (same20.loop4R N (nn) e_a e_b (a) (b) (IntKind.i64.wrap (s5 + (1 : Int))) (s4)))))))
   (some (Sum.inl s4))) := by kernel_rfl
    rw [h, same20.loop4]
    try simp only [same20.loop4_eq N nn]
noncomputable def same20.F (N : Nat) (a : List Int) (b : List Int) : Option same20.R :=
  (br ((a.length : Int) != ↑b.length)
   (some (false))
   (osum (same20.loop4 N (N) a b (a) (b) ((0 : Int)) (false)) fun r0 =>
   (some (true))))
theorem same20.F_eq (N : Nat) (L : Eng.Leaves) : evSig (same20.C N) (same20.K N) 0 Try.f16 same20.sig L same20.dec = same20.F N (L.l 0) (L.l 1) := by
  have h : ∀ (a : List Int) (b : List Int), evSig (same20.C N) (same20.K N) 0 Try.f16 same20.sig (mkL [] [] [a, b] []) same20.dec =
  (br ((a.length : Int) != ↑b.length)
   (some (false))
   (osum (same20.loop4R N (N) a b (a) (b) ((0 : Int)) (false)) fun r0 =>
   (some (true)))) := by
    intro a b
    kernel_rfl
  have h2 : evSig (same20.C N) (same20.K N) 0 Try.f16 same20.sig L same20.dec = evSig (same20.C N) (same20.K N) 0 Try.f16 same20.sig (mkL [] [] [L.l 0, L.l 1] []) same20.dec := by kernel_rfl
  rw [h2, h, same20.F]
  try simp only [same20.loop4_eq N]
noncomputable def same20.spec : Eng.Spec := same20.sig.spec (fun N L => same20.F N (L.l 0) (L.l 1)) same20.enc
theorem same20.cok (N : Nat) : CfgOK (same20.C N) := ⟨fun _ _ _ _ h => by simp [same20.C, noRT] at h, wide, by
  simp only [same20.C, List.mem_cons, List.not_mem_nil, or_false, forall_eq_or_imp, forall_eq, false_imp_iff, implies_true], fun g hg => by simp [same20.C] at hg, fun m hm => by simp [same20.C] at hm, fun q hq => by simp [same20.C] at hq⟩
theorem same20.aok (N : Nat) : AnnsOK (same20.K N) := by
  intro q hq
  simp only [same20.K, List.mem_cons, List.not_mem_nil, or_false] at hq
  subst hq
  exact fun _ _ => ⟨rfl, rfl⟩
theorem same20.ok : CallOK Try.prog 16 same20.spec :=
  callOK_of_sig (fn := Try.f16) (Cf := same20.C) (K := same20.K) (d := 0) (dec := same20.dec) (by kernel_rfl) (fun _ => rfl) same20.cok (fun _ q hq => by simp [same20.C] at hq) same20.aok
   (fun N L r h => (same20.F_eq N L).trans h) (by kernel_rfl) (fun _ => ⟨rfl, rfl⟩) (fun _ _ => ⟨rfl, rfl⟩)
noncomputable def size20.sig : Eng.Sig := { args := [.at (.int .i64 0)], n := 0, pre := [], post := [], m := 0, ret := .at (.int .i64 0) }
noncomputable def size20.C (N : Nat) : Cfg := { P := Try.prog, N := N, RT := noRT, specs := [(44, rclamp.spec)], inl := [], hi := 0, mv := [] }
abbrev size20.R : Type := Int
def size20.dec (L : Eng.Leaves) : size20.R := (L.i 0)
def size20.enc (r : size20.R) : Eng.Leaves := mkL [r] [] [] []
noncomputable def size20.K (N : Nat) : FCfg := { anns := [], unr := [], lits := [], lets := [] }
noncomputable def size20.F (N : Nat) (v : Int) : Option size20.R :=
  (obind (Rc.rclamp.F (N) (v) ((0 : Int)) ((1099511627776 : Int))) fun r0 =>
   (obind (Rc.rclamp.F (N) (v) ((-1099511627776 : Int)) ((0 : Int))) fun r1 =>
   (some (IntKind.i64.wrap (r0 - r1)))))
theorem size20.F_eq (N : Nat) (L : Eng.Leaves) : evSig (size20.C N) (size20.K N) 0 Try.f28 size20.sig L size20.dec = size20.F N (L.i 0) := by
  kernel_rfl
noncomputable def size20.spec : Eng.Spec := size20.sig.spec (fun N L => size20.F N (L.i 0)) size20.enc
theorem size20.cok (N : Nat) : CfgOK (size20.C N) := ⟨fun _ _ _ _ h => by simp [size20.C, noRT] at h, wide, by
  simp only [size20.C, List.mem_cons, List.not_mem_nil, or_false, forall_eq_or_imp, forall_eq, false_imp_iff, implies_true]
  exact ⟨rclamp.ok, by kernel_rfl⟩, fun g hg => by simp [size20.C] at hg, fun m hm => by simp [size20.C] at hm, fun q hq => by simp [size20.C] at hq⟩
theorem size20.aok (N : Nat) : AnnsOK (size20.K N) := by
  intro q hq
  simp only [size20.K, List.mem_cons, List.not_mem_nil, or_false] at hq
theorem size20.ok : CallOK Try.prog 28 size20.spec :=
  callOK_of_sig (fn := Try.f28) (Cf := size20.C) (K := size20.K) (d := 0) (dec := size20.dec) (by kernel_rfl) (fun _ => rfl) size20.cok (fun _ q hq => by simp [size20.C] at hq) size20.aok
   (fun N L r h => (size20.F_eq N L).trans h) (by kernel_rfl) (fun _ => ⟨rfl, rfl⟩) (fun _ _ => ⟨rfl, rfl⟩)
noncomputable def filledN.sig : Eng.Sig := { args := [.at (.nils), .at (.int .i64 0), .at (.int .i64 1), .at (.ptr 0 0)], n := 1, pre := [(0, .cells 1 [.int .u32 2])], post := [(0, .cells 1 [.int .u32 0]), (1, .ints true .i64 0)], m := 1, ret := .at (.full 1 false) }
noncomputable def filledN.C (N : Nat) : Cfg := { P := Try.prog, N := N, RT := noRT, specs := [(30, esize.spec), (18, shush.spec), (11, sfill.spec)], inl := [], hi := 1, mv := [] }
abbrev filledN.R : Type := Int × List Int
def filledN.dec (L : Eng.Leaves) : filledN.R := (L.i 0, L.l 0)
def filledN.enc (r : filledN.R) : Eng.Leaves := mkL [r.1] [] [r.2] []
noncomputable def filledN.K (N : Nat) : FCfg := { anns := [], unr := [], lits := [], lets := [] }
noncomputable def filledN.F (N : Nat) (n : Int) (eq : Int) (s_Seed : Int) : Option filledN.R :=
  (obind (Rc.esize.F (N) (eq)) fun r0 =>
   (obind (Rc.shush.F (N) (n) (r0) (s_Seed)) fun r1 =>
   (some ((r1.fst, r1.snd)))))
theorem filledN.F_eq (N : Nat) (L : Eng.Leaves) : evSig (filledN.C N) (filledN.K N) 0 Try.f36 filledN.sig L filledN.dec = filledN.F N (L.i 0) (L.i 1) (L.i 2) := by
  kernel_rfl
noncomputable def filledN.spec : Eng.Spec := filledN.sig.spec (fun N L => filledN.F N (L.i 0) (L.i 1) (L.i 2)) filledN.enc
theorem filledN.cok (N : Nat) : CfgOK (filledN.C N) := ⟨fun _ _ _ _ h => by simp [filledN.C, noRT] at h, wide, by
  simp only [filledN.C, List.mem_cons, List.not_mem_nil, or_false, forall_eq_or_imp, forall_eq, false_imp_iff, implies_true]
  exact ⟨⟨esize.ok, by kernel_rfl⟩, ⟨shush.ok, by kernel_rfl⟩, ⟨sfill.ok, by kernel_rfl⟩⟩, fun g hg => by simp [filledN.C] at hg, fun m hm => by simp [filledN.C] at hm, fun q hq => by simp [filledN.C] at hq⟩
theorem filledN.aok (N : Nat) : AnnsOK (filledN.K N) := by
  intro q hq
  simp only [filledN.K, List.mem_cons, List.not_mem_nil, or_false] at hq
theorem filledN.ok : CallOK Try.prog 36 filledN.spec :=
  callOK_of_sig (fn := Try.f36) (Cf := filledN.C) (K := filledN.K) (d := 0) (dec := filledN.dec) (by kernel_rfl) (fun _ => rfl) filledN.cok (fun _ q hq => by simp [filledN.C] at hq) filledN.aok
   (fun N L r h => (filledN.F_eq N L).trans h) (by kernel_rfl) (fun _ => ⟨rfl, rfl⟩) (fun _ _ => ⟨rfl, rfl⟩)
end Go.Proofs.Rc
