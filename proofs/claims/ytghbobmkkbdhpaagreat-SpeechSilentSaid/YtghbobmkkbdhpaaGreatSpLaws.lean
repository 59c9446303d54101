/-
  Functions of the program: what each comes to, and its contract (written by a program).
  Conditions: none: each contract is proved for every input of its shape.
-/
import Derived.Test.YtghbobmkkbdhpaaGreatEngRegToEngRow3
import Derived.Laws.Externs
import Derived.Test.YtghbobmkkbdhpaaGreatProg
import Derived.Test.YtghbobmkkbdhpaaGreatSpDFns
set_option linter.unusedVariables false
set_option linter.unusedSimpArgs false
namespace Go.Proofs.Rc
noncomputable section
open Go.Eng
set_option maxRecDepth 100000
def speechSilent.C (N : Nat) (fresh : Bool) (kind : Int) (one : Int) (two : List Int) (between : Int) (gains : List Int) (ltps : List (List Int)) (pulses : List Int) (rate : Int) (ms : Int) : Cfg := { P := Tryz.prog, N := N, RT := noRT, specs := [(10, awake14.spec), (21, spgood.spec), (16, plplay.spec), (19, same14.spec), (30, plgain.spec), (34, torder.spec), (40, synew.spec), (36, plreset.spec)], inl := [(11, FCfg.none)], hi := 0, mv := [] }
def speechSilent.K (N : Nat) : FCfg := { anns := [], unr := [], lits := [], lets := [] }
def speechSilent.F (N : Nat) (fresh : Bool) (kind : Int) (one : Int) (two : List Int) (between : Int) (gains : List Int) (ltps : List (List Int)) (pulses : List Int) (rate : Int) (ms : Int) : Option Bool :=
  (obind (Rc.awake14.F N) fun r0 =>
  (br (!r0)
  (some false)
  (obind (Rc.torder.F N rate) fun r1 =>
  (br (r1 == (0 : Int))
  (some true)
  (obind (Rc.synew.F N) fun r2 =>
  (obind (Rc.plreset.F N rate ((0 : Int)) r2 (([] : List Int))) fun r3 =>
  (obind (Rc.spgood.F N rate ms ((0 : Int)) one between true two gains (([] : List Int)) (([] : List (List Int)))) fun r4 =>
  (br (!r4)
  (some true)
  (obind (Rc.plplay.F N ms ((0 : Int)) one between rate r3.1 true two gains (([] : List Int)) r3.2.1 r3.2.2 (([] : List (List Int)))) fun r5 =>
  (br (r5.1 == (0 : Int))
  (chk ((0 : Int) ≤ IntKind.i64.wrap ((IntKind.i64.wrap (rate * ms)).tdiv (1000 : Int)) ∧ IntKind.i64.wrap ((IntKind.i64.wrap (rate * ms)).tdiv (1000 : Int)) ≤ IntKind.i64.wrap ((IntKind.i64.wrap (rate * ms)).tdiv (1000 : Int)) ∧ IntKind.i64.wrap ((IntKind.i64.wrap (rate * ms)).tdiv (1000 : Int)) ≤ ↑(17592186043904 : Nat))
  (obind (Rc.same14.F N r5.2.2.2.1 (List.replicate (IntKind.i64.wrap ((IntKind.i64.wrap (rate * ms)).tdiv (1000 : Int))).toNat (0 : Int))) fun r6 =>
  (br r6
  (obind (Rc.plgain.F N rate r5.2.1 r5.2.2.1 r5.2.2.2.2) fun r7 =>
  (chk ((0 : Int) ≤ IntKind.i64.wrap (↑gains.length - (1 : Int)) ∧ IntKind.i64.wrap (↑gains.length - (1 : Int)) < ↑gains.length)
  (chkL gains gains
  (chkL gains gains
  (some (r7 == gains.getD (IntKind.i64.wrap (↑gains.length - (1 : Int))).toNat (0 : Int)))))))
  (some false))))
  (some false)))))))))))
theorem speechSilent.F_eq (N : Nat) (fresh : Bool) (kind : Int) (one : Int) (two : List Int) (between : Int) (gains : List Int) (ltps : List (List Int)) (pulses : List Int) (rate : Int) (ms : Int) : evLaw (speechSilent.C N fresh kind one two between gains ltps pulses rate ms) (speechSilent.K N) 1 Tryz.f7 [.agg [.bool fresh, .int .i64 kind, .int .i64 one, .roi .i64 two, .int .i64 between, .roi .i64 gains, .rro ⟨[.i64, .i64], none, false⟩ ltps, .roi .i64 pulses], .at (.int .i64 rate), .at (.int .i64 ms)] = speechSilent.F N fresh kind one two between gains ltps pulses rate ms := by
  kernel_rfl
theorem speechSilent.cok (N : Nat) (fresh : Bool) (kind : Int) (one : Int) (two : List Int) (between : Int) (gains : List Int) (ltps : List (List Int)) (pulses : List Int) (rate : Int) (ms : Int) : CfgOK (speechSilent.C N fresh kind one two between gains ltps pulses rate ms) := ⟨fun _ _ _ _ h => by simp [speechSilent.C, noRT] at h, wide, by
  simp only [speechSilent.C, List.mem_cons, List.not_mem_nil, or_false, forall_eq_or_imp, forall_eq, false_imp_iff, implies_true]
  exact ⟨⟨awake14.ok, by kernel_rfl⟩, ⟨spgood.ok, by kernel_rfl⟩, ⟨plplay.ok, by kernel_rfl⟩, ⟨same14.ok, by kernel_rfl⟩, ⟨plgain.ok, by kernel_rfl⟩, ⟨torder.ok, by kernel_rfl⟩, ⟨synew.ok, by kernel_rfl⟩, ⟨plreset.ok, by kernel_rfl⟩⟩, fun g hg => by simp [speechSilent.C] at hg, fun m hm => by simp [speechSilent.C] at hm, fun q hq => by simp [speechSilent.C] at hq⟩
theorem speechSilent.aok (N : Nat) : AnnsOK (speechSilent.K N) := by
  intro q hq
  simp only [speechSilent.K, List.mem_cons, List.not_mem_nil, or_false] at hq
theorem speechSilent.walk {w : World} {N : Nat} (fresh : Bool) (kind : Int) (one : Int) (two : List Int) (between : Int) (gains : List Int) (ltps : List (List Int)) (pulses : List Int) (rate : Int) (ms : Int) {cargs : Array Value} (ha : All2 (RV noRT (lawE w)) [.agg [.bool fresh, .int .i64 kind, .int .i64 one, .roi .i64 two, .int .i64 between, .roi .i64 gains, .rro ⟨[.i64, .i64], none, false⟩ ltps, .roi .i64 pulses], .at (.int .i64 rate), .at (.int .i64 ms)] cargs.toList) (h : speechSilent.F N fresh kind one two between gains ltps pulses rate ms = some true) :
    Calls Tryz.prog 7 cargs w fun e w' => e = .returned (.bool true) ∧ Frm w (fun _ => False) w' :=
  law_sound (C := speechSilent.C N fresh kind one two between gains ltps pulses rate ms) (K := speechSilent.K N) (d := 1) (fn := Tryz.f7) (speechSilent.cok N fresh kind one two between gains ltps pulses rate ms) (fun q hq => by
      simp only [speechSilent.C, List.mem_cons, List.not_mem_nil, or_false] at hq
      subst hq
      exact ⟨fun q hq => by simp [FCfg.none] at hq, by kernel_rfl⟩) (speechSilent.aok N) (by kernel_rfl) ha ((speechSilent.F_eq N fresh kind one two between gains ltps pulses rate ms).trans h)
end
end Go.Proofs.Rc
