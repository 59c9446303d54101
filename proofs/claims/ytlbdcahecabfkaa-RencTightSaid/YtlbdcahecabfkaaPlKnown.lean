/-
  The closed statements: the examples answer as told, by counting through; what each statement's beginning comes to.
  Conditions: none.
-/
import Derived.Test.YtlbdcahecabfkaaRencLaws
set_option linter.unusedSimpArgs false
set_option linter.unusedVariables false
namespace Go.Pl
open Go.Eng Go.Proofs
set_option maxRecDepth 100000

theorem awake4_any (N : Nat) : Rc.awake4.F (N + 300) = some true := by kernel_rfl
theorem awake4_F {N : Nat} (h : 300 ≤ N) : Rc.awake4.F N = some true := by
  obtain ⟨k, rfl⟩ : ∃ k, N = k + 300 := ⟨N - 300, by omega⟩
  exact awake4_any k
end Go.Pl
