/-
  Layer 20: the closed statement: the examples answer as told, by counting through; what each statement's beginning comes to.
  Conditions: none.
-/
import Derived.Test.YtghbobmkkbdhpaaShapeLaws
set_option linter.unusedSimpArgs false
set_option linter.unusedVariables false
namespace Go.Pl
open Go.Eng Go.Proofs
set_option maxRecDepth 100000

theorem awake20_any (N : Nat) : Rc.awake20.F (N + 1000) = some true := by kernel_rfl
theorem awake20_F {N : Nat} (h : 1000 ≤ N) : Rc.awake20.F N = some true := by
  obtain ⟨k, rfl⟩ : ∃ k, N = k + 1000 := ⟨N - 1000, by omega⟩
  exact awake20_any k
theorem shapeKnown_pure : ∃ N, Rc.shapeKnown.F N = some true := ⟨1000, by kernel_rfl⟩
end Go.Pl
