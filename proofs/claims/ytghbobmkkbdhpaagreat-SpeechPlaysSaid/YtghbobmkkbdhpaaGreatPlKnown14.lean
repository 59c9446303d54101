/-
 Layer 14: what each statement's beginning comes to, by counting through.
 Conditions: none.
-/
import Derived.Test.YtghbobmkkbdhpaaGreatPlBaseToPlRen5
import Derived.Test.YtghbobmkkbdhpaaGreatSpDFns
set_option linter.unusedVariables false
set_option linter.unusedSimpArgs false
namespace Go.Pl
open Go.Eng Go.Proofs
set_option maxRecDepth 100000
theorem awake14_any (N : Nat) : Rc.awake14.F (N + 3000) = some true := by kernel_rfl
theorem awake14_F {N : Nat} (h : 3000 <= N) : Rc.awake14.F N = some true := by
 obtain ⟨k,rfl⟩ : ∃ k,N = k + 3000 := ⟨N - 3000,by omega⟩
 exact awake14_any k
end Go.Pl
