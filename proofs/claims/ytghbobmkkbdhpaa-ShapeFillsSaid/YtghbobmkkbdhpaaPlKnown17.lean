/-
  Layer 20's statements stand here in the place of layer 17's.
  Conditions: none.
-/
import Derived.Test.YtghbobmkkbdhpaaPlKnown20
set_option linter.unusedSimpArgs false
set_option linter.unusedVariables false
