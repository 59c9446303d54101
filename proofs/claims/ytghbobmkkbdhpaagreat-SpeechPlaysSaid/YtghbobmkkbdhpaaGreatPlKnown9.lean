/- stub -/
import Derived.Test.YtghbobmkkbdhpaaGreatSpAFns
set_option linter.unusedVariables false
set_option linter.unusedSimpArgs false
