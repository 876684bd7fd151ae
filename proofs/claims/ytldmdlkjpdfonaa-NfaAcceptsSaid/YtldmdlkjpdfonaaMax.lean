/- The greatest length, as a number. -/
import Derived.Test.YtldmdlkjpdfonaaBase
namespace Go.Proofs.Ytldmdlkjpdfonaa
set_option linter.unusedVariables false
set_option linter.unusedSimpArgs false
open Go Go.RowKit
theorem maxLen_eq : maxLen = 9223372036854775807 := by decide
end Go.Proofs.Ytldmdlkjpdfonaa
