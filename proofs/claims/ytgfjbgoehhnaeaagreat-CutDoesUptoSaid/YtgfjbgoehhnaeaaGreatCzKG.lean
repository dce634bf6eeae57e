/- What the program answers at the chapter's own examples. -/
import Derived.Test.YtgfjbgoehhnaeaaGreatCzMG
set_option linter.unusedVariables false
set_option linter.unusedSimpArgs false
set_option linter.unusedSectionVars false
namespace Go.SM
open Go Go.VI
end Go.SM
