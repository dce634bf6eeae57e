/- What the program answers at the chapter's own examples. -/
import Derived.Test.YtgfjbgoehhnaeaaGreatCzMD
set_option linter.unusedVariables false
set_option linter.unusedSimpArgs false
set_option linter.unusedSectionVars false
namespace Go.SM
open Go Go.VI
theorem QG:tL=some true:=by kernel_rfl
end Go.SM
