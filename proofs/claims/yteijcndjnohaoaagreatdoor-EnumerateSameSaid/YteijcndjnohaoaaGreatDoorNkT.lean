/- Calls of constants, evaluated. -/
import Derived.Test.YteijcndjnohaoaaGreatDoorNkDat
set_option linter.all false
set_option linter.unusedVariables false
set_option linter.unusedSimpArgs false
namespace Go.Nv
open Go Go.Proofs
set_option maxRecDepth 1000000
theorem k5 : good Tryz.prog tab fuel mT [⟨5, [], .bool true⟩] = true := by kernel_rfl
end Go.Nv
