/- Calls of constants, evaluated. -/
import Derived.Test.YteijcndjnohaoaaGreatDoorNkDat
set_option linter.all false
set_option linter.unusedVariables false
set_option linter.unusedSimpArgs false
namespace Go.Nv
open Go Go.Proofs
set_option maxRecDepth 1000000
theorem k50p0 : good Tryz.prog tab fuel mA ((n50.drop 0).take 6) = true := by kernel_rfl
theorem k50p1 : good Tryz.prog tab fuel mA ((n50.drop 6).take 6) = true := by kernel_rfl
theorem k50p2 : good Tryz.prog tab fuel mA ((n50.drop 12).take 6) = true := by kernel_rfl
theorem k50p3 : good Tryz.prog tab fuel mA ((n50.drop 18).take 6) = true := by kernel_rfl
end Go.Nv
