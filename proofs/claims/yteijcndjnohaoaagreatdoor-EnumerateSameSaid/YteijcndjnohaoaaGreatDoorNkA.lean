/- Calls of constants, evaluated. -/
import Derived.Test.YteijcndjnohaoaaGreatDoorNkDat
set_option linter.all false
set_option linter.unusedVariables false
set_option linter.unusedSimpArgs false
namespace Go.Nv
open Go Go.Proofs
set_option maxRecDepth 1000000
theorem kB_0 : good Tryz.prog tab fuel [] ((nB.drop 0).take 2) = true := by kernel_rfl
theorem k100p0 : good Tryz.prog tab fuel nB ((n100.drop 0).take 7) = true := by kernel_rfl
theorem k264p0 : good Tryz.prog tab fuel nB ((n264.drop 0).take 6) = true := by kernel_rfl
theorem k264p1 : good Tryz.prog tab fuel nB ((n264.drop 6).take 6) = true := by kernel_rfl
end Go.Nv
