/- Calls of constants, evaluated. -/
import Derived.Test.YteijcndjnohaoaaGreatDoorNkDat
set_option linter.all false
set_option linter.unusedVariables false
set_option linter.unusedSimpArgs false
namespace Go.Nv
open Go Go.Proofs
set_option maxRecDepth 1000000
theorem k48p0 : good Tryz.prog tab fuel mC ((n48.drop 0).take 3) = true := by kernel_rfl
theorem k48p1 : good Tryz.prog tab fuel mC ((n48.drop 3).take 3) = true := by kernel_rfl
theorem k48p2 : good Tryz.prog tab fuel mC ((n48.drop 6).take 3) = true := by kernel_rfl
theorem k48p3 : good Tryz.prog tab fuel mC ((n48.drop 9).take 3) = true := by kernel_rfl
theorem k48p4 : good Tryz.prog tab fuel mC ((n48.drop 12).take 3) = true := by kernel_rfl
theorem k48p5 : good Tryz.prog tab fuel mC ((n48.drop 15).take 3) = true := by kernel_rfl
theorem k48p6 : good Tryz.prog tab fuel mC ((n48.drop 18).take 3) = true := by kernel_rfl
theorem k48p7 : good Tryz.prog tab fuel mC ((n48.drop 21).take 3) = true := by kernel_rfl
end Go.Nv
