/- Calls of constants, evaluated. -/
import Derived.Test.YteijcndjnohaoaaGreatDoorNkDat
set_option linter.all false
set_option linter.unusedVariables false
set_option linter.unusedSimpArgs false
namespace Go.Nv
open Go Go.Proofs
set_option maxRecDepth 1000000
theorem k47p0 : good Tryz.prog tab fuel mC ((n47.drop 0).take 6) = true := by kernel_rfl
theorem k47p1 : good Tryz.prog tab fuel mC ((n47.drop 6).take 6) = true := by kernel_rfl
theorem k47p2 : good Tryz.prog tab fuel mC ((n47.drop 12).take 6) = true := by kernel_rfl
theorem k47p3 : good Tryz.prog tab fuel mC ((n47.drop 18).take 6) = true := by kernel_rfl
theorem k22p0 : good Tryz.prog tab fuel mC ((n22.drop 0).take 6) = true := by kernel_rfl
theorem k22p1 : good Tryz.prog tab fuel mC ((n22.drop 6).take 6) = true := by kernel_rfl
theorem k22p2 : good Tryz.prog tab fuel mC ((n22.drop 12).take 6) = true := by kernel_rfl
theorem k22p3 : good Tryz.prog tab fuel mC ((n22.drop 18).take 6) = true := by kernel_rfl
theorem k22p4 : good Tryz.prog tab fuel mC ((n22.drop 24).take 6) = true := by kernel_rfl
theorem k25p0 : good Tryz.prog tab fuel mC ((n25.drop 0).take 5) = true := by kernel_rfl
theorem k33p0 : good Tryz.prog tab fuel mC ((n33.drop 0).take 1) = true := by kernel_rfl
end Go.Nv
