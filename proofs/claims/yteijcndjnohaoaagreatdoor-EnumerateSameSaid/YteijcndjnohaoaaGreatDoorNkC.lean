/- Calls of constants, evaluated. -/
import Derived.Test.YteijcndjnohaoaaGreatDoorNkDat
set_option linter.all false
set_option linter.unusedVariables false
set_option linter.unusedSimpArgs false
namespace Go.Nv
open Go Go.Proofs
set_option maxRecDepth 1000000
theorem k52p0 : good Tryz.prog tab fuel mB ((n52.drop 0).take 6) = true := by kernel_rfl
theorem k52p1 : good Tryz.prog tab fuel mB ((n52.drop 6).take 6) = true := by kernel_rfl
theorem k52p2 : good Tryz.prog tab fuel mB ((n52.drop 12).take 6) = true := by kernel_rfl
theorem k52p3 : good Tryz.prog tab fuel mB ((n52.drop 18).take 6) = true := by kernel_rfl
theorem k79p0 : good Tryz.prog tab fuel mB ((n79.drop 0).take 6) = true := by kernel_rfl
theorem k79p1 : good Tryz.prog tab fuel mB ((n79.drop 6).take 6) = true := by kernel_rfl
theorem k79p2 : good Tryz.prog tab fuel mB ((n79.drop 12).take 6) = true := by kernel_rfl
theorem k79p3 : good Tryz.prog tab fuel mB ((n79.drop 18).take 6) = true := by kernel_rfl
theorem k37p0 : good Tryz.prog tab fuel mB ((n37.drop 0).take 6) = true := by kernel_rfl
theorem k37p1 : good Tryz.prog tab fuel mB ((n37.drop 6).take 6) = true := by kernel_rfl
theorem k37p2 : good Tryz.prog tab fuel mB ((n37.drop 12).take 6) = true := by kernel_rfl
theorem k37p3 : good Tryz.prog tab fuel mB ((n37.drop 18).take 6) = true := by kernel_rfl
end Go.Nv
