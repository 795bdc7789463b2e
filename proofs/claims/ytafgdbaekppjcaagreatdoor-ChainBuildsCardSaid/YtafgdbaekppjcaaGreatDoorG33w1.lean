/- Known calls, by the kernel; printed by a program of mine. No condition. -/
import Derived.Test.YtafgdbaekppjcaaGreatDoorG33w
import Derived.KernelRfl
set_option linter.unusedSectionVars false
set_option linter.unusedVariables false
set_option linter.unusedSimpArgs false
namespace G33
set_option maxRecDepth 100000
theorem w3 : Kn t3 e3 := by show said _ _ = true; kernel_rfl
theorem w4 : Kn t4 e4 := by show said _ _ = true; kernel_rfl
theorem w8 : Kn t8 e8 := by show said _ _ = true; kernel_rfl
theorem w10 : Kn t10 e10 := by show said _ _ = true; kernel_rfl
theorem w12 : Kn t12 e12 := by show said _ _ = true; kernel_rfl
theorem w16 : Kn t16 e16 := by show said _ _ = true; kernel_rfl
end G33
