/- Known calls, by the kernel; printed by a program of mine. No condition. -/
import Derived.Test.YtafgdbaekppjcaaGreatDoorG33w
import Derived.KernelRfl
set_option linter.unusedSectionVars false
set_option linter.unusedVariables false
set_option linter.unusedSimpArgs false
namespace G33
set_option maxRecDepth 100000
theorem w0 : Kn t0 e0 := by show said _ _ = true; kernel_rfl
theorem w5 : Kn t5 e5 := by show said _ _ = true; kernel_rfl
theorem w6 : Kn t6 e6 := by show said _ _ = true; kernel_rfl
theorem w7 : Kn t7 e7 := by show said _ _ = true; kernel_rfl
theorem w21 : Kn t21 e21 := by show said _ _ = true; kernel_rfl
end G33
