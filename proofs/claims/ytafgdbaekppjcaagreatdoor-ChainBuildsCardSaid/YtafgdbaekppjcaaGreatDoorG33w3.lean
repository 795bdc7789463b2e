/- Known calls, by the kernel; printed by a program of mine. No condition. -/
import Derived.Test.YtafgdbaekppjcaaGreatDoorG33w
import Derived.KernelRfl
set_option linter.unusedSectionVars false
set_option linter.unusedVariables false
set_option linter.unusedSimpArgs false
namespace G33
set_option maxRecDepth 100000
theorem w2 : Kn t2 e2 := by show said _ _ = true; kernel_rfl
theorem w14 : Kn t14 e14 := by show said _ _ = true; kernel_rfl
theorem w17 : Kn t17 e17 := by show said _ _ = true; kernel_rfl
theorem w18 : Kn t18 e18 := by show said _ _ = true; kernel_rfl
theorem w19 : Kn t19 e19 := by show said _ _ = true; kernel_rfl
end G33
