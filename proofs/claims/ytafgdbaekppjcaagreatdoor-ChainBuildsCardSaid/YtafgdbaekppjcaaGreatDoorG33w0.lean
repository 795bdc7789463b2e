/- Known calls, by the kernel; printed by a program of mine. No condition. -/
import Derived.Test.YtafgdbaekppjcaaGreatDoorG33w
import Derived.KernelRfl
set_option linter.unusedSectionVars false
set_option linter.unusedVariables false
set_option linter.unusedSimpArgs false
namespace G33
set_option maxRecDepth 100000
theorem w1 : Kn t1 e1 := by show said _ _ = true; kernel_rfl
theorem w9 : Kn t9 e9 := by show said _ _ = true; kernel_rfl
theorem w11 : Kn t11 e11 := by show said _ _ = true; kernel_rfl
theorem w13 : Kn t13 e13 := by show said _ _ = true; kernel_rfl
theorem w15 : Kn t15 e15 := by show said _ _ = true; kernel_rfl
theorem w20 : Kn t20 e20 := by show said _ _ = true; kernel_rfl
theorem w22 : Kn t22 e22 := by show said _ _ = true; kernel_rfl
end G33
